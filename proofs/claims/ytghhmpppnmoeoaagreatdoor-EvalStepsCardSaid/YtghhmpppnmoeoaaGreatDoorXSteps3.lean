/- One plain sentence: contracts and plain laws that the claim rests on. Conditions: those that each states. -/
import Derived.Test.YtghhmpppnmoeoaaGreatDoorXSteps2
import Derived.Lib.AtoiAll
import Derived.Lib.SplitLaws
import Derived.Lib.Builder
import Derived.ProofKit
import Derived.WalkKit
import Derived.Test.YtghhmpppnmoeoaaGreatDoorXSteps1
import Derived.Lib.AppendStr
import Derived.Lib.RuneBytes
import Derived.Sort.OwnSorted
import Derived.Lib.SlicesCompact
import Derived.Lib.AppendZerosOnto
import Derived.Lib.ValidU
import Derived.Lib.Index
set_option linter.all false
set_option linter.unusedSimpArgs false
set_option linter.unusedVariables false
set_option linter.unusedSectionVars false
set_option maxRecDepth 100000
namespace Go.Proofs.YtghhmpppnmoeoaaGreatDoor
section
open Go Go.Eng Go.Num Go.RowKit
variable{w:World}{K:Q0}{cs:List Value}{G:Nat->Prop}{T:TypeId}{i:Nat}{n:Nat}{v:Value}{w':World}{P:Program}{c:UInt8}{S:Nat->Prop}
theorem GQ:∀(d:Str) (acc:Nat),acc<=d.foldl (λn c=>n*10+Num.dval c) acc
 |[],acc=>aU _
 |c::d,acc=>cH (by omega) (GQ d (acc*10+Num.dval c))
theorem OG:∀(d:Str) (acc:Nat),d.all Num.isDig=true->acc<18446744073709551616->
  (Lib.parseUint10 acc d=.ok (d.foldl (λn c=>n*10+Num.dval c) acc)/\d.foldl (λn c=>n*10+Num.dval c) acc<18446744073709551616)\/(Lib.parseUint10 acc d=.range/\18446744073709551616<=d.foldl (λn c=>n*10+Num.dval c) acc)
 |[],acc,_,h=>.inl ⟨rfl,h⟩
 |c::d,acc,ha,h=>by
  simp only[fK,aJ]at ha
  have hc:=ha.1
  simp only[Num.isDig,aJ,bB]at hc
  simp only[Lib.parseUint10,aH hc,List.foldl_cons]
  have hd:Num.dval c=c.toNat-48:=rfl
  split
  ·right
   refine⟨rfl,cH ?_ (GQ d _)⟩
   omega
  ·split
   ·right
    refine⟨rfl,cH ?_ (GQ d _)⟩
    omega
   ·rw[hd]
    exact OG d _ ha.2 (by omega)
theorem vC{s:Str}(hg:goodN s=true):(s=45::dig s/\neg s=true\/s=dig s/\neg s=false)/\dig s≠[]/\(dig s).all Num.isDig=true:=by
 obtain⟨g1,g2,g3,g4⟩:=iE hg;refine⟨?_,λe=>by rw[e]at g1;simp at g1,g4⟩;cases s with
 |nil=>simp[dig]at g1
 |cons c r=>
  by_cases h:c=45
  ·subst h;left;simp[dig,neg]
  ·right;simp[dig,neg,h]
theorem FY{s:Str}(hg:goodN s=true):(Lib.atoiAll s=.ok (num s)/\-9223372036854775808<=num s/\num s<=9223372036854775807)\/(Lib.atoiAll s=.range/\(num s< -9223372036854775808\/9223372036854775807<num s)):=by
 obtain⟨hs,hne,ha⟩:=vC hg;have hp:=OG (dig s) 0 ha (by decide);have hd:(dig s).foldl (λn c=>n*10+Num.dval c) 0=dec (dig s):=rfl;rw[hd]at hp;rcases hs with⟨e,hn⟩|⟨e,hn⟩
 ·have hnum:num s=-(dec (dig s):Int):=by unfold num;rw[hn];rfl
  rw[hnum];generalize dig s=d at*
  subst e;simp only[Lib.atoiAll,Lib.parseMag];simp only[show(45:UInt8).toNat=45 from rfl,or_true,gU,xZ,false_and,nG,dH,aD hne];rcases hp with⟨h1,h2⟩|⟨h1,h2⟩
  ·simp only[h1];by_cases hb:9223372036854775808<dec d
   ·right;rw[aH hb];exact⟨rfl,.inl (by omega)⟩
   ·left;rw[aD hb];exact⟨rfl,by omega,by omega⟩
  ·right;simp only[h1];exact⟨trivial,.inl (by omega)⟩
 ·have hnum:num s=(dec (dig s):Int):=by unfold num;rw[hn];rfl
  rw[hnum];cases hd2:dig s with
  |nil=>exact absurd hd2 hne
  |cons c r=>
   rw[hd2]at hp ha e;have hc:=ha;simp only[fK,aJ,Num.isDig,bB]at hc;have n43:¬c.toNat=43:=by omega
   have n45:¬c.toNat=45:=by omega
   rw[e];simp only[Lib.atoiAll,Lib.parseMag,n43,n45,or_self,nG,not_false_eq_true,dH,false_and,aD (show¬(c::r=[])by simp)];rcases hp with⟨h1,h2⟩|⟨h1,h2⟩
   ·simp only[h1];by_cases hb:9223372036854775808<=dec (c::r)
    ·right;rw[aH hb];exact⟨rfl,.inr (by omega)⟩
    ·left;rw[aD hb];exact⟨rfl,by omega,by omega⟩
   ·right;simp only[h1];exact⟨trivial,.inr (by omega)⟩
theorem LP(K:Value->Prop)(w:World):eqQ P0 .neq 118 false true .nilIface .nilIface w K↔K (.bool false):=by
 have h:(do eqGuard .neq 118 (qA false) (qA true) .nilIface .nilIface;binOp .neq 118 .nilIface .nilIface:Sem Value).run P0 w=.ok (.bool false) w:=by kernel_rfl
 unfold eqQ mS;rw[h];exact⟨λ⟨v,h1,h2⟩=>by cases h1;exact h2,λh2=>⟨_,rfl,h2⟩⟩
theorem GG(T:TypeId)(v:Value)(w:World)(K:Value->Prop):eqQ P0 .neq 118 false true (.iface T v) .nilIface w K↔K (.bool true):=by
 have h:(do eqGuard .neq 118 (qA false) (qA true) (.iface T v) .nilIface;binOp .neq 118 (.iface T v) .nilIface:Sem Value).run P0 w=.ok (.bool true) w:=by kernel_rfl
 unfold eqQ mS;rw[h];exact⟨λ⟨v,h1,h2⟩=>by cases h1;exact h2,λh2=>⟨_,rfl,h2⟩⟩
def rP(s:Str):Option Int:=if goodN s=true/\-9223372036854775808<=num s/\num s<=9223372036854775807 then some (num s)else none
section
variable [HX]
theorem Zp{s:Str}{K:Q0}(hT:sD w)(hl:s.length<=1000000)
  (hK:∀n e w',Ext w w'->((e=.nilIface/\Lib.atoiAll s=.ok n)\/(∃T v,e=.iface T v)/\∀n',Lib.atoiAll s≠.ok n')->K (.tuple #[i64 n,e]) w'):
  aC P0 157 [str s] w K:=by
 refine VE ?_;unfold aCi;refine gF (args:=#[str s]) Tryz.call212 ((Tryz.internal_strconv_Atoi_all (ofL s) (by rw[eV];omega) w).mono ?_);rintro e w1 ⟨rfl,hw⟩;rw[eG];have hx1:Ext w w1:=by
  rcases hw with rfl|⟨t,rfl⟩
  ·exact Chg.refl _ _
  ·exact Bp _ _ _
 have hT1:=hT.ext hx1;refine⟨_,rfl,?_⟩;rcases hA:Lib.atoiAll s with n|_|_
 ·simp only[Lib.intTuple,bJ];refine⟨_,rfl,_,rfl,?_⟩;rw[LP,cX];exact hK n _ w1 hx1 (.inl ⟨rfl,hA⟩)
 ·simp only[Lib.intTuple,bJ];refine⟨_,rfl,_,rfl,?_⟩;rw[GG,dR];obtain⟨T,v,hv⟩:=hT1.syn;refine gF (args:=#[str [65,116,111,105],str s,i64 0,i64 0,.iface 236 (.int .i64 2)]) Tryz.call213 ((Tryz.strconv_toError_syntax (ofL [65,116,111,105]) (ofL s) 0 0 _ w1 (by rw[eV];omega) hv (.inr ⟨T,v,rfl⟩)).mono ?_);rintro e w' ⟨N,rfl,_,_,hb⟩;exact⟨_,rfl,hK 0 _ w' (hx1.trans (Chg.of_below hb)) (.inr ⟨⟨_,_,rfl⟩,λn' h=>by rw[hA]at h;cases h⟩)⟩
 ·simp only[Lib.intTuple,bJ];refine⟨_,rfl,_,rfl,?_⟩;rw[GG,dR];obtain⟨T,v,hv⟩:=hT1.rng;refine gF (args:=#[str [65,116,111,105],str s,i64 0,i64 0,.iface 236 (.int .i64 1)]) Tryz.call213 ((Tryz.strconv_toError_range (ofL [65,116,111,105]) (ofL s) 0 0 _ w1 (by rw[eV];omega) hv (.inr ⟨T,v,rfl⟩)).mono ?_);rintro e w' ⟨N,rfl,_,_,hb⟩;exact⟨_,rfl,hK _ _ w' (hx1.trans (Chg.of_below hb)) (.inr ⟨⟨_,_,rfl⟩,λn' h=>by rw[hA]at h;cases h⟩)⟩
theorem HW{s:Str}{K:Q0}(hT:sD w)(hl:s.length<=1000000)(hK:∀w',Ext w w'->K (.tuple #[i64 ((rP s).getD 0),.bool (rP s).isSome]) w'):aC P0 123 [str s] w K:=by
 refine Wb ?_;unfold aCC;refine Zp hT hl λn e w1 hx1 he=>?_;simp only[bJ];refine⟨_,rfl,_,rfl,?_⟩;rcases he with⟨rfl,hn⟩|⟨⟨T,v,rfl⟩,hn⟩
 ·rw[LP];simp only[kL,kK];refine GdW.act (!goodN s) (λw'=>Ext w1 w') (λ_=>Chg.refl _ _) (λ_ J hJ=>?_) λg w4 hx4=>?_
  ·refine lT (by omega) λw3 hx3=>?_;rw[eD];exact hJ w3 hx3
  simp only[aF,rH,aO];have hx:=hx1.trans hx4;rw[bS];refine⟨λhg=>?_,λhg=>?_⟩
  ·have:rP s=none:=by unfold rP;rw[aD];rintro⟨h,_⟩;rw[h]at hg;cases hg
   rw[this]at hK;exact hK w4 hx
  ·have hg:goodN s=true:=by simpa using hg
   rcases FY hg with⟨h1,h2,h3⟩|⟨h1,_⟩
   ·rw[h1]at hn;cases hn;have:rP s=some (num s):=by unfold rP;rw[aH ⟨hg,h2,h3⟩]
    rw[this]at hK;exact hK w4 hx
   ·rw[h1]at hn;cases hn
 ·rw[GG];simp only[kL,jO,yQ];intro g;rw[lS,dR];have:rP s=none:=by
   unfold rP;rw[aD];rintro⟨hg,h2,h3⟩;rcases FY hg with⟨h1,_⟩|⟨_,h4⟩
   ·exact hn _ h1
   ·omega
  rw[this]at hK;exact hK w1 hx1
end
theorem Al{s:Str}(h:goodN s=true):s.length<=101:=by
 obtain⟨_,g2,_,_⟩:=iE h;obtain⟨hs,_⟩:=vC h;rcases hs with⟨e,_⟩|⟨e,_⟩
 ·rw[e,aA];omega
 ·rw[e];omega
theorem PH{v:JV}(h:oD v=true):v.t.length<=16384:=by
 rw[lG,aJ]at h;obtain⟨_,_,_,h4,_,_,h7,h8,_⟩:=lY h.1;by_cases ht:v.t=[]
 ·rw[ht];simp
 ·rcases h4 ht with k|k
  ·have:=Al (h7 k);omega
  ·exact h8 k
theorem dB.get5{G:Nat->Prop}{w:World}:∀{xs:List JV} {L:List Value} {i:Nat} {x:JV},dB G w xs L->xs[i]?=some x->∃cs,cO G w x cs/\∀j,j<5->L[i*5+j]?=cs[j]?
 |[],_,_,_,_,h=>by simp at h
 |y::xs,L,0,x,h,hx=>by
  simp only[List.getElem?_cons_zero,bD]at hx
  subst hx
  simp only[dB]at h
  obtain⟨c,r,rfl,hc,hr⟩:=h
  refine⟨c,hc,λj hj=>?_⟩
  rw[yA,aX,List.getElem?_append_left (by rw[hc.rep.len];exact hj)]
 |y::xs,L,i+1,x,h,hx=>by
  simp only[List.getElem?_cons_succ]at hx
  simp only[dB]at h
  obtain⟨c,r,rfl,hc,hr⟩:=h
  obtain⟨cs,h1,h2⟩:=dB.get5 hr hx
  refine⟨cs,h1,λj hj=>?_⟩
  rw[List.getElem?_append_right (by rw[hc.rep.len];omega),hc.rep.len,<-h2 j hj]
  congr 1;omega
section
variable [HX]
end
section
variable [HX]
theorem Lx{t:Str}(hg:goodN t=true)(hn:neg t=false):rP t=if dec t<=9223372036854775807 then some (dec t:Int)else none:=by
 obtain⟨hs,_,_⟩:=vC hg;have e:t=dig t:=by
  rcases hs with⟨_,h⟩|⟨h,_⟩
  ·rw[h]at hn;cases hn
  ·exact h
 have hnum:num t=(dec t:Int):=by unfold num;rw[hn,<-e];rfl
 unfold rP;rw[hnum];by_cases h:dec t<=9223372036854775807
 ·rw[aH h,aH ⟨hg,by omega,by omega⟩]
 ·rw[aD h,aD (λh2=>by omega)]
end
end
end Go.Proofs.YtghhmpppnmoeoaaGreatDoor
namespace Go.Proofs
section
open Go.RowKit Go.Lib Go.Shelf
variable{w:World}{K:Q0}{cs:List Value}{G:Nat->Prop}{T:TypeId}{i:Nat}{n:Nat}{v:Value}{w':World}{P:Program}{c:UInt8}{S:Nat->Prop}
abbrev BdT:TypeId:=116
set_option maxHeartbeats 1000000 in
set_option maxRecDepth 100000 in
theorem Tryz.check_used(b:Nat)(w:World)(h0:w.cell? ⟨b,0,none⟩=some (.pointer (some ⟨b,0,none⟩))):
  Calls P0 102 #[.pointer (some ⟨b,0,none⟩)] w λe w'=>e=.returned (.tuple #[])/\w'=w:=by
 obtain⟨j,hj,_⟩:=Option.map_eq_some_iff.1 (show(Tryz.prog.info? 116).map (·.size)=some 2 by kernel_rfl)
 go_enter Tryz.func102,Tryz.ntmps102
 go_wp2
 rw[Lib.run_neq_ptr_same w _ Tryz.underlying114 hj]
 go_wp2
 go_end0
 exact⟨rfl,rfl⟩
set_option maxHeartbeats 1000000 in
set_option maxRecDepth 100000 in
theorem Tryz.check_fresh(b:Nat)(w:World)(h0:w.cell? ⟨b,0,none⟩=some (.pointer none))(hsh:w.shape? b=some (116,2))(hfz:w.frozen? ⟨b,0,none⟩=false):
  Calls P0 102 #[.pointer (some ⟨b,0,none⟩)] w λe w'=>e=.returned (.tuple #[])/\w'=w.setCell ⟨b,0,none⟩ (.pointer (some ⟨b,0,none⟩)):=by
 obtain⟨j,hj,hjs⟩:=Option.map_eq_some_iff.1 (show(Tryz.prog.info? 116).map (·.size)=some 2 by kernel_rfl)
 go_enter Tryz.func102,Tryz.ntmps102
 go_wp2
 rw[Lib.run_to_unsafe w ⟨b,0,none⟩ Tryz.underlying114 Tryz.underlying172 hj (by rw[hjs];decide) hsh (aB 1)];simp only[Result.andThen];rw[Oper.upon_value]
 go_wp2
 rw[run_callFunc_extern Tryz.func137 (by kernel_rfl) (by kernel_rfl) (by kernel_rfl) (e:=Extern.AbiNoEscape.same) (by kernel_rfl)];rw[Lib.run_noEscape];simp only[Result.andThen];rw[Oper.upon_value]
 go_wp2
 rw[Lib.run_from_unsafe w ⟨b,0,none⟩ Tryz.underlying172 Tryz.underlying114 hj hsh (show liesAt P0 Tryz.prog.depth 116 (2/Tryz.prog.cellsOf 116) 0 116 1=true by kernel_rfl)];simp only[Result.andThen];rw[Oper.upon_value]
 go_wp2
 go_end0
 exact⟨rfl,rfl⟩
end
end Go.Proofs
namespace Go.Proofs.YtghhmpppnmoeoaaGreatDoor
section
open Go Go.Eng Go.RowKit
variable{w:World}{K:Q0}{cs:List Value}{G:Nat->Prop}{T:TypeId}{i:Nat}{n:Nat}{v:Value}{w':World}{P:Program}{c:UInt8}{S:Nat->Prop}
abbrev BdT:TypeId:=116
theorem Aq:sF P0 89 U8 1 1:=⟨by kernel_rfl,by kernel_rfl,by decide⟩
def Bld(w:World)(B b:Nat)(l:Str):Prop:=
 ∃p v,w.heap[b]?=some (.cells [p,v].toArray BdT (0,0))/\(p=.pointer none\/p=.pointer (some ⟨b,0,none⟩))/\Own w B U8 1 v l.length (u8s l)/\B<=b
def BCh(w:World)(B b:Nat)(k:Nat):Prop:=k=b\/NH w B U8 k
theorem Bld.chg{B b:Nat}{l:Str}(h:Bld w B b l)(hc:Chg S w w')(hb:¬S b)(hS:∀k,NH w B U8 k->¬S k):Bld w' B b l:=by
 obtain⟨p,v,h1,h2,h3,h4⟩:=h;exact⟨p,v,hc.at h1 hb,h2,h3.chg hc hS,h4⟩
theorem Bld.ext{B b:Nat}{l:Str}(h:Bld w B b l)(hc:Ext w w'):Bld w' B b l:=h.chg hc (λe=>e) λ_ _ e=>e
theorem Bld.lt{B b:Nat}{l:Str}(h:Bld w B b l):b<w.heap.size:=by
 obtain⟨p,v,h1,_⟩:=h;exact eW h1
theorem Bld.base{B b:Nat}{l:Str}(h:Bld w B b l):B<=b:=by obtain⟨p,v,_,_,_,h4⟩:=h;exact h4
theorem Jh{B b:Nat}{p:Value}(h1:w.heap[b]?=some (.cells [p,v].toArray BdT (0,0))):¬NH w B U8 b:=by
 rintro⟨_,c,hc⟩;rw[h1]at hc;simp only[bD,Obj.cells.injEq]at hc;exact absurd hc.2.1 (by decide)
theorem BCh.trans{w1 w2:World}{B b:Nat}(h1:Chg (BCh w B b) w w1)(h2:Chg (BCh w1 B b) w1 w2):Chg (BCh w B b) w w2:=by
 refine⟨h2.os.trans h1.os,h2.tape.trans h1.tape,h2.output.trans h1.output,cH h1.size h2.size,λk hk hn=>?_⟩;have e1:=h1.heap k hk hn;rw[<-e1];refine h2.heap k (cL hk h1.size) λe=>hn ?_;rcases e with e|⟨e2,c,e3⟩
 ·exact .inl e
 ·exact .inr ⟨e2,c,by rw[<-e1];exact e3⟩
theorem BCh.from{w1 w2:World}{B b:Nat}(h1:Ext w w1)(h2:Chg (BCh w1 B b) w1 w2):Chg (BCh w B b) w w2:=BCh.trans (Chg.of_ext h1) h2
theorem BCh.new{w0:World}{B b:Nat}(h0:Ext w0 w)(hB:w0.heap.size<=B)(hb:B<=b)(h:Chg (BCh w B b) w w'):Ext w0 w':=
 h0.then h λk hk e=>by
  rcases e with rfl|⟨e,_⟩
  ·omega
  ·omega
theorem BCh.keep{B b k:Nat}{c:Array Value}{fr:Nat×Nat}(h:Chg (BCh w B b) w w')(hk:w.heap[k]?=some (.cells c T fr))(hb:k≠b)(hT:T≠U8):w'.heap[k]?=some (.cells c T fr):=
 h.at hk λe=>by
  rcases e with e|⟨_,c',e⟩
  ·exact hb e
  ·rw[hk]at e
   simp only[bD,Obj.cells.injEq]at e
   exact hT e.2.1
theorem BCh.iter{B b k p:Nat}{s:ByteArray}(h:Chg (BCh w B b) w w')(hk:w.heap[k]?=some (.stringIter s p))(hb:k≠b):w'.heap[k]?=some (.stringIter s p):=
 h.at hk λe=>by
  rcases e with e|⟨_,c',e⟩
  ·exact hb e
  ·rw[hk]at e;cases e
section
variable [HX]
theorem Zl{B:Nat}{K:Q0}(hB:B<=w.heap.size)(hK:∀b w',b=w.heap.size->Bld w' B b []->Ext w w'->K (.pointer (some ⟨b,0,none⟩)) w'):bO BdT [.pointer none,.slice none 0 0] w K:=
 bG λa w' ha hz hb hx=>hK a w' ha ⟨_,_,hb,.inl rfl,⟨by simp[u8s],.inl ⟨rfl,rfl⟩⟩,by omega⟩ hx
theorem GV{B b:Nat}{l:Str}{K:Q0}(h:Bld w B b l)
  (hK:∀v w',w'.heap[b]?=some (.cells [.pointer (some ⟨b,0,none⟩),v].toArray BdT (0,0))->Own w' B U8 1 v l.length (u8s l)->w'.heap.size=w.heap.size->Chg (BCh w B b) w w'->K (.tuple #[]) w'):
  aC P0 102 [.pointer (some ⟨b,0,none⟩)] w K:=by
 obtain⟨p,v,h1,h2,h3,h4⟩:=h;have c0:w.cell? ⟨b,0,none⟩=some p:=by rw[cC,h1];rfl
 rcases h2 with rfl|rfl
 ·refine gF (args:=#[.pointer (some ⟨b,0,none⟩)]) Tryz.call102 ((Tryz.check_fresh b w c0 (by simp[World.shape?,h1]) (by rw[xR,h1];rfl)).mono ?_);rintro e w' ⟨rfl,rfl⟩;refine⟨_,rfl,hK v _ ?_ ?_ (qZ _ _ _) (Chg.set (Chg.refl _ _) (.inl (.inl rfl)) _)⟩
  ·rw[tQ,h1];rfl
  ·refine h3.chg (Chg.set (S:=λk=>k=b) (Chg.refl _ _) (.inl rfl) _) λk hk e=>?_;subst e;exact Jh h1 hk
 ·refine gF (args:=#[.pointer (some ⟨b,0,none⟩)]) Tryz.call102 ((Tryz.check_used b w c0).mono ?_);rintro e w' ⟨rfl,rfl⟩;exact⟨_,rfl,hK v _ h1 h3 rfl (Chg.refl _ _)⟩
theorem KP{w3:World}{B b n:Nat}{l l':Str}{v':Value}{K:World->Prop}(h1:w.heap[b]?=some (.cells [.pointer (some ⟨b,0,none⟩),v].toArray BdT (0,0)))(hO:Own w B U8 1 v l.length (u8s l))(hb:B<=b)
  (hc:Chg (λk=>v.ownBlock=some k) w w3)(hO':Own w3 B U8 1 v' l'.length (u8s l'))(hK:∀w',Bld w' B b l'->Chg (BCh w B b) w w'->w'.heap.size=w3.heap.size->K w'):
  stW 1 (.pointer (some ⟨b,1,none⟩)) v' w3 K:=by
 have hne:¬v.ownBlock=some b:=λe=>Jh h1 (hO.block b e);have h3:=hc.at h1 hne;have hsh:gH v'=true:=by obtain⟨p,c,rfl,_⟩:=hO'.sl.shape;rfl
 refine iT h3 hsh (by simp) λw4 hz hb4 hc4=>?_;refine hK w4 ⟨.pointer (some ⟨b,0,none⟩),v',by rw[hb4];simp,.inr rfl,hO'.chg hc4 λk hk e=>by subst e;exact Jh h3 hk,hb⟩ ?_ hz;have s1:Chg (BCh w B b) w w3:=hc.mono λk _ e=>.inr (hO.block k e);exact s1.then hc4 λk _ e=>.inl e
theorem Ju{B b:Nat}{l s:Str}{K:Q0}(h:Bld w B b l)(hB:B<=w.heap.size)(hl:l.length+s.length<=140737488355328)
  (hK:∀v w',Bld w' B b (l++s)->Chg (BCh w B b) w w'->K v w'):aC P0 66 [.pointer (some ⟨b,0,none⟩),str s] w K:=by
 have hb:=h.base;refine ZT ?_;unfold W66;refine GV h λv w1 h1 hO hz hc=>?_;rw[dI,bP,dM];refine⟨v,by rw[bY,cC,h1];rfl,?_⟩;obtain⟨i,z,hi,hzr,h2,h3,h4⟩:=Aq.get;have hz0:i.zero=some (.int .u8 0):=by
  have:(Tryz.prog.info? U8).map (·.zero)=some (some (.int .u8 0)):=by kernel_rfl
  rw[hi]at this;simpa using this
 obtain⟨v',w3,hr,hO',hg,_⟩:=Lib.run_append_own_string (P:=P0) w1 B 89 9 89 U8 i Aq.und (by kernel_rfl) hi hz0 h2 h3 v l.length (u8s l) hO (ofL s) (by rw[eV];unfold maxLen;omega) (by rw[eV];omega) (by omega);unfold dY;rw[hr];dsimp only;rw[dI,bP];have hO2:Own w3 B U8 1 v' (l++s).length (u8s (l++s)):=by
  rw[Ck,bE];have e1:Lib.strCells (ofL s)=u8s s:=by unfold Lib.strCells u8s;rw[eG]
  rw[eV,e1]at hO';exact hO'
 refine KP (n:=0) h1 hO hb (Chg.of_grown hg λk e=>e) hO2 λw4 hb4 hc4 _=>?_;rw[fH];exact hK _ w4 hb4 (BCh.trans hc hc4)
theorem Gs{K:Q0}(hK:∀t w',SlAt w' U8 t 1 [.int .u8 (n:Int)]->Ext w w'->K t w'):dN U8 1 [(.int .u8 0)] [(0,1,.int .u8 (n:Int))] w K:=by
 rw[dN];simp only[dA,cU,aA,aL,aW];refine⟨by omega,?_⟩;refine hK _ _ ⟨_,_,rfl,aU _,λe=>(by cases e),λ_=>⟨_,_,_,_,rfl,gD _ _ _ rfl,λi _=>by rw[aX];simp⟩⟩ (Chg.alloc (Chg.refl _ _) _)
theorem Ci{B b:Nat}{l:Str}{K:Q0}(h:Bld w B b l)(hB:B<=w.heap.size)(hl:l.length+1<=140737488355328)(hn:n<256)
  (hK:∀w',Bld w' B b (l++[UInt8.ofNat n])->Chg (BCh w B b) w w'->K .nilIface w'):aC P0 62 [.pointer (some ⟨b,0,none⟩),.int .u8 (n:Int)] w K:=by
 have hb:=h.base;refine ZV ?_;unfold W62;refine GV h λv w1 h1 hO hz hc=>?_;rw[dI,bP,dM];refine⟨v,by rw[bY,cC,h1];rfl,?_⟩;refine Gs λt w2 ht hx2=>?_;refine kM Aq (hO.ext hx2) ht (m:=1) rfl (λu hu=>by simp only[bR]at hu;subst hu;rfl) (by omega) (by omega) (by have:=hx2.size;omega) λv' w3 hO3 hc3 _=>?_;rw[dI,bP];have hO2:Own w3 B U8 1 v' (l++[UInt8.ofNat n]).length (u8s (l++[UInt8.ofNat n])):=by
  rw[Ck,bE];have e1:u8s [UInt8.ofNat n]=[.int .u8 (n:Int)]:=by
   simp only[u8s,dT,nK,iW];rw[jX (by omega)]
  rw[e1];exact hO3
 refine KP (n:=0) (hx2.at h1 id) (hO.ext hx2) hb hc3 hO2 λw4 hb4 hc4 _=>?_;exact hK w4 hb4 (BCh.trans hc (BCh.from hx2 hc4))
end
abbrev u8(n:Nat):Value:=.int .u8 (n:Int)
theorem aA7:∀x:Fin 32,IntKind.u8.wrap (BitVec.ofInt IntKind.u8.bits 192|||BitVec.ofInt IntKind.u8.bits ((x.val:Nat):Int)).toNat=((192+x.val:Nat):Int):=by decide+kernel
theorem aA6:∀x:Fin 16,IntKind.u8.wrap (BitVec.ofInt IntKind.u8.bits 224|||BitVec.ofInt IntKind.u8.bits ((x.val:Nat):Int)).toNat=((224+x.val:Nat):Int):=by decide+kernel
theorem aA5:∀x:Fin 8,IntKind.u8.wrap (BitVec.ofInt IntKind.u8.bits 240|||BitVec.ofInt IntKind.u8.bits ((x.val:Nat):Int)).toNat=((240+x.val:Nat):Int):=by decide+kernel
theorem aA8:∀x:Fin 64,IntKind.u8.wrap (BitVec.ofInt IntKind.u8.bits 128|||BitVec.ofInt IntKind.u8.bits ((x.val:Nat):Int)).toNat=((128+x.val:Nat):Int):=by decide+kernel
theorem aBw:∀x:Fin 256,IntKind.u8.wrap (BitVec.ofInt IntKind.u8.bits ((x.val:Nat):Int)&&&BitVec.ofInt IntKind.u8.bits 63).toNat=((x.val%64:Nat):Int):=by decide+kernel
theorem xD(n:Nat):IntKind.u8.wrap (n:Int)=((n%256:Nat):Int):=by
 simp only[IntKind.wrap,IntKind.bits,IntKind.signed,Bool.false_and];rw[show(2:Int)^8=256 by decide];simp
theorem Hi(h:n<4294967296):IntKind.u32.wrap (n:Int)=(n:Int):=by
 simp only[IntKind.wrap,IntKind.bits,IntKind.signed,Bool.false_and];rw[show(2:Int)^32=4294967296 by decide];simp only[iX,nG];omega
theorem EH(r k:Nat)(hk:k<=32)(K:Value->Prop):aQ .shr (.int .i32 (r:Int)) (.int .u64 (k:Int)) K↔K (.int .i32 ((r/2^k:Nat):Int)):=by
 have e:(r:Int).fdiv (2^min (k:Int).toNat IntKind.i32.bits)=((r/2^k:Nat):Int):=by
  rw[aV,show min k IntKind.i32.bits=k from nC hk,Int.fdiv_eq_ediv_of_nonneg _ (by exact Int.le_of_lt (Int.pow_pos (by decide)))];rw[Int.natCast_ediv,Int.natCast_pow];rfl
 simp only[aQ];rw[e];constructor
 ·exactλh=>h.2
 ·exactλh=>⟨by omega,h⟩
theorem AF(x:Nat)(K:Value->Prop):(rX .u8 (.int .i32 (x:Int)) λt=>aQ .and t (.int .u8 63) λt=>aQ .or (.int .u8 128) t K)↔K (u8 (128+x%64)):=by
 rw[mE,xD,UE,aBw ⟨x%256,by omega⟩,GZ,aA8 ⟨x%256%64,by omega⟩];simp only;rw[show x%256%64=x%64 by omega]
theorem aCV{a b:Nat}{K:Q0}(hK:∀t w',SlAt w' U8 t 2 [u8 a,u8 b]->Ext w w'->K t w'):dN U8 2 [(.int .u8 0),(.int .u8 0)] [(0,1,u8 a),(1,1,u8 b)] w K:=by
 rw[dN];simp only[dA,cU,aA,aL,aW,aZ];refine⟨by omega,by omega,?_⟩;refine hK _ _ ⟨_,_,rfl,aU _,λe=>(by cases e),λ_=>⟨_,_,_,_,rfl,gD _ _ _ rfl,λi _=>by rw[aX];simp⟩⟩ (Chg.alloc (Chg.refl _ _) _)
theorem aCU{a b c:Nat}{K:Q0}(hK:∀t w',SlAt w' U8 t 3 [u8 a,u8 b,u8 c]->Ext w w'->K t w'):dN U8 3 [(.int .u8 0),(.int .u8 0),(.int .u8 0)] [(0,1,u8 a),(1,1,u8 b),(2,1,u8 c)] w K:=by
 rw[dN];simp only[dA,cU,aA,aL,aW,aZ];refine⟨by omega,by omega,by omega,?_⟩;refine hK _ _ ⟨_,_,rfl,aU _,λe=>(by cases e),λ_=>⟨_,_,_,_,rfl,gD _ _ _ rfl,λi _=>by rw[aX];simp⟩⟩ (Chg.alloc (Chg.refl _ _) _)
theorem aCT{a b c d:Nat}{K:Q0}(hK:∀t w',SlAt w' U8 t 4 [u8 a,u8 b,u8 c,u8 d]->Ext w w'->K t w'):dN U8 4 [(.int .u8 0),(.int .u8 0),(.int .u8 0),(.int .u8 0)] [(0,1,u8 a),(1,1,u8 b),(2,1,u8 c),(3,1,u8 d)] w K:=by
 rw[dN];simp only[dA,cU,aA,aL,aW,aZ];refine⟨by omega,by omega,by omega,by omega,?_⟩;refine hK _ _ ⟨_,_,rfl,aU _,λe=>(by cases e),λ_=>⟨_,_,_,_,rfl,gD _ _ _ rfl,λi _=>by rw[aX];simp⟩⟩ (Chg.alloc (Chg.refl _ _) _)
theorem QP(l:List Nat)(h:∀x∈l,x<256):u8s (l.map b8)=l.map u8:=by
 unfold u8s;rw[List.map_map];apply List.map_congr_left;intro x hx;have:=h x hx;simp only[Function.comp,b8,iW,u8];rw[jX (by omega)]
section
variable [HX]
theorem UF{B r:Nat}{l:Str}{K:Q0}(hO:Own w B U8 1 v l.length (u8s l))(hB:B<=w.heap.size)(hl:l.length+4<=140737488355328)(hr:r<55296\/57343<r/\r<=1114111)
  (hK:∀v' w',Own w' B U8 1 v' (l++wrM r).length (u8s (l++wrM r))->(∀k,¬NH w B U8 k->k<w.heap.size->w'.heap[k]?=w.heap[k]?)->Chg (λk=>v.ownBlock=some k) w w'->K v' w'):
  aC P0 103 [v,.int .i32 (r:Int)] w K:=by
 have fin:∀(bs:List Nat) (t:Value) (w1:World),wrM r=bs.map b8->(∀x∈bs,x<256)->bs.length<=4->SlAt w1 U8 t bs.length (bs.map u8)->Ext w w1->dY P0 (Builtin.append_ #[89,89] 89 #[v,t]) w1 K:=by
  intro bs t w1 he hlt hlen ht hx;refine kM Aq (hO.ext hx) ht (m:=bs.length) (by simp) (λu hu=>by simp only[kH]at hu;obtain⟨x,_,rfl⟩:=hu;rfl) (by omega) (by omega) (by have:=hx.size;omega) λv' w3 hO3 hc3 _=>?_;have hc:Chg (λk=>v.ownBlock=some k) w w3:=(Chg.of_ext hx).trans hc3;refine hK v' w3 ?_ (λk hk hlt=>hc.heap k hlt λe=>hk (hO.block k e)) hc;rw[Ck,he,QP bs hlt,bE,lC];exact hO3
 refine Wq ?_;unfold aCP;rw[mE,Hi (by omega),qK,aM];refine⟨λh=>?_,λh=>?_⟩
 ·rw[mE,xD,jX (by omega)];refine Gs λt w1 ht hx=>?_;refine fin [r] t w1 ?_ (λx hx=>by simp only[bR]at hx;omega) (by simp) ht hx;unfold wrM;rw[aH (by omega)];rfl
 refine VM ?_;unfold aCp;rw[mE,Hi (by omega),qK,aM];refine⟨λh2=>?_,λh2=>?_⟩
 ·rw[show(6:Int)=((6:Nat):Int)from rfl,EH r 6 (by omega),mE,xD,show r/2^6%256=r/64 by omega,GZ,aA7 ⟨r/64,by omega⟩,AF];refine aCV λt w1 ht hx=>?_;refine fin [192+r/64,128+r%64] t w1 ?_ (λx hx=>by simp only[bW,eY,sH]at hx;omega) (by simp) ht hx;unfold wrM;rw[aD (by omega),aH (by omega)];rfl
 refine bU.cut (λs' w'=>s'=[.bool (decide (r<=65535))]/\w'=w) ?_ ?_
 ·rw[dW,aM];refine⟨λh3=>?_,λh3=>?_⟩
  ·rw[bF h3,bF (by omega)];exact⟨rfl,rfl⟩
  ·rw[dW,bF (show(57343:Int)<(r:Int)by omega)];refine GdW.look (decide (r<=65535)) (λ_ J hJ=>?_) λg=>?_
   ·rw[qK];rw[show decide ((r:Int)<=65535)=decide (r<=65535)by rw[decide_eq_decide];omega];exact hJ
   ·exact⟨rfl,rfl⟩
 rintro s' g w' ⟨rfl,rfl⟩;simp only[aF];rw[aM];refine⟨λh3=>?_,λh3=>?_⟩
 ·rw[show(12:Int)=((12:Nat):Int)from rfl,EH r 12 (by omega),mE,xD,show r/2^12%256=r/4096 by omega,GZ,aA6 ⟨r/4096,by omega⟩,show(6:Int)=((6:Nat):Int)from rfl,EH r 6 (by omega),AF,AF];refine aCU λt w1 ht hx=>?_;refine fin [224+r/4096,128+r/64%64,128+r%64] t w1 ?_ (λx hx=>by simp only[bW,eY,sH]at hx;omega) (by simp) ht hx;unfold wrM;rw[aD (by omega),aD (by omega),aH (by omega)];rfl
 rw[kS,bF (show(65535:Int)<(r:Int)by omega)];refine GdW.look true (λ_ J hJ=>?_) λg=>?_
 ·rw[qK,bF (show(r:Int)<=1114111 by omega)];exact hJ
 show aR (.bool true) _ _;rw[dR];rw[show(18:Int)=((18:Nat):Int)from rfl,EH r 18 (by omega),mE,xD,show r/2^18%256=r/262144 by omega,GZ,aA5 ⟨r/262144,by omega⟩,show(12:Int)=((12:Nat):Int)from rfl,EH r 12 (by omega),AF,show(6:Int)=((6:Nat):Int)from rfl,EH r 6 (by omega),AF,AF];refine aCT λt w1 ht hx=>?_;refine fin [240+r/262144,128+r/4096%64,128+r/64%64,128+r%64] t w1 ?_ (λx hx=>by simp only[bW,eY,sH]at hx;omega) (by simp) ht hx;unfold wrM;rw[aD (by omega),aD (by omega),aD (by omega)];rfl
theorem QG{B b r:Nat}{l:Str}{K:Q0}(h:Bld w B b l)(hB:B<=w.heap.size)(hl:l.length+4<=140737488355328)(hr:r<55296\/57343<r/\r<=1114111)
  (hK:∀v w',Bld w' B b (l++wrM r)->Chg (BCh w B b) w w'->K v w'):aC P0 63 [.pointer (some ⟨b,0,none⟩),.int .i32 (r:Int)] w K:=by
 have hb:=h.base;refine ZU ?_;unfold W63;refine GV h λv w1 h1 hO hz hc=>?_;have hc1:w1.cell? (⟨b,0,none⟩:Addr)|>.isSome:=by rw[cC,h1];rfl
 rw[dI,bP,dM];refine⟨v,by rw[bY,cC,h1];rfl,?_⟩;rw[fR hO.sl,dI,bP,dM];refine⟨v,by rw[bY,cC,h1];rfl,?_⟩;refine UF hO (by omega) hl hr λv' w2 hO2 _ hc2=>?_;rw[dI,bP];refine KP (n:=0) h1 hO hb hc2 hO2 λw4 hb4 hc4 _=>?_;obtain⟨p,v4,h4,_,hO4,_⟩:=id hb4;rw[dI,bP,dM];refine⟨v4,by rw[bY,cC,h4];rfl,?_⟩;rw[fR hO4.sl,nB];exact hK _ w4 hb4 (BCh.trans hc hc4)
end
section
variable [HX]
def DV(xs:List JV)(i:Nat):Nat:=match xs[i]? with|some x=>mP x|none=>0
def sI(xs:List JV):Nat->Nat
 |0=>0
 |n+1=>sI xs n+DV xs n
theorem Bm{xs:List JV}{x:JV}(h:xs[i]?=some x):DV xs i=mP x:=by unfold DV;rw[h]
theorem Bl(x:JV)(xs:List JV):∀n,sI (x::xs) (n+1)=mP x+sI xs n
 |0=>by simp[sI,DV]
 |n+1=>by
  rw[sI,Bl x xs n,sI]
  have:DV (x::xs) (n+1)=DV xs n:=by unfold DV;rw[List.getElem?_cons_succ]
  omega
theorem LX:∀(xs:List JV) (n:Nat),n<=xs.length->sI xs n<=lO xs
 |xs,0,_=>fW _
 |[],n+1,h=>by simp at h
 |x::xs,n+1,h=>by
  have ih:=LX xs n (by simpa using h)
  rw[Bl]
  simp only[lO]
  omega
end
end
section
open Go Go.Eng Go.RowKit
variable{w:World}{K:Q0}{cs:List Value}{G:Nat->Prop}{T:TypeId}{i:Nat}{n:Nat}{v:Value}{w':World}{P:Program}{c:UInt8}{S:Nat->Prop}
def oR(v:JV)(m:Nat)(left:Int):Bool:=oL v m&&oD v&&decide ((mP v:Int)<=left)
theorem Kj:iQ []=true:=rfl
def flatK(k:Int)(t:Str):Bool:=if k=3 then Num.goodN t else if k=4 then decide (t.length<=16384)else decide (t=[])
def DI(v:JV):Bool:=flatK v.k v.t
theorem Kr{v:JV}{m:Nat}{left:Int}(hm:m≠0)(hl:1<=left)(hb:v.b=true->v.k=2)(h0:0<=v.k)(h5:v.k<5):oR v m left=(DI v&&(decide (v.xs.length=0)&&decide (v.ks.length=0))):=by
 cases v with
 |mk k b t xs ks=>
 simp only[JV.k,JV.b]at hb h0 h5;unfold oR;show(oL (.mk k b t xs ks) m&&(mO k b t xs.length ks&&oF xs)&&decide ((mP (.mk k b t xs ks):Int)<=left))=(flatK k t&&(decide (xs.length=0)&&decide (ks.length=0)));unfold flatK;by_cases hx:xs=[]
 ·subst hx;cases m with
  |zero=>exact absurd rfl hm
  |succ m=>
   by_cases hk:ks=[]
   ·subst hk;have hc:mP (.mk k b t [] [])=1:=rfl;rw[kR,hc,bF (show((1:Nat):Int)<=left from hl)];simp only[JV.xs,yO,oF,aL];rw[lD];simp only[mO,Kj,kI,iA,aJ,cM,dO,bB,decide_eq_false_iff_not];constructor
    ·rintro⟨⟨⟨⟨⟨⟨⟨⟨_,_⟩,_⟩,ht⟩,_⟩,_⟩,h3⟩,h4⟩,_⟩;refine⟨?_,trivial,trivial⟩;split
     ·rename_i e;exact h3.resolve_left (λh=>h e)
     ·split
      ·rename_i e;exact bF (h4.resolve_left (λh=>h e))
      ·rcases ht with(ht|ht)|ht
       ·exact bF ht
       ·contradiction
       ·contradiction
    ·rintro⟨hf,_⟩;refine⟨⟨⟨⟨⟨⟨⟨⟨h0,by omega⟩,?_⟩,?_⟩,.inl trivial⟩,.inr trivial⟩,?_⟩,?_⟩,?_⟩
     ·cases b with
      |false=>exact .inl rfl
      |true=>exact .inr (hb rfl)
     ·by_cases e3:k=3
      ·exact .inl (.inr e3)
      ·by_cases e4:k=4
       ·exact .inr e4
       ·rw[aD e3,aD e4,decide_eq_true_iff]at hf;exact .inl (.inl hf)
     ·by_cases e3:k=3
      ·rw[aH e3]at hf;exact .inr hf
      ·exact .inl e3
     ·by_cases e4:k=4
      ·rw[aD (by omega),aH e4,decide_eq_true_iff]at hf;exact .inr hf
      ·exact .inl e4
     ·exact .inl (by omega)
   ·have h1:mO k b t ([]:List JV).length ks=false:=by
     cases hh:mO k b t ([]:List JV).length ks with
     |false=>rfl
     |true=>have:=(lY hh).2.2.2.2.2.1 hk;omega
    rw[h1,bZ (show¬ks.length=0 fromλe=>hk (bI e))];simp
 ·have h1:mO k b t xs.length ks=false:=by
   cases hh:mO k b t xs.length ks with
   |false=>rfl
   |true=>have:=(lY hh).2.2.2.2.1 (λe=>hx (bI e));omega
  rw[h1,bZ (show¬xs.length=0 fromλe=>hx (bI e))];simp
def tD(xs:List JV)(m:Nat)(left:Int):Bool:=yO xs m&&oF xs&&decide ((lO xs:Int)<=left)
theorem Ks{v:JV}{m:Nat}{left:Int}(hb:v.b=true->v.k=2)(hk:v.k=5/\v.ks=[]\/v.k=6/\v.ks.length=v.xs.length/\iQ v.ks=true):oR v (m+1) left=(decide (v.t=[])&&tD v.xs m (left-1)):=by
 cases v with
 |mk k b t xs ks=>
 simp only[JV.k,JV.b,JV.ks,JV.xs]at hb hk;unfold oR;have hc:mP (.mk k b t xs ks)=1+lO xs:=by simp only[mP]
 rw[hc];show(yO xs m&&(mO k b t xs.length ks&&oF xs)&&decide (((1+lO xs:Nat):Int)<=left))=(decide (t=[])&&(yO xs m&&oF xs&&decide ((lO xs:Int)<=left-1)));have hbf:b=false:=by
  cases b with
  |false=>rfl
  |true=>have:=hb rfl;omega
 subst hbf;have hh:mO k false t xs.length ks=decide (t=[]):=by
  rw[lD];simp only[mO,aJ,cM,dO,bB,decide_eq_false_iff_not,kK];constructor
  ·rintro⟨⟨⟨⟨⟨⟨⟨⟨⟨_,_⟩,_⟩,ht⟩,_⟩,_⟩,_⟩,_⟩,_⟩,_⟩;rcases ht with(ht|ht)|ht
   ·exact ht
   ·omega
   ·omega
  ·intro ht;refine⟨⟨⟨⟨⟨⟨⟨⟨⟨by omega,by omega⟩,.inl trivial⟩,.inl (.inl ht)⟩,.inr (by omega)⟩,?_⟩,.inl (by omega)⟩,.inl (by omega)⟩,?_⟩,?_⟩
   ·rcases hk with⟨_,h⟩|⟨h,_⟩
    ·exact .inr h
    ·exact .inl h
   ·rcases hk with⟨h,_⟩|⟨_,h,_⟩
    ·exact .inl (by omega)
    ·exact .inr h
   ·rcases hk with⟨_,h⟩|⟨_,_,h⟩
    ·rw[h];rfl
    ·exact h
 rw[hh];have e:decide (((1+lO xs:Nat):Int)<=left)=decide ((lO xs:Int)<=left-1):=by rw[decide_eq_decide];omega
 rw[e];generalize decide ((lO xs:Int)<=left-1)=d4;generalize decide (t=[])=d1;generalize yO xs m=d2;generalize oF xs=d3;cases d1<;>cases d2<;>cases d3<;>cases d4<;>rfl
theorem Iv{v:JV}{m:Nat}{left:Int}(h:m=0\/left<1\/(v.b=true/\v.k≠2)\/v.k<0\/6<v.k\/(v.k=5/\v.ks≠[])\/(v.k=6/\(v.ks.length≠v.xs.length\/iQ v.ks=false))):oR v m left=false:=by
 cases hg:oR v m left with
 |false=>rfl
 |true=>
  unfold oR at hg;simp only[aJ,bB]at hg;obtain⟨⟨h1,h2⟩,h3⟩:=hg;rw[lG,aJ]at h2;have hh:=lY h2.1;have hc:=LW v;rcases h with rfl|h|⟨h,h'⟩|h|h|⟨h,h'⟩|⟨h,h'|h'⟩
  ·rw[rW]at h1;cases h1
  ·omega
  ·exact absurd (hh.2.2.1 h) h'
  ·have:=hh.1;omega
  ·have:=hh.2.1;omega
  ·have:=hh.2.2.2.2.2.1 h';omega
  ·exact absurd (hh.2.2.2.2.2.2.2.2.1 h) h'
  ·have:=hh.2.2.2.2.2.2.2.2.2;rw[h']at this;cases this
theorem _root_.Go.Eng.SlAt.keep1{p:Nat}{x:Value}{T':TypeId}{fr:Nat×Nat}(h:SlAt w T v n cs)(hp:w.heap[p]?=some (.cells [x].toArray T' fr))(hc:Chg (λk=>k=p) w w')
  (hne:cs≠[]->cs[0]?≠some x\/2<=cs.length):SlAt w' T v n cs:=by
 obtain⟨pp,cap,hv,h1,h2,h3⟩:=h;refine⟨pp,cap,hv,h1,h2,λhn=>?_⟩;obtain⟨b,off,c,fr',hpp,hb,hcs⟩:=h3 hn;refine⟨b,off,c,fr',hpp,hc.at hb ?_,hcs⟩;rintro rfl;rw[hp]at hb;simp only[bD,Obj.cells.injEq]at hb;obtain⟨rfl,_,_⟩:=hb;have hpos:0<cs.length:=dF.2 hn;have e0:=hcs 0 hpos;rw[fA]at e0;rcases hne hn with h|h
 ·have:off=0:=by
   apply eK;intro ho;rw[show([x].toArray)[off]?=none by simp;omega,List.getElem?_eq_getElem hpos]at e0;cases e0
  subst this;exact h (by rw[<-e0];rfl)
 ·have e1:=hcs 1 (by omega);rw[List.getElem?_eq_getElem (by omega),show([x].toArray)[off+1]?=none by simp]at e1;cases e1
mutual
theorem Jv{w w':World}{p:Nat}{n:Int}{T':TypeId}{fr:Nat×Nat}(hp:w.heap[p]?=some (.cells [i64 n].toArray T' fr))(hc:Chg (λk=>k=p) w w'):∀{v:JV} {cs:List Value},fV w v cs->fV w' v cs
 |.mk k b t xs ks,cs,h=>by
  simp only[fV]at h⊢
  obtain⟨sv,kv,T1,T2,L,rfl,h1,h2,h3,h4⟩:=h
  refine⟨sv,kv,T1,T2,L,rfl,h1.keep1 hp hc λhn=>.inr ?_,sP hp hc h2,h3.keep1 hp hc λhn=>.inl ?_,h4⟩
  ·have:=h2.len
   have hl:0<L.length:=dF.2 hn
   omega
  ·cases ks with
   |nil=>exact absurd rfl hn
   |cons a r=>intro e;simp at e
theorem sP{w w':World}{p:Nat}{n:Int}{T':TypeId}{fr:Nat×Nat}(hp:w.heap[p]?=some (.cells [i64 n].toArray T' fr))(hc:Chg (λk=>k=p) w w'):∀{xs:List JV} {L:List Value},gI w xs L->gI w' xs L
 |[],L,h=>by simp only[gI]at h⊢;exact h
 |x::xs,L,h=>by
  simp only[gI]at h⊢
  obtain⟨c,r,rfl,h1,h2⟩:=h
  exact⟨c,r,rfl,Jv hp hc h1,sP hp hc h2⟩
end
section
variable [HX]
theorem Kk{xs:List JV}{m:Nat}{left:Int}{x:JV}(hi:xs[i]?=some x)(h:oR x m (left-sI xs i)=false):tD xs m left=false:=by
 cases hg:tD xs m left with
 |false=>rfl
 |true=>
  unfold tD at hg;simp only[aJ,bB]at hg;obtain⟨⟨h1,h2⟩,h3⟩:=hg;rw[mD,bN]at h1;rw[rG,bN]at h2;have hm:=bK hi;have hcs:=LX xs (i+1) (List.getElem?_eq_some_iff.1 hi).1;rw[sI,Bm hi]at hcs;unfold oR at h;rw[h1 x hm,h2 x hm,bF (by omega)]at h;cases h
theorem Qj:∀(xs:List JV),lO xs=sI xs xs.length
 |[]=>rfl
 |x::xs=>by
  rw[aA,Bl,<-Qj xs]
  simp only[lO]
theorem Ir{xs:List JV}{m:Nat}{left:Int}(h:∀i x,xs[i]?=some x->oR x m (left-sI xs i)=true)(hl:(lO xs:Int)<=left):tD xs m left=true:=by
 unfold tD;rw[bF hl,mD,rG,bN.2,bN.2]
 ·rfl
 ·intro x hx;obtain⟨i,hi,rfl⟩:=List.getElem_of_mem hx;have:=h i _ (List.getElem?_eq_getElem hi);unfold oR at this;simp only[aJ]at this;exact this.1.2
 ·intro x hx;obtain⟨i,hi,rfl⟩:=List.getElem_of_mem hx;have:=h i _ (List.getElem?_eq_getElem hi);unfold oR at this;simp only[aJ]at this;exact this.1.1
theorem NC{g:FuncId}{args caps:List Value}{K:Q0}(h:aC P g (args++caps) w K):nU P (.func (.func g) #[] caps.toArray) args w K:=by
 unfold nU Oq;unfold aC at h;have:(do let d<-(Deferred.ofValue (.func (.func g) #[] caps.toArray) args.toArray);invoke d.target d.args:Sem Next)=callFunc g (args++caps).toArray:=by
  show callFunc g (#[]++args.toArray++caps.toArray)=_;simp
 rw[this];exact h
theorem Dn{m:Nat}(hn:n<=9223372036854775807)(hm:m<=9223372036854775807):decide (IntKind.i64.wrap ((n:Int)+(m:Int))=0)=(decide (n=0)&&decide (m=0)):=by
 have e1:(2:Int)^64=18446744073709551616:=by decide
 have e2:(2:Int)^(64-1)=9223372036854775808:=by decide
 have:IntKind.i64.wrap ((n:Int)+(m:Int))=0↔n=0/\m=0:=by
  simp only[IntKind.wrap,IntKind.bits,IntKind.signed,iA,e1,e2];split
  ·rename_i h;simp only[ge_iff_le,bB]at h;omega
  ·rename_i h;omega
 rw[lD,decide_eq_true_iff,aJ,decide_eq_true_iff,decide_eq_true_iff];exact this
theorem Mb{K:Q0}(h1:gH v=true)(h:∀a w',a=w.heap.size->w'.heap.size=w.heap.size+1->w'.heap[a]?=some (.cells [v].toArray T (0,0))->Ext w w'->K (.pointer (some ⟨a,0,none⟩)) w'):eL T v w K:=by
 cases v<;>first|(simp[gH]at h1;done)|exact h _ _ rfl (by simp) (gD _ _ _ rfl) (Chg.alloc (Chg.refl _ _) _)
theorem YW(v:JV):∀{m p:Nat} {left:Int} {w:World} {cs:List Value} {K:Q0},fV w v cs->w.heap[p]?=some (.cells [i64 left].toArray 3 (0,0))->m<=24->-1<=left->left<=2000->
  (∀r w',r=oR v m left->(r=true->w'.heap[p]?=some (.cells [i64 (left-mP v)].toArray 3 (0,0)))->Chg (λk=>k=p) w w'->K (.bool r) w')->aC P0 101 [.agg cs.toArray,i64 (m:Int),.pointer (some ⟨p,0,none⟩)] w K:=by
 induction v using JV.ind' with
 |h v ih=>
  intro m p left w cs K h hp hm hl1 hl2 hK;refine Wr ?_;unfold aCQ;refine jV h λa w1 sv kv hB hx1 ha=>?_;have hplt:=eW hp;have hp1:=hx1.at hp id;refine Mb rfl λd w2 hd hz2 hd2 hx2=>?_;refine Mb rfl λq w3 hq hz3 hq3 hx3=>?_;have hp3:=hx3.at (hx2.at hp1 id) id;have hB3:=hB.ext (hx2.trans hx3);have hd3:=hx3.at hd2 id;have hx13:=(hx1.trans hx2).trans hx3;simp only[wsv,wsg,wsh,wsl,aO,aN,aE,fE,Nat.reduceAdd,Nat.reduceLT,aG,aB,aK,aI,bT,reduceCtorEq,wsh,hq3,hp3];have ew:IntKind.i64.wrap (left-1)=left-1:=cK (by omega) (by omega);refine iT (off:=0) hp3 rfl (by simp) λw4 hz4 hp4 hc4=>?_;have s1:=hx1.size;have s2:=hx2.size;have hq4:=hc4.at hq3 (by omega);have hd4:=hc4.at hd3 (by omega);have hb4:=hc4.at hB3.hb (by omega);rw[show([i64 left].toArray.setIfInBounds 0 (i64 (IntKind.i64.wrap (left-1))))=[i64 (left-1)].toArray by rw[ew];rfl]at hp4;have hcw:Chg (λk=>k=p) w w4:=(Chg.of_ext hx13).trans hc4;obtain⟨Tk,hks3⟩:=hB3.keys;have hks4:SlAt w4 Tk kv v.ks.length (v.ks.map str):=hks3.keep1 hp3 hc4 λhn=>.inl (by
   cases hkk:v.ks with
   |nil=>rw[hkk]at hn;exact absurd rfl hn
   |cons a r=>intro e;simp at e)
  obtain⟨Ti,L,hit,hreps⟩:=hB3.items;have hit4:SlAt w4 Ti sv v.xs.length L:=hit.keep1 hp3 hc4 λhn=>.inr (by
   have:=hreps.len;have hl:0<L.length:=dF.2 hn;omega)
  have hreps4:gI w4 v.xs L:=sP hp3 hc4 hreps;obtain⟨f1,f2,f3,f4⟩:=hB3.fits;have lx:∀KK:Value->Prop,dC sv KK↔KK (i64 v.xs.length):=λKK=>fR hit KK;have lk:∀KK:Value->Prop,dC kv KK↔KK (i64 v.ks.length):=λKK=>hB3.lenk KK;simp only[wsv,wsg,wsh,wsl,aO,aN,aE,fE,Nat.reduceAdd,Nat.reduceLT,aG,aB,aK,aI,bT,reduceCtorEq,wsh,hq4,hp4,hd4,hb4];intro g1 g2 g3 g4;rw[bS];refine⟨λhbad=>hK false w4 ?_ (λe=>by cases e) hcw,λhok=>?_⟩
  ·rw[Iv];simp only[cM,aJ,bB]at hbad;rcases hbad with(h|h)|⟨h,h'⟩
   ·exact .inl (by omega)
   ·exact .inr (.inl (by omega))
   ·exact .inr (.inr (.inl ⟨h,h'⟩))
  have hm0:m≠0:=λe=>by rw[bF (show(m:Int)=0 by omega)]at hok;cases hok
  have hl0:1<=left:=by
   rcases Int.lt_or_le (left-1) 0 with h|h
   ·rw[bF h]at hok;simp at hok
   ·omega
  have hbk:v.b=true->v.k=2:=λe=>by
   rw[e]at hok;simp only[jE,iA,decide_eq_false_iff_not,yE]at hok;exact hok.2
  have flat:∀w',Ext w4 w'->0<=v.k->v.k<5->K (.bool (DI v&&(decide (v.xs.length=0)&&decide (v.ks.length=0)))) w':=λw' e h0 h5=>by
   refine hK _ w' (Kr hm0 hl0 hbk h0 h5).symm (λhr=>?_) (hcw.then e λ_ _ e=>e.elim);simp only[aJ,bB]at hr;have hx0:v.xs=[]:=bI hr.2.1;have hc1:mP v=1:=by
    rw[v.eta,hx0];rfl
   rw[hc1];exact e.at hp4 id
  have no:(v.k<0\/6<v.k\/(v.k=5/\v.ks≠[])\/(v.k=6/\(v.ks.length≠v.xs.length\/iQ v.ks=false)))->K (.bool false) w4:=λh=>hK false w4 (Iv (.inr (.inr (.inr h)))).symm (λe=>by cases e) hcw;obtain⟨m',rfl⟩:∃m',m=m'+1:=⟨m-1,by omega⟩;refine bU.cut (λs' w'=>s'=[]/\w'=w4/\(v.k=5/\v.ks=[]\/v.k=6/\v.ks.length=v.xs.length/\iQ v.ks=true)) ?_ ?_
  ·refine bU.cut (λs' w'=>s'=[.bool (decide (v.k=0\/v.k=1\/v.k=2))]/\w'=w4) ?_ ?_
   ·rw[aM];refine⟨λh=>?_,λh=>?_⟩
    ·rw[bF h,bF (.inl h)];exact⟨rfl,rfl⟩
    ·rw[aM];refine⟨λh1=>?_,λh1=>?_⟩
     ·rw[bF h1,bF (.inr (.inl h1))];exact⟨rfl,rfl⟩
     ·rw[show decide (v.k=2)=decide (v.k=0\/v.k=1\/v.k=2)by rw[decide_eq_decide];omega];exact⟨rfl,rfl⟩
   rintro s' g w5 ⟨rfl,rfl⟩;simp only[wsv,wsg,wsh,wsl,aO,aN,aE,fE,Nat.reduceAdd,Nat.reduceLT,aG,aB,aK,aI,bT,reduceCtorEq,wsh,hb4,lx,lk,aM];refine⟨λh012=>?_,λh012=>?_⟩
   ·intro g5;have:=flat w5 (Chg.refl _ _) (by omega) (by omega);unfold DI flatK at this;rw[aD (by omega),aD (by omega)]at this;rw[Dn f1 f2];exact this
   refine⟨λh3=>?_,λh3=>?_⟩
   ·refine lT f3 λw6 hx6=>?_;have hb6:=hx6.at hb4 id;have:=flat w6 hx6 (by omega) (by omega);unfold DI flatK at this;rw[aH h3]at this;simp only[wsv,wsg,wsh,wsl,aO,aN,aE,fE,Nat.reduceAdd,Nat.reduceLT,aG,aB,aK,aI,bT,reduceCtorEq,wsh,hb6,lx,lk];intro g6;rw[Dn f1 f2];exact this
   refine⟨λh4=>?_,λh4=>?_⟩
   ·intro g6;have:=flat w5 (Chg.refl _ _) (by omega) (by omega);unfold DI flatK at this;rw[aD h3,aH h4]at this;rw[Dn f1 f2];rw[show decide ((v.t.length:Int)<=16384)=decide (v.t.length<=16384)by rw[decide_eq_decide];omega];exact this
   refine⟨λh5=>?_,λh5=>?_⟩
   ·refine⟨λhk=>no (.inr (.inr (.inl ⟨h5,λe=>by rw[e]at hk;simp at hk⟩))),λhk=>.inl ⟨h5,bI (by omega)⟩⟩
   refine⟨λh6=>?_,λh6=>no (by omega)⟩;refine⟨λhne=>no (.inr (.inr (.inr ⟨h6,.inl (by omega)⟩))),λheq=>?_⟩;refine oI v.ks.length (λi w'=>w'=w5/\(∀j a,j<i->v.ks[j]?=some a->a.length<=16384)/\(∀j a b,j+1<i->v.ks[j]?=some a->v.ks[j+1]?=some b->Op.bytesLess a b=true)) ⟨rfl,λj a h=>by omega,λj a b h=>by omega⟩ ?_ ?_
   ·rintro i w6 g6 L6 hi ⟨rfl,hl,hs⟩ hL;obtain⟨u,hu⟩:∃u,v.ks[i]?=some u:=⟨_,List.getElem?_eq_getElem hi⟩;have hlt:((i:Int)<(v.ks.length:Int)):=by omega
    simp only[wsv,wsg,wsh,wsl,aO,aN,aE,fE,Nat.reduceAdd,Nat.reduceLT,aG,aB,aK,aI,bT,reduceCtorEq,hlt];refine pG hks4 hu ?_;have hnext:u.length<=16384->(∀x,0<i->v.ks[i-1]?=some x->Op.bytesLess x u=true)->L6 [i64 ((i+1:Nat):Int)] w6:=λh1 h2=>by
     refine hL _ ⟨rfl,λj a hj ha=>?_,λj a b hj ha hb=>?_⟩
     ·rcases dK j i with h|h
      ·exact hl j a h ha
      ·obtain rfl:j=i:=by omega
       rw[hu]at ha;cases ha;exact h1
     ·rcases dK (j+1) i with h|h
      ·exact hs j a b h ha hb
      ·obtain rfl:i=j+1:=by omega
       rw[hu]at hb;cases hb;exact h2 a (by omega) (by simpa using ha)
    by_cases hlong:16384<u.length
    ·have e:decide ((16384:Int)<(u.length:Int))=true:=bF (by omega);simp only[wsv,wsg,wsh,wsl,aO,aN,aE,fE,Nat.reduceAdd,Nat.reduceLT,aG,aB,aK,aI,bT,reduceCtorEq,e];intros;exact no (.inr (.inr (.inr ⟨h6,.inr (Io hu hlong)⟩)))
    ·have e:decide ((16384:Int)<(u.length:Int))=false:=bZ (by omega);by_cases h0:i=0
     ·subst h0;have e0:decide ((0:Int)<((0:Nat):Int))=false:=by decide
      simp only[wsv,wsg,wsh,wsl,aO,aN,aE,fE,Nat.reduceAdd,Nat.reduceLT,aG,aB,aK,aI,bT,reduceCtorEq,e,e0];rw[up1 (by omega)];intros;exact hnext (by omega) λx h=>by omega
     ·obtain⟨j,rfl⟩:∃j,i=j+1:=⟨i-1,by omega⟩;obtain⟨x,hxj⟩:∃x,v.ks[j]?=some x:=⟨_,List.getElem?_eq_getElem (by omega)⟩;have e0:decide ((0:Int)<((j+1:Nat):Int))=true:=bF (by omega);have hw:IntKind.i64.wrap (((j+1:Nat):Int)-1)=((j:Nat):Int):=by rw[cK (by omega) (by omega)];omega
      simp only[wsv,wsg,wsh,wsl,aO,aN,aE,fE,Nat.reduceAdd,Nat.reduceLT,aG,aB,aK,aI,bT,reduceCtorEq,e,e0,hw];intro g7;refine GdW.look (!Op.bytesLess x u) (λ_ J hJ=>?_) λg8=>?_
      ·rw[hb4];refine⟨kv,rfl,?_⟩;refine pG hks4 hxj ?_;rw[Md];exact hJ
      intro g9;simp only[aF,aO];rw[bS];refine⟨λhge=>no (.inr (.inr (.inr ⟨h6,.inr (Ki hxj hu (by simpa using hge))⟩))),λhlt2=>?_⟩;rw[up1 (by omega)];exact hnext (by omega) λy _ hy=>by
       have:v.ks[j]?=some y:=by simpa using hy
       rw[hxj]at this;cases this;simpa using hlt2
   ·rintro w6 g6 L6 ⟨rfl,hl,hs⟩;have hkeys:iQ v.ks=true:=MY (λi a h=>hl i a (List.getElem?_eq_some_iff.1 h).1 h) (λi a b h1 h2=>hs i a b (List.getElem?_eq_some_iff.1 h2).1 h1 h2);simp only[wsv,wsg,wsh,wsl,aO,aN,aE,fE,Nat.reduceAdd,Nat.reduceLT,aG,aB,aK,aI,bT,reduceCtorEq,gJ];exact .inr ⟨h6,by omega,hkeys⟩
  ·rintro s' g w5 ⟨rfl,rfl,hk⟩;simp only[wsv,wsg,wsh,wsl,aO,aN,aE,fE,Nat.reduceAdd,Nat.reduceLT,aG,aB,aK,aI,bT,reduceCtorEq,wsh,hb4];refine GdW.act (tD v.xs m' (left-1)) (λw'=>Chg (λk=>k=p) w5 w'/\(decide (v.t=[])=true->tD v.xs m' (left-1)=true->w'.heap[p]?=some (.cells [i64 (left-1-lO v.xs)].toArray 3 (0,0)))) (λe=>⟨Chg.refl _ _,λe'=>by rw[e]at e';cases e'⟩) ?_ ?_
   ·intro ht J hJ;refine He ?_;unfold Wa;refine Hd ?_;unfold VD;rw[lx];refine oI v.xs.length (λi w'=>Chg (λk=>k=p) w5 w'/\w'.heap[p]?=some (.cells [i64 (left-1-sI v.xs i)].toArray 3 (0,0))/\(∀j x,j<i->v.xs[j]?=some x->oR x m' (left-1-sI v.xs j)=true)/\SlAt w' Ti sv v.xs.length L/\gI w' v.xs L/\(sI v.xs i:Int)<=left-1) ⟨Chg.refl _ _,by simpa[sI]using hp4,λj x h=>by omega,hit4,hreps4,by simp[sI];omega⟩ ?_ ?_
    ·rintro i w6 g6 L6 hi ⟨hc6,hp6,hall,hit6,hreps6,hcs6⟩ hL;obtain⟨x,hxi⟩:∃x,v.xs[i]?=some x:=⟨_,List.getElem?_eq_getElem hi⟩;have hlt:((i:Int)<(v.xs.length:Int)):=by omega
     simp only[wsv,wsg,wsh,wsl,aO,aN,aE,fE,Nat.reduceAdd,Nat.reduceLT,aG,aB,aK,aI,bT,reduceCtorEq,hlt];refine GK hit6 hreps6 hxi λcs6 hr6=>?_;refine NC (caps:=[.pointer (some ⟨d,0,none⟩),.pointer (some ⟨q,0,none⟩)]) ?_;refine VN ?_;unfold aCq;refine jV hr6 λb7 w7 sv7 kv7 hB7 hx7 hb7=>?_;refine hB7.ld λcs7 hr7=>?_;have hd6:=hc6.at hd4 (by omega);have hq6:=hc6.at hq4 (by omega);have hd7:=hx7.at hd6 id;have hq7:=hx7.at hq6 id;have hp7:=hx7.at hp6 id;have hw:IntKind.i64.wrap (((m'+1:Nat):Int)-1)=((m':Nat):Int):=by rw[cK (by omega) (by omega)];omega
     simp only[wsv,wsg,wsh,wsl,aO,aN,aE,fE,Nat.reduceAdd,Nat.reduceLT,aG,aB,aK,aI,bT,reduceCtorEq,wsh,hd7,hq7,hw];refine ih x (bK hxi) hr7 hp7 (by omega) (by omega) (by omega) λr w8 hr8 hp8 hc8=>?_;simp only[wsv,wsg,wsh,wsl,aO,aN,aE,fE,Nat.reduceAdd,Nat.reduceLT,aG,aB,aK,aI,bT,reduceCtorEq,bS];have hc68:Chg (λk=>k=p) w6 w8:=(Chg.of_ext hx7).trans hc8;have hc58:=hc6.trans hc68;refine⟨λhbad=>?_,λhgood=>?_⟩
     ·have hrf:r=false:=by simpa using hbad
      rw[bF (show(0:Int)<=(i:Int)by omega)];have:=Kk hxi (show oR x m' (left-1-sI v.xs i)=false by rw[<-hr8];exact hrf);rw[this]at hJ;exact hJ w8 ⟨hc58,λ_ e=>by cases e⟩
     ·have hrt:r=true:=by simpa using hgood
      have hg:=hr8;rw[hrt]at hg;have hcx:(mP x:Int)<=left-1-sI v.xs i:=by
       unfold oR at hg;have:=hg.symm;simp only[aJ,bB]at this;exact this.2
      rw[up1 (by omega)];refine hL w8 ⟨hc58,?_,?_,?_,?_,?_⟩
      ·rw[sI,Bm hxi];have e:left-1-((sI v.xs i:Nat):Int)-((mP x:Nat):Int)=left-1-((sI v.xs i+mP x:Nat):Int):=by omega
       rw[hp8 hrt,e]
      ·intro j y hj hy;rcases dK j i with h|h
       ·exact hall j y h hy
       ·obtain rfl:j=i:=by omega
        rw[hxi]at hy;cases hy;exact hg.symm
      ·exact(hit6.ext hx7).keep1 hp7 hc8 λhn=>.inr (by
        have:=hreps.len;have hl:0<L.length:=dF.2 hn;omega)
      ·exact sP hp7 hc8 (hreps6.ext hx7)
      ·rw[sI,Bm hxi];omega
    ·rintro w6 g6 L6 ⟨hc6,hp6,hall,hit6,hreps6,hcs6⟩;simp only[wsv,wsg,wsh,wsl,aO,aN,aE,fE,Nat.reduceAdd,Nat.reduceLT,aG,aB,aK,aI,bT,reduceCtorEq,gJ];rw[<-Qj]at hp6 hcs6;have:=Ir (λi x h=>hall i x (List.getElem?_eq_some_iff.1 h).1 h) hcs6;have hj:=hJ w6 ⟨hc6,λ_ _=>hp6⟩;rw[this]at hj;exact hj
   ·rintro g6 w6 ⟨hc6,hp6⟩;simp only[wsv,wsg,wsh,wsl,aO,aN,aE,fE,Nat.reduceAdd,Nat.reduceLT,aG,aB,aK,aI,bT,reduceCtorEq];refine hK _ w6 (Ks hbk hk).symm (λhr=>?_) (hcw.trans hc6);simp only[aJ,bB]at hr;rw[hp6 (bF hr.1) hr.2];have:mP v=1+lO v.xs:=by cases v;simp only[mP,JV.xs]
    have e:left-1-((lO v.xs:Nat):Int)=left-((1+lO v.xs:Nat):Int):=by omega
    rw[this,e]
end
end
section
open Go Go.Eng Go.RowKit
variable{w:World}{K:Q0}{cs:List Value}{G:Nat->Prop}{T:TypeId}{i:Nat}{n:Nat}{v:Value}{w':World}{P:Program}{c:UInt8}{S:Nat->Prop}
theorem JH(xs:List JV){n:Int}(h:2000<n):kO xs n=n:=by
 cases xs with
 |nil=>rfl
 |cons x xs=>simp only[kO];rw[aD (by omega)]
theorem Oj:∀(m:Nat),m<=24->∀(v:JV),oL v m=true->(pJ v<=2000->pJ v=mP v)/\((mP v:Int)<=2000->pJ v=mP v):=by
 intro m;induction m with
 |zero=>intro _ v h;rw[rW]at h;cases h
 |succ m ih=>
  intro hm v h;rw[kR,mD,bN]at h;have lst:∀(xs:List JV),(∀x∈xs,oL x m=true)->∀n:Int,1<=n->(kO xs n<=2000->kO xs n=n+lO xs)/\(n+(lO xs:Int)<=2000->kO xs n=n+lO xs):=by
   intro xs;induction xs with
   |nil=>intro _ n _;simp[kO,lO]
   |cons x xs ihx=>
    intro hx n hn;have hxd:=hx x bC;obtain⟨b1,b2⟩:=yR m (by omega) x hxd;obtain⟨c1,c2⟩:=ih (by omega) x hxd;have hc:=LW x;simp only[kO,lO];by_cases h2:n<=2000
    ·rw[aH h2,cK (by omega) (by omega)];obtain⟨d1,d2⟩:=ihx (λy hy=>hx y (aS _ hy)) (n+pJ x) (by omega);constructor
     ·intro hs;have hy:n+pJ x<=2000:=by
       apply eK;intro hno;rw[JH xs (by omega)]at hs;omega
      have e:=c1 (by omega);rw[d1 hs,e];omega
     ·intro hs;have e:=c2 (by omega);rw[d2 (by omega),e];omega
    ·rw[aD h2];constructor
     ·intro hs;omega
     ·intro hs;omega
  obtain⟨d1,d2⟩:=lst v.xs h 1 (by omega);have hc:mP v=1+lO v.xs:=by cases v;simp only[mP,JV.xs]
  rw[uA,hc];constructor
  ·intro hs;rw[d1 hs];omega
  ·intro hs;rw[d2 (by omega)];omega
theorem Uf(v:JV):oR v 24 2000=dL v:=by
 unfold oR dL;cases hd:oL v 24 with
 |false=>simp
 |true=>
  obtain⟨c1,c2⟩:=Oj 24 (aU _) v hd;have:decide ((mP v:Int)<=2000)=decide (pJ v<=2000):=by
   rw[decide_eq_decide];constructor
   ·intro h;rw[c2 h];exact h
   ·intro h;rw[<-c1 h];exact h
  rw[this];cases decide (pJ v<=2000)<;>cases oD v<;>rfl
theorem Bld.isb{B b:Nat}{l:Str}(h:Bld w B b l):Lib.IsBuilderF BdT U8 B b (Lib.byteCells l) w:=by
 obtain⟨p,v,h1,h2,h3,h4⟩:=h;have hO:w.ownsRow B U8 1 v (u8s l).length (u8s l):=by rw[oS];exact h3
 have:Lib.BuilderAt BdT U8 B b p (u8s l) w:=⟨h4,v,h1,hO,λe=>Jh h1 (h3.block b e)⟩;rcases h2 with rfl|rfl
 ·exact .inl (Lib.BuilderAtF.of this)
 ·exact .inr (Lib.BuilderAtF.of this)
section
variable [HX]
theorem Gi{v:JV}{K:Q0}(h:fV w v cs)(hK:∀w',Ext w w'->K (.bool (dL v)) w'):aC P0 61 [.agg cs.toArray] w K:=by
 refine ZW ?_;unfold W61;refine jV h λa w1 sv kv hB hx1 ha=>?_;refine bG λp w2 hp hz2 hb2 hx2=>?_;refine iT (off:=0) hb2 rfl (by simp) λw3 hz3 hb3 hc3=>?_;have hx3:Ext w1 w3:=hx2.new hc3 (by omega);have hp3:w3.heap[p]?=some (.cells [i64 2000].toArray 3 (0,0)):=by rw[hb3];rfl
 refine(hB.ext hx3).ld λcs2 h2=>?_;refine YW v h2 hp3 (m:=24) (by omega) (by omega) (by omega) λr w4 hr _ hc4=>?_;rw[hr,Uf];have s1:=hx1.size;exact hK w4 ((hx1.trans hx3).then hc4 λk hk e=>by omega)
end
end
section
open Go Go.Eng Go.Num Go.RowKit
variable{w:World}{K:Q0}{cs:List Value}{G:Nat->Prop}{T:TypeId}{i:Nat}{n:Nat}{v:Value}{w':World}{P:Program}{c:UInt8}{S:Nat->Prop}
theorem Qe{d:Str}(h:(c::d).all Num.isDig=true)(h48:c≠48):1<=Num.dec (c::d):=by
 rw[Num.dec_cons];simp only[fK,aJ]at h;have hc:=h.1;simp only[Num.isDig,aJ,bB]at hc;have:c.toNat≠48:=λe=>h48 (by apply iR.1;exact e);have hv:1<=Num.dval c:=by unfold Num.dval;omega
 have:=Bt (n:=d.length) (show 0<10 by omega);have:=yB hv this;omega
section
variable [HX]
theorem aBf{v:JV}{k:Str}{K:Q0}(h:fV w v cs)(k6:v.k=6)(hl:v.ks.length=v.xs.length)(hfew:Ao v=true)(hr:Wu v.ks)
  (hK:∀cs' w',Ext w w'->cO (yD w.heap.size) w' ((Eg v k).getD JV.null) cs'->K (.tuple #[.agg cs'.toArray,.bool (Eg v k).isSome]) w'):aC P0 120 [.agg cs.toArray,str k] w K:=by
 have hfew2:=hfew;rw[An,Ap]at hfew2;simp only[aJ,bB,bN]at hfew2;obtain⟨⟨f1,f2⟩,f3⟩:=hfew2;refine Wd ?_;unfold aCE;refine jV h λa w1 sv kv hB hx _=>?_;refine bG λb w2 hb hz2 hbb hx2=>?_;have hB0:=hB;have hB:=hB.ext hx2;have hgb:w1.heap.size<=b:=by omega
 have s1:=hx.size;simp only[wsv,wsg,wsh,wsl,aO,aN,aE,fE,Nat.reduceAdd,Nat.reduceLT,aG,aB,aK,aI,bT,reduceCtorEq,wsh,hB.hb];obtain⟨T2,hk2⟩:=hB.keys;refine Ot hk2 f2 hr λi hi0 _ _ hile=>?_;have e6:decide (v.k=6)=true:=bF k6;cases hx0:wP v.ks k with
 |none=>
  have hg:Eg v k=none:=by unfold Eg;rw[aH k6,hx0]
  rw[hg]at hK;simp only[Option.isSome_none];simp only[wsv,wsg,wsh,wsl,aO,aN,aE,fE,Nat.reduceAdd,Nat.reduceLT,aG,aB,aK,aI,bT,reduceCtorEq,wsh,hB.hb,e6];intros
  (try simp only[wsv,wsg,wsh,wsl,aO,aN,aE,fE,Nat.reduceAdd,Nat.reduceLT,aG,aB,aK,aI,bT,reduceCtorEq,wsh,hB.hb,e6])
  exact HD (w0:=w) (K:=λr w=>K (.tuple #[r,.bool false]) w) hbb rfl (by omega) (hx.trans hx2) (iJ (k:=0) (b:=false) (t:=[]) (by simp)) λw4 hx4 h4=>hK _ w4 hx4 h4
 |some j=>
  obtain rfl:j=i:=by
   rcases hi0 with h|h
   ·rw[h]at hx0;cases hx0
   ·rw[h]at hx0;exact(fO hx0).symm
  obtain⟨x,hxi⟩:∃x,v.xs[j]?=some x:=⟨_,List.getElem?_eq_getElem (by
   have:=(List.getElem?_eq_some_iff.1 (xP hx0)).1;omega)⟩
  have hg:Eg v k=some x:=by unfold Eg;rw[aH k6,hx0];exact hxi
  rw[hg]at hK;simp only[Option.isSome_some];simp only[wsv,wsg,wsh,wsl,aO,aN,aE,fE,Nat.reduceAdd,Nat.reduceLT,aG,aB,aK,aI,bT,reduceCtorEq,wsh,hB.hb,e6];intros
  (try simp only[wsv,wsg,wsh,wsl,aO,aN,aE,fE,Nat.reduceAdd,Nat.reduceLT,aG,aB,aK,aI,bT,reduceCtorEq,wsh,hB.hb,e6])
  refine hB0.item_old hx2 hxi λcs2 h2=>?_;refine LY x (f3 x (bK hxi)) (h2.ext hx2) λcs3 w3 hx3 h3=>?_;exact HD (w0:=w) (K:=λr w=>K (.tuple #[r,.bool true]) w) (hx3.at hbb id) rfl (by omega) (hx.trans (hx2.trans hx3)) (h3.at (by have:=eW hbb;omega) (by omega)) λw4 hx4 h4=>hK _ w4 hx4 h4
theorem Xi{x:JV}{sv:Value}{K:Q0}(hT:sD w)(h:dU w sv [x])(hg:goodN x.t=true)(hK:DoK (yW x.t) w K):aC P0 173 [sv] w K:=by
 have hgl:=Al hg;refine VB ?_;unfold aCg;refine bG λb w1 hb hz1 hbb hx1=>?_;refine(h.ext hx1).ft (i:=0) rfl rfl λ_=>?_;refine HW (hT.ext hx1) (by omega) λw2 hx2=>?_;simp only[bJ];refine⟨_,rfl,_,rfl,?_⟩;have hbb2:=hx2.at hbb id;have hx02:=hx1.trans hx2;simp only[eD,kL,dW,kS,mY,aF,eR];intro _ _;have hin:(rP x.t).isSome=true/\0<=(rP x.t).getD 0/\(rP x.t).getD 0<=32↔neg x.t=false/\dec x.t<=32:=by
  cases hn:neg x.t with
  |false=>
   rw[Lx hg hn];by_cases hd:dec x.t<=9223372036854775807
   ·rw[aH hd];simp;omega
   ·rw[aD hd];simp;omega
  |true=>
   simp only[Bool.true_eq_false,false_and,iff_false];rintro⟨h1,h2,_⟩;obtain⟨hs,hne,ha⟩:=vC hg;obtain⟨g1,g2,g3,g4⟩:=iE hg;have h45:x.t=45::dig x.t:=by
    rcases hs with⟨e,_⟩|⟨_,e⟩
    ·exact e
    ·rw[hn]at e;cases e
   have hpos:1<=dec (dig x.t):=by
    cases hd:dig x.t with
    |nil=>exact absurd hd hne
    |cons c d=>
     rw[hd]at ha g3;refine Qe ha λe=>?_;subst e;have:=g3 rfl;rw[h45]at this;cases this
   have hnum:num x.t=-(dec (dig x.t):Int):=by unfold num;rw[hn];rfl
   have:rP x.t=some (num x.t):=by
    unfold rP at h1⊢;split at h1
    ·rename_i hc;rw[aH hc]
    ·cases h1
   rw[this]at h2;simp only[Az]at h2;omega
 rw[bS];refine⟨λhbad=>?_,λhok=>?_⟩
 ·refine LQ ?_ hbb2 rfl (by omega) hx02 hK;unfold yW;rw[aH];cases hn:neg x.t with
  |true=>rfl
  |false=>
   simp only[lQ,bB];refine eK λhd=>?_;obtain⟨a1,a2,a3⟩:=hin.2 ⟨hn,by omega⟩;rw[a1,bZ (by omega),bZ (by omega)]at hbad;cases hbad
 ·simp only[jE,Bool.not_eq_false',decide_eq_false_iff_not]at hok;obtain⟨hn,hd⟩:=hin.1 ⟨hok.1.1,by omega,by omega⟩;have hI:rP x.t=some (dec x.t:Int):=by rw[Lx hg hn,aH (by omega)]
  have hS:yW x.t=some (lV ((List.range (dec x.t)).map λi:Nat=>iV (i:Int))):=by
   unfold yW;rw[aD];rw[hn];simp;omega
  rw[hS]at hK;rw[hI];simp only[Az];generalize hN:dec x.t=N at*
  simp only[dA,dZ,cU,aA,aL,aW,aZ];refine⟨by omega,?_⟩;refine bG λp w11 hp hz11 hbp hx11=>?_;refine cG (l:=flat 5 false []) hbp rfl rfl rfl λw12 hz12 hbp12 hc12=>?_;have s1:=hx1.size;have s2:=hx2.size;have hlb2:=eW hbb2;have hbb12:=hc12.at (hx11.at hbb2 id) λe=>by have:b=p:=e;omega
  have hx012:Ext w w12:=(hx02.trans hx11).new hc12 (by omega);have hT12:=hT.ext hx012;refine cZ.go (λst w'=>∃(i:Nat) (r:Value) (L:List Value),st=[i64 (i:Nat)]/\i<=N/\Ext w w'/\w'.heap[b]?=w12.heap[b]?/\w'.heap[p]?=some (.cells [i64 5,.bool false,str [],r,.slice none 0 0].toArray VT (0,0))/\w12.heap.size<=w'.heap.size/\
    Own w' w12.heap.size VT 5 r i L/\dB (λ_=>False) w' ((List.range i).map λi:Nat=>iV (i:Int)) L)
   (λst _=>match st with|[.int _ i]=>N-i.toNat|_=>0)
   ⟨0,.slice none 0 0,[],rfl,fW _,hx012,rfl,hbp12,aU _,⟨rfl,.inl ⟨rfl,rfl⟩⟩,by simp[dB]⟩ ?_
  rintro st g w5 ⟨i,r,L,rfl,hi,hx5,hb5,hp5,hz5,hO,hR⟩;simp only[aF];rw[dW,aM];refine⟨λhlt=>?_,λhge=>?_⟩
  ·have hlt:i<N:=by omega
   have hxd:Ext w5 w5.drew:=Chg.drew (Chg.refl (λ_=>False) w5);rw[bP,bY,dM];refine⟨r,by rw[cC,hxd.at hp5 id];rfl,?_⟩;have hil:(Lib.itoa (i:Int)).length<=9223372036854775807:=cH (AY (by omega) (by omega)) (by decide);refine Pz (hT.ext (hx5.trans hxd)) (by omega) (by omega) λw7 hx7=>?_;have hx57:=hxd.trans hx7;refine⟨by rw[dM];exact⟨r,by rw[cC,hx57.at hp5 id];rfl,rfl⟩,?_⟩;refine EO rfl λt w8 ht hx8=>?_;have hx58:=hx57.trans hx8;refine⟨by rw[dM];exact⟨r,by rw[cC,hx58.at hp5 id];rfl,rfl⟩,?_⟩;have s58:=hx58.size;refine jG KB (hO.ext hx58) ht (m:=1) rfl (iJ (G:=λ_=>False) (w:=w) hil).rep.one (by omega) (by omega) (by omega) λv' w9 h9 hc9 hb9=>?_;have hp9:=hc9.at (hx58.at hp5 id) λe=>by have:=(uW hO e).1;have:=eW hbp12;omega
   have h9one:=Lj h9;refine iT hp9 h9one (by simp) λw10 hz10 hb10 hc10=>?_;rw[cA,up1 (by omega)];have hlb:b<w12.heap.size:=eW hbb12;have hlp:p<w12.heap.size:=eW hbp12;refine⟨⟨i+1,v',L++flat 3 false (Lib.itoa (i:Int)),rfl,hlt,?_,?_,by rw[hb10];simp,by have:=hc9.size;omega,?_,?_⟩,by simp only[aV];omega⟩
   ·exact((hx5.trans hx58).then hc9 λk hk e=>by have:=(uW hO e).1;have:=hx012.size;omega).new hc10 (show w.heap.size<=p by omega)
   ·rw[hc10.heap b (by have:=hc9.size;omega) (λe=>by have:b=p:=e;omega),hc9.heap b (by omega) (λe=>by have:=(uW hO e).1;omega),hx58.heap b (by omega) id,hb5]
   ·exact Aa h9 hc10 λq hq e=>by
     subst e;have:=(uW h9 hq).1;omega
   ·rw[List.range_succ,pY];have h1:dB (λ_=>False) w10 ((List.range i).map λi:Nat=>iV (i:Int)) L:=dB.chg hc10 (λ_ f=>f.elim) (dB.chg hc9 (λ_ f=>f.elim) (dB.chg hx58 (λ_ f=>f.elim) hR));exact h1.snoc (iJ hil)
  ·obtain rfl:i=N:=by omega
   have hml:((List.range i).map λi:Nat=>iV (i:Int)).length=i:=by simp
   have hV:cO (yD w12.heap.size) w5 (lV ((List.range i).map λi:Nat=>iV (i:Int))) [i64 5,.bool false,str [],r,.slice none 0 0]:=
    cO.mk (v:=lV ((List.range i).map λi:Nat=>iV (i:Int))) (by show SlAt w5 VT r ((List.range i).map λi:Nat=>iV (i:Int)).length L;rw[hml];exact hO.sl) (hR.mono λ_ _ f=>f.elim) (SlAt.nil w5 0) ⟨by show((List.range i).map λi:Nat=>iV (i:Int)).length<=_;rw[hml];omega,by simp[JV.ks],by simp[JV.t],by simp[JV.ks]⟩ (λ_ k hk=>(tN hO hk).1) (λh=>by simp[JV.ks]at h)
   refine bX hp5 rfl ?_;have hlb:b<w12.heap.size:=eW hbb12;exact GU rfl (by rw[hb5];exact hbb12) rfl (by omega) hx5 (hV.at hlb hx012.size) hK
end
section
variable [HX]
theorem dU.at_old{w0:World}{sv:Value}{xs:List JV}{k:IntKind}{x:JV}{K:Value->Prop}(h:dU w0 sv xs)(hx:Ext w0 w)(hi:xs[i]?=some x)(hK:∀cs,fV w0 x cs->K (.agg cs.toArray)):dV none 5 sv (.int k i) λp=>ldW true 5 p w K:=by
 obtain⟨T,L,h1,h2⟩:=h.it;obtain⟨cs,hc,hg⟩:=h2.get hi;refine tO (size:=5) (h1.ext hx) h2.len (by omega) (List.getElem?_eq_some_iff.1 hi).1 λb o c fr hb hcc=>?_;exact Af hb hc.len (λj hj=>(hcc j hj).trans (hg j hj)) (hK cs hc)
def GA(a:List JV):List (Str×JV):=(a.map λx=>x.ks.zip x.xs).flatten
end
section
variable [HX]
theorem aAX(l:Str):∀n,Lib.repeatL l n=(List.replicate n l).flatten
 |0=>rfl
 |n+1=>by rw[Lib.repeatL,aAX l n,Cz,List.flatten_cons]
theorem HF{s:Str}{K:Q0}(hs:s.length<=1000)(hn:n<=1000000)(hK:∀w',Ext w w'->K (str (List.replicate n s).flatten) w'):aC P0 183 [str s,i64 (n:Nat)] w K:=by
 refine gF (args:=#[str s,i64 (n:Nat)]) Tryz.call183 ((Tryz.strings_Repeat (ofL s) n w (by omega) (by rw[eV];exact cH (yB hs hn) (by decide))).mono ?_);rintro e w' ⟨rfl,hb⟩;rw[eG,aAX];exact⟨_,rfl,hK _ (Chg.of_below hb)⟩
theorem Qg{s t:Str}{K:Q0}(hs:s.length<=1000000)(hK:K (.tuple #[str (Lib.trimSuffix s t),.bool (Lib.hasSuffix s t)]) w):aC P0 182 [str s,str t] w K:=by
 refine gF (args:=#[str s,str t]) Tryz.call182 ((Tryz.strings_CutSuffix (ofL s) (ofL t) w (by rw[eV];omega)).mono ?_);rintro e w' ⟨rfl,rfl⟩;rw[eG,eG];exact⟨_,rfl,hK⟩
theorem Uj{K:Q0}(hK:K (i64 (mK c)) w):aC P0 184 [.int .u8 (c.toNat:Nat)] w K:=by
 refine VA ?_;unfold aCf;have hd:∀n:Nat,n<256->decide (((c.toNat:Nat):Int)=(n:Int))=decide (c=UInt8.ofNat n):=λn hn=>by
  by_cases e:c=UInt8.ofNat n
  ·have:c.toNat=n:=by rw[e,iW];omega
   rw[bF e,bF (by omega)]
  ·rw[bZ e,bZ];intro h;apply e;apply iR.1;rw[iW];omega
 have d1:decide (((c.toNat:Nat):Int)=110)=decide (c=110):=hd 110 (by omega);have d2:decide (((c.toNat:Nat):Int)=115)=decide (c=115):=hd 115 (by omega);have d3:decide (((c.toNat:Nat):Int)=108)=decide (c=108):=hd 108 (by omega);have d4:decide (((c.toNat:Nat):Int)=111)=decide (c=111):=hd 111 (by omega);unfold mK at hK;rw[bL];rw[d1,aM];refine⟨λe=>?_,λe=>?_⟩
 ·rw[aH e]at hK;exact hK
 rw[aD e]at hK;rw[bL,d2,aM];refine⟨λe=>?_,λe=>?_⟩
 ·rw[aH e]at hK;exact hK
 rw[aD e]at hK;rw[bL,d3,aM];refine⟨λe=>?_,λe=>?_⟩
 ·rw[aH e]at hK;exact hK
 rw[aD e]at hK;rw[bL,d4,aM];refine⟨λe=>?_,λe=>?_⟩
 ·rw[aH e]at hK;exact hK
 rw[aD e]at hK;exact hK
abbrev FT:TypeId:=162
theorem uM{α:Type}{p:α->Bool}{l:List α}{x:α}(hi:l[i]?=some x):(l.take (i+1)).all p=((l.take i).all p&&p x):=by
 rw[eP,hi,Cg];simp
theorem Ze{f:FnM}{fv:Value}{a:List JV}{sv:Value}{K:Q0}(h:dU w sv a)(hf1:gH fv=true)(hm:Lib.hasSuffix f.takes [46]=Fp f.takes)(ht:Lib.trimSuffix f.takes [46]=if Fp f.takes then f.takes.dropLast else f.takes)(hfl:f.takes.length<=100)(hle:f.least<=100)
  (hl:a.length<=1000)(hK:∀w',Ext w w'->K (.bool (wQ f a)) w'):aC P0 128 [.agg [str f.takes,i64 (f.least:Nat),fv].toArray,sv] w K:=by
 refine VW ?_;unfold aCy;refine fS (z:=[str f.takes,i64 (f.least:Nat),fv]) λp w1 hp hz1 hbp hx1=>?_;rw[bP,bY,dM];refine⟨str f.takes,by rw[cC,hbp];rfl,?_⟩;refine Qg (by omega) ?_;simp only[bJ];refine⟨_,rfl,_,rfl,?_⟩;have hdl:f.takes.dropLast.length<=100:=by rw[List.length_dropLast];omega
 refine bU.cut (λst w'=>st=[str (vA f.takes a.length)]/\Ext w1 w') ?_ ?_
 ·rw[hm,ht,bS];refine⟨λhmany=>?_,λhmany=>?_⟩
  ·rw[hmany,aH rfl,h.len];refine HF (by omega) (by omega) λw4 hx4=>?_;refine⟨?_,hx4⟩;unfold vA;rw[aH hmany]
  ·refine⟨?_,Chg.refl _ _⟩;unfold vA;rw[hmany];simp
 rintro st g w5 ⟨rfl,hx5⟩;generalize hk:vA f.takes a.length=ks at*
 have hx05:=hx1.trans hx5;simp only[aF];rw[h.len,fH,fL];simp only[kL];have hkl:ks.length<=1000000:=by
  rw[<-hk];unfold vA;split
  ·rw[List.length_flatten];simp only[List.map_replicate,List.sum_replicate_nat];exact cH (yB hl hdl) (by decide)
  ·omega
 have e1:decide ((a.length:Int)≠(ks.length:Int))=!decide (a.length=ks.length):=by
  by_cases e:a.length=ks.length
  ·rw[e];simp
  ·rw[bF (by omega),bZ e];rfl
 rw[e1];refine GdW.look (decide ((a.length:Int)<(f.least:Int))) (λ_ J hJ=>?_) λg=>?_
 ·rw[h.len,bP,bY,dM];refine⟨i64 (f.least:Nat),by rw[cC,hx5.at hbp id];rfl,?_⟩;rw[dW];exact hJ
 simp only[aF,eR];have hfit:wQ f a=(decide (a.length=ks.length)&&decide (f.least<=a.length)&&(a.zip ks).all λp=>decide (mK p.2<0)||decide (p.1.k=mK p.2)):=by unfold wQ;rw[hk]
 rw[hfit]at hK;rw[bS];refine⟨λhbad=>?_,λhok=>?_⟩
 ·have:(decide (a.length=ks.length)&&decide (f.least<=a.length))=false:=by
   cases h1:decide (a.length=ks.length)with
   |false=>rfl
   |true=>
    rw[h1]at hbad;simp only[jO,lQ,bB]at hbad;rw[iA,bZ (by omega)]
  rw[this]at hK;exact hK w5 hx05
 ·simp only[jE,Bool.not_eq_false',bB,decide_eq_false_iff_not]at hok;obtain⟨hlen,hle2⟩:=hok;have:(decide (a.length=ks.length)&&decide (f.least<=a.length))=true:=by rw[bF hlen,bF (by omega)];rfl
  rw[this,iA]at hK;rw[h.len];refine oI a.length (λi w'=>Ext w w'/\((a.zip ks).take i).all (λp=>decide (mK p.2<0)||decide (p.1.k=mK p.2))=true) ⟨hx05,by simp⟩ ?_ ?_
  ·rintro i w9 g L hi ⟨hx9,hall⟩ hL;obtain⟨x,hxi⟩:∃x,a[i]?=some x:=⟨_,List.getElem?_eq_getElem hi⟩;obtain⟨c,hci⟩:∃c,ks[i]?=some c:=⟨_,List.getElem?_eq_getElem (by omega)⟩;have hzi:(a.zip ks)[i]?=some (x,c):=by rw[List.getElem?_zip_eq_some];exact⟨hxi,hci⟩
   have hltI:(i:Int)<(a.length:Int):=by omega
   simp only[aF];rw[dW,bF hltI,dR];refine h.at_old hx9 hxi λds hds=>?_;refine Ar (hds.ext hx9) λq w11 sq kq hQ hx11=>?_;rw[GJ];refine⟨by omega,c,by rw[aV];exact hci,?_⟩;refine Uj ?_;rw[lM];simp only[gX];refine GdW.look (!decide (x.k=mK c)) (λ_ J hJ=>?_) λg=>?_
   ·simp only[wsv,wsg,wsh,wsl,aO,aN,aE,fE,Nat.reduceAdd,Nat.reduceLT,aG,aB,aK,aI,bT,reduceCtorEq,wsh,hQ.hb];have:decide (x.k≠mK c)=!decide (x.k=mK c):=by simp
    rw[this]at*
    exact hJ
   simp only[aF,eU];rw[bS];refine⟨λhbad=>?_,λhgood=>?_⟩
   ·simp only[aJ,bB,dO,decide_eq_false_iff_not]at hbad;have:(a.zip ks).all (λp=>decide (mK p.2<0)||decide (p.1.k=mK p.2))=false:=by
     rw[List.all_eq_false];refine⟨(x,c),bK hzi,?_⟩;simp only[cM,bB,not_or];exact⟨by omega,hbad.2⟩
    rw[this]at hK;exact hK w11 (hx9.trans hx11)
   ·rw[cA,up1 (by omega)];refine hL w11 ⟨hx9.trans hx11,?_⟩;rw[uM hzi,hall,iA];simp only[cM,bB];by_cases hneg:mK c<0
    ·exact .inl hneg
    ·right;rw[bF (show(0:Int)<=mK c by omega),iA]at hgood;simpa using hgood
  ·rintro w9 g L ⟨hx9,hall⟩;simp only[aF];rw[dW,bZ (gJ _),cX];have hzl:(a.zip ks).length=a.length:=by rw[List.length_zip];omega
   rw[<-hzl,bM]at hall;rw[hall]at hK;exact hK w9 hx9
end
def fnX:List (Str×FnM×FuncId):=[([97,98,115],PT,159),([99,111,110,99,97,116],FD,160),([99,111,110,116,97,105,110,115],BN,161),([106,111,105,110],LJ,162),([107,101,121,115],LI,163),([108,101,110,103,116,104],qV,165),([108,111,111,107,117,112],FC,166),([108,111,119,101,114],IC,167),([109,97,120],PQ,169),([109,101,114,103,101],IB,171),([109,105,110],PP,172),([114,97,110,103,101],rR,173),([114,101,118,101,114,115,101],DG,174),([115,112,108,105,116],IA,175),([115,117,98,115,116,114],FB,176),([116,111,105,110,116],Iz,177),([116,111,115,116,114,105,110,103],BM,178),([117,112,112,101,114],Iy,179),([118,97,108,117,101,115],FA,180)]
abbrev fnV(f:FnM)(g:FuncId):Value:=.agg [str f.takes,i64 (f.least:Nat),.func (.func g) #[] #[]].toArray
def fnP:List (Str×Value):=fnX.map λe=>(e.1,fnV e.2.1 e.2.2)
theorem Zb:fnT=fnX.map λe=>(e.1,e.2.1):=rfl
def tE:List (Str×FnM×FuncId)->Str->Option (FnM×FuncId)
 |[],_=>none
 |(a,v)::m,k=>if k=a then some v else tE m k
theorem LL(k:Str):∀l:List (Str×FnM×FuncId),rM (l.map λe=>(e.1,fnV e.2.1 e.2.2)) k=(tE l k).map λv=>fnV v.1 v.2
 |[]=>rfl
 |(a,v)::m=>by
  simp only[dT,rM,tE]
  split
  ·rfl
  ·exact LL k m
theorem LK(k:Str):∀l:List (Str×FnM×FuncId),BG (l.map λe=>(e.1,e.2.1)) k=(tE l k).map λv=>v.1
 |[]=>rfl
 |(a,v)::m=>by
  simp only[dT,BG,tE]
  split
  ·rfl
  ·exact LK k m
theorem FG{k:Str}{v:FnM×FuncId}:∀{l:List (Str×FnM×FuncId)},tE l k=some v->(k,v)∈l
 |[],h=>by cases h
 |(a,u)::m,h=>by
  simp only[tE]at h
  split at h
  ·rename_i e;subst e;cases h;exact bC
  ·exact aS _ (FG h)
section
variable [HX]
theorem aBx{K:Q0}(hK:∀b w',Ext w w'->Jq w' b fnP->K (.map (some b)) w'):aC P0 126 [] w K:=by
 refine VY ?_;unfold aCA;refine Ii (KT:=ST) (ET:=FT) (by kernel_rfl) (.inl rfl) λb w1 hb hz1 hm hx=>?_;have key:∀{m:List (Str×Value)} {w2:World} {k t:Str} {n:Int} {fv:Value} {K':World->Prop},Jq w2 b m->Ext w w2->rM m k=none->
   (∀w3,Jq w3 b (m++[(k,.agg [str t,i64 n,fv].toArray)])->Ext w w3->K' w3)->mR P0 (Instr.mapUpdate 164 (.map (some b)) (str k) (.agg [str t,i64 n,fv].toArray)) w2 K':=λ{m w2 k t n fv K'} hm hx hn hK'=>
  TK (KT:=ST) (ET:=FT) (by kernel_rfl) (by kernel_rfl) hm hn λw3 hz3 hm3 hc3=>hK' w3 hm3 (hx.new hc3 (by omega))
 have pf:∀(c:List Value) (i:Nat) (g:FuncId) (r:List (Nat×Nat×Value)) (K:List Value->Prop),dD c ((i,1,.func (.func g) #[] #[])::r) K↔i<c.length/\dD (c.set i (.func (.func g) #[] #[])) r K:=λc i g r K=>sV c i _ r K rfl;simp only[dZ,dA,pf,cU,aA,aL,aW,aZ];refine⟨by omega,by omega,by omega,?_⟩;refine key hm hx (by rfl) λw2 hm hx=>?_;refine⟨by omega,by omega,by omega,?_⟩;refine key hm hx (by rfl) λw3 hm hx=>?_;refine⟨by omega,by omega,by omega,?_⟩;refine key hm hx (by rfl) λw4 hm hx=>?_;refine⟨by omega,by omega,by omega,?_⟩;refine key hm hx (by rfl) λw5 hm hx=>?_;refine⟨by omega,by omega,by omega,?_⟩;refine key hm hx (by rfl) λw6 hm hx=>?_;refine⟨by omega,by omega,by omega,?_⟩;refine key hm hx (by rfl) λw7 hm hx=>?_;refine⟨by omega,by omega,by omega,?_⟩;refine key hm hx (by rfl) λw8 hm hx=>?_;refine⟨by omega,by omega,by omega,?_⟩;refine key hm hx (by rfl) λw9 hm hx=>?_;refine⟨by omega,by omega,by omega,?_⟩;refine key hm hx (by rfl) λw10 hm hx=>?_;refine⟨by omega,by omega,by omega,?_⟩;refine key hm hx (by rfl) λw11 hm hx=>?_;refine⟨by omega,by omega,by omega,?_⟩;refine key hm hx (by rfl) λw12 hm hx=>?_;refine⟨by omega,by omega,by omega,?_⟩;refine key hm hx (by rfl) λw13 hm hx=>?_;refine⟨by omega,by omega,by omega,?_⟩;refine key hm hx (by rfl) λw14 hm hx=>?_;refine⟨by omega,by omega,by omega,?_⟩;refine key hm hx (by rfl) λw15 hm hx=>?_;refine⟨by omega,by omega,by omega,?_⟩;refine key hm hx (by rfl) λw16 hm hx=>?_;refine⟨by omega,by omega,by omega,?_⟩;refine key hm hx (by rfl) λw17 hm hx=>?_;refine⟨by omega,by omega,by omega,?_⟩;refine key hm hx (by rfl) λw18 hm hx=>?_;refine⟨by omega,by omega,by omega,?_⟩;refine key hm hx (by rfl) λw19 hm hx=>?_;refine⟨by omega,by omega,by omega,?_⟩;refine key hm hx (by rfl) λw20 hm hx=>?_;exact hK b _ hx hm
end
theorem aBg{f:FnM}{a:List JV}(ht:f.takes=[c])(hc:c≠46)(h:wQ f a=true):∃x,a=[x]/\(mK c<0\/x.k=mK c):=by
 have hk:vA f.takes a.length=[c]:=by unfold vA Fp;rw[ht];simp[hc]
 unfold wQ at h;rw[hk]at h;simp only[aJ,bB,aA,aL]at h;obtain⟨⟨h1,_⟩,h3⟩:=h
 match a,h1 with
 |[x],_=>exact⟨x,rfl,by simpa using h3⟩
structure Xg(a:List JV):Prop where
 good:∀x∈a,dL x=true
 len:a.length<=60
 pairs:(GA a).length<=90000
theorem Kq{x:JV}(h:dL x=true):x.xs.length<=2000:=by
 simp only[dL,aJ,bB]at h;have hd:=h.1.2;have hs:=h.1.1;rw[show(24:Nat)=23+1 from rfl,kR,mD]at hd;rw[uA]at hs;have:=(uS (m:=23) (by omega) x.xs 1 hd (by omega) hs).1;omega
theorem WR{x:JV}(h:oD x=true)(k3:x.k=3):goodN x.t=true/\x.xs=[]/\x.ks=[]:=by
 rw[lG,aJ]at h;obtain⟨_,_,_,_,h5,h6,h7,_⟩:=lY h.1;refine⟨h7 k3,?_,?_⟩
 ·refine eK λe=>?_;have:x.xs.length≠0:=λh0=>e (bI h0);have:=h5 this;omega
 ·refine eK λe=>?_;have:=h6 e;omega
theorem kv:mK 110=3/\mK 115=4/\mK 108=5/\mK 111=6/\mK 118=-1:=by decide
section
variable [HX]
def QE(g:FuncId)(f:FnM):Prop:=∀{a:List JV} {sv:Value} {w:World} {K:Q0},sD w->dU w sv a->Xg a->wQ f a=true->DoK (f.act a) w K->aC P0 g [sv] w K
theorem aCS{x:JV}(h:dL x=true):x.t.length<=16384:=PH (rQ h).plain
theorem Nu:QE 165 qV:=by
 intro a sv w K hT h hF hfit hK;obtain⟨kn,ks,kl,ko,kvv⟩:=kv;obtain⟨x,rfl,h1⟩:=aBg (f:=qV) rfl (by decide) hfit;have:=aCS (hF.good x (by simp));exact Pn hT h (by omega) hK
theorem Qb:QE 173 rR:=by
 intro a sv w K hT h hF hfit hK;obtain⟨kn,ks,kl,ko,kvv⟩:=kv;obtain⟨x,rfl,h1⟩:=aBg (f:=rR) rfl (by decide) hfit;rw[kn]at h1;have:=WR (rQ (hF.good x (by simp))).plain (by omega);exact Xi hT h this.1 hK
theorem NY:∀e∈fnX,Lib.hasSuffix e.2.1.takes [46]=Fp e.2.1.takes/\Lib.trimSuffix e.2.1.takes [46]=(if Fp e.2.1.takes then e.2.1.takes.dropLast else e.2.1.takes)/\e.2.1.takes.length<=100/\e.2.1.least<=100:=by decide
theorem Ux{name:Str}(hall:∀f g,tE fnX name=some (f,g)->QE g f){a:List JV}{sv:Value}{K:Q0}(hT:sD w)(h:dU w sv a)(hl:a.length<=60)(hpr:(∀x∈a,dL x=true)->(GA a).length<=90000)
  (hK:∀cs w',Ext w w'->cO (yD w.heap.size) w' (pM name a).1 cs->K (.tuple #[.agg cs.toArray,i64 (pM name a).2]) w'):aC P0 94 [str name,sv] w K:=by
 refine Zw ?_;unfold W94;refine bG λb w1 hb hz1 hbb hx1=>?_;have s1:=hx1.size;have ends:∀{v:JV} {cs:List Value} {c:Int} {w':World},pM name a=(v,c)->Ext w1 w'->cO (λq=>w.heap.size<=q/\q≠b) w' v cs->
   stW 5 (.pointer (some ⟨b,0,none⟩)) (.agg cs.toArray) w' λw4=>ldW true 5 (.pointer (some ⟨b,0,none⟩)) w4 λr5=>K (.tuple #[r5,i64 c]) w4:=λ{v cs c w'} hc hx hv=>by
  rw[hc]at hK;exact HD (w0:=w) (K:=λr w=>K (.tuple #[r,i64 c]) w) (hx.at hbb id) rfl (by omega) (hx1.trans hx) hv λw'' hx'' h''=>hK _ w'' hx'' h''
 refine zG (p:=λx=> !dL x) (h.ext hx1) (λz hz {cs w3 K3} hx3 hcs hK3=>?_) λw2 hx2=>?_
 ·refine wX ?_;refine VZ ?_;unfold aCB;refine jV hcs λq w4 sv4 kv4 hB4 hx4 _=>?_;refine hB4.ld λcs4 hcs4=>?_;refine Gi hcs4 λw5 hx5=>?_;rw[eD];exact hK3 w5 (hx4.trans hx5)
 rw[bS];refine⟨λhbad=>?_,λhgood=>?_⟩
 ·rw[cU];exact ends (v:=JV.null) (cs:=flat 0 false []) (by unfold pM;rw[aH hbad]) hx2 (iJ (by simp))
 have hgd:∀x∈a,dL x=true:=λx hx=>by
  have:=nL.1 hgood x hx;simpa using this
 have hF:Xg a:=⟨hgd,hl,hpr hgd⟩;refine aBx λmb w6 hx6 hm=>?_;have hfP:=LL name fnX;have hfT:BG fnT name=(tE fnX name).map λv=>v.1:=by rw[Zb];exact LK name fnX
 have hcall:pM name a=(match BG fnT name with
  |none=>(JV.null,70)
  |some f=>
   if a.any (λx=> !iP x)then(uV,0)else
   if !wQ f a then(JV.null,71)else
   match f.act a with
   |none=>(JV.null,71)
   |some v=>if dL v then(v,0)else(JV.null,3)):=by
  unfold pM;rw[aD (by rw[hgood];simp)]<;>rfl
 have hx26:=hx2.trans hx6;refine TM (KT:=ST) (ET:=FT) (z:=.agg #[str [],i64 0,.nilFunc]) (by kernel_rfl) (by kernel_rfl) (by kernel_rfl) hm (λv hv=>?_) (λhno=>?_)
 rotate_left
 ·have hno:tE fnX name=none:=by
   have hno:rM (fnX.map λe=>(e.1,fnV e.2.1 e.2.2)) name=none:=hno;rw[hfP]at hno;cases hq:tE fnX name with
   |none=>rfl
   |some v=>rw[hq]at hno;cases hno
  rw[hfT,hno]at hcall;simp only[bJ];refine⟨_,rfl,_,rfl,?_⟩;refine bG λp w7 hp hz7 hbp hx7=>?_;refine cG (l:=[str [],i64 0,.nilFunc]) hbp rfl rfl rfl λw8 hz8 hbp8 hc8=>?_;have hx28:=hx26.trans (hx7.new hc8 (by omega));rw[eD,kK,dR,cU];exact ends (v:=JV.null) (cs:=flat 0 false []) hcall hx28 (iJ (by simp))
 obtain⟨e,he,hev⟩:∃e:FnM×FuncId,tE fnX name=some e/\v=fnV e.1 e.2:=by
  have hv:rM (fnX.map λe=>(e.1,fnV e.2.1 e.2.2)) name=some v:=hv;rw[hfP]at hv;cases hq:tE fnX name with
  |none=>rw[hq]at hv;cases hv
  |some u=>rw[hq]at hv;exact⟨u,rfl,(fO hv).symm⟩
 obtain⟨f,g⟩:=e;subst hev;have hmem:=FG he;have hdo:QE g f:=hall f g he;obtain⟨ht1,ht2,ht3,ht4⟩:=NY _ hmem;rw[hfT,he]at hcall;simp only[gZ]at hcall;simp only[bJ];refine⟨_,rfl,_,rfl,?_⟩;refine bG λp w7 hp hz7 hbp hx7=>?_;refine cG (l:=[str f.takes,i64 (f.least:Nat),.func (.func g) #[] #[]]) hbp rfl rfl rfl λw8 hz8 hbp8 hc8=>?_;have hx28:=hx26.trans (hx7.new hc8 (by omega));rw[eD,jO,cX];have h8:=(h.ext hx1).ext hx28;refine zG (p:=λx=> !iP x) h8 (λz hz {cs w3 K3} hx3 hcs hK3=>?_) λw12 hx12=>?_
 ·refine wX ?_;refine VX ?_;unfold aCz;refine jV hcs λq w4 sv4 kv4 hB4 hx4 _=>?_;refine hB4.ld λcs4 hcs4=>?_;refine GI z hcs4 λw5 hx5=>?_;rw[eD];exact hK3 w5 (hx4.trans hx5)
 have hx112:=hx28.trans hx12;rw[bS];refine⟨λhunk=>?_,λhknw=>?_⟩
 ·rw[aH hunk]at hcall;refine qN λw13 hx13=>?_;exact ends (v:=uV) (cs:=flat 1 false []) hcall (hx112.trans hx13) (iJ (by simp))
 rw[aD (by rw[hknw];simp)]at hcall;refine bX (hx12.at hbp8 id) rfl ?_;refine Ze (f:=f) (h8.ext hx12) rfl ht1 ht2 ht3 ht4 (by omega) λw16 hx16=>?_;have hx116:=hx112.trans hx16;rw[eD,bS];refine⟨λhnf=>?_,λhfit=>?_⟩
 ·rw[aH hnf]at hcall;rw[cU];exact ends (v:=JV.null) (cs:=flat 0 false []) hcall hx116 (iJ (by simp))
 rw[aD (by rw[hfit];simp)]at hcall;have hfit:wQ f a=true:=by simpa using hfit
 have hbp16:=(hx12.trans hx16).at hbp8 id;rw[bP,dM];refine⟨.func (.func g) #[] #[],by rw[bY,cC,hbp16];rfl,?_⟩;refine wX ?_;have hT16:=hT.ext (hx1.trans hx116);refine hdo hT16 ((h.ext hx1).ext hx116) hF hfit λcs v ok w20 hx20 hV hr=>?_;have hr:f.act a=if ok=true then some v else none:=hr;simp only[bJ];refine⟨_,rfl,_,rfl,?_⟩;have hx120:=hx116.trans hx20;refine bG λq w21 hq hz21 hbq hx21=>?_;refine cG hbq hV.rep.len rfl hV.rep.all_one λw22 hz22 hbq22 hc22=>?_;have hx2022:Ext w20 w22:=hx21.new hc22 (by omega);have hx122:=hx120.trans hx2022;have s16:=hx116.size;have hlb:=eW hbb;have hV22:cO (yD w16.heap.size) w22 v cs:=hV.ext' hx2022;rw[eD,bS];refine⟨λhno=>?_,λhok=>?_⟩
 ·rw[hr,aD (by simpa using hno)]at hcall;rw[cU];exact ends (v:=JV.null) (cs:=flat 0 false []) hcall hx122 (iJ (by simp))
 rw[hr,aH (by simpa using hok)]at hcall;refine bX hbq22 hV.rep.len ?_;refine Gi hV22.rep λw26 hx26'=>?_;have hx126:=hx122.trans hx26';rw[eD,bS];refine⟨λhng=>?_,λhg=>?_⟩
 ·simp only[aD (show¬dL v=true by simpa using hng)]at hcall;rw[cU];exact ends (v:=JV.null) (cs:=flat 0 false []) hcall hx126 (iJ (by simp))
 ·simp only[aH (show dL v=true by simpa using hg)]at hcall;refine bX (hx26'.at hbq22 id) hV.rep.len ?_;exact ends (v:=v) hcall hx126 ((hV22.ext' hx26').at (by omega) (by omega))
end
abbrev zr5:List Value:=[(.int .i64 0),(.bool false),(.string (ofL [])),(.slice none 0 0),(.slice none 0 0)]
theorem GP{u v:JV}{ds:List Value}{K:Q0}(h1:fV w u cs)(h2:fV w v ds)(hK:∀t w',dU w' t [u,v]->Ext w w'->inG (yD w.heap.size) t->K t w'):
  dN VT 2 (zr5++zr5) [(0,5,.agg cs.toArray),(5,5,.agg ds.toArray)] w K:=by
 unfold dN;have l1:=h1.len;have l2:=h2.len;have hp:∀K:List Value->Prop,K (cs++ds)->dD (zr5++zr5) [(0,5,.agg cs.toArray),(5,5,.agg ds.toArray)] K:=by
  intro K hK;refine⟨by simp[Value.cells,l1],by simp,?_⟩;refine⟨by simp[Value.cells,l2],by simp[Value.cells,l1],?_⟩;have:List.take 5 (List.take 0 (zr5++zr5)++((Value.agg cs.toArray).cells.toList++List.drop (0+5) (zr5++zr5)))++((Value.agg ds.toArray).cells.toList++List.drop (5+5) (List.take 0 (zr5++zr5)++((Value.agg cs.toArray).cells.toList++List.drop (0+5) (zr5++zr5))))=cs++ds:=by
   simp[Value.cells,List.take_append,List.drop_append,l1]
  rw[this];exact hK
 refine hp _ ?_;have hx:Ext w (w.alloc (.cells (cs++ds).toArray VT)):=Chg.alloc (Chg.refl _ _) _;refine hK _ _ ⟨⟨VT,cs++(ds++[]),?_,?_⟩,by simp⟩ hx (λq hq=>by cases hq;exact aU _)
 ·rw[eA];exact(xL (w:=w) (base:=w.heap.size) (e:=VT) (size:=5) (n:=2) (cs:=cs++ds) (aU _) (by rw[bE];omega) (by omega)).sl
 ·simp only[gI];exact⟨cs,ds++[],rfl,h1.ext hx,ds,[],rfl,h2.ext hx,rfl⟩
theorem Uh{u:JV}{K:Q0}(h1:fV w u cs)(hK:∀t w',dU w' t [u]->Ext w w'->K t w'):dN VT 1 zr5 [(0,5,.agg cs.toArray)] w K:=
 EO h1.len λt w' ht hx=>hK t w' ⟨⟨VT,cs,ht,gI.one' (h1.ext hx)⟩,by simp⟩ hx
section
variable [HX]
theorem Mr{s:Str}{K:Q0}(hK:∀w',Ext w w'->K (.agg (flat 4 false s).toArray) w'):aC P0 24 [str s] w K:=by
 refine aAt ?_;unfold W24;refine bG λb w1 hb hz hbb hx=>?_;simp only[wsv,wsg,wsh,wsl,aO,aN,aE,fE,Nat.reduceAdd,Nat.reduceLT,aG,aB,aK,aI,bT,reduceCtorEq];exact jA hbb rfl rfl rfl λw' hc=>hK w' (hx.new hc (by omega))
end
end
end Go.Proofs.YtghhmpppnmoeoaaGreatDoor
namespace Go.Lex
section
open Go Go.Eng Go.Num
structure Tok where
 k:Int
 t:Str
 a:Int
deriving DecidableEq
def iU(c:UInt8):Bool:=(97<=c&&c<=122)||(65<=c&&c<=90)||c==95
def iM(c:UInt8):Bool:=48<=c&&c<=57
def jB(c:UInt8):Bool:=iU c||iM c||c==45
def eC(p:UInt8->Bool):Str->Nat
 |[]=>0
 |c::r=>if p c then eC p r+1 else 0
def oN(p s:Str):Bool:=p.isPrefixOf s
def eX:Nat->Str->Nat×Int
 |0,_=>(0,0)
 |_+1,[]=>(0,0)
 |n+1,c::r=>
  if c==32||c==9||c==13 then((eX n r).1+1,(eX n r).2)
  else if c==35||oN [47,47] (c::r)then
   let k:=eC (λb=>b !=10) (c::r)
   ((eX n ((c::r).drop k)).1+k,(eX n ((c::r).drop k)).2)
  else if oN [47,42] (c::r)then
   let i:=Lib.index (r.drop 1) [42,47]
   if i<0 then(0,40)
   else((eX n ((c::r).drop (i.toNat+4))).1+(i.toNat+4),(eX n ((c::r).drop (i.toNat+4))).2)
  else(0,0)
def mA(k:Nat)(r:Nat×Int):Nat×Int:=if r.2=0 then(r.1+k,0)else(0,r.2)
def escOk(c:UInt8):Bool:=c==34||c==92||c==110||c==116||c==114||c==36
mutual
def nP:Nat->Str->Nat->Nat×Int
 |0,_,_=>(0,40)
 |_+1,[],_=>(0,40)
 |n+1,c::r,d=>
  if c==34 then(1,0)
  else if c==10 then(0,40)
  else if c==92 then
   match r with
   |[]=>(0,40)
   |e::r'=>if escOk e then mA 2 (nP n r' d)else(0,40)
  else if oN [36,123] (c::r)then
   if 24<d+1 then(0,7)
   else
    let i:=Ak n (r.drop 1) (d+1)
    if i.2=0 then mA (i.1+2) (nP n ((r.drop 1).drop i.1) d)else(0,i.2)
  else mA 1 (nP n r d)
def Ak:Nat->Str->Nat->Nat×Int
 |0,_,_=>(0,40)
 |_+1,[],_=>(0,40)
 |n+1,c::r,d=>
  if c==125 then(1,0)
  else if c==10 then(0,40)
  else if c==123 then
   if 24<d+1 then(0,7)
   else
    let i:=Ak n r (d+1)
    if i.2=0 then mA (i.1+1) (Ak n (r.drop i.1) d)else(0,i.2)
  else if c==34 then
   let i:=nP n r d
   if i.2=0 then mA (i.1+1) (Ak n (r.drop i.1) d)else(0,i.2)
  else mA 1 (Ak n r d)
end
def jU:Str->Str
 |[]=>[]
 |c::r=>if c==92||c==34||c==36 then 92::c::jU r else if c==9 then 92::116::jU r else if c==13 then 92::114::jU r else c::jU r
def lL:Nat->Str->Str->Str×Nat×Int
 |0,_,_=>([],0,40)
 |n+1,name,s=>
  let k:=eC (λb=>b !=10) s
  let line:=s.take k
  if line.drop (eC (λb=>b==32||b==9) line)=name then([],k,0)
  else if s.length<=k then([],0,40)
  else
   let x:=lL n name (s.drop (k+1))
   if x.2.2=0 then(jU line++[92,110]++x.1,x.2.1+(k+1),0)else([],0,x.2.2)
def gT(s:Str):Str×Nat×Int:=
 let n:=if iU ((s.drop 2).headD 0)then eC jB (s.drop 2)else 0
 if n=0 then([],0,40)
 else if(s.drop (2+n)).head?=some 10 then
  let x:=lL (s.length+1) ((s.drop 2).take n) (s.drop (2+n+1))
  if x.2.2=0 then(x.1,x.2.1+(2+n+1),0)else([],0,x.2.2)
 else([],0,40)
def wF:List Str:=[[61,61],[33,61],[60,61],[62,61],[38,38],[124,124]]
def AH:Str:=[123,125,91,93,40,41,61,43,45,42,47,37,60,62,33,63,58,44,46]
def uB(s:Str):Str:=
 if wF.contains (s.take 2)then s.take 2 else if AH.contains (s.headD 0)then s.take 1 else []
def oH(s:Str):Tok×Nat×Int:=
 let c:=s.headD 0
 if c==10 then(⟨5,[10],0⟩,1,0)
 else if iU c then
  let n:=eC jB s
  (⟨1,s.take n,0⟩,n,if 32<n then 3 else 0)
 else if iM c then
  let n:=eC iM s
  (⟨2,s.take n,0⟩,n,if(n<s.length&&iU ((s.drop n).headD 0))||(c==48&&1<n)then 40 else if goodN (s.take n)then 0 else 3)
 else if c==34 then
  let r:=nP (s.length+1) (s.drop 1) 0
  if r.2=0 then(⟨3,(s.drop 1).take (r.1-1),0⟩,r.1+1,0)else(⟨0,[],0⟩,0,r.2)
 else if oN [60,60] s then
  let r:=gT s
  (⟨3,r.1,0⟩,r.2.1,r.2.2)
 else(⟨4,uB s,0⟩,(uB s).length,if(uB s).length=0 then 40 else 0)
def Ek:Nat->Str->Nat->Option Nat
 |0,_,_=>none
 |n+1,s,i=>if s.length<=i then none else if gQ s i=0 then some i else Ek n s (i+kC s i)
inductive RS where
 |ok (l:List Tok)
 |bad (code at_:Int)
deriving DecidableEq
def mI:Nat->Str->Nat->Nat->RS
 |0,_,_,_=>.bad 0 0
 |n+1,s,at_,cnt=>
  let k:=eX (s.length+1) s
  let r:=s.drop k.1
  if k.2≠0 then .bad k.2 (at_+k.1:Nat)
  else if r=[]then .ok [⟨0,[],(at_+k.1:Nat)⟩]
  else
   let o:=oH r
   if o.2.2≠0 then .bad o.2.2 (at_+k.1:Nat)
   else if cnt=4096 then .bad 3 (at_+k.1:Nat)
   else match mI n (r.drop o.2.1) (at_+k.1+o.2.1) (cnt+1)with
    |.ok l=>.ok (⟨o.1.k,o.1.t,(at_+k.1:Nat)⟩::l)
    |x=>x
def pK(s:Str):RS:=
 if 16384<s.length then .bad 3 0
 else match Ek (s.length+1) s 0 with
  |some i=>.bad 31 (i:Nat)
  |none=>mI (s.length+1) s 0 0
end
end Go.Lex
namespace Go.Syn
section
open Go Go.Eng Go.Lex
structure Ex where
 k:Int
 t:Str
 args:List Nat
 keys:List Str
 a:Int
deriving DecidableEq
structure Atr where
 n:Str
 e:Nat
 a:Int
deriving DecidableEq
structure Blk where
 typ:Str
 labels:List Str
 attrs:List Atr
 blocks:List Nat
 a:Int
deriving DecidableEq
structure Fl where
 ex:List Ex
 bl:List Blk
 top:List Nat
deriving DecidableEq
structure PS where
 toks:List Tok
 i:Nat
 off:Int
 deep:Nat
 quiet:Bool
 ex:List Ex
 bl:List Blk
inductive R (α:Type) where
 |ok (x:α) (s:PS)
 |err (c a:Int)
def R.bind{α β:Type}(r:R α)(f:α->PS->R β):R β:=match r with
 |.ok x s=>f x s
 |.err c a=>.err c a
def gM:List Tok->Nat
 |[]=>0
 |t::r=>if t.k=5 then gM r+1 else 0
def bA(s:PS):PS:=if s.quiet=true then{s with i:=s.i+gM (s.toks.drop s.i)}else s
def lH(s:PS):Tok:=s.toks.getD s.i ⟨0,[],0⟩
def cur(s:PS):Tok:={lH (bA s)with a:=(lH (bA s)).a+s.off}
def step1(s:PS):PS:={s with i:=s.i+1}
def iH(s:PS):PS:=if(cur s).k≠0 then step1 (bA s)else bA s
def isS(s:PS)(w:Str):Bool:=decide ((cur s).k=4)&&decide ((cur s).t=w)
def bQ(s:PS)(w:Str):Bool×PS:=if isS s w=true then(true,step1 (bA s))else(false,bA s)
def nO(s:PS)(w:Str):R Unit:=if isS s w=true then .ok () (step1 (bA s))else .err 50 (cur s).a
def kZ(s:PS)(k:Int):R Tok:=if(cur s).k=k then .ok (cur s) (iH s)else .err 50 (cur s).a
def fQ(s:PS):PS:={bA s with i:=(bA s).i+gM (s.toks.drop (bA s).i)}
def pS(s:PS)(e:Ex):R Nat:=.ok s.ex.length {s with ex:=s.ex++[e]}
def within{α:Type}(s:PS)(a:Int)(quiet:Bool)(f:PS->R α):R α:=
 if s.deep=24 then .err 7 a
 else(f {s with deep:=s.deep+1,quiet:=quiet}).bind λx s'=>.ok x {s' with deep:=s.deep,quiet:=s.quiet}
def jS:Str->Str
 |[]=>[]
 |[c]=>if c=92 then []else [c]
 |c::e::r=>if c=92 then(if e=110 then 10 else if e=116 then 9 else if e=114 then 13 else e)::jS r else c::jS (e::r)
mutual
def Aw:Nat->Str->Int->Nat
 |0,_,_=>0
 |_+1,[],_=>0
 |n+1,c::r,d=>
  if c=123 then 1+Aw n r (d+1)
  else if c=125 then(if d-1=0 then 1 else 1+Aw n r (d-1))
  else if c=34 then(1+zW n r)+Aw n (r.drop (zW n r)) d
  else 1+Aw n r d
def zW:Nat->Str->Nat
 |0,_=>0
 |_+1,[]=>0
 |n+1,c::r=>
  if c=34 then 1
  else if c=92 then(match r with|[]=>1|_::r'=>2+zW n r')
  else if oN [36,123] (c::r)=true then(1+Aw n r 0)+zW n (r.drop (Aw n r 0))
  else 1+zW n r
end
def Je(s:Str):Nat:=Aw (s.length+1) s 0
def insP:Str->Option (Nat×Nat)
 |[]=>none
 |[_]=>none
 |c::e::r=>
  if c=92 then(insP r).map λx=>(x.1+2,x.2+2)
  else if c=36/\e=123 then some (0,1+Je (e::r))
  else(insP (e::r)).map λx=>(x.1+1,x.2+1)
def oY(s:PS)(t:Tok):R Str:=if(insP t.t).isSome=true then .err 50 t.a else .ok (jS t.t) s
def oJ(E:PS->R Nat)(s:PS)(t:Str)(a:Int):R Nat:=match pK t with
 |.bad c b=>.err c (a+b)
 |.ok l=>(E ⟨l,0,a,s.deep,false,s.ex,s.bl⟩).bind λx q=>(kZ q 0).bind λ_ q'=>.ok x {s with ex:=q'.ex,bl:=q'.bl}
def mL(E:PS->R Nat):Nat->PS->Str->Int->List Nat->List Str->R (List Nat×List Str)
 |0,_,_,_,_,_=>.err 0 0
 |n+1,s,rest,a,us,ks=>
  if rest=[]then .ok (us,ks) s
  else match insP rest with
   |none=>.ok (us++[s.ex.length],ks++[[116]]) {s with ex:=s.ex++[⟨5,jS rest,[],[],a⟩]}
   |some (i,e)=>
    let s1:=if 0<i then{s with ex:=s.ex++[⟨5,jS (rest.take i),[],[],a⟩]}else s
    let as1:=if 0<i then us++[s.ex.length]else us
    let ks1:=if 0<i then ks++[[116]]else ks
    if i<e then
     (within s1 (a+i) false λq=>oJ E q ((rest.drop (i+2)).take (e-1-(i+2))) (a+i+2)).bind λx s2=>mL E n s2 (rest.drop e) (a+e) (as1++[x]) (ks1++[[101]])
    else mL E n s1 (rest.drop e) (a+e) as1 ks1
def BD(E:PS->R Nat)(s:PS)(t:Tok):R Nat:=
 if(insP t.t).isSome=true then(mL E (t.t.length+1) s t.t (t.a+1) [] []).bind λx s'=>pS s' ⟨6,[],x.1,x.2,t.a⟩
 else pS s ⟨5,jS t.t,[],[],t.a⟩
def Ip:Str:=[102,111,114]
def kIn:Str:=[105,110]
def wL(t:Str):Int:=if t=[110,117,108,108]then 1 else if t=[116,114,117,101]then 2 else if t=[102,97,108,115,101]then 3 else 9
def sC(E:PS->R Nat)(w:Str):Nat->PS->List Nat->R (List Nat)
 |0,_,_=>.err 0 0
 |n+1,s,out=>
  if(bQ s w).1=true then .ok out (bQ s w).2
  else if out=[]then(E (bQ s w).2).bind λx s'=>sC E w n s' (out++[x])
  else(nO (bQ s w).2 [44]).bind λ_ s1=>
   if(bQ s1 w).1=true then .ok out (bQ s1 w).2
   else(E (bQ s1 w).2).bind λx s'=>sC E w n s' (out++[x])
def DZ(E:PS->R Nat)(w:Str)(s:PS):R (List Nat):=sC E w (s.toks.length+1) s []
def BI(E:PS->R Nat)(s:PS)(a:Int):R Ex:=
 let s1:=step1 s
 if(cur s1).k≠1\/(cur s1).t≠Ip then(DZ E [93] (bA s1)).bind λus s'=>.ok ⟨7,[],us,[],a⟩ s'
 else(kZ (step1 (bA s1)) 1).bind λt s2=>(kZ s2 1).bind λu s3=>
  if u.t≠kIn then .err 50 u.a
  else(E s3).bind λx s4=>(nO s4 [58]).bind λ_ s5=>(E s5).bind λy s6=>(nO s6 [93]).bind λ_ s7=>.ok ⟨29,t.t,[x,y],[],a⟩ s7
def Ee(E:PS->R Nat)(a:Int):Nat->PS->List Nat->List Str->R Ex
 |0,_,_,_=>.err 0 0
 |n+1,s,us,ks=>
  if(bQ s [125]).1=true then .ok ⟨8,[],us,ks,a⟩ (bQ s [125]).2
  else
   let s1:=(bQ s [125]).2
   let t:=cur s1
   let s2:=iH s1
   (if t.k=3 then oY s2 t else if t.k=1 then .ok t.t s2 else .err 50 t.a).bind λk s3=>
     if ks.contains k=true then .err 2 t.a
     else(nO s3 [61]).bind λ_ s4=>(E s4).bind λx s5=>
      if(bQ s5 [44]).1=false/\(cur (bQ s5 [44]).2).k≠5/\isS (bA (bQ s5 [44]).2) [125]=false then .err 50 (cur (bA (bQ s5 [44]).2)).a
      else Ee E a n (fQ (if(bQ s5 [44]).1=true then(bQ s5 [44]).2 else bA (bQ s5 [44]).2)) (us++[x]) (ks++[k])
def MQ(E:PS->R Nat)(s:PS)(a:Int):R Ex:=Ee E a (s.toks.length+1) (fQ (step1 s)) [] []
def Ay(E:PS->R Nat)(s:PS):R Nat:=
 let t:=cur s
 let s1:=bA s
 if t.k=2 then pS (step1 s1) ⟨4,t.t,[],[],t.a⟩
 else if t.k=3 then BD E (step1 s1) t
 else if t.k=1/\t.t≠Ip then
  if isS (step1 s1) [40]=true then
   (within (bA (step1 s1)) (cur (step1 s1)).a true λq=>DZ E [41] (step1 q)).bind λus s2=>pS s2 ⟨12,t.t,us,[],t.a⟩
  else pS (bA (step1 s1)) ⟨wL t.t,if wL t.t=9 then t.t else [],[],[],t.a⟩
 else if isS s1 [40]=true then within s1 t.a true λq=>(E (step1 q)).bind λx q1=>(nO q1 [41]).bind λ_ q2=>.ok x q2
 else if isS s1 [91]=true then(within s1 t.a true λq=>BI E q t.a).bind λe s2=>pS s2 e
 else if isS s1 [123]=true then(within s1 t.a false λq=>MQ E q t.a).bind λe s2=>pS s2 e
 else .err 50 t.a
def qC(E:PS->R Nat):Nat->PS->Nat->R Nat
 |0,_,_=>.err 0 0
 |n+1,s,x=>
  let t:=cur s
  let s1:=bA s
  if(bQ s1 [46]).1=true then(kZ (bQ s1 [46]).2 1).bind λu s2=>(pS s2 ⟨10,u.t,[x],[],t.a⟩).bind λy s3=>qC E n s3 y
  else if isS s1 [91]=true then
   (within s1 t.a true λq=>
     if(bQ (step1 q) [42]).1=true then(nO (bQ (step1 q) [42]).2 [93]).bind λ_ q2=>.ok none q2
     else(E (bQ (step1 q) [42]).2).bind λy q1=>(nO q1 [93]).bind λ_ q2=>.ok (some y) q2).bind λo s2=>
     match o with
     |some y=>(pS s2 ⟨11,[],[x,y],[],t.a⟩).bind λz s3=>qC E n s3 z
     |none=>(nO s2 [46]).bind λ_ s3=>(kZ s3 1).bind λu s4=>(pS s4 ⟨30,u.t,[x],[],t.a⟩).bind λz s5=>qC E n s5 z
  else .ok x s1
def CX(E:PS->R Nat)(s:PS):R Nat:=(Ay E s).bind λx s1=>qC E (s.toks.length+1) s1 x
def yI(E S:PS->R Nat)(s:PS):R Nat:=
 let t:=cur s
 let s1:=bA s
 if isS s1 [33]=true then(within s1 t.a s1.quiet λq=>S (step1 q)).bind λx s2=>pS s2 ⟨14,[],[x],[],t.a⟩
 else if isS s1 [45]=true then(within s1 t.a s1.quiet λq=>S (step1 q)).bind λx s2=>pS s2 ⟨13,[],[x],[],t.a⟩
 else CX E s1
def Iq(n:Nat)(w:Str):Int:=
 if n=0 then(if w=[124,124]then 27 else 0)
 else if n=1 then(if w=[38,38]then 26 else 0)
 else if n=2 then(if w=[61,61]then 20 else if w=[33,61]then 21 else 0)
 else if n=3 then(if w=[60]then 22 else if w=[62]then 23 else if w=[60,61]then 24 else if w=[62,61]then 25 else 0)
 else if n=4 then(if w=[43]then 15 else if w=[45]then 16 else 0)
 else if n=5 then(if w=[42]then 17 else if w=[47]then 18 else if w=[37]then 19 else 0)
 else 0
def uY(t:Tok)(n:Nat):Int:=if t.k=4 then Iq n t.t else 0
def Ah(J:PS->R Nat)(n:Nat):Nat->PS->Nat->R Nat
 |0,_,_=>.err 0 0
 |f+1,s,a=>
  let t:=cur s
  if uY t n=0 then .ok a (bA s)
  else(J (step1 (bA s))).bind λb s1=>(pS s1 ⟨uY t n,[],[a,b],[],t.a⟩).bind λx s2=>Ah J n f s2 x
def tC(E S:PS->R Nat):Nat->PS->R Nat
 |0=>yI E S
 |m+1=>λs=>(tC E S m s).bind λa s1=>Ah (tC E S m) (5-m) (s.toks.length+1) s1 a
def BS(E S:PS->R Nat)(s:PS):R Nat:=(tC E S 6 s).bind λa s1=>
 let t:=cur s1
 if(bQ s1 [63]).1=true then
  (within (bQ s1 [63]).2 t.a (bQ s1 [63]).2.quiet λq=>(E q).bind λx q1=>(nO q1 [58]).bind λ_ q2=>(E q2).bind λy q3=>.ok (x,y) q3).bind λz s2=>pS s2 ⟨28,[],[a,z.1,z.2],[],t.a⟩
 else .ok a (bQ s1 [63]).2
def dead:PS->R Nat:=λ_=>.err 0 0
def rU:Nat->(PS->R Nat)×(PS->R Nat)
 |0=>(BS dead dead,yI dead dead)
 |d+1=>(BS (rU d).1 (rU d).2,yI (rU d).1 (rU d).2)
def qG:Nat->PS->List Str->R (List Str)
 |0,_,_=>.err 0 0
 |n+1,s,ls=>
  if(cur s).k=3 then(oY (iH s) (cur s)).bind λl s1=>qG n s1 (ls++[l])
  else .ok ls (bA s)
def BK(E B:PS->R Nat)(s:PS)(us:List Atr)(bs:List Nat):R (List Atr×List Nat):=(kZ s 1).bind λt s1=>
 if(bQ s1 [61]).1=true then(E (bQ s1 [61]).2).bind λx s2=>.ok (us++[⟨t.t,x,t.a⟩],bs) s2
 else(B {(bQ s1 [61]).2 with i:=(bQ s1 [61]).2.i-1}).bind λx s2=>.ok (us,bs++[x]) s2
def pV(E B:PS->R Nat):Nat->PS->List Atr->List Nat->R (List Atr×List Nat)
 |0,_,_,_=>.err 0 0
 |n+1,s,us,bs=>
  if(bQ s [125]).1=true then .ok (us,bs) (bQ s [125]).2
  else(BK E B (bQ s [125]).2 us bs).bind λx s1=>
   if(cur s1).k≠5/\isS (bA s1) [125]=false then .err 50 (cur (bA s1)).a
   else pV E B n (fQ (bA s1)) x.1 x.2
def wY(E B:PS->R Nat)(s:PS):R Nat:=(kZ s 1).bind λt s1=>(qG (s.toks.length+1) s1 []).bind λls s2=>
 if isS s2 [123]=false then .err 50 (cur s2).a
 else(within (bA s2) (cur s2).a false λq=>pV E B (s.toks.length+1) (fQ (step1 q)) [] []).bind λx s3=>
  .ok s3.bl.length {s3 with bl:=s3.bl++[⟨t.t,ls,x.1,x.2,t.a⟩]}
def Br:Nat->PS->R Nat
 |0=>wY dead dead
 |d+1=>wY (rU d).1 (Br d)
def Mo:Nat->PS->List Nat->R (List Nat)
 |0,_,_=>.err 0 0
 |n+1,s,top=>
  if(cur s).k=0 then .ok top (bA s)
  else(Br 24 (bA s)).bind λx s1=>
   if(cur s1).k≠5/\(cur s1).k≠0 then .err 50 (cur (bA s1)).a
   else Mo n (fQ (bA s1)) (top++[x])
inductive PR where
 |ok (f:Fl)
 |bad (c a:Int)
deriving DecidableEq
def parseM(s:Str):PR:=match pK s with
 |.bad c a=>.bad c a
 |.ok l=>match Mo (l.length+1) (fQ ⟨l,0,0,0,false,[],[]⟩) []with
  |.ok top s'=>.ok ⟨s'.ex,s'.bl,top⟩
  |.err c a=>.bad c a
end
end Go.Syn
namespace Go.Eng
section
open Go Go.Num Go.Syn
variable{w:World}{K:Q0}{cs:List Value}{G:Nat->Prop}{T:TypeId}{i:Nat}{n:Nat}{v:Value}{w':World}{P:Program}{c:UInt8}{S:Nat->Prop}
def gK(n:Int):Str×Int:=if 100<(dig (Lib.itoa n)).length then([],3)else(Lib.itoa n,0)
def DO(a b:Str):Str×Int:=if num b=0 then([],10)else gK ((num a).tdiv (num b))
def Ef(a b:Str):Str×Int:=if num b=0 then([],10)else gK ((num a).tmod (num b))
inductive EvR (α:Type) where
 |ok (x:α) (left:Nat)
 |err (c a:Int)
def EvR.bind{α β:Type}(r:EvR α)(f:α->Nat->EvR β):EvR β:=match r with
 |.ok x l=>f x l
 |.err c a=>.err c a
inductive MdR (α:Type) where
 |ok (x:α)
 |err (c a:Int)
def MdR.bind{α β:Type}(r:MdR α)(f:α->MdR β):MdR β:=match r with
 |.ok x=>f x
 |.err c a=>.err c a
def MdR.at_{α:Type}(r:MdR α)(l:Nat):EvR α:=match r with
 |.ok x=>.ok x l
 |.err c a=>.err c a
abbrev Env:=Str->Option JV
def Env.set(env:Env)(k:Str)(v:JV):Env:=λs=>if s=k then some v else env s
def aBv(ex:List Ex)(i:Nat):Int:=match ex[i]? with|some e=>e.a|none=>0
def AM(v:JV):Option Str:=if v.k=4\/v.k=3 then some v.t else if v.k=2 then some (if v.b then [116,114,117,101]else [102,97,108,115,101])else none
def sQ(ex:List Ex)(args:List Nat):List JV->Nat->Str->Bool->MdR JV
 |[],_,b,kn=>.ok (if kn=true then tV b else uV)
 |v::l,j,b,kn=>if v.k=1 then sQ ex args l (j+1) b false else match AM v with
  |some s=>sQ ex args l (j+1) (b++s) kn
  |none=>.err 81 (aBv ex (args.getD j 0))
def sB(t:Str)(a:Int)(v:JV):MdR JV:=
 if v.k=1 then .ok v else if v.k≠6 then .err 81 a else match Eg v t with
 |some x=>.ok x
 |none=>.err 82 a
def tR(t:Str)(a:Int):List JV->MdR (List JV)
 |[]=>.ok []
 |v::l=>(sB t a v).bind λx=>(tR t a l).bind λxs=>.ok (x::xs)
def tM(t:Str)(a:Int)(v:JV):MdR JV:=
 if v.k=1 then .ok v else if v.k≠5 then .err 81 a else(tR t a v.xs).bind λxs=>.ok (lV xs)
def fU(k:Int)(v:JV):Bool:=decide (v.k=k)||decide (v.k=1)
def qH(v i:JV):Bool:=if v.k=1 then fU 3 i||fU 4 i else if v.k=5 then fU 3 i else if v.k=6 then fU 4 i else false
def Bb(a:Int)(v i:JV):MdR JV:=
 if qH v i=true then
  if v.k=1\/i.k=1 then .ok uV
  else if v.k=6 then sB i.t a v
  else if 0<=num i.t/\num i.t<v.xs.length then .ok (v.xs.getD (num i.t).toNat JV.null)else .err 82 a
 else .err 81 a
def yH(k a:Int)(v:JV):MdR JV:=
 if v.k=1 then .ok v else if v.k=3/\k=13 then .ok (nV (gK (-num v.t)).1)else if v.k=2/\k=14 then .ok (bV (!v.b))else .err 81 a
def FQ(or:Bool)(a:Int)(x y:JV):MdR JV:=
 if(fU 2 x&&fU 2 y)=true then
  if(x.k≠1/\x.b=or)\/(y.k≠1/\y.b=or)then .ok (bV or)else if x.k=1\/y.k=1 then .ok uV else .ok (bV (!or))
 else .err 81 a
def vR(a:Int)(r:Str×Int):MdR JV:=if r.2=0 then .ok (nV r.1)else .err r.2 a
def If(k a:Int)(x y:JV):MdR JV:=
 if(fU 3 x&&fU 3 y)=true then
  if x.k=1\/y.k=1 then .ok uV
  else if k=22 then .ok (bV (decide (wV x.t y.t<0)))
  else if k=23 then .ok (bV (decide (0<wV x.t y.t)))
  else if k=24 then .ok (bV (decide (wV x.t y.t<=0)))
  else if k=25 then .ok (bV (decide (0<=wV x.t y.t)))
  else if k=15 then vR a (gK (num x.t+num y.t))
  else if k=16 then vR a (gK (num x.t-num y.t))
  else if k=17 then vR a (gK (num x.t*num y.t))
  else if k=18 then vR a (DO x.t y.t)
  else if k=19 then vR a (Ef x.t y.t)
  else .ok (nV [])
 else .err 81 a
def Ce(l:List JV):JV:=l.getD 0 JV.null
def El(l:List JV):JV:=l.getD 1 JV.null
def WN(ks:List Str)(l:List JV):JV:=if ks.length=l.length/\ks.Nodup then(ks.zip l).foldl (λv p=>Xy v p.1 p.2) (.mk 6 false [] [] [])else JV.null
def nS(ex:List Ex)(e:Ex)(env:Env)(l:List JV):MdR JV:=
 if e.k=1 then .ok JV.null
 else if e.k=2\/e.k=3 then .ok (bV (decide (e.k=2)))
 else if e.k=4 then .ok (nV e.t)
 else if e.k=5 then .ok (tV e.t)
 else if e.k=9 then(match env e.t with|some v=>.ok v|none=>.err 80 e.a)
 else if e.k=6 then sQ ex e.args l 0 [] true
 else if e.k=7 then .ok (lV l)
 else if e.k=8 then .ok (WN e.keys l)
 else if e.k=10 then sB e.t e.a (Ce l)
 else if e.k=30 then tM e.t e.a (Ce l)
 else if e.k=11 then Bb e.a (Ce l) (El l)
 else if e.k=12 then(if(pM e.t l).2=0 then .ok (pM e.t l).1 else .err (pM e.t l).2 e.a)
 else if e.k=13\/e.k=14 then yH e.k e.a (Ce l)
 else if e.k=20\/e.k=21 then(if iP (Ce l)=true/\iP (El l)=true then .ok (bV (decide (KJ (Ce l) (El l)=0)==decide (e.k=20)))else .ok uV)
 else if e.k=26\/e.k=27 then FQ (decide (e.k=27)) e.a (Ce l) (El l)
 else If e.k e.a (Ce l) (El l)
section
variable(rec_:Nat->Env->Nat->EvR JV)
def oQ(env:Env):List Nat->Nat->EvR (List JV)
 |[],left=>.ok [] left
 |a::r,left=>(rec_ a env left).bind λv l=>(oQ env r l).bind λvs l'=>.ok (v::vs) l'
def mV(env:Env)(t:Str)(i:Nat):List JV->Nat->EvR (List JV)
 |[],left=>.ok [] left
 |x::r,left=>(rec_ i (env.set t x) left).bind λv l=>(mV env t i r l).bind λvs l'=>.ok (v::vs) l'
def pX(e:Ex)(i:Nat):Nat:=e.args.getD i 0
def Qi(e:Ex)(env:Env)(left:Nat):EvR JV:=
 (rec_ (pX e 0) env left).bind λc l=>
   if c.k=1 then .ok c l else if c.k≠2 then .err 81 e.a else if c.b=true then rec_ (pX e 1) env l else rec_ (pX e 2) env l
def PO(e:Ex)(env:Env)(left:Nat):EvR JV:=
 (rec_ (pX e 0) env left).bind λc l=>
   if c.k=1 then .ok c l else if c.k≠5 then .err 81 e.a else(mV rec_ env e.t (pX e 1) c.xs l).bind λvs l'=>.ok (lV vs) l'
def rZ(ex:List Ex)(e:Ex)(env:Env)(left:Nat):EvR JV:=
 if e.k=28 then Qi rec_ e env left
 else if e.k=29 then PO rec_ e env left
 else(oQ rec_ env e.args left).bind λl left'=>(nS ex e env l).at_ left'
def wC(ex:List Ex)(e:Ex)(env:Env)(left:Nat):EvR JV:=
 if left=0 then .err 3 e.a else(rZ rec_ ex e env (left-1)).bind λv l=>if dL v=true then .ok v l else .err 3 e.a
end
def sG(ex:List Ex):Nat->Nat->Env->Nat->EvR JV
 |0,_,_,_=>.err 0 0
 |n+1,i,env,left=>match ex[i]? with
  |none=>.err 0 0
  |some e=>wC (sG ex n) ex e env left
def rV:List Str->List JV->Env
 |k::ks,x::xs=>λs=>match rV ks xs s with
  |some v=>some v
  |none=>if s=k then some x else none
 |_,_=>λ_=>none
def vP(f:Fl)(i:Nat)(scope:JV):MdR JV:=match sG f.ex (i+1) i (rV scope.ks scope.xs) 20000 with
 |.ok v _=>.ok v
 |.err c a=>.err c a
theorem Il{f g:Nat->Env->Nat->EvR JV}(env:Env):∀(ags:List Nat) (left:Nat),(∀a∈ags,∀env l,f a env l=g a env l)->oQ f env ags left=oQ g env ags left
 |[],_,_=>rfl
 |a::r,left,h=>by
  unfold oQ
  rw[h a (by simp)]
  congr 1
  funext v l
  rw[Il env r l λa ha=>h a (aS _ ha)]
theorem Ik{f g:Nat->Env->Nat->EvR JV}(env:Env)(t:Str)(i:Nat)(h:∀env l,f i env l=g i env l):∀(xs:List JV) (left:Nat),mV f env t i xs left=mV g env t i xs left
 |[],_=>rfl
 |x::r,left=>by
  unfold mV
  rw[h]
  congr 1
  funext v l
  rw[Ik env t i h r l]
theorem Hm{f g:Nat->Env->Nat->EvR JV}{ex:List Ex}{e:Ex}(h3:e.k=28->3<=e.args.length)(h2:e.k=29->2<=e.args.length)(h:∀a∈e.args,∀env l,f a env l=g a env l)(env:Env)(left:Nat):wC f ex e env left=wC g ex e env left:=by
 have hm:∀j,j<e.args.length->∀env l,f (pX e j) env l=g (pX e j) env l:=λj hj=>h _ (by unfold pX;rw[List.getD_eq_getElem?_getD,List.getElem?_eq_getElem hj];simp);unfold wC;by_cases hl:left=0
 ·rw[aH hl,aH hl]
 rw[aD hl,aD hl];congr 1;unfold rZ;by_cases k28:e.k=28
 ·rw[aH k28,aH k28];have:=h3 k28;unfold Qi;rw[hm 0 (by omega)];congr 1;funext c l;rw[hm 1 (by omega),hm 2 (by omega)]
 rw[aD k28,aD k28];by_cases k29:e.k=29
 ·rw[aH k29,aH k29];have:=h2 k29;unfold PO;rw[hm 0 (by omega)];congr 1;funext c l;rw[Ik env e.t (pX e 1) (hm 1 (by omega))]
 rw[aD k29,aD k29,Il env e.args _ h]
structure sE(ex:List Ex):Prop where
 ahead:∀(i:Nat) (e:Ex),ex[i]?=some e->∀a∈e.args,a<i
 a3:∀e∈ex,e.k=28->3<=e.args.length
 a2:∀e∈ex,e.k=29->2<=e.args.length
theorem QM{ex:List Ex}(h:sE ex):∀(i n m:Nat),i<n->i<m->∀env l,sG ex n i env l=sG ex m i env l:=by
 intro i;induction i using Nat.strongRecOn with
 |ind i ih=>
 intro n m hn hm env l;cases n with
 |zero=>omega
 |succ n=>
 cases m with
 |zero=>omega
 |succ m=>
 unfold sG;cases he:ex[i]? with
 |none=>rfl
 |some e=>
  have hm':=bK he;refine Hm (h.a3 e hm') (h.a2 e hm') (λa ha env l=>?_) env l;have:=h.ahead i e he a ha;exact ih a this n m (by omega) (by omega) env l
theorem xC{ex:List Ex}(h:sE ex){e:Ex}(he:ex[i]?=some e)(hn:i<n)(env:Env)(l:Nat):sG ex n i env l=wC (λa env l=>sG ex (a+1) a env l) ex e env l:=by
 cases n with
 |zero=>omega
 |succ n=>
 rw[sG,he];have hm':=bK he;refine Hm (h.a3 e hm') (h.a2 e hm') (λa ha env l=>?_) env l;have:=h.ahead i e he a ha;exact QM h a n (a+1) (by omega) (by omega) env l
end
end Go.Eng
namespace Go.Proofs.YtghhmpppnmoeoaaGreatDoor
section
open Go Go.Eng Go.RowKit Go.Syn Go.Lex
variable{w:World}{K:Q0}{cs:List Value}{G:Nat->Prop}{T:TypeId}{i:Nat}{n:Nat}{v:Value}{w':World}{P:Program}{c:UInt8}{S:Nat->Prop}
abbrev TkT:TypeId:=73
abbrev ExT:TypeId:=93
abbrev AtT:TypeId:=88
abbrev BkT:TypeId:=86
abbrev FlT:TypeId:=32
abbrev PsT:TypeId:=70
abbrev iG:TypeId:=3
abbrev StT:TypeId:=9
theorem aBi:sF P0 28 ExT 5 80:=⟨by kernel_rfl,by kernel_rfl,by decide⟩
theorem aBj:sF P0 29 BkT 5 96:=⟨by kernel_rfl,by kernel_rfl,by decide⟩
theorem aBk:sF P0 84 AtT 3 32:=⟨by kernel_rfl,by kernel_rfl,by decide⟩
theorem Bf:sF P0 30 iG 1 8:=⟨by kernel_rfl,by kernel_rfl,by decide⟩
theorem PZ:sF P0 24 StT 1 16:=⟨by kernel_rfl,by kernel_rfl,by decide⟩
theorem WV:sF P0 64 TkT 3 32:=⟨by kernel_rfl,by kernel_rfl,by decide⟩
def ints(l:List Nat):List Value:=l.map λn=>i64 (n:Nat)
def strs(l:List Str):List Value:=l.map str
def NF(l:List Atr):List Value:=l.flatMap λa=>[str a.n,i64 (a.e:Nat),i64 a.a]
def toks(l:List Tok):List Value:=l.flatMap λt=>[i64 t.k,str t.t,i64 t.a]
theorem Px(l:List Nat):(ints l).length=l.length*1:=by simp[ints]
theorem Ds(a b:List Nat):ints (a++b)=ints a++ints b:=by simp[ints]
theorem Oc(a b:List Str):strs (a++b)=strs a++strs b:=by simp[strs]
theorem FE{α:Type}(f:α->List Value)(h:∀a,(f a).length=3):∀l:List α,(l.flatMap f).length=l.length*3
 |[]=>rfl
 |a::l=>by rw[yC,bE,h,FE f h l,aA];omega
theorem CH(l:List Tok):(toks l).length=l.length*3:=FE _ (λ_=>rfl) l
theorem FF{α:Type}(f:α->List Value)(h:∀a,(f a).length=3):∀(l:List α) (i j:Nat) (x:α),l[i]?=some x->j<3->(l.flatMap f)[i*3+j]?=(f x)[j]?
 |[],i,_,_,hi,_=>by simp at hi
 |a::l,0,j,x,hi,hj=>by
  simp only[List.getElem?_cons_zero,bD]at hi
  subst hi
  rw[yC,List.getElem?_append_left (by rw[h];omega),yA,aX]
 |a::l,i+1,j,x,hi,hj=>by
  rw[List.getElem?_cons_succ]at hi
  rw[yC,List.getElem?_append_right (by rw[h];omega),h,show(i+1)*3+j-3=i*3+j by omega]
  exact FF f h l i j x hi hj
theorem Hj{l:List Tok}{j:Nat}{t:Tok}(h:l[i]?=some t)(hj:j<3):(toks l)[i*3+j]?=[i64 t.k,str t.t,i64 t.a][j]?:=FF _ (λ_=>rfl) l i j t h hj
def nX{α:Type}(R:α->List Value->Prop)(n:Nat)(xs:List α)(c:List Value):Prop:=c.length=xs.length*n/\∀i x,xs[i]?=some x->R x ((c.drop (i*n)).take n)
theorem nX.nil{α:Type}(R:α->List Value->Prop)(n:Nat):nX R n [] []:=⟨by simp,λi x h=>by simp at h⟩
theorem nX.snoc{α:Type}{R:α->List Value->Prop}{xs:List α}{c d:List Value}{x:α}(h:nX R n xs c)(hd:R x d)(hl:d.length=n):nX R n (xs++[x]) (c++d):=by
 refine⟨by rw[bE,h.1,hl,bE,aA,aL,lP];omega,λi y hy=>?_⟩;by_cases hi:i<xs.length
 ·rw[List.getElem?_append_left hi]at hy;have:=h.2 i y hy;have hm:i*n+n<=xs.length*n:=by rw[<-Nat.succ_mul];exact fX _ hi
  rw[Bv (by rw[h.1];omega),Bu (by rw[aP,h.1];omega)];exact this
 ·rw[List.getElem?_append_right (by omega)]at hy;have h0:i-xs.length=0:=by
   by_cases h0:i-xs.length=0
   ·exact h0
   ·rw[List.getElem?_eq_none (by simp;omega)]at hy;cases hy
  obtain rfl:i=xs.length:=by omega
  rw[h0]at hy;simp only[List.getElem?_cons_zero,bD]at hy;subst hy;rw[<-h.1,List.drop_left,fB (by omega)];exact hd
theorem nX.imp{α:Type}{R R':α->List Value->Prop}{xs:List α}{c:List Value}(h:nX R n xs c)(hi:∀x d,(∀v∈d,v∈c)->R x d->R' x d):nX R' n xs c:=
 ⟨h.1,λi x hx=>hi x _ (λv hv=>List.mem_of_mem_drop (List.mem_of_mem_take hv)) (h.2 i x hx)⟩
def ub(c:List Value):List Nat:=c.filterMap Value.ownBlock
theorem tK(a b:List Value):ub (a++b)=ub a++ub b:=List.filterMap_append
theorem kB{c:List Value}{k:Nat}(hv:v∈c)(hk:v.ownBlock=some k):k∈ub c:=gA.2 ⟨v,hv,hk⟩
theorem gE{k:Nat}:k∈ub [v]↔v.ownBlock=some k:=by simp[ub]
structure Lay where
 vE:Value
 vB:Value
 vT:Value
 cE:List Value
 cB:List Value
def Lay.uses(M:Lay)(f:Nat):List Nat:=f::ub ([M.vE,M.vB,M.vT]++(M.cE++M.cB))
def ExR(w:World)(B:Nat)(e:Ex)(c:List Value):Prop:=
 ∃va vk,c=[i64 e.k,str e.t,va,vk,i64 e.a]/\Own w B iG 1 va e.args.length (ints e.args)/\Own w B StT 1 vk e.keys.length (strs e.keys)
def BkR(w:World)(B:Nat)(b:Blk)(c:List Value):Prop:=
 ∃vl va vb,c=[str b.typ,vl,va,vb,i64 b.a]/\Own w B StT 1 vl b.labels.length (strs b.labels)/\Own w B AtT 3 va b.attrs.length (NF b.attrs)/\Own w B iG 1 vb b.blocks.length (ints b.blocks)
theorem iO{B:Nat}{e:TypeId}{m:Nat}{xs:List Value}(h:Own w B e m v n xs)(hc:Chg S w w')(hS:∀k,v.ownBlock=some k->¬S k):Own w' B e m v n xs:=by
 obtain⟨hl,hn|⟨g,cap,cur,rfl,hb,hg,r⟩⟩:=h
 ·exact⟨hl,.inl hn⟩
 ·exact⟨hl,.inr ⟨g,cap,cur,rfl,hb,hc.at hg (hS g rfl),r⟩⟩
theorem pU{B:Nat}{e:TypeId}{m:Nat}{xs:List Value}(h:Own w B e m v n xs){k:Nat}(hk:v.ownBlock=some k):k<w.heap.size/\B<=k:=by
 obtain⟨h1,c,h2⟩:=h.block k hk;exact⟨eW h2,h1⟩
theorem ExR.at_{B:Nat}{e:Ex}{c:List Value}(h:ExR w B e c)(hc:Chg S w w')(hS:∀k∈ub c,¬S k):ExR w' B e c:=by
 obtain⟨va,vk,rfl,h1,h2⟩:=h;exact⟨va,vk,rfl,iO h1 hc λk hk=>hS k (kB (v:=va) (by simp) hk),iO h2 hc λk hk=>hS k (kB (v:=vk) (by simp) hk)⟩
theorem BkR.at_{B:Nat}{e:Blk}{c:List Value}(h:BkR w B e c)(hc:Chg S w w')(hS:∀k∈ub c,¬S k):BkR w' B e c:=by
 obtain⟨vl,va,vb,rfl,h1,h2,h3⟩:=h;exact⟨vl,va,vb,rfl,iO h1 hc λk hk=>hS k (kB (v:=vl) (by simp) hk),iO h2 hc λk hk=>hS k (kB (v:=va) (by simp) hk),iO h3 hc λk hk=>hS k (kB (v:=vb) (by simp) hk)⟩
theorem NP{c d:List Value}(h:∀v∈d,v∈c):∀k∈ub d,k∈ub c:=by
 intro k hk;obtain⟨v,hv,hk⟩:=gA.1 hk;exact kB (h v hv) hk
structure FR(w:World)(B f:Nat)(M:Lay)(ex:List Ex)(bl:List Blk)(top:List Nat):Prop where
 hf:w.heap[f]?=some (.cells [M.vE,M.vB,M.vT].toArray FlT (0,0))
 oE:Own w B ExT 5 M.vE ex.length M.cE
 oB:Own w B BkT 5 M.vB bl.length M.cB
 oT:Own w B iG 1 M.vT top.length (ints top)
 ee:nX (ExR w B) 5 ex M.cE
 bb:nX (BkR w B) 5 bl M.cB
 nd:(M.uses f).Nodup
 lt:∀k∈M.uses f,k<w.heap.size
 lo:∀k∈M.uses f,k=f\/B<=k
theorem FR.keep{B f:Nat}{M:Lay}{ex:List Ex}{bl:List Blk}{top:List Nat}(h:FR w B f M ex bl top)(hc:Chg S w w')(hS:∀k∈M.uses f,¬S k):FR w' B f M ex bl top:=by
 have hu:∀v∈[M.vE,M.vB,M.vT]++(M.cE++M.cB),∀k,v.ownBlock=some k->¬S k:=λv hv k hk=>hS k (aS _ (kB hv hk));refine⟨hc.at h.hf (hS f bC),iO h.oE hc (hu _ (by simp)),iO h.oB hc (hu _ (by simp)),iO h.oT hc (hu _ (by simp)),?_,?_,h.nd,λk hk=>cL (h.lt k hk) hc.size,h.lo⟩
 ·refine h.ee.imp λx d hd hx=>hx.at_ hc λk hk=>?_;exact hS k (aS _ (NP (λv hv=>by simp[hd v hv]) k hk))
 ·refine h.bb.imp λx d hd hx=>hx.at_ hc λk hk=>?_;exact hS k (aS _ (NP (λv hv=>by simp[hd v hv]) k hk))
abbrev Of(f:Nat):Nat->Prop:=λk=>k=f
abbrev One(b:Nat):Nat->Prop:=λk=>k=b
structure PR(w0 w:World)(p f:Nat)(M:Lay)(vt:Value)(s:PS)(top:List Nat):Prop where
 ch:Chg (Of f) w0 w
 fr:FR w w0.heap.size f M s.ex s.bl top
 ps:w.heap[p]?=some (.cells [vt,i64 (s.i:Nat),i64 s.off,.pointer (some ⟨f,0,none⟩),i64 (s.deep:Nat),.bool s.quiet].toArray PsT (0,0))
 tk:SlAt w TkT vt s.toks.length (toks s.toks)
 np:p∉M.uses f
 lo:w0.heap.size<=p
 nt:∀k,vt.ownBlock=some k->k∉M.uses f/\k≠p/\k<w.heap.size
section
variable{w0 w w' w1 w2:World}{p f b k:Nat}{M M' M1 M2:Lay}{vt:Value}{s:PS}{top:List Nat}
theorem PR.lt(h:PR w0 w p f M vt s top):p<w.heap.size:=eW h.ps
theorem PR.base(h:PR w0 w p f M vt s top):w0.heap.size<=w.heap.size:=h.ch.size
def Tn(p f:Nat)(M:Lay)(k:Nat):Prop:=k=p\/k=f\/M.vE.ownBlock=some k\/M.vB.ownBlock=some k
structure Eff(p f:Nat)(M M':Lay)(w w':World):Prop where
 chg:Chg (Tn p f M) w w'
 us:∀k∈M'.uses f,k∈M.uses f\/w.heap.size<=k
 hE:∀k,M'.vE.ownBlock=some k->M.vE.ownBlock=some k\/w.heap.size<=k
 hB:∀k,M'.vB.ownBlock=some k->M.vB.ownBlock=some k\/w.heap.size<=k
 hT:M'.vT=M.vT
theorem Eff.of(h:Chg (Tn p f M) w w'):Eff p f M M w w':=⟨h,λ_ h=>.inl h,λ_ h=>.inl h,λ_ h=>.inl h,rfl⟩
theorem Eff.refl(p f:Nat)(M:Lay)(w:World):Eff p f M M w w:=Eff.of (Chg.refl _ _)
theorem Eff.ext(h:Ext w w'):Eff p f M M w w':=Eff.of (Chg.of_ext h)
theorem Eff.trans(h:Eff p f M M1 w w1)(h':Eff p f M1 M2 w1 w2):Eff p f M M2 w w2:=by
 have hz:=h.chg.size;refine⟨h.chg.then h'.chg λk hk e=>?_,λk hk=>?_,λk hk=>?_,λk hk=>?_,h'.hT.trans h.hT⟩
 ·rcases e with e|e|e|e
  ·exact .inl e
  ·exact .inr (.inl e)
  ·exact .inr (.inr (.inl ((h.hE k e).resolve_right (by omega))))
  ·exact .inr (.inr (.inr ((h.hB k e).resolve_right (by omega))))
 ·exact(h'.us k hk).elim (h.us k) λe=>.inr (by omega)
 ·exact(h'.hE k hk).elim (h.hE k) λe=>.inr (by omega)
 ·exact(h'.hB k hk).elim (h.hB k) λe=>.inr (by omega)
theorem Eff.then(h:Eff p f M M1 w w1)(hc:Chg S w1 w2)(hS:∀k,k<w.heap.size->¬S k):Eff p f M M1 w w2:=⟨h.chg.then hc λk hk e=>(hS k hk e).elim,h.us,h.hE,h.hB,h.hT⟩
theorem Eff.x(h:Eff p f M M1 w w1)(hc:Ext w1 w2):Eff p f M M1 w w2:=h.then hc λ_ _ e=>e
theorem Eff.one(h:Eff p f M M1 w w1)(hc:Chg (One b) w1 w2)(hb:w.heap.size<=b):Eff p f M M1 w w2:=h.then hc λk hk e=>by have e:k=b:=e;omega
theorem Eff.anew{q:Nat}(hx:Ext w0 w)(h:Eff q f M M' w w')(hq:w0.heap.size<=q):Eff p f M M' w0 w':=by
 have hz:=hx.size;refine⟨(Chg.of_ext hx).then h.chg λk hk e=>?_,λk hk=>(h.us k hk).imp id (by omega),λk hk=>(h.hE k hk).imp id (by omega),λk hk=>(h.hB k hk).imp id (by omega),h.hT⟩;rcases e with e|e|e|e
 ·omega
 ·exact .inr (.inl e)
 ·exact .inr (.inr (.inl e))
 ·exact .inr (.inr (.inr e))
theorem JB(h:Tn p f M k):k=p\/k∈M.uses f:=by
 rcases h with h|h|h|h
 ·exact .inl h
 ·exact .inr (by subst h;exact bC)
 ·exact .inr (aS _ (kB (v:=M.vE) (by simp) h))
 ·exact .inr (aS _ (kB (v:=M.vB) (by simp) h))
def Off(w0 w:World)(p f:Nat)(M:Lay)(vt:Value)(k:Nat):Prop:=(w0.heap.size<=k/\k<w.heap.size)/\k≠p/\k∉M.uses f/\vt.ownBlock≠some k
theorem Off.no(h:Off w0 w p f M vt k):¬Tn p f M k:=λe=>(JB e).elim h.2.1 h.2.2.1
theorem Off.eff(h:Off w0 w p f M vt k)(he:Eff p f M M' w w'):Off w0 w' p f M' vt k:=
 ⟨⟨h.1.1,cL h.1.2 he.chg.size⟩,h.2.1,λe=>(he.us k e).elim h.2.2.1 λe=>by have:=h.1.2;omega,h.2.2.2⟩
theorem Off.up(h:Off w0 w p f M vt k)(hz:w.heap.size<=w'.heap.size):Off w0 w' p f M vt k:=⟨⟨h.1.1,cL h.1.2 hz⟩,h.2⟩
theorem PR.off_new(h:PR w0 w p f M vt s top)(hk:w.heap.size<=k)(hk':k<w'.heap.size):Off w0 w' p f M vt k:=
 ⟨⟨cH h.base hk,hk'⟩,λe=>by have:=h.lt;omega,λe=>by have:=h.fr.lt k e;omega,λe=>by have:=(h.nt k e).2.2;omega⟩
theorem Eff.at_{o:Obj}(he:Eff p f M M' w w')(hk:w.heap[k]?=some o)(h:Off w0 w p f M vt k):w'.heap[k]?=some o:=he.chg.at hk h.no
theorem Eff.own{B:Nat}{e:TypeId}{m:Nat}{xs:List Value}(he:Eff p f M M' w w')(h:Own w B e m v n xs)(ho:∀k,v.ownBlock=some k->Off w0 w p f M vt k):Own w' B e m v n xs:=iO h he.chg λk hk=>(ho k hk).no
theorem PR.keep(h:PR w0 w p f M vt s top)(hc:Chg S w w')(hb:∀k,k<w0.heap.size->¬S k)(hS:∀k∈M.uses f,¬S k)(hp:¬S p)(ht:∀k,vt.ownBlock=some k->¬S k):PR w0 w' p f M vt s top:=by
 refine⟨h.ch.then hc λk hk e=>(hb k hk e).elim,h.fr.keep hc hS,hc.at h.ps hp,?_,h.np,h.lo,λk hk=>⟨(h.nt k hk).1,(h.nt k hk).2.1,cL (h.nt k hk).2.2 hc.size⟩⟩;obtain⟨q,cap,hv,h1,h2,h3⟩:=h.tk;refine⟨q,cap,hv,h1,h2,λhne=>?_⟩;obtain⟨b,off,c,fr,hq,hb,hcs⟩:=h3 hne;exact⟨b,off,c,fr,hq,hc.at hb (ht b (by rw[hv,hq];rfl)),hcs⟩
theorem PR.ext(h:PR w0 w p f M vt s top)(hc:Ext w w'):PR w0 w' p f M vt s top:=h.keep hc (λ_ _ e=>e) (λ_ _ e=>e) (λe=>e) λ_ _ e=>e
theorem cY(w:World):Ext w w.drew:=Chg.drew (Chg.refl _ _)
theorem PR.drew(h:PR w0 w p f M vt s top):PR w0 w.drew p f M vt s top:=h.ext (cY w)
theorem PR.one{w3:World}(h:PR w0 w p f M vt s top)(hc:Chg (One b) w w')(ho:Off w0 w3 p f M vt b):PR w0 w' p f M vt s top:=
 h.keep hc (λk hk e=>by have e:k=b:=e;have:=ho.1.1;omega) (λk hk e=>ho.2.2.1 (by have e:k=b:=e;exact e▸hk)) (λe=>ho.2.1 e.symm) λk hk e=>ho.2.2.2 (by have e:k=b:=e;rw[hk,e])
theorem PR.ld{off:Nat}{K:Value->Prop}(h:PR w0 w p f M vt s top)(hv:[vt,i64 (s.i:Nat),i64 s.off,.pointer (some ⟨f,0,none⟩),i64 (s.deep:Nat),.bool s.quiet][off]?=some v)(hk:K v):
  dJ (.pointer (some ⟨p,0,none⟩)) λt=>aY off t λt=>ldW false 1 t w K:=by
 rw[dI,bP,dM];refine⟨v,?_,hk⟩;rw[bY,cC,h.ps,cN,aX];simpa using hv
theorem PR.self{s':PS}(h:PR w0 w p f M vt s top)(hc:Chg (One p) w w')(hb:w'.heap[p]?=some (.cells [vt,i64 (s'.i:Nat),i64 s'.off,.pointer (some ⟨f,0,none⟩),i64 (s'.deep:Nat),.bool s'.quiet].toArray PsT (0,0)))
  (h1:s'.toks=s.toks)(h2:s'.ex=s.ex)(h3:s'.bl=s.bl):PR w0 w' p f M vt s' top:=by
 refine⟨h.ch.then hc λk hk e=>(by have e:k=p:=e;have:=h.lo;omega),by rw[h2,h3];exact h.fr.keep hc λk hk e=>h.np (by have e:k=p:=e;exact e▸hk),hb,?_,h.np,h.lo,λk hk=>⟨(h.nt k hk).1,(h.nt k hk).2.1,cL (h.nt k hk).2.2 hc.size⟩⟩;rw[h1];obtain⟨q,cap,hv,g1,g2,g3⟩:=h.tk;refine⟨q,cap,hv,g1,g2,λhne=>?_⟩;obtain⟨b,off,c,fr,hq,hb,hcs⟩:=g3 hne;exact⟨b,off,c,fr,hq,hc.at hb ((h.nt b (by rw[hv,hq];rfl)).2.1),hcs⟩
theorem DL(hc:Chg (One p) w w'):Eff p f M M w w':=Eff.of (hc.mono λk _ e=>.inl e)
theorem PR.st_i{K:World->Prop}(h:PR w0 w p f M vt s top)(hK:∀w',PR w0 w' p f M vt {s with i:=i} top->Eff p f M M w w'->w'.heap.size=w.heap.size->K w'):
  dJ (.pointer (some ⟨p,0,none⟩)) λt=>aY 1 t λt=>stW 1 t (i64 (i:Nat)) w K:=by
 rw[dI,bP,bY,aX];refine iT h.ps rfl (by simp) λw' hz hb hc=>hK w' (h.self hc (by rw[hb];simp) rfl rfl rfl) (DL hc) hz
theorem PR.st_deep{K:World->Prop}(h:PR w0 w p f M vt s top)(hK:∀w',PR w0 w' p f M vt {s with deep:=i} top->Eff p f M M w w'->w'.heap.size=w.heap.size->K w'):
  dJ (.pointer (some ⟨p,0,none⟩)) λt=>aY 4 t λt=>stW 1 t (i64 (i:Nat)) w K:=by
 rw[dI,bP,bY,aX];refine iT h.ps rfl (by simp) λw' hz hb hc=>hK w' (h.self hc (by rw[hb];simp) rfl rfl rfl) (DL hc) hz
theorem PR.st_quiet{q:Bool}{K:World->Prop}(h:PR w0 w p f M vt s top)(hK:∀w',PR w0 w' p f M vt {s with quiet:=q} top->Eff p f M M w w'->w'.heap.size=w.heap.size->K w'):
  dJ (.pointer (some ⟨p,0,none⟩)) λt=>aY 5 t λt=>stW 1 t (.bool q) w K:=by
 rw[dI,bP,bY,aX];refine iT h.ps rfl (by simp) λw' hz hb hc=>hK w' (h.self hc (by rw[hb];simp) rfl rfl rfl) (DL hc) hz
theorem PR.go{K:World->Prop}(h:PR w0 w p f M vt s top)(hi:s.i<=1000000)(hK:∀w',PR w0 w' p f M vt (step1 s) top->Eff p f M M w w'->w'.heap.size=w.heap.size->K w'):
  dJ (.pointer (some ⟨p,0,none⟩)) λt=>aY 1 t λt=>ldW false 1 t w λt=>aQ .add t (.int .i64 1) λt1=>dJ (.pointer (some ⟨p,0,none⟩)) λt=>aY 1 t λt=>stW 1 t t1 w K:=by
 refine h.ld rfl ?_;rw[cA,cK (by omega) (by omega)];exact h.st_i (i:=s.i+1) hK
def Loc(w0 w:World)(p f:Nat)(M:Lay)(vt:Value)(b:Nat)(T:TypeId)(cs:List Value):Prop:=w.heap[b]?=some (.cells cs.toArray T (0,0))/\Off w0 w p f M vt b
variable{T:TypeId}{cs:List Value}
theorem Loc.eff(h:Loc w0 w p f M vt b T cs)(he:Eff p f M M' w w'):Loc w0 w' p f M' vt b T cs:=⟨he.at_ h.1 h.2,h.2.eff he⟩
theorem Loc.ext(h:Loc w0 w p f M vt b T cs)(hx:Ext w w'):Loc w0 w' p f M vt b T cs:=h.eff (Eff.ext hx)
theorem Loc.drew(h:Loc w0 w p f M vt b T cs):Loc w0 w.drew p f M vt b T cs:=h.ext (cY w)
theorem Loc.one{b':Nat}(h:Loc w0 w p f M vt b T cs)(hc:Chg (One b') w w')(hb:b≠b'):Loc w0 w' p f M vt b T cs:=⟨hc.at h.1 hb,h.2.up hc.size⟩
theorem Loc.lt(h:Loc w0 w p f M vt b T cs):b<w.heap.size:=h.2.1.2
theorem Loc.ld{off:Nat}{K:Value->Prop}(h:Loc w0 w p f M vt b T cs)(hv:cs[off]?=some v)(hk:K v):ldW false 1 (.pointer (some ⟨b,off,none⟩)) w K:=by
 rw[dM];refine⟨v,?_,hk⟩;rw[cC,h.1,cN];simpa using hv
theorem Loc.ldf{off:Nat}{K:Value->Prop}(h:Loc w0 w p f M vt b T cs)(hv:cs[off]?=some v)(hk:K v):aY off (.pointer (some ⟨b,0,none⟩)) λt=>ldW false 1 t w K:=by
 rw[bP,bY,aX];exact h.ld hv hk
theorem Loc.st{off:Nat}{K:World->Prop}(h:Loc w0 w p f M vt b T cs)(h1:gH v=true)(hoff:off<cs.length)
  (hK:∀w',Loc w0 w' p f M vt b T (cs.set off v)->Chg (One b) w w'->w'.heap.size=w.heap.size->K w'):stW 1 (.pointer (some ⟨b,off,none⟩)) v w K:=
 iT h.1 h1 (by simpa using hoff) λw' hz hb hc=>hK w' ⟨by rw[hb];simp,h.2.up (by omega)⟩ hc hz
theorem PR.loc(h:PR w0 w p f M vt s top)(hz:w'.heap.size=w.heap.size+1){b:Nat}(hb:b=w.heap.size)(hc:w'.heap[b]?=some (.cells cs.toArray T (0,0))):Loc w0 w' p f M vt b T cs:=⟨hc,h.off_new (by omega) (by omega)⟩
end
end
end Go.Proofs.YtghhmpppnmoeoaaGreatDoor
namespace Go.Syn
section
open Go Go.Eng Go.Lex
variable{w:World}{K:Q0}{cs:List Value}{G:Nat->Prop}{T:TypeId}{i:Nat}{n:Nat}{v:Value}{w':World}{P:Program}{c:UInt8}{S:Nat->Prop}
theorem jZ{s:Str}(k:Nat)(h:s.length<=n):(s.drop k).length<=n:=by rw[aP];omega
theorem LG:∀(N:Nat) (r:Str),r.length<=N->(∀m m' c,r.length<m->r.length<m'->Aw m r c=Aw m' r c)/\(∀m m',r.length<m->r.length<m'->zW m r=zW m' r):=by
 intro N;induction N with
 |zero=>
  intro r hr;have:r=[]:=bI (by omega);subst this;refine⟨λm m' c h h'=>?_,λm m' h h'=>?_⟩
  ·obtain⟨m,rfl⟩:∃k,m=k+1:=⟨m-1,by simp at h;omega⟩;obtain⟨m',rfl⟩:∃k,m'=k+1:=⟨m'-1,by simp at h';omega⟩;rfl
  ·obtain⟨m,rfl⟩:∃k,m=k+1:=⟨m-1,by simp at h;omega⟩;obtain⟨m',rfl⟩:∃k,m'=k+1:=⟨m'-1,by simp at h';omega⟩;rfl
 |succ N ih=>
  intro r hr;cases r with
  |nil=>exact⟨λm m' c h h'=>(ih [] (by simp)).1 m m' c h h',λm m' h h'=>(ih [] (by simp)).2 m m' h h'⟩
  |cons c r=>
   simp only[aA]at hr;have hr:r.length<=N:=by omega
   refine⟨λm m' d h h'=>?_,λm m' h h'=>?_⟩
   ·obtain⟨m,rfl⟩:∃k,m=k+1:=⟨m-1,by simp at h;omega⟩;obtain⟨m',rfl⟩:∃k,m'=k+1:=⟨m'-1,by simp at h';omega⟩;simp only[aA]at h h';have hb:=λd=>(ih r hr).1 m m' d (by omega) (by omega);have hq:=(ih r hr).2 m m' (by omega) (by omega);have hd:=λk d=>(ih (r.drop k) (jZ k hr)).1 m m' d (by rw[aP];omega) (by rw[aP];omega);simp only[Aw,hb,hq,hd]
   ·obtain⟨m,rfl⟩:∃k,m=k+1:=⟨m-1,by simp at h;omega⟩;obtain⟨m',rfl⟩:∃k,m'=k+1:=⟨m'-1,by simp at h';omega⟩;simp only[aA]at h h';have hb:=λd=>(ih r hr).1 m m' d (by omega) (by omega);have hq:=(ih r hr).2 m m' (by omega) (by omega);have hd:=λk=>(ih (r.drop k) (jZ k hr)).2 m m' (by rw[aP];omega) (by rw[aP];omega);cases r with
    |nil=>simp only[zW,hb,hq,hd]
    |cons e r'=>
     have h2:=(ih r' (by simp at hr;omega)).2 m m' (by simp at h;omega) (by simp at h';omega);simp only[zW,hb,hd,hq,h2]
def pF(r:Str)(c:Int):Nat:=Aw (r.length+1) r c
def rF(r:Str):Nat:=zW (r.length+1) r
theorem DY{m:Nat}{r:Str}{c:Int}(h:r.length<m):Aw m r c=pF r c:=(LG r.length r (aU _)).1 _ _ _ h (dP _)
theorem Gw{m:Nat}{r:Str}(h:r.length<m):zW m r=rF r:=(LG r.length r (aU _)).2 _ _ h (dP _)
theorem vI{r:Str}(k:Nat){m:Nat}(h:r.length<m):(r.drop k).length<m:=by rw[aP];omega
theorem Qr(c:Int):pF [] c=0:=rfl
theorem nW(c:UInt8)(r:Str)(d:Int):pF (c::r) d=if c=123 then 1+pF r (d+1)else if c=125 then(if d-1=0 then 1 else 1+pF r (d-1))else if c=34 then(1+rF r)+pF (r.drop (rF r)) d else 1+pF r d:=by
 have h:r.length<(c::r).length:=by simp
 show Aw ((c::r).length+1) (c::r) d=_;rw[Aw,Gw h];rw[DY h,DY h,DY h,DY (vI _ h)]
theorem OE:rF []=0:=rfl
theorem AL(c:UInt8)(r:Str):rF (c::r)=if c=34 then 1 else if c=92 then(match r with|[]=>1|_::r'=>2+rF r')else if oN [36,123] (c::r)=true then(1+pF r 0)+rF (r.drop (pF r 0))else 1+rF r:=by
 cases r with
 |nil=>rfl
 |cons e r'=>
  have h:(e::r').length<(c::e::r').length:=by simp
  have h2:r'.length<(c::e::r').length:=by simp;omega
  have hd:∀k,zW (c::e::r').length ((e::r').drop k)=rF ((e::r').drop k):=λk=>Gw (vI k h);show zW ((c::e::r').length+1) (c::e::r')=_;rw[zW.eq_def];simp only[Gw h,DY h,Gw h2,hd]
theorem LF:∀(N:Nat) (r:Str),r.length<=N->(∀m m' d,r.length<m->r.length<m'->nP m r d=nP m' r d)/\(∀m m' d,r.length<m->r.length<m'->Ak m r d=Ak m' r d):=by
 intro N;induction N with
 |zero=>
  intro r hr;have:r=[]:=bI (by omega);subst this;refine⟨λm m' d h h'=>?_,λm m' d h h'=>?_⟩
  ·obtain⟨m,rfl⟩:∃k,m=k+1:=⟨m-1,by simp at h;omega⟩;obtain⟨m',rfl⟩:∃k,m'=k+1:=⟨m'-1,by simp at h';omega⟩;rfl
  ·obtain⟨m,rfl⟩:∃k,m=k+1:=⟨m-1,by simp at h;omega⟩;obtain⟨m',rfl⟩:∃k,m'=k+1:=⟨m'-1,by simp at h';omega⟩;rfl
 |succ N ih=>
  intro r hr;cases r with
  |nil=>exact⟨λm m' d h h'=>(ih [] (by simp)).1 m m' d h h',λm m' d h h'=>(ih [] (by simp)).2 m m' d h h'⟩
  |cons c r=>
   simp only[aA]at hr;have hr:r.length<=N:=by omega
   refine⟨λm m' d h h'=>?_,λm m' d h h'=>?_⟩
   ·obtain⟨m,rfl⟩:∃k,m=k+1:=⟨m-1,by simp at h;omega⟩;obtain⟨m',rfl⟩:∃k,m'=k+1:=⟨m'-1,by simp at h';omega⟩;simp only[aA]at h h';have ht:=λd=>(ih r hr).1 m m' d (by omega) (by omega);have hi:=λk d=>(ih (r.drop k) (jZ k hr)).2 m m' d (by rw[aP];omega) (by rw[aP];omega);have hd:=λk j d=>(ih ((r.drop k).drop j) (jZ j (jZ k hr))).1 m m' d (by rw[aP,aP];omega) (by rw[aP,aP];omega);cases r with
    |nil=>simp only[nP,ht,hi,hd]
    |cons e r'=>
     have h2:=λd=>(ih r' (by simp at hr;omega)).1 m m' d (by simp at h;omega) (by simp at h';omega);simp only[nP,ht,hi,hd,h2]
   ·obtain⟨m,rfl⟩:∃k,m=k+1:=⟨m-1,by simp at h;omega⟩;obtain⟨m',rfl⟩:∃k,m'=k+1:=⟨m'-1,by simp at h';omega⟩;simp only[aA]at h h';have ht:=λd=>(ih r hr).1 m m' d (by omega) (by omega);have hi:=λd=>(ih r hr).2 m m' d (by omega) (by omega);have hd:=λk d=>(ih (r.drop k) (jZ k hr)).2 m m' d (by rw[aP];omega) (by rw[aP];omega);simp only[Ak,ht,hi,hd]
def fP(r:Str)(d:Nat):Nat×Int:=nP (r.length+1) r d
def jP(r:Str)(d:Nat):Nat×Int:=Ak (r.length+1) r d
theorem sR{m:Nat}{r:Str}{d:Nat}(h:r.length<m):nP m r d=fP r d:=(LF r.length r (aU _)).1 _ _ _ h (dP _)
theorem Kl{m:Nat}{r:Str}{d:Nat}(h:r.length<m):Ak m r d=jP r d:=(LF r.length r (aU _)).2 _ _ _ h (dP _)
theorem oV(d:Nat):fP [] d=(0,40):=rfl
theorem Dt(d:Nat):jP [] d=(0,40):=rfl
theorem oW(c:UInt8)(r:Str)(d:Nat):fP (c::r) d=if c==34 then(1,0)else if c==10 then(0,40)else if c==92 then(match r with|[]=>(0,40)|e::r'=>if Lex.escOk e then mA 2 (fP r' d)else(0,40))
  else if oN [36,123] (c::r)then(if 24<d+1 then(0,7)else if(jP (r.drop 1) (d+1)).2=0 then mA ((jP (r.drop 1) (d+1)).1+2) (fP ((r.drop 1).drop (jP (r.drop 1) (d+1)).1) d)else(0,(jP (r.drop 1) (d+1)).2))else mA 1 (fP r d):=by
 cases r with
 |nil=>rfl
 |cons e r'=>
  have h:(e::r').length<(c::e::r').length:=by simp
  have h2:r'.length<(c::e::r').length:=by simp;omega
  have hi:∀k d,Ak (c::e::r').length ((e::r').drop k) d=jP ((e::r').drop k) d:=λk d=>Kl (vI k h);have hd:∀k j d,nP (c::e::r').length (((e::r').drop k).drop j) d=fP (((e::r').drop k).drop j) d:=λk j d=>sR (vI j (vI k h));show nP ((c::e::r').length+1) (c::e::r') d=_;rw[nP.eq_def];simp only[sR h,sR h2,hi,hd]
theorem Ba(c:UInt8)(r:Str)(d:Nat):jP (c::r) d=if c==125 then(1,0)else if c==10 then(0,40)else if c==123 then(if 24<d+1 then(0,7)else if(jP r (d+1)).2=0 then mA ((jP r (d+1)).1+1) (jP (r.drop (jP r (d+1)).1) d)else(0,(jP r (d+1)).2))
  else if c==34 then(if(fP r d).2=0 then mA ((fP r d).1+1) (jP (r.drop (fP r d).1) d)else(0,(fP r d).2))else mA 1 (jP r d):=by
 have h:r.length<(c::r).length:=by simp
 have hd:∀k d,Ak (c::r).length (r.drop k) d=jP (r.drop k) d:=λk d=>Kl (vI k h);show Ak ((c::r).length+1) (c::r) d=_;rw[Ak.eq_def];simp only[Kl h,sR h,hd]
theorem lJ{k:Nat}{r:Nat×Int}(h:mA k r=(n,0)):r=(n-k,0)/\k<=n:=by
 obtain⟨a,b⟩:=r;unfold mA at h;split at h
 ·rename_i e;simp only at e;subst e;injection h with h1 _
  subst h1;exact⟨by simp,by omega⟩
 ·rename_i e;injection h with _ h2
  exact absurd h2 e
theorem iN:∀(N:Nat) (r:Str),r.length<=N->
  (∀d k,fP r d=(k,0)->rF r=k/\1<=k/\k<=r.length)/\
  (∀d k,jP r d=(k,0)->(1<=k/\k<=r.length)/\∀c:Int,1<=c->pF r c=if c=1 then k else k+pF (r.drop k) (c-1)):=by
 intro N;induction N with
 |zero=>
  intro r hr;have:r=[]:=bI (by omega);subst this;refine⟨λd k h=>?_,λd k h=>?_⟩
  ·rw[oV]at h;cases h
  ·rw[Dt]at h;cases h
 |succ N ih=>
  intro r hr;cases r with
  |nil=>exact ih [] (by simp)
  |cons c r=>
   simp only[aA]at hr;have hr:r.length<=N:=by omega
   refine⟨λd k h=>?_,λd k h=>?_⟩
   ·rw[oW]at h;rw[AL];simp only[fI]at h;split at h
    ·rename_i e;rw[aH e];injection h with h1 _
     subst h1;simp
    rename_i e;rw[aD e];split at h
    ·cases h
    split at h
    ·rename_i e2;rw[aH e2];cases r with
     |nil=>cases h
     |cons x r'=>
      simp only at h⊢;split at h
      ·obtain⟨h1,h2⟩:=lJ h;obtain⟨q1,q2,q3⟩:=(ih r' (by simp at hr;omega)).1 d _ h1;simp only[aA];omega
      ·cases h
    rename_i e2;rw[aD e2];split at h
    ·rename_i e3;rw[aH e3];split at h
     ·cases h
     split at h
     ·rename_i e4;obtain⟨h1,h2⟩:=lJ h;cases r with
      |nil=>simp[oN]at e3
      |cons x r'=>
       have hx:x=123:=by
        simp[oN]at e3;exact e3.2.symm
       subst hx;simp only[cS,cV]at h1 h2 e4;have hr':r'.length<=N:=by simp at hr;omega
       obtain⟨⟨b1,b2⟩,b3⟩:=(ih r' hr').2 (d+1) (jP r' (d+1)).1 (eZ rfl e4);have hb:=b3 1 (by omega);rw[aH rfl]at hb;have hbx:pF (123::r') 0=1+(jP r' (d+1)).1:=by
        rw[nW,aH rfl];show 1+pF r' (0+1)=_;rw[show(0:Int)+1=1 from rfl,hb]
       rw[hbx];have hdr:(123::r').drop (1+(jP r' (d+1)).1)=r'.drop (jP r' (d+1)).1:=by rw[pP];rfl
       rw[hdr];obtain⟨q1,q2,q3⟩:=(ih (r'.drop (jP r' (d+1)).1) (jZ _ hr')).1 d _ h1;rw[aP]at q3;simp only[aA];omega
     ·rename_i e4;injection h with _ h2
      exact absurd h2 e4
    ·rename_i e3;rw[aD e3];obtain⟨h1,h2⟩:=lJ h;obtain⟨q1,q2,q3⟩:=(ih r hr).1 d _ h1;simp only[aA];omega
   ·rw[Ba]at h;simp only[fI]at h;split at h
    ·rename_i e;injection h with h1 _
     subst h1;refine⟨by simp,λcc hc=>?_⟩;rw[nW,aD (by rw[e];decide),aH e];by_cases h1:cc=1
     ·subst h1;simp
     ·rw[aD (by omega),aD h1];rfl
    rename_i e;split at h
    ·cases h
    rename_i e10;split at h
    ·rename_i e2;split at h
     ·cases h
     split at h
     ·rename_i e4;obtain⟨h1,h2⟩:=lJ h;obtain⟨⟨b1,b2⟩,b3⟩:=(ih r hr).2 (d+1) (jP r (d+1)).1 (eZ rfl e4);obtain⟨⟨f1,f2⟩,f3⟩:=(ih (r.drop (jP r (d+1)).1) (jZ _ hr)).2 d _ h1;rw[aP]at f2;refine⟨by simp only[aA];omega,λcc hc=>?_⟩;rw[nW,aH e2,b3 (cc+1) (by omega),aD (by omega),show cc+1-1=cc from by omega,f3 cc hc];by_cases h1':cc=1
      ·rw[aH h1',aH h1'];omega
      ·rw[aD h1',aD h1',gV];have:(c::r).drop k=r.drop (k-1):=by
        obtain⟨j,rfl⟩:∃j,k=j+1:=⟨k-1,by omega⟩;rfl
       rw[this,show(jP r (d+1)).1+(k-((jP r (d+1)).1+1))=k-1 from by omega];omega
     ·rename_i e4;injection h with _ h2
      exact absurd h2 e4
    rename_i e2;split at h
    ·rename_i e3;split at h
     ·rename_i e4;obtain⟨h1,h2⟩:=lJ h;obtain⟨q1,q2,q3⟩:=(ih r hr).1 d (fP r d).1 (eZ rfl e4);obtain⟨⟨f1,f2⟩,f3⟩:=(ih (r.drop (fP r d).1) (jZ _ hr)).2 d _ h1;rw[aP]at f2;refine⟨by simp only[aA];omega,λcc hc=>?_⟩;rw[nW,aD e2,aD e,aH e3,q1,f3 cc hc];by_cases h1':cc=1
      ·rw[aH h1',aH h1'];omega
      ·rw[aD h1',aD h1',gV];have:(c::r).drop k=r.drop (k-1):=by
        obtain⟨j,rfl⟩:∃j,k=j+1:=⟨k-1,by omega⟩;rfl
       rw[this,show(fP r d).1+(k-((fP r d).1+1))=k-1 from by omega];omega
     ·rename_i e4;injection h with _ h2
      exact absurd h2 e4
    ·rename_i e3;obtain⟨h1,h2⟩:=lJ h;obtain⟨⟨f1,f2⟩,f3⟩:=(ih r hr).2 d _ h1;refine⟨by simp only[aA];omega,λcc hc=>?_⟩;rw[nW,aD e2,aD e,aD e3,f3 cc hc];by_cases h1':cc=1
     ·rw[aH h1',aH h1'];omega
     ·rw[aD h1',aD h1'];have:(c::r).drop k=r.drop (k-1):=by
       obtain⟨j,rfl⟩:∃j,k=j+1:=⟨k-1,by omega⟩;rfl
      rw[this];omega
structure cQ(L:List (List Nat))(roots:List Nat):Prop where
 ahead:∀(i:Nat) (us:List Nat),L[i]?=some us->∀a∈us,a<i
 once:∀j,j<L.length->L.flatten.count j+roots.count j=1
 low:∀r∈roots,r<L.length
theorem cQ.perm{L:List (List Nat)}{r r':List Nat}(h:cQ L r)(hp:r.Perm r'):cQ L r':=
 ⟨h.ahead,λj hj=>by rw[<-hp.count_eq];exact h.once j hj,λx hx=>h.low x (hp.mem_iff.2 hx)⟩
theorem cQ.flat_lt{L:List (List Nat)}{r:List Nat}(h:cQ L r):∀x∈L.flatten,x<L.length:=by
 intro x hx;obtain⟨us,has,hxa⟩:=List.mem_flatten.1 hx;obtain⟨i,hi⟩:=List.getElem?_of_mem has;have h1:=h.ahead i us hi x hxa;have h2:=(List.getElem?_eq_some_iff.1 hi).1;omega
theorem cQ.put{L:List (List Nat)}{us roots:List Nat}(h:cQ L (us++roots)):cQ (L++[us]) (L.length::roots):=by
 refine⟨λi bs hi=>?_,λj hj=>?_,λr hr=>?_⟩
 ·by_cases hl:i<L.length
  ·rw[List.getElem?_append_left hl]at hi;exact h.ahead i bs hi
  ·rw[List.getElem?_append_right (by omega)]at hi;have:i-L.length=0:=by
    by_cases h0:i-L.length=0
    ·exact h0
    ·rw[List.getElem?_eq_none (by simp;omega)]at hi;cases hi
   rw[this]at hi;simp only[List.getElem?_cons_zero,bD]at hi;subst hi;intro a ha;have:=h.low a (eF _ ha);omega
 ·rw[List.flatten_append,kU];simp only[List.flatten_cons,List.flatten_nil,eA,Cf];by_cases hl:j<L.length
  ·have h1:=h.once j hl;rw[kU]at h1;have:(L.length==j)=false:=by simp;omega
   rw[this];simp only[iX,nG];omega
  ·have hj2:j=L.length:=by rw[bE,aA,aL]at hj;omega
   subst hj2;have e1:L.flatten.count L.length=0:=List.count_eq_zero.2 λhm=>by have:=h.flat_lt _ hm;omega
   have e2:us.count L.length=0:=List.count_eq_zero.2 λhm=>by have:=h.low _ (eF _ hm);omega
   have e3:roots.count L.length=0:=List.count_eq_zero.2 λhm=>by have:=h.low _ (cR _ hm);omega
   rw[e1,e2,e3];simp
 ·rw[bE,aA,aL];rcases bW.1 hr with rfl|hr
  ·omega
  ·have:=h.low r (cR _ hr);omega
abbrev exL(ex:List Ex):List (List Nat):=ex.map (·.args)
theorem DF{ex:List Ex}{e:Ex}{roots:List Nat}(h:cQ (exL ex) (e.args++roots)):cQ (exL (ex++[e])) (ex.length::roots):=by
 have:=h.put;rw[lC]at this;simpa[exL]using this
def Sat{α:Type}(r:R α)(P:α->PS->Prop)(Q:Int->Prop):Prop:=match r with
 |.ok x s=>P x s
 |.err _ a=>Q a
theorem Sat.bind{α β:Type}{r:R α}{f:α->PS->R β}{P:α->PS->Prop}{P':β->PS->Prop}{Q:Int->Prop}(h:Sat r P Q)(hf:∀x s,P x s->Sat (f x s) P' Q):Sat (r.bind f) P' Q:=by
 cases r with
 |ok x s=>exact hf x s h
 |err c a=>exact h
theorem Sat.mono{α:Type}{r:R α}{P P':α->PS->Prop}{Q:Int->Prop}(h:Sat r P Q)(hp:∀x s,P x s->P' x s):Sat r P' Q:=by
 cases r with
 |ok x s=>exact hp x s h
 |err c a=>exact h
def Hf(N a:Int)(t:Str):Prop:=insP t=none\/a+t.length+2<=N
structure TG(N off:Int)(l:List Tok):Prop where
 ne:l≠[]
 pos:∀i t,l[i]?=some t->0<=t.a+off/\t.a+off<=N/\(t.k≠0->t.a+off<N)/\(t.k=3->Hf N (t.a+off) t.t)/\(t.k=1->t.t≠[])/\(i+1=l.length->t.k=0)
structure WS(N:Int)(s:PS):Prop where
 tg:TG N s.off s.toks
 lt:s.i<s.toks.length
 pN:0<=N
structure Go1(N:Int)(s s':PS):Prop where
 toks:s'.toks=s.toks
 off:s'.off=s.off
 deep:s'.deep=s.deep
 quiet:s'.quiet=s.quiet
 le:s.i<=s'.i
 lt:s'.i<s'.toks.length
 exs:∀e∈s'.ex,e∈s.ex\/(0<=e.a/\e.a<N)
theorem Go1.trans{N:Int}{s s1 s2:PS}(h:Go1 N s s1)(h':Go1 N s1 s2):Go1 N s s2:=
 ⟨h'.toks.trans h.toks,h'.off.trans h.off,h'.deep.trans h.deep,h'.quiet.trans h.quiet,cH h.le h'.le,h'.lt,λe he=>(h'.exs e he).elim (h.exs e) .inr⟩
theorem Go1.refl{N:Int}{s:PS}(h:WS N s):Go1 N s s:=⟨rfl,rfl,rfl,rfl,aU _,h.lt,λ_ he=>.inl he⟩
theorem Go1.ws{N:Int}{s s':PS}(h:Go1 N s s')(hs:WS N s):WS N s':=⟨by rw[h.toks,h.off];exact hs.tg,h.lt,hs.pN⟩
theorem vW{N:Int}{s:PS}(h:WS N s)(d:Nat)(q:Bool):WS N {s with deep:=d,quiet:=q}:=⟨h.tg,h.lt,h.pN⟩
theorem Dk:∀{l:List Tok},l≠[]->(∀t,l.getLast?=some t->t.k≠5)->gM l<l.length
 |[],h,_=>absurd rfl h
 |[t],_,h=>by
  have:=h t rfl
  simp[gM,this]
 |t::u::r,_,h=>by
  have ih:=Dk (l:=u::r) (by simp) (λx hx=>h x (by simpa using hx))
  simp only[gM,aA]at ih⊢
  split<;>omega
theorem TG.last{N off:Int}{l:List Tok}(h:TG N off l)(hi:i<l.length):gM (l.drop i)<l.length-i:=by
 have hne:l.drop i≠[]:=λe=>by have:=congrArg List.length e;rw[aP,aL]at this;omega
 have:=Dk hne λt ht=>by
  rw[List.getLast?_drop]at ht;rw[aD (by omega)]at ht;rw[List.getLast?_eq_getElem?]at ht;have:=(h.pos _ t ht).2.2.2.2.2 (by omega);omega
 rw[aP]at this;exact this
theorem fN{N:Int}{s:PS}(h:WS N s):Go1 N s (bA s):=by
 unfold bA;split
 ·have:=h.tg.last h.lt;exact⟨rfl,rfl,rfl,rfl,Nat.le_add_right _ _,(by show s.i+_<s.toks.length;have:=h.lt;omega),λ_ he=>.inl he⟩
 ·exact Go1.refl h
theorem vZ{N:Int}{s:PS}(h:WS N s):s.toks[s.i]?=some (lH s):=by
 unfold lH;rw[List.getD_eq_getElem?_getD,List.getElem?_eq_getElem h.lt];rfl
theorem jM{N:Int}{s:PS}(h:WS N s):0<=(cur s).a/\(cur s).a<=N/\((cur s).k≠0->(cur s).a<N)/\((cur s).k=3->Hf N (cur s).a (cur s).t)/\((cur s).k=1->(cur s).t≠[]):=by
 have hg:=fN h;have hn:=hg.ws h;have h1:=hn.tg.pos _ _ (vZ hn);rw[hg.off]at h1;exact⟨h1.1,h1.2.1,h1.2.2.1,h1.2.2.2.1,h1.2.2.2.2.1⟩
theorem iZ{N:Int}{s:PS}(h:WS N s)(hk:(cur s).k≠0):Go1 N s (step1 (bA s))/\s.i<(step1 (bA s)).i:=by
 have hg:=fN h;have hn:=hg.ws h;have h1:=(hn.tg.pos _ _ (vZ hn)).2.2.2.2.2;have hlt:(bA s).i+1<(bA s).toks.length:=by
  have:=hn.lt;by_cases he:(bA s).i+1=(bA s).toks.length
  ·exact absurd (h1 he) hk
  ·omega
 exact⟨⟨hg.toks,hg.off,hg.deep,hg.quiet,cH hg.le (Nat.le_succ _),hlt,hg.exs⟩,Nat.lt_succ_of_le hg.le⟩
theorem TC(s:PS)(h:∀k,s.quiet=true->k=gM (s.toks.drop s.i)->gM (s.toks.drop (s.i+k))=0):bA (bA s)=bA s:=by
 unfold bA;split
 ·rename_i hq;have:=h _ hq rfl;simp only[hq,gU,this,fA]
 ·rfl
theorem Ad:∀(l:List Tok),gM (l.drop (gM l))=0
 |[]=>rfl
 |t::r=>by
  simp only[gM]
  split
  ·exact Ad r
  ·rename_i h
   simp[gM,h]
theorem gC(s:PS):bA (bA s)=bA s:=TC s λk _ hk=>by rw[<-gV,hk];exact Ad _
theorem kA(s:PS):cur (bA s)=cur s:=by
 unfold cur;rw[gC];have:(bA s).off=s.off:=by unfold bA;split<;>rfl
 rw[this]
abbrev Later(N:Int)(s:PS)(s':PS):Prop:=Go1 N s s'/\s.i<s'.i
abbrev InN(N:Int)(a:Int):Prop:=0<=a/\a<=N
theorem lK{s:PS}{w:Str}(h:isS s w=true):(cur s).k≠0:=by
 unfold isS at h;simp only[aJ,bB]at h;rw[h.1];decide
theorem iY{N:Int}{s:PS}(h:WS N s)(w:Str):Go1 N s (bQ s w).2/\((bQ s w).1=true->s.i<(bQ s w).2.i)/\(bQ s w).2.ex=s.ex/\(bQ s w).2.bl=s.bl:=by
 have e1:(bA s).ex=s.ex:=by unfold bA;split<;>rfl
 have e2:(bA s).bl=s.bl:=by unfold bA;split<;>rfl
 unfold bQ;split
 ·rename_i hi;have:=iZ h (lK hi);exact⟨this.1,λ_=>this.2,e1,e2⟩
 ·exact⟨fN h,(λe=>by cases e),e1,e2⟩
theorem gN(s:PS):(bA s).ex=s.ex/\(bA s).bl=s.bl:=by unfold bA;split<;>exact⟨rfl,rfl⟩
theorem jR{N:Int}{s:PS}(h:WS N s)(w:Str):Sat (nO s w) (λ_ s'=>Later N s s'/\s'.ex=s.ex/\s'.bl=s.bl) (InN N):=by
 unfold nO;split
 ·rename_i hi;exact⟨iZ h (lK hi),gN s⟩
 ·have:=jM h;exact⟨this.1,this.2.1⟩
theorem qF{N:Int}{s:PS}(h:WS N s):Go1 N s (iH s)/\((cur s).k≠0->s.i<(iH s).i)/\(iH s).ex=s.ex/\(iH s).bl=s.bl:=by
 unfold iH;split
 ·rename_i hk;have:=iZ h hk;exact⟨this.1,λ_=>this.2,gN s⟩
 ·rename_i hk;exact⟨fN h,λe=>absurd e hk,gN s⟩
theorem kY{N:Int}{s:PS}(h:WS N s)(k:Int)(hk0:k≠0):Sat (kZ s k) (λt s'=>Later N s s'/\s'.ex=s.ex/\s'.bl=s.bl/\t=cur s/\t.k=k) (InN N):=by
 unfold kZ;split
 ·rename_i hk;have:=qF h;exact⟨⟨this.1,this.2.1 (by omega)⟩,this.2.2.1,this.2.2.2,rfl,hk⟩
 ·have:=jM h;exact⟨this.1,this.2.1⟩
theorem lU{N:Int}{s:PS}(h:WS N s):Go1 N s (fQ s)/\(fQ s).ex=s.ex/\(fQ s).bl=s.bl:=by
 have hg:=fN h;have hn:=hg.ws h;have h1:=hn.tg.last hn.lt;rw[hg.toks]at h1;have h2:=hn.lt;rw[hg.toks]at h2;refine⟨⟨hg.toks,hg.off,hg.deep,hg.quiet,?_,?_,hg.exs⟩,gN s⟩
 ·have:=hg.le;show s.i<=(bA s).i+_;omega
 ·show(bA s).i+_<(bA s).toks.length;rw[hg.toks];omega
def EOk(N:Int)(F:PS->R Nat):Prop:=∀s,WS N s->Sat (F s) (λx s'=>Later N s s'/\s'.bl=s.bl/\∀roots,cQ (exL s.ex) roots->cQ (exL s'.ex) (x::roots)) (InN N)
theorem zX{N:Int}{s:PS}(h:WS N s){e:Ex}(ha:0<=e.a/\e.a<N):Sat (pS s e) (λx s'=>Go1 N s s'/\s'.i=s.i/\s'.bl=s.bl/\∀roots,cQ (exL s.ex) (e.args++roots)->cQ (exL s'.ex) (x::roots)) (InN N):=
 ⟨⟨rfl,rfl,rfl,rfl,aU _,h.lt,λx hx=>by
   rcases eH.1 hx with hx|hx
   ·exact .inl hx
   ·rw[bR]at hx
    subst hx
    exact .inr ha⟩,rfl,rfl,λ_ hf=>DF hf⟩
theorem kN{N:Int}{s:PS}(h:WS N s){α:Type}{a:Int}(ha:InN N a){q:Bool}{f:PS->R α}{P:α->PS->Prop}(hf:WS N {s with deep:=s.deep+1,quiet:=q}->Sat (f {s with deep:=s.deep+1,quiet:=q}) P (InN N)):
  Sat (within s a q f) (λx s'=>∃s1,P x s1/\s'={s1 with deep:=s.deep,quiet:=s.quiet}) (InN N):=by
 unfold within;split
 ·exact ha
 ·exact(hf (vW h _ _)).bind λx s1 h1=>⟨s1,h1,rfl⟩
theorem Go1.back{N:Int}{s s1:PS}{d:Nat}{q:Bool}(h:Go1 N {s with deep:=d,quiet:=q} s1):Go1 N s {s1 with deep:=s.deep,quiet:=s.quiet}:=⟨h.toks,h.off,rfl,rfl,h.le,h.lt,h.exs⟩
theorem pR(p:UInt8->Bool):∀s:Str,eC p s<=s.length
 |[]=>aU _
 |c::r=>by
  have:=pR p r
  simp only[eC,aA]
  split<;>omega
theorem GN:∀(s:Str) (i:Nat),Lib.index s [42,47]=(i:Int)->i+2<=s.length
 |[],i,h=>by
  unfold Lib.index at h
  simp at h
 |b::l,i,h=>by
  unfold Lib.index at h
  split at h
  ·rename_i hp
   have hi:i=0:=by omega
   subst hi
   cases l with
   |nil=>simp[List.isPrefixOf]at hp
   |cons c l=>simp
  ·split at h
   ·omega
   ·rename_i hq
    have h1:Lib.index l [42,47]≠-1:=by simpa using hq
    have hg:=Lib.index_ge l [42,47]
    have:=GN l (i-1) (by omega)
    simp only[aA]
    omega
theorem Gz{p s:Str}(h:oN p s=true):p.length<=s.length:=by
 unfold oN at h;exact(Er.1 h).length_le
theorem uR:∀(n:Nat) (s:Str),(eX n s).1<=s.length
 |0,_=>fW _
 |_+1,[]=>fW _
 |n+1,c::r=>by
  simp only[eX]
  split
  ·have:=uR n r
   simp only[aA]
   omega
  split
  ·have h1:=uR n ((c::r).drop (eC (λb=>b !=10) (c::r)))
   have h2:=pR (λb=>b !=10) (c::r)
   rw[aP]at h1
   simp only
   omega
  split
  ·rename_i hp
   split
   ·exact fW _
   ·rename_i hi
    obtain⟨i,hii⟩:=Int.eq_ofNat_of_zero_le (by omega:0<=Lib.index (r.drop 1) [42,47])
    have h1:=GN _ _ hii
    have h2:=uR n ((c::r).drop ((Lib.index (r.drop 1) [42,47]).toNat+4))
    rw[hii]at h2⊢
    rw[aP]at h1 h2
    simp only[aA,aV]at h2⊢
    omega
  ·exact fW _
def noD:Str->Bool
 |[]=>true
 |[c]=>c !=92&&c !=36
 |c::e::r=>if c=92 then noD r else c !=36&&noD (e::r)
theorem Cn:∀(n:Nat) (t:Str),t.length<=n->noD t=true->insP t=none
 |_,[],_,_=>rfl
 |_,[_],_,_=>rfl
 |0,c::e::r,h,_=>by simp at h
 |n+1,c::e::r,h,hd=>by
  simp only[noD]at hd
  simp only[insP]
  simp only[aA]at h
  split
  ·rename_i hc
   rw[aH hc]at hd
   rw[Cn n r (by omega) hd]
   rfl
  ·rename_i hc
   rw[aD hc]at hd
   simp only[aJ,bne_iff_ne,bT]at hd
   rw[aD (λe=>hd.1 e.1),Cn n (e::r) (by simp only[aA];omega) hd.2]
   rfl
theorem De{r:Str}(h1:c≠92)(h2:c≠36)(h:noD r=true):noD (c::r)=true:=by
 cases r with
 |nil=>simp[noD,h1,h2]
 |cons e r=>simp[noD,h1,h2,h]
theorem Co{r:Str}(h:noD r=true):noD (92::c::r)=true:=by simp[noD,h]
theorem Cp:∀(n:Nat) (a b:Str),a.length<=n->noD a=true->noD b=true->noD (a++b)=true
 |_,[],b,_,_,hb=>hb
 |0,_::_,b,h,_,_=>by simp at h
 |_,[c],b,_,ha,hb=>by
  simp only[noD,aJ,bne_iff_ne,bT]at ha
  exact De ha.1 ha.2 hb
 |n+1,c::e::r,b,h,ha,hb=>by
  simp only[noD]at ha
  simp only[aA]at h
  split at ha
  ·rename_i hc
   subst hc
   exact Co (Cp n r b (by omega) ha hb)
  ·rename_i hc
   simp only[aJ,bne_iff_ne,bT]at ha
   exact De hc ha.1 (Cp n (e::r) b (by simp only[aA];omega) ha.2 hb)
theorem Ia:∀s:Str,noD (jU s)=true
 |[]=>rfl
 |c::r=>by
  have ih:=Ia r
  simp only[jU]
  split
  ·exact Co ih
  rename_i h1
  split
  ·exact Co ih
  split
  ·exact Co ih
  ·simp only[cM,fI,not_or]at h1
   exact De h1.1.1 h1.2 ih
theorem LB:∀(n:Nat) (name s:Str) (t:Str) (k:Nat),lL n name s=(t,k,0)->k<=s.length/\noD t=true
 |0,_,_,_,_,h=>by simp[lL]at h
 |n+1,name,s,t,k,h=>by
  have hr:=pR (λb=>b !=10) s
  simp only[lL]at h
  split at h
  ·injection h with h1 h2
   injection h2 with h2 _
   subst h1 h2
   exact⟨hr,rfl⟩
  split at h
  ·cases h
  rename_i hlen
  split at h
  ·rename_i he
   injection h with h1 h2
   injection h2 with h2 _
   obtain⟨i1,i2⟩:=LB n name (s.drop (eC (λb=>b !=10) s+1)) (lL n name (s.drop (eC (λb=>b !=10) s+1))).1 (lL n name (s.drop (eC (λb=>b !=10) s+1))).2.1 (eZ rfl (eZ rfl he))
   rw[aP]at i1
   subst h1 h2
   refine⟨by omega,?_⟩
   refine Cp _ _ _ (aU _) (Cp _ _ _ (aU _) (Ia _) rfl) i2
  ·rename_i he
   injection h with _ h2
   injection h2 with _ h2
   exact absurd h2 he
theorem Ue{s:Str}{m:Nat}(hm:(s.drop m).head?=some c):m<s.length:=by
 by_cases hl:m<s.length
 ·exact hl
 ·rw[eO (by omega)]at hm;cases hm
theorem Dw{s t:Str}{k:Nat}(h:gT s=(t,k,0)):1<=k/\k<=s.length/\noD t=true:=by
 unfold gT at h;simp only at h;generalize (if iU ((s.drop 2).headD 0)=true then eC jB (s.drop 2)else 0)=n at h;split at h
 ·cases h
 split at h
 ·rename_i hh;have hlt:=Ue hh;generalize hH:lL (s.length+1) ((s.drop 2).take n) (s.drop (2+n+1))=x at h;obtain⟨x1,x2,x3⟩:=x;simp only at h;split at h
  ·rename_i he;subst he;injection h with h1 h2
   injection h2 with h2 _
   obtain⟨i1,i2⟩:=LB _ _ _ _ _ hH;rw[aP]at i1;subst h1 h2;exact⟨by omega,by omega,i2⟩
  ·rename_i he;injection h with _ h2
   injection h2 with _ h2
   exact absurd h2 he
 ·cases h
theorem GC{s:Str}{t:Tok}{k:Nat}(hs:s≠[])(h:oH s=(t,k,0)):1<=k/\k<=s.length/\t.k≠0/\t.a=0/\(t.k=1->t.t≠[])/\(t.k=3->insP t.t=none\/t.t.length+2<=k):=by
 obtain⟨c,r,rfl⟩:∃c r,s=c::r:=by
  cases s with
  |nil=>exact absurd rfl hs
  |cons c r=>exact⟨c,r,rfl⟩
 unfold oH at h;simp only[List.headD_cons]at h;split at h
 ·injection h with h1 h2
  injection h2 with h2 _
  subst h1 h2;simp
 split at h
 ·rename_i hl;injection h with h1 h2
  injection h2 with h2 h3
  have hp:1<=eC jB (c::r):=by
   simp only[eC];rw[aH (by unfold jB;rw[hl];rfl)];omega
  have:=pR jB (c::r);subst h1 h2;refine⟨hp,this,by simp,rfl,λ_=>?_,λe=>by simp at e⟩;intro e;have e:=congrArg List.length e;rw[cI,aL]at e;omega
 split at h
 ·rename_i hl;injection h with h1 h2
  injection h2 with h2 h3
  have hp:1<=eC iM (c::r):=by
   simp only[eC];rw[aH hl];omega
  have:=pR iM (c::r);subst h1 h2;exact⟨hp,this,by simp,rfl,λe=>by simp at e,λe=>by simp at e⟩
 split at h
 ·split at h
  ·rename_i he;injection h with h1 h2
   injection h2 with h2 _
   have hx:nP ((c::r).length+1) ((c::r).drop 1) 0=fP r 0:=sR (by simp;omega);rw[hx]at he h1 h2;obtain⟨_,q2,q3⟩:=(iN r.length r (aU _)).1 0 (fP r 0).1 (eZ rfl he);subst h1 h2;refine⟨by omega,by simp only[aA];omega,by simp,rfl,λe=>by simp at e,λ_=>.inr ?_⟩;rw[cI];simp only[cS,cV];omega
  ·rename_i he;injection h with _ h2
   injection h2 with _ h2
   exact absurd h2 he
 split at h
 ·injection h with h1 h2
  injection h2 with h2 h3
  obtain⟨i1,i2,i3⟩:=Dw (s:=c::r) (t:=(gT (c::r)).1) (k:=(gT (c::r)).2.1) (eZ rfl (eZ rfl h3));subst h1 h2;exact⟨i1,i2,by simp,rfl,λe=>by simp at e,λ_=>.inl (Cn _ _ (aU _) i3)⟩
 ·injection h with h1 h2
  injection h2 with h2 h3
  subst h1 h2;split at h3
  ·cases h3
  rename_i hz;refine⟨by omega,?_,by simp,rfl,λe=>by simp at e,λe=>by simp at e⟩;unfold uB;split
  ·exact List.length_take_le' _ _
  ·split
   ·exact List.length_take_le' _ _
   ·simp
theorem Hv:∀(n:Nat) (s:Str) (a cnt:Nat) (l:List Tok),mI n s a cnt=.ok l->TG ((a+s.length:Nat):Int) 0 l
 |0,_,_,_,_,h=>by simp[mI]at h
 |n+1,s,a,cnt,l,h=>by
  have hk:=uR (s.length+1) s
  simp only[mI]at h
  split at h
  ·cases h
  split at h
  ·rename_i hr
   injection h with h
   subst h
   have:s.length<=(eX (s.length+1) s).1:=by
    have:=congrArg List.length hr;rw[aP,aL]at this;omega
   refine⟨by simp,λi t ht=>?_⟩;have hi:i=0:=by
    by_cases h0:i=0
    ·exact h0
    ·rw[List.getElem?_eq_none (by simp;omega)]at ht;cases ht
   subst hi;simp only[List.getElem?_cons_zero,bD]at ht;subst ht;refine⟨by simp only;omega,by simp only;omega,λe=>absurd rfl e,λe=>by simp at e,λe=>by simp at e,λ_=>rfl⟩
  rename_i hr;split at h
  ·cases h
  rename_i ho;split at h
  ·cases h
  have hlen:s.length-(eX (s.length+1) s).1=(s.drop (eX (s.length+1) s).1).length:=(aP ..).symm;obtain⟨o1,o2,o3,o4,o5,o6⟩:=GC hr (eZ rfl (eZ rfl (yE.1 ho)):oH (s.drop (eX (s.length+1) s).1)=((oH (s.drop (eX (s.length+1) s).1)).1,(oH (s.drop (eX (s.length+1) s).1)).2.1,0));split at h
  ·rename_i l' hl';injection h with h
   subst h;have ih:=Hv n _ _ _ _ hl';rw[aP]at ih;have eN:a+(eX (s.length+1) s).1+(oH (s.drop (eX (s.length+1) s).1)).2.1+((s.drop (eX (s.length+1) s).1).length-(oH (s.drop (eX (s.length+1) s).1)).2.1)=a+s.length:=by omega
   rw[eN]at ih;refine⟨by simp,λi t ht=>?_⟩;cases i with
   |zero=>
    simp only[List.getElem?_cons_zero,bD]at ht;subst ht;refine⟨by simp only;omega,by simp only;omega,λ_=>by simp only;omega,λe=>?_,λe=>o5 e,λe=>?_⟩
    ·rcases o6 e with h|h
     ·exact .inl h
     ·exact .inr (by simp only;omega)
    ·simp only[aA]at e;have:=ih.ne;exact absurd (bI (by omega)) this
   |succ i=>
    simp only[List.getElem?_cons_succ]at ht;have:=ih.pos i t ht;exact⟨this.1,this.2.1,this.2.2.1,this.2.2.2.1,this.2.2.2.2.1,λe=>this.2.2.2.2.2 (by simp only[aA]at e;omega)⟩
  ·rename_i hne;exact absurd h (hne l)
theorem EK:∀(n:Nat) (s:Str) (a cnt:Nat) (c b:Int),mI n s a cnt=.bad c b->0<=b/\b<=((a+s.length:Nat):Int)
 |0,_,_,_,_,_,h=>by
  simp only[mI]at h
  injection h with _ h
  subst h
  omega
 |n+1,s,a,cnt,c,b,h=>by
  have hk:=uR (s.length+1) s
  simp only[mI]at h
  split at h
  ·injection h with _ h
   subst h
   omega
  split at h
  ·cases h
  rename_i hr
  split at h
  ·injection h with _ h
   subst h
   omega
  rename_i ho
  split at h
  ·injection h with _ h
   subst h
   omega
  obtain⟨o1,o2,_⟩:=GC hr (eZ rfl (eZ rfl (yE.1 ho)):oH (s.drop (eX (s.length+1) s).1)=((oH (s.drop (eX (s.length+1) s).1)).1,(oH (s.drop (eX (s.length+1) s).1)).2.1,0))
  rw[aP]at o2
  split at h
  ·cases h
  ·have ih:=EK n _ _ _ c b h
   rw[aP,aP]at ih
   omega
theorem Me:∀(n:Nat) (s:Str) (i j:Nat),Ek n s i=some j->j<s.length
 |0,_,_,_,h=>by simp[Ek]at h
 |n+1,s,i,j,h=>by
  simp only[Ek]at h
  split at h
  ·cases h
  split at h
  ·injection h with h
   omega
  ·exact Me n s _ j h
theorem Gr{s:Str}{l:List Tok}(h:pK s=.ok l){N off:Int}(h0:0<=off)(hN:off+s.length<=N):TG N off l:=by
 unfold pK at h;split at h
 ·cases h
 split at h
 ·cases h
 have:=Hv _ _ _ _ _ h;refine⟨this.ne,λi t ht=>?_⟩;obtain⟨h1,h2,h3,h4,h5,h6⟩:=this.pos i t ht;rw[aX]at h2 h3 h4;rw[Int.add_zero]at h1 h2 h3 h4;refine⟨by omega,by omega,λe=>by have:=h3 e;omega,λe=>?_,h5,h6⟩;rcases h4 e with h|h
 ·exact .inl h
 ·exact .inr (by omega)
theorem Hs{s:Str}{c b:Int}(h:pK s=.bad c b):0<=b/\b<=(s.length:Nat):=by
 unfold pK at h;split at h
 ·injection h with _ h
  subst h;omega
 split at h
 ·rename_i i hi;injection h with _ h
  subst h;have:=Me _ _ _ _ hi;omega
 ·have:=EK _ _ _ _ _ _ h;rw[aX]at this;exact this
theorem Xc:∀(N:Nat) (r:Str),r.length<=N->(∀c,pF r c<=r.length)/\rF r<=r.length:=by
 intro N;induction N with
 |zero=>
  intro r hr;have:r=[]:=bI (by omega);subst this;exact⟨λc=>aU _,aU _⟩
 |succ N ih=>
  intro r hr;cases r with
  |nil=>exact ih [] (by simp)
  |cons c r=>
   simp only[aA]at hr;have hr:r.length<=N:=by omega
   have h1:=ih r hr;refine⟨λd=>?_,?_⟩
   ·rw[nW];have h2:=(ih (r.drop (rF r)) (jZ _ hr)).1 d;rw[aP]at h2;have h3:=h1.1 (d+1);have h4:=h1.1 (d-1);have h5:=h1.1 d;have h6:=h1.2;simp only[aA]
    (repeat' split)<;>omega
   ·rw[AL];have h2:=(ih (r.drop (pF r 0)) (jZ _ hr)).2;rw[aP]at h2;have h3:=h1.1 0;have h6:=h1.2;cases r with
    |nil=>
     simp only[aA,aL]at*
     (repeat' split)<;>omega
    |cons e r'=>
     have h7:=(ih r' (by simp only[aA]at hr;omega)).2;simp only[aA]at*
     (repeat' split)<;>omega
theorem GW(r:Str)(c:Int):pF r c<=r.length:=(Xc r.length r (aU _)).1 c
theorem Aj:∀(n:Nat) (t:Str),t.length<=n->∀i e,insP t=some (i,e)->i+2<=t.length/\i+1<=e/\e<=t.length
 |_,[],_,i,e,h=>by simp[insP]at h
 |_,[_],_,i,e,h=>by simp[insP]at h
 |0,_::_::_,h,_,_,_=>by simp at h
 |n+1,c::x::r,hn,i,e,h=>by
  simp only[aA]at hn
  simp only[insP]at h
  split at h
  ·cases hr:insP r with
   |none=>rw[hr]at h;cases h
   |some y=>
    rw[hr]at h
    simp only[gZ,bD,fJ]at h
    obtain⟨rfl,rfl⟩:=h
    have:=Aj n r (by omega) y.1 y.2 hr
    simp only[aA]
    omega
  split at h
  ·simp only[bD,fJ]at h
   obtain⟨rfl,rfl⟩:=h
   have:=GW (x::r) 0
   have e1:Je (x::r)=pF (x::r) 0:=rfl
   rw[e1]
   simp only[aA]at this⊢
   omega
  ·cases hr:insP (x::r)with
   |none=>rw[hr]at h;cases h
   |some y=>
    rw[hr]at h
    simp only[gZ,bD,fJ]at h
    obtain⟨rfl,rfl⟩:=h
    have:=Aj n (x::r) (by simp only[aA];omega) y.1 y.2 hr
    simp only[aA]at this⊢
    omega
section
variable{N:Int}{E S:PS->R Nat}
theorem Fu(hE:EOk N E){s:PS}(h:WS N s){t:Str}{a:Int}(h0:0<=a)(h1:a+t.length<=N):Sat (oJ E s t a) (λx s'=>Go1 N s s'/\s'.bl=s.bl/\∀roots,cQ (exL s.ex) roots->cQ (exL s'.ex) (x::roots)) (InN N):=by
 unfold oJ;split
 ·rename_i c b hs;have:=Hs hs;exact⟨by omega,by omega⟩
 ·rename_i l hs;have htg:=Gr hs h0 h1;have hw:WS N ⟨l,0,a,s.deep,false,s.ex,s.bl⟩:=⟨htg,dF.2 htg.ne,h.pN⟩;refine(hE _ hw).bind λx q ⟨⟨hg,_⟩,hb,hf⟩=>?_;have hq:=hg.ws hw;unfold kZ;split
  ·refine⟨⟨rfl,rfl,rfl,rfl,aU _,h.lt,λe he=>?_⟩,?_,λroots hr=>?_⟩
   ·have:e∈(iH q).ex:=he;rw[(qF hq).2.2.1]at this;exact hg.exs e this
   ·show(iH q).bl=s.bl;rw[(qF hq).2.2.2];exact hb
   ·show cQ (exL (iH q).ex) _;rw[(qF hq).2.2.1];exact hf roots hr
  ·have:=jM hq;exact⟨this.1,this.2.1⟩
theorem EW{s:PS}(h:WS N s){t:Tok}(ht:InN N t.a):Sat (oY s t) (λ_ s'=>s'=s) (InN N):=by
 unfold oY;split
 ·exact ht
 ·rfl
theorem AP(hE:EOk N E):∀(n:Nat) (s:PS) (rest:Str) (a:Int) (us:List Nat) (ks:List Str),WS N s->0<=a->a+rest.length+1<=N->
  Sat (mL E n s rest a us ks) (λx s'=>Go1 N s s'/\s'.bl=s.bl/\∀roots,cQ (exL s.ex) (us++roots)->cQ (exL s'.ex) (x.1++roots)) (InN N)
 |0,s,_,_,_,_,h,_,_=>⟨nM _,h.pN⟩
 |n+1,s,rest,a,us,ks,h,h0,h1=>by
  have one:∀(e:Ex),e.args=[]->0<=e.a->e.a<N->Go1 N s {s with ex:=s.ex++[e]}/\∀roots,cQ (exL s.ex) (us++roots)->cQ (exL (s.ex++[e])) ((us++[s.ex.length])++roots):=λe he h2 h3=>
   ⟨⟨rfl,rfl,rfl,rfl,aU _,h.lt,λx hx=>by
     rcases eH.1 hx with hx|hx
     ·exact .inl hx
     ·rw[bR]at hx;subst hx;exact .inr ⟨h2,h3⟩⟩,
    λroots hf=>by
     have:=DF (e:=e) (roots:=us++roots) (by rw[he];exact hf)
     refine this.perm ?_
     rw[fD]
     exact(oP).symm⟩
  simp only[mL]
  split
  ·exact⟨Go1.refl h,rfl,λ_ hf=>hf⟩
  split
  ·have:=one ⟨5,jS rest,[],[],a⟩ rfl h0 (by show a<N;omega)
   exact⟨this.1,rfl,this.2⟩
  ·rename_i i e hi
   obtain⟨i1,i2,i3⟩:=Aj rest.length rest (aU _) i e hi
   have hs1:∃s1 as1,s1=(if 0<i then{s with ex:=s.ex++[⟨5,jS (rest.take i),[],[],a⟩]}else s)/\as1=(if 0<i then us++[s.ex.length]else us)/\Go1 N s s1/\s1.bl=s.bl/\∀roots,cQ (exL s.ex) (us++roots)->cQ (exL s1.ex) (as1++roots):=by
    refine⟨_,_,rfl,rfl,?_⟩;split
    ·have:=one ⟨5,jS (rest.take i),[],[],a⟩ rfl h0 (by show a<N;omega);exact⟨this.1,rfl,this.2⟩
    ·exact⟨Go1.refl h,rfl,λ_ hf=>hf⟩
   obtain⟨s1,as1,e1,e2,g1,b1,f1⟩:=hs1;rw[<-e1,<-e2];have hw1:=g1.ws h;have hd:((rest.drop e).length:Int)=rest.length-e:=by rw[aP];omega
   split
   ·refine Sat.bind (kN hw1 (a:=a+i) ⟨by omega,by omega⟩ (P:=λx s'=>Go1 N {s1 with deep:=s1.deep+1,quiet:=false} s'/\s'.bl=s1.bl/\∀roots,cQ (exL s1.ex) roots->cQ (exL s'.ex) (x::roots)) λhw=>Fu hE hw (by omega) ?_) λx s2 ⟨q,⟨g2,b2,f2⟩,e3⟩=>?_
    ·rw[cI,aP];omega
    ·subst e3;have g2':=g2.back;refine Sat.mono (AP hE n _ (rest.drop e) (a+e) (as1++[x]) _ ((g2').ws hw1) (by omega) (by rw[hd];omega)) λy s3 ⟨g3,b3,f3⟩=>⟨g1.trans (g2'.trans g3),b3.trans (b2.trans b1),λroots hf=>f3 roots ?_⟩;have:=f2 _ (f1 roots hf);refine this.perm ?_;rw[fD];exact(oP).symm
   ·refine Sat.mono (AP hE n s1 (rest.drop e) (a+e) as1 _ hw1 (by omega) (by rw[hd];omega)) λy s3 ⟨g3,b3,f3⟩=>⟨g1.trans g3,b3.trans b1,λroots hf=>f3 roots (f1 roots hf)⟩
theorem NX(hE:EOk N E){s:PS}(h:WS N s){t:Tok}(ha:0<=t.a/\t.a<N)(ht:Hf N t.a t.t):Sat (BD E s t) (λx s'=>Go1 N s s'/\s'.bl=s.bl/\∀roots,cQ (exL s.ex) roots->cQ (exL s'.ex) (x::roots)) (InN N):=by
 unfold BD;split
 ·rename_i hi;have ht:t.a+t.t.length+2<=N:=ht.resolve_left λe=>by rw[e]at hi;cases hi
  refine(AP hE (t.t.length+1) s t.t (t.a+1) [] [] h (by omega) (by omega)).bind λx s1 ⟨g1,b1,f1⟩=>?_;refine(zX (g1.ws h) (e:=⟨6,[],x.1,x.2,t.a⟩) ha).mono λy s2 ⟨g2,_,b2,f2⟩=>⟨g1.trans g2,b2.trans b1,λroots hf=>f2 roots (f1 roots hf)⟩
 ·exact(zX h (e:=⟨5,jS t.t,[],[],t.a⟩) ha).mono λy s2 ⟨g2,_,b2,f2⟩=>⟨g2,b2,λroots hf=>f2 roots hf⟩
theorem Jl(hE:EOk N E)(w:Str):∀(n:Nat) (s:PS) (out:List Nat),WS N s->
  Sat (sC E w n s out) (λx s'=>Later N s s'/\s'.bl=s.bl/\∀roots,cQ (exL s.ex) (out++roots)->cQ (exL s'.ex) (x++roots)) (InN N)
 |0,s,_,h=>⟨nM _,h.pN⟩
 |n+1,s,out,h=>by
  have step:∀{s1:PS},Go1 N s s1->s1.ex=s.ex->s1.bl=s.bl->Sat ((E s1).bind λx s'=>sC E w n s' (out++[x])) (λx s'=>Later N s s'/\s'.bl=s.bl/\∀roots,cQ (exL s.ex) (out++roots)->cQ (exL s'.ex) (x++roots)) (InN N):=λ{s1} g1 x1 b1=>by
   refine(hE s1 (g1.ws h)).bind λx s2 ⟨g2,b2,f2⟩=>?_
   refine Sat.mono (Jl hE w n s2 (out++[x]) (g2.1.ws (g1.ws h))) λy s3 ⟨g3,b3,f3⟩=>⟨⟨g1.trans (g2.1.trans g3.1),by have:=g1.le;have:=g2.2;have:=g3.2;omega⟩,b3.trans (b2.trans b1),λroots hf=>f3 roots ?_⟩
   have:=f2 _ (by rw[x1];exact hf)
   refine this.perm ?_
   rw[fD]
   exact(oP).symm
  have t1:=iY h w
  simp only[sC]
  split
  ·rename_i ht
   exact⟨⟨t1.1,t1.2.1 ht⟩,t1.2.2.2,λroots hf=>by rw[t1.2.2.1];exact hf⟩
  split
  ·rename_i ho
   have:=step t1.1 t1.2.2.1 t1.2.2.2
   exact this
  ·refine(jR (t1.1.ws h) [44]).bind λ_ s1 ⟨g1,x1,b1⟩=>?_
   have g01:=t1.1.trans g1.1
   have t2:=iY (g01.ws h) w
   split
   ·rename_i ht
    exact⟨⟨g01.trans t2.1,by have:=t1.1.le;have:=g1.2;have:=t2.1.le;omega⟩,t2.2.2.2.trans (b1.trans t1.2.2.2),λroots hf=>by rw[t2.2.2.1,x1,t1.2.2.1];exact hf⟩
   ·exact step (g01.trans t2.1) (t2.2.2.1.trans (x1.trans t1.2.2.1)) (t2.2.2.2.trans (b1.trans t1.2.2.2))
theorem FZ(hE:EOk N E)(w:Str){s:PS}(h:WS N s):Sat (DZ E w s) (λx s'=>Later N s s'/\s'.bl=s.bl/\∀roots,cQ (exL s.ex) roots->cQ (exL s'.ex) (x++roots)) (InN N):=
 (Jl hE w _ s [] h).mono λx s' ⟨g,b,f⟩=>⟨g,b,λroots hf=>f roots hf⟩
theorem Pk(hE:EOk N E){s:PS}(h:WS N s)(hk:(cur s).k≠0)(hq:bA s=s){a:Int}(ha:0<=a/\a<N):Sat (BI E s a) (λe s'=>Later N s s'/\s'.bl=s.bl/\(0<=e.a/\e.a<N)/\∀roots,cQ (exL s.ex) roots->cQ (exL s'.ex) (e.args++roots)) (InN N):=by
 have hs:=iZ h hk;rw[hq]at hs;have hw:=hs.1.ws h;have hn:=fN hw;have ex1:(bA (step1 s)).ex=s.ex:=(gN _).1;have bl1:(bA (step1 s)).bl=s.bl:=(gN _).2;unfold BI;simp only;split
 ·refine(FZ hE [93] (hn.ws hw)).bind λus s1 ⟨g1,b1,f1⟩=>?_;exact⟨⟨hs.1.trans (hn.trans g1.1),by have:=hs.2;have:=hn.le;have:=g1.2;omega⟩,b1.trans bl1,ha,λroots hf=>f1 roots (by rw[ex1];exact hf)⟩
 ·rename_i hc;have hk1:(cur (step1 s)).k≠0:=λe=>hc (.inl (by rw[e];decide));have h2:=iZ hw hk1;refine(kY (h2.1.ws hw) 1 (by decide)).bind λt s2 ⟨g2,x2,b2,_⟩=>?_;have hw2:=g2.1.ws (h2.1.ws hw);refine(kY hw2 1 (by decide)).bind λu s3 ⟨g3,x3,b3,hu,_⟩=>?_;have hw3:=g3.1.ws hw2;split
  ·have:=jM hw2;rw[hu];exact⟨this.1,this.2.1⟩
  refine(hE s3 hw3).bind λx s4 ⟨g4,b4,f4⟩=>?_;have hw4:=g4.1.ws hw3;refine(jR hw4 [58]).bind λ_ s5 ⟨g5,x5,b5⟩=>?_;have hw5:=g5.1.ws hw4;refine(hE s5 hw5).bind λy s6 ⟨g6,b6,f6⟩=>?_;have hw6:=g6.1.ws hw5;refine(jR hw6 [93]).bind λ_ s7 ⟨g7,x7,b7⟩=>?_;have e01:(step1 (bA (step1 s))).ex=s.ex:=ex1;have e02:(step1 (bA (step1 s))).bl=s.bl:=bl1;refine⟨⟨hs.1.trans (h2.1.trans (g2.1.trans (g3.1.trans (g4.1.trans (g5.1.trans (g6.1.trans g7.1)))))),by have:=hs.2;have:=h2.2;have:=g2.2;have:=g3.2;have:=g4.2;have:=g5.2;have:=g6.2;have:=g7.2;omega⟩,
   b7.trans (b6.trans (b5.trans (b4.trans (b3.trans (b2.trans e02))))),ha,λroots hf=>?_⟩
  rw[x7];have h1:=f4 roots (by rw[x3,x2,e01];exact hf);have h2:=f6 _ (by rw[x5];exact h1);exact h2.perm (List.Perm.swap _ _ _)
theorem Ln(hE:EOk N E){a:Int}(ha:0<=a/\a<N):∀(n:Nat) (s:PS) (us:List Nat) (ks:List Str),WS N s->
  Sat (Ee E a n s us ks) (λe s'=>Later N s s'/\s'.bl=s.bl/\(0<=e.a/\e.a<N)/\∀roots,cQ (exL s.ex) (us++roots)->cQ (exL s'.ex) (e.args++roots)) (InN N)
 |0,s,_,_,h=>⟨nM _,h.pN⟩
 |n+1,s,us,ks,h=>by
  have t1:=iY h [125]
  simp only[Ee]
  split
  ·rename_i ht
   exact⟨⟨t1.1,t1.2.1 ht⟩,t1.2.2.2,ha,λroots hf=>by rw[t1.2.2.1];exact hf⟩
  have hw1:=t1.1.ws h
  have n1:=qF hw1
  have hw2:=n1.1.ws hw1
  have hc:=jM hw1
  have hca:InN N (cur (bQ s [125]).2).a:=⟨hc.1,hc.2.1⟩
  refine Sat.bind (P:=λ_ s3=>s3=iH (bQ s [125]).2/\(cur (bQ s [125]).2).k≠0) ?_ λk s3 ⟨e3,hk0⟩=>?_
  ·split
   ·rename_i hk
    exact(EW hw2 hca).mono λ_ s3 e=>⟨e,by rw[hk];decide⟩
   ·split
    ·rename_i hk
     exact⟨rfl,by rw[hk];decide⟩
    ·exact hca
  subst e3
  split
  ·exact hca
  refine(jR hw2 [61]).bind λ_ s4 ⟨g4,x4,b4⟩=>?_
  have hw4:=g4.1.ws hw2
  refine(hE s4 hw4).bind λx s5 ⟨g5,b5,f5⟩=>?_
  have hw5:=g5.1.ws hw4
  have t5:=iY hw5 [44]
  have hw6:=t5.1.ws hw5
  have n6:=fN hw6
  have g05:=t1.1.trans (n1.1.trans (g4.1.trans (g5.1.trans t5.1)))
  split
  ·have:=jM (n6.ws hw6)
   exact⟨this.1,this.2.1⟩
  have l6:∃s6,s6=(if(bQ s5 [44]).1=true then(bQ s5 [44]).2 else bA (bQ s5 [44]).2)/\Go1 N (bQ s5 [44]).2 s6/\s6.ex=(bQ s5 [44]).2.ex/\s6.bl=(bQ s5 [44]).2.bl:=by
   refine⟨_,rfl,?_⟩;split
   ·exact⟨Go1.refl hw6,rfl,rfl⟩
   ·exact⟨n6,(gN _).1,(gN _).2⟩
  obtain⟨s6,e6,g6,x6,b6⟩:=l6;rw[<-e6];have hw7:=g6.ws hw6;have l7:=lU hw7;refine Sat.mono (Ln hE ha n (fQ s6) (us++[x]) (ks++[k]) (l7.1.ws hw7)) λe s8 ⟨g8,b8,ha8,f8⟩=>⟨⟨g05.trans (g6.trans (l7.1.trans g8.1)),by have:=g05.le;have:=g6.le;have:=l7.1.le;have:=g8.2;omega⟩,
   b8.trans (l7.2.2.trans (b6.trans (t5.2.2.2.trans (b5.trans (b4.trans (n1.2.2.2.trans t1.2.2.2)))))),ha8,λroots hf=>f8 roots ?_⟩
  rw[l7.2.1,x6,t5.2.2.1];have:=f5 (us++roots) (by rw[x4,n1.2.2.1,t1.2.2.1];exact hf);refine this.perm ?_;rw[fD];exact(oP).symm
end
theorem _root_.And.tr{N:Int}{s s1 s2:PS}(h:Later N s s1)(h':Later N s1 s2):Later N s s2:=⟨h.1.trans h'.1,Nat.lt_trans h.2 h'.2⟩
theorem Go1.tr{N:Int}{s s1 s2:PS}(h:Go1 N s s1)(h':Later N s1 s2):Later N s s2:=⟨h.trans h'.1,Eo h.le h'.2⟩
section
variable{N:Int}{E S:PS->R Nat}
theorem HB{l:List Tok}{t:Tok}(h:l[i]?=some t)(hk:t.k≠5):gM (l.drop i)=0:=by
 have hlt:=(List.getElem?_eq_some_iff.1 h).1;rw[cD hlt];have:l[i]=t:=(List.getElem?_eq_some_iff.1 h).2;simp[gM,this,hk]
theorem OW{N:Int}{s:PS}(h:WS N s)(hk:(lH s).k≠5):bA s=s:=by
 unfold bA;split
 ·rw[HB (vZ h) hk];rfl
 ·rfl
theorem nQ{N:Int}{s:PS}(h:WS N s){w:Str}(hi:isS s w=true)(d:Nat)(q:Bool):bA {bA s with deep:=d,quiet:=q}={bA s with deep:=d,quiet:=q}/\(cur {bA s with deep:=d,quiet:=q}).k≠0/\(cur {bA s with deep:=d,quiet:=q}).a=(cur s).a:=by
 have hw:=(fN h).ws h;have hk:(lH (bA s)).k=4:=by
  unfold isS cur at hi;simp only[aJ,bB]at hi;exact hi.1
 have e1:bA {bA s with deep:=d,quiet:=q}={bA s with deep:=d,quiet:=q}:=OW (vW hw d q) (by show(lH (bA s)).k≠5;rw[hk];decide);have e2:(bA s).off=s.off:=by unfold bA;split<;>rfl
 refine⟨e1,?_,?_⟩
 ·unfold cur;rw[e1];show(lH (bA s)).k≠0;rw[hk];decide
 ·unfold cur;rw[e1];show(lH (bA s)).a+(bA s).off=(lH (bA s)).a+s.off;rw[e2]
abbrev Leaves(N:Int)(s:PS)(x:Nat)(s':PS):Prop:=Later N s s'/\s'.bl=s.bl/\∀roots,cQ (exL s.ex) roots->cQ (exL s'.ex) (x::roots)
theorem oX{s s1:PS}(h:WS N s)(hg:Later N s s1)(hb:s1.bl=s.bl){e:Ex}(ha:0<=e.a/\e.a<N)(hf:∀roots,cQ (exL s.ex) roots->cQ (exL s1.ex) (e.args++roots)):Sat (pS s1 e) (Leaves N s) (InN N):=
 (zX (hg.1.ws h) ha).mono λx s2 ⟨g2,i2,b2,f2⟩=>⟨⟨hg.1.trans g2,by have:=hg.2;rw[i2];exact this⟩,b2.trans hb,λroots hr=>f2 roots (hf roots hr)⟩
theorem Jj(hE:EOk N E):EOk N (Ay E):=by
 intro s h;have n1:=fN h;have hw1:=n1.ws h;have hc:=jM h;have x1:=gN s;unfold Ay;simp only;split
 ·rename_i hk;have h2:=iZ h (by rw[hk];decide);exact oX h h2 x1.2 (e:=⟨4,(cur s).t,[],[],(cur s).a⟩) ⟨hc.1,hc.2.2.1 (by rw[hk];decide)⟩ λroots hr=>by show cQ (exL (bA s).ex) _;rw[x1.1];exact hr
 split
 ·rename_i hk;have h2:=iZ h (by rw[hk];decide);refine(NX hE (h2.1.ws h) (t:=cur s) ⟨hc.1,hc.2.2.1 (by rw[hk];decide)⟩ (hc.2.2.2.1 hk)).mono λx s2 ⟨g2,b2,f2⟩=>⟨⟨h2.1.trans g2,by have:=h2.2;have:=g2.le;omega⟩,b2.trans x1.2,λroots hr=>f2 roots (by show cQ (exL (bA s).ex) _;rw[x1.1];exact hr)⟩
 split
 ·rename_i hk;have hk0:(cur s).k≠0:=by rw[hk.1];decide
  have h2:=iZ h hk0;have hw2:=h2.1.ws h;have n2:=fN hw2;have hw3:=n2.ws hw2;have hat:0<=(cur s).a/\(cur s).a<N:=⟨hc.1,hc.2.2.1 hk0⟩;split
  ·rename_i hi;have hc2:=jM hw2;refine Sat.bind (kN hw3 (a:=(cur (step1 (bA s))).a) (q:=true) ⟨hc2.1,hc2.2.1⟩ (P:=λus s'=>Later N {bA (step1 (bA s))with deep:=(bA (step1 (bA s))).deep+1,quiet:=true} s'/\s'.bl=s.bl/\∀roots,cQ (exL s.ex) roots->cQ (exL s'.ex) (us++roots)) λhw=>?_) λus s2 ⟨q,⟨g2,b2,f2⟩,e2⟩=>?_
   ·have hh:=nQ hw2 hi ((bA (step1 (bA s))).deep+1) true;have h4:=iZ hw hh.2.1;rw[hh.1]at h4;exact(FZ hE [41] (h4.1.ws hw)).mono λus s' ⟨g,b,f⟩=>⟨h4.tr g,b.trans ((gN _).2.trans x1.2),λroots hr=>f roots (by show cQ (exL (bA (step1 (bA s))).ex) _;rw[(gN _).1];show cQ (exL (bA s).ex) _;rw[x1.1];exact hr)⟩
   ·subst e2;have g2':=g2.1.back;refine oX h ⟨h2.1.trans (n2.trans g2'),?_⟩ b2 (e:=⟨12,(cur s).t,us,[],(cur s).a⟩) hat f2;have:=h2.2;have:=n2.le;have:=g2'.le;omega
  ·exact oX h ⟨h2.1.trans n2,by have:=h2.2;have:=n2.le;omega⟩ ((gN _).2.trans x1.2) (e:=⟨wL (cur s).t,if wL (cur s).t=9 then(cur s).t else [],[],[],(cur s).a⟩) hat λroots hr=>by rw[(gN _).1];show cQ (exL (bA s).ex) _;rw[x1.1];exact hr
 have hca:InN N (cur s).a:=⟨hc.1,hc.2.1⟩;have gS:∀w,isS (bA s) w=isS s w:=λw=>by unfold isS;rw[kA]
 split
 ·rename_i hi;rw[gS]at hi;refine(kN hw1 (a:=(cur s).a) (q:=true) hca (P:=λx s'=>Later N {bA s with deep:=(bA s).deep+1,quiet:=true} s'/\s'.bl=s.bl/\∀roots,cQ (exL s.ex) roots->cQ (exL s'.ex) (x::roots)) λhw=>?_).mono λx s2 ⟨q,⟨g2,b2,f2⟩,e2⟩=>?_
  ·have hh:=nQ h hi ((bA s).deep+1) true;have h4:=iZ hw hh.2.1;rw[hh.1]at h4;refine(hE _ (h4.1.ws hw)).bind λx q1 ⟨g1,b1,f1⟩=>?_;refine(jR (g1.1.ws (h4.1.ws hw)) [41]).bind λ_ q2 ⟨g2,e2,b2⟩=>?_;refine⟨h4.tr (g1.tr g2),b2.trans (b1.trans x1.2),λroots hr=>?_⟩;rw[e2];exact f1 roots (by show cQ (exL (bA s).ex) _;rw[x1.1];exact hr)
  ·subst e2;have g2':=g2.1.back;exact⟨⟨n1.trans g2',by have:=n1.le;have:=g2.2;show s.i<q.i;simp only at this;omega⟩,b2,f2⟩
 split
 ·rename_i hi;rw[gS]at hi;refine Sat.bind (kN hw1 (a:=(cur s).a) (q:=true) hca (P:=λ(e:Ex) s'=>Later N {bA s with deep:=(bA s).deep+1,quiet:=true} s'/\s'.bl=s.bl/\(0<=e.a/\e.a<N)/\∀roots,cQ (exL s.ex) roots->cQ (exL s'.ex) (e.args++roots)) λhw=>?_) λe s2 ⟨q,⟨g2,b2,a2,f2⟩,e2⟩=>?_
  ·have hh:=nQ h hi ((bA s).deep+1) true;refine(Pk hE hw hh.2.1 hh.1 ⟨hc.1,hc.2.2.1 (lK hi)⟩).mono λe s' ⟨g,b,a,f⟩=>⟨g,b.trans x1.2,a,λroots hr=>f roots (by show cQ (exL (bA s).ex) _;rw[x1.1];exact hr)⟩
  ·subst e2;have g2':=g2.1.back;exact oX h ⟨n1.trans g2',by have:=n1.le;have:=g2.2;show s.i<q.i;simp only at this;omega⟩ b2 a2 f2
 split
 ·rename_i hi;rw[gS]at hi;refine Sat.bind (kN hw1 (a:=(cur s).a) (q:=false) hca (P:=λ(e:Ex) s'=>Later N {bA s with deep:=(bA s).deep+1,quiet:=false} s'/\s'.bl=s.bl/\(0<=e.a/\e.a<N)/\∀roots,cQ (exL s.ex) roots->cQ (exL s'.ex) (e.args++roots)) λhw=>?_) λe s2 ⟨q,⟨g2,b2,a2,f2⟩,e2⟩=>?_
  ·have hh:=nQ h hi ((bA s).deep+1) false;have h4:=iZ hw hh.2.1;rw[hh.1]at h4;have l4:=lU (h4.1.ws hw);unfold MQ;refine(Ln hE ⟨hc.1,hc.2.2.1 (lK hi)⟩ _ _ [] [] (l4.1.ws (h4.1.ws hw))).mono λe s' ⟨g,b,a,f⟩=>⟨h4.tr (Go1.tr l4.1 g),b.trans (l4.2.2.trans x1.2),a,λroots hr=>f roots (by rw[l4.2.1];show cQ (exL (bA s).ex) _;rw[x1.1];exact hr)⟩
  ·subst e2;have g2':=g2.1.back;exact oX h ⟨n1.trans g2',by have:=n1.le;have:=g2.2;show s.i<q.i;simp only at this;omega⟩ b2 a2 f2
 ·exact hca
abbrev QB(N:Int)(s:PS)(x:Nat)(y:Nat)(s':PS):Prop:=Go1 N s s'/\s'.bl=s.bl/\∀roots,cQ (exL s.ex) (x::roots)->cQ (exL s'.ex) (y::roots)
theorem EV(hE:EOk N E):∀(n:Nat) (s:PS) (x:Nat),WS N s->Sat (qC E n s x) (QB N s x) (InN N)
 |0,s,_,h=>⟨nM _,h.pN⟩
 |n+1,s,x,h=>by
  have n1:=fN h
  have hw1:=n1.ws h
  have hc:=jM h
  have x1:=gN s
  have gS:∀w,isS (bA s) w=isS s w:=λw=>by unfold isS;rw[kA]
  have hca:InN N (cur s).a:=⟨hc.1,hc.2.1⟩
  have more:∀{s2:PS} {e:Ex},Go1 N s s2->s2.bl=s.bl->0<=e.a/\e.a<N->(∀roots,cQ (exL s.ex) (x::roots)->cQ (exL s2.ex) (e.args++roots))->Sat ((pS s2 e).bind λy s3=>qC E n s3 y) (QB N s x) (InN N):=λ{s2 e} g2 b2 ha f2=>by
   refine(zX (g2.ws h) ha).bind λy s3 ⟨g3,_,b3,f3⟩=>?_
   exact(EV hE n s3 y (g3.ws (g2.ws h))).mono λz s4 ⟨g4,b4,f4⟩=>⟨g2.trans (g3.trans g4),b4.trans (b3.trans b2),λroots hr=>f4 roots (f3 roots (f2 roots hr))⟩
  simp only[qC]
  have t1:=iY hw1 [46]
  split
  ·rename_i ht
   have hk0:(cur s).k≠0:=by
    have:isS (bA s) [46]=true:=by
     unfold bQ at ht;split at ht
     ·assumption
     ·cases ht
    rw[gS]at this;exact lK this
   have hw2:=t1.1.ws hw1;refine(kY hw2 1 (by decide)).bind λu s2 ⟨g2,x2,b2,_⟩=>?_;exact more (e:=⟨10,u.t,[x],[],(cur s).a⟩) (n1.trans (t1.1.trans g2.1)) (b2.trans (t1.2.2.2.trans x1.2)) ⟨hc.1,hc.2.2.1 hk0⟩ λroots hr=>by rw[x2,t1.2.2.1,x1.1];exact hr
  split
  ·rename_i hi;rw[gS]at hi;have hat:0<=(cur s).a/\(cur s).a<N:=⟨hc.1,hc.2.2.1 (lK hi)⟩;refine Sat.bind (kN hw1 (a:=(cur s).a) (q:=true) hca (P:=λ(o:Option Nat) s'=>Go1 N {bA s with deep:=(bA s).deep+1,quiet:=true} s'/\s'.bl=s.bl/\(o=none->s'.ex=s.ex)/\∀y,o=some y->∀roots,cQ (exL s.ex) roots->cQ (exL s'.ex) (y::roots)) λhw=>?_) λo s2 ⟨q,⟨g2,b2,f2,f2'⟩,e2⟩=>?_
   ·have hh:=nQ h hi ((bA s).deep+1) true;have h4:=iZ hw hh.2.1;rw[hh.1]at h4;have hw4:=h4.1.ws hw;have t4:=iY hw4 [42];have ex4:(step1 {bA s with deep:=(bA s).deep+1,quiet:=true}).ex=s.ex:=x1.1;have bl4:(step1 {bA s with deep:=(bA s).deep+1,quiet:=true}).bl=s.bl:=x1.2;split
    ·refine(jR (t4.1.ws hw4) [93]).bind λ_ q2 ⟨g5,x5,b5⟩=>?_;exact⟨h4.1.trans (t4.1.trans g5.1),b5.trans (t4.2.2.2.trans bl4),λ_=>x5.trans (t4.2.2.1.trans ex4),λy e=>by cases e⟩
    ·refine(hE _ (t4.1.ws hw4)).bind λy q1 ⟨g5,b5,f5⟩=>?_;refine(jR (g5.1.ws (t4.1.ws hw4)) [93]).bind λ_ q2 ⟨g6,x6,b6⟩=>?_;refine⟨h4.1.trans (t4.1.trans (g5.1.trans g6.1)),b6.trans (b5.trans (t4.2.2.2.trans bl4)),λe=>(by cases e),λz e roots hr=>?_⟩;injection e with e
     subst e;rw[x6];exact f5 roots (by rw[t4.2.2.1,ex4];exact hr)
   ·subst e2;have g2':=g2.back;have g02:=n1.trans g2';cases o with
    |some y=>
     simp only;refine more (e:=⟨11,[],[x,y],[],(cur s).a⟩) g02 b2 hat λroots hr=>?_;exact(f2' y rfl _ hr).perm (List.Perm.swap _ _ _)
    |none=>
     simp only;have hw2:=g02.ws h;refine(jR hw2 [46]).bind λ_ s3 ⟨g3,x3,b3⟩=>?_;refine(kY (g3.1.ws hw2) 1 (by decide)).bind λu s4 ⟨g4,x4,b4,_⟩=>?_;exact more (e:=⟨30,u.t,[x],[],(cur s).a⟩) (g02.trans (g3.1.trans g4.1)) (b4.trans (b3.trans b2)) hat λroots hr=>by rw[x4,x3];show cQ (exL q.ex) _;rw[f2 rfl];exact hr
  ·exact⟨n1,x1.2,λroots hr=>by rw[x1.1];exact hr⟩
theorem OH(hE:EOk N E):EOk N (CX E):=by
 intro s h;unfold CX;refine(Jj hE s h).bind λx s1 ⟨g1,b1,f1⟩=>?_;exact(EV hE _ s1 x (g1.1.ws h)).mono λy s2 ⟨g2,b2,f2⟩=>⟨⟨g1.1.trans g2,by have:=g1.2;have:=g2.le;omega⟩,b2.trans b1,λroots hr=>f2 roots (f1 roots hr)⟩
theorem CN(hE:EOk N E)(hS:EOk N S):EOk N (yI E S):=by
 intro s h;have n1:=fN h;have hw1:=n1.ws h;have hc:=jM h;have x1:=gN s;have gS:∀w,isS (bA s) w=isS s w:=λw=>by unfold isS;rw[kA]
 have hca:InN N (cur s).a:=⟨hc.1,hc.2.1⟩;have one:∀(w:Str) (k:Int),isS s w=true->Sat ((within (bA s) (cur s).a (bA s).quiet λq=>S (step1 q)).bind λx s2=>pS s2 ⟨k,[],[x],[],(cur s).a⟩) (Leaves N s) (InN N):=λw k hi=>by
  refine Sat.bind (kN hw1 (a:=(cur s).a) (q:=(bA s).quiet) hca (P:=λx s'=>Later N {bA s with deep:=(bA s).deep+1,quiet:=(bA s).quiet} s'/\s'.bl=s.bl/\∀roots,cQ (exL s.ex) roots->cQ (exL s'.ex) (x::roots)) λhw=>?_) λx s2 ⟨q,⟨g2,b2,f2⟩,e2⟩=>?_
  ·have hh:=nQ h hi ((bA s).deep+1) (bA s).quiet;have h4:=iZ hw hh.2.1;rw[hh.1]at h4;refine(hS _ (h4.1.ws hw)).mono λx q1 ⟨g1,b1,f1⟩=>⟨h4.tr g1,b1.trans x1.2,λroots hr=>f1 roots (by show cQ (exL (bA s).ex) _;rw[x1.1];exact hr)⟩
  ·subst e2;have g2':=g2.1.back;exact oX h ⟨n1.trans g2',by have:=n1.le;have:=g2.2;show s.i<q.i;simp only at this;omega⟩ b2 (e:=⟨k,[],[x],[],(cur s).a⟩) ⟨hc.1,hc.2.2.1 (lK hi)⟩ f2
 unfold yI;simp only;split
 ·rename_i hi;rw[gS]at hi;exact one [33] 14 hi
 split
 ·rename_i hi;rw[gS]at hi;exact one [45] 13 hi
 ·exact(OH hE (bA s) hw1).mono λx s2 ⟨g2,b2,f2⟩=>⟨⟨n1.trans g2.1,by have:=n1.le;have:=g2.2;omega⟩,b2.trans x1.2,λroots hr=>f2 roots (by rw[x1.1];exact hr)⟩
theorem Fs{J:PS->R Nat}(hJ:EOk N J)(k:Nat):∀(f:Nat) (s:PS) (x:Nat),WS N s->Sat (Ah J k f s x) (QB N s x) (InN N)
 |0,s,_,h=>⟨nM _,h.pN⟩
 |f+1,s,x,h=>by
  have n1:=fN h
  have x1:=gN s
  have hc:=jM h
  simp only[Ah]
  split
  ·exact⟨n1,x1.2,λroots hr=>by rw[x1.1];exact hr⟩
  ·rename_i hl
   have hk0:(cur s).k≠0:=λe=>hl (by unfold uY;rw[e];rfl)
   have h2:=iZ h hk0
   refine(hJ _ (h2.1.ws h)).bind λb s1 ⟨g1,b1,f1⟩=>?_
   have g01:=h2.1.trans g1.1
   refine(zX (g01.ws h) (e:=⟨uY (cur s) k,[],[x,b],[],(cur s).a⟩) ⟨hc.1,hc.2.2.1 hk0⟩).bind λy s2 ⟨g2,_,b2,f2⟩=>?_
   refine(Fs hJ k f s2 y (g2.ws (g01.ws h))).mono λz s3 ⟨g3,b3,f3⟩=>⟨g01.trans (g2.trans g3),b3.trans (b2.trans (b1.trans x1.2)),λroots hr=>f3 roots (f2 roots ?_)⟩
   exact(f1 _ (by show cQ (exL (bA s).ex) _;rw[x1.1];exact hr)).perm (List.Perm.swap _ _ _)
theorem uI(hE:EOk N E)(hS:EOk N S):∀m,EOk N (tC E S m)
 |0=>CN hE hS
 |m+1=>λs h=>by
  simp only[tC]
  refine(uI hE hS m s h).bind λa s1 ⟨g1,b1,f1⟩=>?_
  exact(Fs (uI hE hS m) (5-m) _ s1 a (g1.1.ws h)).mono λy s2 ⟨g2,b2,f2⟩=>⟨⟨g1.1.trans g2,by have:=g1.2;have:=g2.le;omega⟩,b2.trans b1,λroots hr=>f2 roots (f1 roots hr)⟩
theorem IF(hE:EOk N E)(hS:EOk N S):EOk N (BS E S):=by
 intro s h;unfold BS;refine(uI hE hS 6 s h).bind λa s1 ⟨g1,b1,f1⟩=>?_;have hw1:=g1.1.ws h;have hc:=jM hw1;have t1:=iY hw1 [63];have hw2:=t1.1.ws hw1;simp only;split
 ·rename_i ht;have hk0:(cur s1).k≠0:=by
   have:isS s1 [63]=true:=by
    unfold bQ at ht;split at ht
    ·assumption
    ·cases ht
   exact lK this
  refine Sat.bind (kN hw2 (a:=(cur s1).a) (q:=(bQ s1 [63]).2.quiet) ⟨hc.1,hc.2.1⟩ (P:=λ(z:Nat×Nat) s'=>Go1 N {(bQ s1 [63]).2 with deep:=(bQ s1 [63]).2.deep+1,quiet:=(bQ s1 [63]).2.quiet} s'/\s'.bl=s.bl/\∀roots,cQ (exL s.ex) roots->cQ (exL s'.ex) ([a,z.1,z.2]++roots)) λhw=>?_) λz s2 ⟨q,⟨g2,b2,f2⟩,e2⟩=>?_
  ·refine(hE _ hw).bind λx q1 ⟨g3,b3,f3⟩=>?_;have hw3:=g3.1.ws hw;refine(jR hw3 [58]).bind λ_ q2 ⟨g4,x4,b4⟩=>?_;have hw4:=g4.1.ws hw3;refine(hE _ hw4).bind λy q3 ⟨g5,b5,f5⟩=>?_;refine⟨g3.1.trans (g4.1.trans g5.1),b5.trans (b4.trans (b3.trans (t1.2.2.2.trans b1))),λroots hr=>?_⟩;have k1:=f3 _ (by show cQ (exL (bQ s1 [63]).2.ex) _;rw[t1.2.2.1];exact f1 roots hr);have k2:=f5 _ (by rw[x4];exact k1);refine k2.perm ?_;show(y::x::a::roots).Perm (a::x::y::roots);exact((List.Perm.swap x y _).trans ((List.Perm.swap a y _).cons x)).trans (List.Perm.swap a x _)
  ·subst e2;have g2':=g2.back;exact oX h ⟨g1.1.trans (t1.1.trans g2'),by have:=g1.2;have:=t1.1.le;have:=g2.le;show s.i<q.i;simp only at this;omega⟩ b2 (e:=⟨28,[],[a,z.1,z.2],[],(cur s1).a⟩) ⟨hc.1,hc.2.2.1 hk0⟩ f2
 ·exact⟨⟨g1.1.trans t1.1,by have:=g1.2;have:=t1.1.le;omega⟩,t1.2.2.2.trans b1,λroots hr=>by rw[t1.2.2.1];exact f1 roots hr⟩
end
theorem xV(N:Int):EOk N dead:=λ_ h=>⟨nM _,h.pN⟩
theorem rT(N:Int):∀d,EOk N (rU d).1/\EOk N (rU d).2
 |0=>⟨IF (xV N) (xV N),CN (xV N) (xV N)⟩
 |d+1=>⟨IF (rT N d).1 (rT N d).2,CN (rT N d).1 (rT N d).2⟩
def wt(t:Tok):Nat:=if t.k=0 then 0 else if t.k=3/\(insP t.t).isSome=true then t.t.length+2 else 1
def wts(l:List Tok):Nat:=(l.map wt).sum
def phi(s:PS):Nat:=s.ex.length+s.bl.length+wts (s.toks.drop s.i)
theorem zK(t:Tok)(l:List Tok):wts (t::l)=wt t+wts l:=by simp[wts]
theorem qY:∀(l:List Tok) (i:Nat),wts (l.drop i)<=wts l
 |[],i=>by simp
 |t::l,0=>aU _
 |t::l,i+1=>by
  rw[cS,zK]
  have:=qY l i
  omega
theorem Ht:∀(n:Nat) (s:Str) (a cnt:Nat) (l:List Tok),mI n s a cnt=.ok l->wts l<=s.length
 |0,_,_,_,_,h=>by simp[mI]at h
 |n+1,s,a,cnt,l,h=>by
  have hk:=uR (s.length+1) s
  simp only[mI]at h
  split at h
  ·cases h
  split at h
  ·injection h with h
   subst h
   rw[zK]
   simp[wt,wts]
  rename_i hr
  split at h
  ·cases h
  rename_i ho
  split at h
  ·cases h
  have hlen:s.length-(eX (s.length+1) s).1=(s.drop (eX (s.length+1) s).1).length:=(aP ..).symm
  obtain⟨o1,o2,o3,o4,o5,o6⟩:=GC hr (eZ rfl (eZ rfl (yE.1 ho)):oH (s.drop (eX (s.length+1) s).1)=((oH (s.drop (eX (s.length+1) s).1)).1,(oH (s.drop (eX (s.length+1) s).1)).2.1,0))
  split at h
  ·rename_i l' hl'
   injection h with h
   subst h
   have ih:=Ht n _ _ _ _ hl'
   rw[aP]at ih
   rw[zK]
   have:wt ⟨(oH (s.drop (eX (s.length+1) s).1)).1.k,(oH (s.drop (eX (s.length+1) s).1)).1.t,((a+(eX (s.length+1) s).1:Nat):Int)⟩<=(oH (s.drop (eX (s.length+1) s).1)).2.1:=by
    unfold wt;split
    ·omega
    split
    ·rename_i hx;rcases o6 hx.1 with h|h
     ·rw[h]at hx;simp at hx
     ·exact h
    ·omega
   omega
  ·rename_i hne;exact absurd h (hne l)
theorem Gq{s:Str}{l:List Tok}(h:pK s=.ok l):wts l<=s.length:=by
 unfold pK at h;split at h
 ·cases h
 split at h
 ·cases h
 exact Ht _ _ _ _ _ h
abbrev TT:Int->Prop:=λ_=>True
theorem jL(s:PS):phi (bA s)<=phi s:=by
 unfold bA;split
 ·unfold phi;simp only;have:=qY (s.toks.drop s.i) (gM (s.toks.drop s.i));rw[gV]at this;omega
 ·exact aU _
theorem zZ{s:PS}(h:(lH s).k≠0):phi (step1 s)+wt (lH s)<=phi s:=by
 have hlt:s.i<s.toks.length:=by
  by_cases hl:s.i<s.toks.length
  ·exact hl
  ·unfold lH at h;rw[List.getD_eq_getElem?_getD,List.getElem?_eq_none (by omega)]at h;exact absurd rfl h
 unfold phi step1;simp only;rw[cD hlt,zK];have:lH s=s.toks[s.i]:=by unfold lH;rw[List.getD_eq_getElem?_getD,List.getElem?_eq_getElem hlt];rfl
 rw[this];omega
theorem Gh{t:Tok}(h:t.k≠0):1<=wt t:=by unfold wt;rw[aD h];split<;>omega
theorem oG{s:PS}(h:(cur s).k≠0):phi (step1 (bA s))+wt (lH (bA s))<=phi s/\phi (step1 (bA s))+1<=phi s:=by
 have h':(lH (bA s)).k≠0:=h;have h1:=zZ h';have h2:=jL s;have h3:=Gh h';omega
theorem kE(s:PS)(w:Str):phi (bQ s w).2<=phi s/\((bQ s w).1=true->phi (bQ s w).2+1<=phi s):=by
 unfold bQ;split
 ·rename_i hi;have:=(oG (lK hi)).2;exact⟨Nat.le_of_succ_le this,λ_=>this⟩
 ·exact⟨jL s,λe=>by cases e⟩
theorem kD(s:PS)(w:Str):Sat (nO s w) (λ_ s'=>phi s'+1<=phi s) TT:=by
 unfold nO;split
 ·rename_i hi;exact(oG (lK hi)).2
 ·trivial
theorem uF(s:PS):phi (iH s)<=phi s/\((cur s).k≠0->phi (iH s)+wt (lH (bA s))<=phi s/\phi (iH s)+1<=phi s):=by
 unfold iH;split
 ·rename_i hk;have:=oG hk;exact⟨by omega,λ_=>this⟩
 ·rename_i hk;exact⟨jL s,λe=>absurd e hk⟩
theorem mU(s:PS)(k:Int):Sat (kZ s k) (λ_ s'=>phi s'<=phi s/\(k≠0->phi s'+1<=phi s)) TT:=by
 unfold kZ;split
 ·rename_i hk;have:=uF s;exact⟨this.1,λh=>(this.2 (by rw[hk];exact h)).2⟩
 ·trivial
theorem uG(s:PS):phi (fQ s)<=phi s:=by
 have h:=jL s;unfold fQ phi at*
 simp only at*
 have e:(bA s).toks=s.toks:=by unfold bA;split<;>rfl
 have:=qY ((bA s).toks.drop (bA s).i) (gM (s.toks.drop (bA s).i));rw[gV]at this;omega
theorem jY(s:PS)(e:Ex):Sat (pS s e) (λ_ s'=>phi s'<=phi s+1) TT:=by
 show phi _<=_;unfold phi;simp only[bE,aA,aL];omega
theorem kP{α:Type}{s:PS}{a:Int}{q:Bool}{f:PS->R α}{P:α->Nat->Prop}(h:Sat (f {s with deep:=s.deep+1,quiet:=q}) (λx s'=>P x (phi s')) TT):Sat (within s a q f) (λx s'=>P x (phi s')) TT:=by
 unfold within;split
 ·trivial
 ·exact h.bind λx s' hx=>hx
def EZ(F:PS->R Nat):Prop:=∀s,Sat (F s) (λ_ s'=>phi s'<=phi s) TT
section
variable{E S:PS->R Nat}
theorem Fe(hE:EZ E)(s:PS)(t:Str)(a:Int):Sat (oJ E s t a) (λ_ s'=>phi s'<=phi s+t.length) TT:=by
 unfold oJ;split
 ·trivial
 ·rename_i l hs;have hw:=Gq hs;refine(hE _).bind λx q hq=>?_;refine(mU q 0).bind λ_ q' hq'=>?_;have h1:phi q'<=s.ex.length+s.bl.length+wts l:=cH hq'.1 hq;show phi _<=_;unfold phi at h1⊢;simp only;omega
theorem Fa(s:PS)(t:Tok):Sat (oY s t) (λ_ s'=>s'=s) TT:=by
 unfold oY;split
 ·trivial
 ·rfl
theorem AO(hE:EZ E):∀(n:Nat) (s:PS) (rest:Str) (a:Int) (us:List Nat) (ks:List Str),Sat (mL E n s rest a us ks) (λ_ s'=>phi s'<=phi s+rest.length) TT
 |0,_,_,_,_,_=>trivial
 |n+1,s,rest,a,us,ks=>by
  have one:∀(e:Ex),phi {s with ex:=s.ex++[e]}<=phi s+1:=λe=>jY s e
  simp only[mL]
  split
  ·exact Nat.le_add_right _ _
  rename_i hne
  have hpos:1<=rest.length:=dF.2 hne
  split
  ·have:=one ⟨5,jS rest,[],[],a⟩
   show phi _<=_
   omega
  ·rename_i i e hi
   obtain⟨i1,i2,i3⟩:=Aj rest.length rest (aU _) i e hi
   have hs1:∃s1,s1=(if 0<i then{s with ex:=s.ex++[⟨5,jS (rest.take i),[],[],a⟩]}else s)/\phi s1<=phi s+i:=by
    refine⟨_,rfl,?_⟩;split
    ·have:=one ⟨5,jS (rest.take i),[],[],a⟩;omega
    ·omega
   obtain⟨s1,e1,g1⟩:=hs1;rw[<-e1];have hd:(rest.drop e).length=rest.length-e:=aP ..;split
   ·refine Sat.bind (kP (P:=λ_ n=>n<=phi s1+(e-1-(i+2))) ?_) λx s2 h2=>?_
    ·refine(Fe hE _ _ _).mono λx s' h=>?_;refine cH h ?_;have:((rest.drop (i+2)).take (e-1-(i+2))).length<=e-1-(i+2):=List.length_take_le _ _;exact uN this _
    ·refine(AO hE n s2 (rest.drop e) _ _ _).mono λy s3 h3=>?_;rw[hd]at h3;omega
   ·refine(AO hE n s1 (rest.drop e) _ _ _).mono λy s3 h3=>?_;rw[hd]at h3;omega
theorem OM(hE:EZ E)(s:PS)(t:Tok)(hk:t.k=3):Sat (BD E s t) (λ_ s'=>phi s'<=phi s+wt t) TT:=by
 unfold BD;split
 ·rename_i hi;have e:wt t=t.t.length+2:=by unfold wt;rw[aD (by omega),aH ⟨hk,hi⟩]
  refine(AO hE _ s t.t _ _ _).bind λx s1 h1=>?_;refine(jY s1 _).mono λy s2 h2=>?_;omega
 ·rename_i hi;have e:wt t=1:=by unfold wt;rw[aD (by omega),aD (λh=>hi h.2)]
  rw[e];exact jY s _
theorem Fg(hE:EZ E)(w:Str):∀(n:Nat) (s:PS) (out:List Nat),Sat (sC E w n s out) (λ_ s'=>phi s'<=phi s) TT
 |0,_,_=>trivial
 |n+1,s,out=>by
  have t1:=kE s w
  have step:∀{s1:PS},phi s1<=phi s->Sat ((E s1).bind λx s'=>sC E w n s' (out++[x])) (λ_ s'=>phi s'<=phi s) TT:=λ{s1} g1=>
   (hE s1).bind λx s2 g2=>(Fg hE w n s2 (out++[x])).mono λy s3 g3=>by omega
  simp only[sC]
  split
  ·exact t1.1
  split
  ·rename_i ho
   have:=step t1.1
   exact this
  ·refine(kD _ [44]).bind λ_ s1 g1=>?_
   have t2:=kE s1 w
   split
   ·show phi _<=_
    omega
   ·exact step (by omega)
theorem HQ(hE:EZ E)(w:Str)(s:PS):Sat (DZ E w s) (λ_ s'=>phi s'<=phi s) TT:=Fg hE w _ s []
theorem OO(hE:EZ E){s:PS}(h:(cur s).k≠0)(hn:bA s=s)(a:Int):Sat (BI E s a) (λ_ s'=>phi s'+1<=phi s) TT:=by
 have h0:=(oG h).2;rw[hn]at h0;have h1:=jL (step1 s);unfold BI;simp only;split
 ·refine(HQ hE [93] _).bind λus s1 g1=>?_;show phi s1+1<=_;omega
 ·rename_i hc;have hk1:(cur (step1 s)).k≠0:=λe=>hc (.inl (by rw[e];decide));have h2:=(oG hk1).2;refine(mU _ 1).bind λt s2 g2=>(mU s2 1).bind λu s3 g3=>?_;split
  ·trivial
  refine(hE s3).bind λx s4 g4=>(kD s4 _).bind λ_ s5 g5=>(hE s5).bind λy s6 g6=>(kD s6 _).bind λ_ s7 g7=>?_;show phi s7+1<=_;omega
theorem HN(hE:EZ E)(a:Int):∀(n:Nat) (s:PS) (us:List Nat) (ks:List Str),Sat (Ee E a n s us ks) (λ_ s'=>phi s'<=phi s) TT
 |0,_,_,_=>trivial
 |n+1,s,us,ks=>by
  have t1:=kE s [125]
  have n1:=uF (bQ s [125]).2
  simp only[Ee]
  split
  ·exact t1.1
  refine Sat.bind (P:=λ_ s3=>s3=iH (bQ s [125]).2) ?_ λk s3 e3=>?_
  ·split
   ·exact Fa _ _
   ·split
    ·rfl
    ·trivial
  subst e3
  split
  ·trivial
  refine(kD _ [61]).bind λ_ s4 g4=>(hE s4).bind λx s5 g5=>?_
  have t5:=kE s5 [44]
  have m5:=jL (bQ s5 [44]).2
  split
  ·trivial
  have l6:phi (if(bQ s5 [44]).1=true then(bQ s5 [44]).2 else bA (bQ s5 [44]).2)<=phi s5:=by split<;>omega
  generalize (if(bQ s5 [44]).1=true then(bQ s5 [44]).2 else bA (bQ s5 [44]).2)=s6 at*
  have l7:=uG s6
  refine(HN hE a n (fQ s6) _ _).mono λe s8 g8=>?_
  omega
theorem HP(hE:EZ E):EZ (Ay E):=by
 intro s;have n1:=jL s;have gS:∀w,isS (bA s) w=isS s w:=λw=>by unfold isS;rw[kA]
 unfold Ay;simp only;split
 ·rename_i hk;have h2:=(oG (s:=s) (by rw[hk];decide)).2;exact(jY _ _).mono λx s' g=>by omega
 split
 ·rename_i hk;have h2:=(oG (s:=s) (by rw[hk];decide)).1;refine(OM hE _ _ hk).mono λx s' g=>?_;have e:wt (cur s)=wt (lH (bA s)):=rfl;omega
 split
 ·rename_i hk;have h2:=(oG (s:=s) (by rw[hk.1];decide)).2;have n2:=jL (step1 (bA s));split
  ·rename_i hi;refine Sat.bind (kP (P:=λ_ n=>n<=phi (bA (step1 (bA s)))) ?_) λus s2 g2=>?_
   ·refine(HQ hE [41] _).mono λx s' g=>cH g ?_;show phi (step1 _)<=_;exact uN (by have:=qY ((bA (step1 (bA s))).toks.drop (bA (step1 (bA s))).i) 1;rw[gV]at this;exact this) _
   ·exact(jY s2 _).mono λx s' g=>by omega
  ·exact(jY _ _).mono λx s' g=>by omega
 have step1_le:∀(s:PS),phi (step1 s)<=phi s:=λs=>uN (by have:=qY (s.toks.drop s.i) 1;rw[gV]at this;exact this) _;have ph:∀(s:PS) (d:Nat) (q:Bool),phi {s with deep:=d,quiet:=q}=phi s:=λ_ _ _=>rfl;split
 ·refine Sat.mono (kP (P:=λ_ n=>n<=phi (bA s)) ?_) λx s' g=>by omega
  refine(hE _).bind λx q1 g1=>(kD q1 _).bind λ_ q2 g2=>?_;show phi q2<=_;have h1:=step1_le (bA s);have h2:phi q1<=phi (step1 (bA s)):=g1;omega
 split
 ·rename_i hi;rw[gS]at hi;have hk:(lH (bA s)).k≠0:=lK hi;have h4:(lH (bA s)).k=4:=by
   unfold isS cur at hi;simp only[aJ,bB]at hi;exact hi.1
  refine Sat.bind (kP (P:=λ_ n=>n+1<=phi (bA s)) ?_) λe s2 g2=>?_
  ·have hr:bA {bA s with deep:=(bA s).deep+1,quiet:=true}={bA s with deep:=(bA s).deep+1,quiet:=true}:=by
    have hlt:(bA s).i<(bA s).toks.length:=by
     by_cases hl:(bA s).i<(bA s).toks.length
     ·exact hl
     ·unfold lH at hk;rw[List.getD_eq_getElem?_getD,List.getElem?_eq_none (by omega)]at hk;exact absurd rfl hk
    have:gM ((bA s).toks.drop (bA s).i)=0:=by
     refine HB (t:=lH (bA s)) ?_ (by omega);unfold lH;rw[List.getD_eq_getElem?_getD,List.getElem?_eq_getElem hlt];rfl
    unfold bA;simp only[gU];show({bA s with i:=(bA s).i+gM ((bA s).toks.drop (bA s).i),deep:=(bA s).deep+1,quiet:=true}:PS)=_;rw[this];rfl
   refine(OO hE ?_ hr _).mono λe s' g=>g;unfold cur;rw[hr];exact hk
  ·exact(jY s2 _).mono λx s' g=>by omega
 split
 ·rename_i hi;rw[gS]at hi;have hk:(lH (bA s)).k≠0:=lK hi;have h1:=zZ hk;have h2:=Gh hk;refine Sat.bind (kP (P:=λ_ n=>n+1<=phi (bA s)) ?_) λe s2 g2=>?_
  ·unfold MQ;refine(HN hE _ _ _ [] []).mono λe s' g=>?_;have h3:=uG (step1 (⟨(bA s).toks,(bA s).i,(bA s).off,(bA s).deep+1,false,(bA s).ex,(bA s).bl⟩:PS));have h4:phi (step1 (⟨(bA s).toks,(bA s).i,(bA s).off,(bA s).deep+1,false,(bA s).ex,(bA s).bl⟩:PS))=phi (step1 (bA s)):=rfl;omega
  ·exact(jY s2 _).mono λx s' g=>by omega
 ·trivial
theorem xK(hE:EZ E):∀(n:Nat) (s:PS) (x:Nat),Sat (qC E n s x) (λ_ s'=>phi s'<=phi s) TT
 |0,_,_=>trivial
 |n+1,s,x=>by
  have n1:=jL s
  have t1:=kE (bA s) [46]
  have gS:∀w,isS (bA s) w=isS s w:=λw=>by unfold isS;rw[kA]
  have step1_le:∀(s:PS),phi (step1 s)<=phi s:=λs=>uN (by have:=qY (s.toks.drop s.i) 1;rw[gV]at this;exact this) _
  simp only[qC]
  split
  ·rename_i ht
   refine(mU _ 1).bind λu s2 g2=>(jY s2 _).bind λy s3 g3=>(xK hE n s3 y).mono λz s4 g4=>?_
   have:=t1.2 ht
   have:=g2.2 (by decide)
   omega
  split
  ·rename_i hi
   rw[gS]at hi
   have hk:(lH (bA s)).k≠0:=lK hi
   have h1:=zZ hk
   have h2:=Gh hk
   refine Sat.bind (kP (P:=λ_ n=>n+1<=phi (bA s)) ?_) λo s2 g2=>?_
   ·have h4:phi (step1 (⟨(bA s).toks,(bA s).i,(bA s).off,(bA s).deep+1,true,(bA s).ex,(bA s).bl⟩:PS))=phi (step1 (bA s)):=rfl
    have t5:=kE (step1 (⟨(bA s).toks,(bA s).i,(bA s).off,(bA s).deep+1,true,(bA s).ex,(bA s).bl⟩:PS)) [42]
    split
    ·refine(kD _ _).bind λ_ q2 g=>?_
     show phi q2+1<=_
     omega
    ·refine(hE _).bind λy q1 g=>(kD q1 _).bind λ_ q2 g'=>?_
     show phi q2+1<=_
     omega
   ·cases o with
    |some y=>
     simp only
     exact(jY s2 _).bind λz s3 g3=>(xK hE n s3 z).mono λz s4 g4=>by omega
    |none=>
     simp only
     exact(kD s2 _).bind λ_ s3 g3=>(mU s3 1).bind λu s4 g4=>(jY s4 _).bind λz s5 g5=>(xK hE n s5 z).mono λz s6 g6=>by have:=g4.1;omega
  ·exact n1
theorem ON(hE:EZ E):EZ (CX E):=λs=>by
 unfold CX
 exact(HP hE s).bind λx s1 g1=>(xK hE _ s1 x).mono λy s2 g2=>by omega
theorem CY(hE:EZ E)(hS:EZ S):EZ (yI E S):=by
 intro s;have n1:=jL s;have gS:∀w,isS (bA s) w=isS s w:=λw=>by unfold isS;rw[kA]
 have one:∀(w:Str) (k:Int),isS s w=true->Sat ((within (bA s) (cur s).a (bA s).quiet λq=>S (step1 q)).bind λx s2=>pS s2 ⟨k,[],[x],[],(cur s).a⟩) (λ_ s'=>phi s'<=phi s) TT:=λw k hi=>by
  have hk:(lH (bA s)).k≠0:=lK hi;have h1:=zZ hk;have h2:=Gh hk;refine Sat.bind (kP (P:=λ_ n=>n+1<=phi (bA s)) ?_) λx s2 g2=>?_
  ·refine(hS _).mono λx s' g=>?_;have h4:phi (step1 (⟨(bA s).toks,(bA s).i,(bA s).off,(bA s).deep+1,(bA s).quiet,(bA s).ex,(bA s).bl⟩:PS))=phi (step1 (bA s)):=rfl;omega
  ·exact(jY s2 _).mono λy s3 g3=>by omega
 unfold yI;simp only;split
 ·rename_i hi;rw[gS]at hi;exact one [33] 14 hi
 split
 ·rename_i hi;rw[gS]at hi;exact one [45] 13 hi
 ·exact(ON hE (bA s)).mono λx s2 g2=>by omega
theorem Fb{J:PS->R Nat}(hJ:EZ J)(k:Nat):∀(f:Nat) (s:PS) (x:Nat),Sat (Ah J k f s x) (λ_ s'=>phi s'<=phi s) TT
 |0,_,_=>trivial
 |f+1,s,x=>by
  have n1:=jL s
  simp only[Ah]
  split
  ·exact n1
  ·rename_i hl
   have hk0:(cur s).k≠0:=λe=>hl (by unfold uY;rw[e];rfl)
   have h2:=(oG hk0).2
   exact(hJ _).bind λb s1 g1=>(jY s1 _).bind λy s2 g2=>(Fb hJ k f s2 y).mono λz s3 g3=>by omega
theorem uH(hE:EZ E)(hS:EZ S):∀m,EZ (tC E S m)
 |0=>CY hE hS
 |m+1=>λs=>by
  simp only[tC]
  exact(uH hE hS m s).bind λa s1 g1=>(Fb (uH hE hS m) _ _ s1 a).mono λy s2 g2=>by omega
theorem HO(hE:EZ E)(hS:EZ S):EZ (BS E S):=by
 intro s;unfold BS;refine(uH hE hS 6 s).bind λa s1 g1=>?_;have t1:=kE s1 [63];simp only;split
 ·rename_i ht;refine Sat.bind (kP (P:=λ_ n=>n<=phi (bQ s1 [63]).2) ?_) λz s2 g2=>?_
  ·refine(hE _).bind λx q1 g3=>(kD q1 _).bind λ_ q2 g4=>(hE q2).bind λy q3 g5=>?_;have h4:phi (⟨(bQ s1 [63]).2.toks,(bQ s1 [63]).2.i,(bQ s1 [63]).2.off,(bQ s1 [63]).2.deep+1,(bQ s1 [63]).2.quiet,(bQ s1 [63]).2.ex,(bQ s1 [63]).2.bl⟩:PS)=phi (bQ s1 [63]).2:=rfl;show phi q3<=_;omega
  ·exact(jY s2 _).mono λy s3 g3=>by have:=t1.2 ht;omega
 ·show phi _<=_;omega
end
theorem wU:EZ dead:=λ_=>trivial
theorem vF:∀d,EZ (rU d).1/\EZ (rU d).2
 |0=>⟨HO wU wU,CY wU wU⟩
 |d+1=>⟨HO (vF d).1 (vF d).2,CY (vF d).1 (vF d).2⟩
section
variable{E B:PS->R Nat}
theorem CZ:∀(n:Nat) (s:PS) (ls:List Str),Sat (qG n s ls) (λ_ s'=>phi s'<=phi s) TT
 |0,_,_=>trivial
 |n+1,s,ls=>by
  have n1:=uF s
  simp only[qG]
  split
  ·exact(Fa _ _).bind λl s1 e1=>by subst e1;exact(CZ n _ (ls++[l])).mono λ_ s2 g=>by omega
  ·exact jL s
theorem Jt(l:List Tok){j:Nat}(h:i<=j):wts (l.drop j)<=wts (l.drop i):=by
 have:=qY (l.drop i) (j-i);rw[gV,show i+(j-i)=j by omega]at this;exact this
theorem HY(s:PS):s.i<=(bA s).i:=by unfold bA;split;exact Nat.le_add_right _ _;exact aU _
theorem OP(hE:EZ E)(hB:EZ B)(s:PS)(us:List Atr)(bs:List Nat):Sat (BK E B s us bs) (λ_ s'=>phi s'<=phi s) TT:=by
 unfold BK;refine Sat.bind (P:=λ_ s1=>s1=step1 (bA s)/\phi s1+1<=phi s) ?_ λt s1 ⟨e1,h1⟩=>?_
 ·unfold kZ;split
  ·rename_i hk;have hk0:(cur s).k≠0:=by rw[hk];decide
   refine⟨by unfold iH;rw[aH hk0],((uF s).2 hk0).2⟩
  ·trivial
 have t1:=kE s1 [61];split
 ·exact(hE _).bind λx s2 h2=>by show phi s2<=_;omega
 ·rename_i ht;refine Sat.bind (hB _) λx s2 h2=>?_;show phi s2<=_;refine cH h2 ?_;have e2:(bQ s1 [61]).2=bA s1:=by
   unfold bQ at ht⊢;split
   ·rename_i hi;rw[aH hi]at ht;exact absurd rfl ht
   ·rfl
  rw[e2];have hi:s.i<=(bA s1).i-1:=by
   have h1:=HY s;have h2:=HY s1;have h3:s1.i=(bA s).i+1:=by rw[e1];rfl
   omega
  have x1:(bA s1).ex=s.ex:=(gN s1).1.trans (by rw[e1];exact(gN s).1);have x2:(bA s1).bl=s.bl:=(gN s1).2.trans (by rw[e1];exact(gN s).2);have x3:(bA s1).toks=s.toks:=by
   have h1:∀s:PS,(bA s).toks=s.toks:=λs=>by unfold bA;split<;>rfl
   rw[h1,e1];exact h1 s
  unfold phi;simp only;rw[x1,x2,x3];have:=Jt s.toks hi;omega
theorem Fc(hE:EZ E)(hB:EZ B):∀(n:Nat) (s:PS) (us:List Atr) (bs:List Nat),Sat (pV E B n s us bs) (λ_ s'=>phi s'<=phi s) TT
 |0,_,_,_=>trivial
 |n+1,s,us,bs=>by
  have t1:=kE s [125]
  simp only[pV]
  split
  ·exact t1.1
  refine(OP hE hB _ us bs).bind λx s1 g1=>?_
  have m1:=jL s1
  split
  ·trivial
  have l1:=uG (bA s1)
  exact(Fc hE hB n _ x.1 x.2).mono λy s2 g2=>by omega
theorem Ff(hE:EZ E)(hB:EZ B):EZ (wY E B):=by
 intro s;unfold wY;refine(mU s 1).bind λt s1 g1=>(CZ _ s1 []).bind λls s2 g2=>?_;have n2:=jL s2;split
 ·trivial
 refine Sat.bind (kP (P:=λ_ n=>n<=phi (bA s2)) ?_) λx s3 g3=>?_
 ·refine(Fc hE hB _ _ [] []).mono λx s' g=>?_;have h3:=uG (step1 (⟨(bA s2).toks,(bA s2).i,(bA s2).off,(bA s2).deep+1,false,(bA s2).ex,(bA s2).bl⟩:PS));have h4:phi (step1 (⟨(bA s2).toks,(bA s2).i,(bA s2).off,(bA s2).deep+1,false,(bA s2).ex,(bA s2).bl⟩:PS))<=phi (bA s2):=uN (Jt _ (Nat.le_succ _)) _;omega
 ·show phi _<=_;have h1:=g1.2 (by decide);have e:phi {s3 with bl:=s3.bl++[⟨t.t,ls,x.1,x.2,t.a⟩]}=phi s3+1:=by
   unfold phi;simp only[bE,aA,aL];omega
  have e':phi (⟨s3.toks,s3.i,s3.off,s3.deep,s3.quiet,s3.ex,s3.bl++[⟨t.t,ls,x.1,x.2,t.a⟩]⟩:PS)=phi s3+1:=e;omega
end
theorem Jf:∀d,EZ (Br d)
 |0=>Ff wU wU
 |d+1=>Ff (vF d).1 (Jf d)
theorem YI(s:PS):s.ex.length<=phi s/\s.bl.length<=phi s:=by unfold phi;omega
end
end Go.Syn
namespace Go.Proofs.YtghhmpppnmoeoaaGreatDoor
section
open Go Go.Eng Go.RowKit Go.Syn Go.Lex
variable{w:World}{K:Q0}{cs:List Value}{G:Nat->Prop}{T:TypeId}{i:Nat}{n:Nat}{v:Value}{w':World}{P:Program}{c:UInt8}{S:Nat->Prop}
abbrev DT:TypeId:=33
def eS(t:Tok):List Value:=[i64 t.k,str t.t,i64 t.a]
def yX(w:World)(p:Nat):Nat:=match w.heap[p]? with|some (.cells c _ _)=>(match(c[1]?:Option Value)with|some (Value.int _ i)=>i.toNat|_=>0)|_=>0
theorem PR.at_{w0:World}{p f:Nat}{M:Lay}{vt:Value}{s:PS}{top:List Nat}(h:PR w0 w p f M vt s top):yX w p=s.i:=by
 unfold yX;rw[h.ps];simp
theorem wsi{N:Int}{s:PS}(h:WS N s)(hN:s.toks.length<=100000):s.i<=1000000:=by have:=h.lt;omega
section
variable [HX]
def Thr(w0:World)(f:Nat)(code at_:Int):Prop:=
 ∀(d:Nat) (w':World) (cs:List Value),Chg (Of f) w0 w'->w0.heap.size<=d->cs.length=3->w'.heap[f]?=some (.cells cs.toArray FlT (0,0))->w'.heap[d]?=some (.cells [i64 code,str [],i64 at_].toArray 53 (0,0))->HX.X [{v:=.iface DT (.pointer (some ⟨d,0,none⟩)),recovered:=false}] w'
section
variable{w0 w:World}{p f:Nat}{M:Lay}{vt:Value}{s:PS}{top:List Nat}{N:Int}{K:Q0}
theorem pD{e a:Int}(h:PR w0 w p f M vt s top)(ht:Thr w0 f e a):aC P0 31 [i64 e,i64 a] w K:=by
 refine aAn ?_;unfold W31;simp only[dA,dZ,cU,aA,aL,aW,aZ];refine⟨by omega,by omega,?_⟩;refine fS (z:=[i64 e,str [],i64 a]) λd w' hd hz hb hx=>?_;have h':=h.ext hx;exact ht d w' _ h'.ch (by have:=h.base;omega) (by rfl) h'.fr.hf hb
theorem tB:∀{l:List Tok} {i:Nat} {t:Tok},l[i]?=some t->gM (l.drop i)=if t.k=5 then gM (l.drop (i+1))+1 else 0:=by
 intro l i t h;have hlt:=(List.getElem?_eq_some_iff.1 h).1;rw[cD hlt,(List.getElem?_eq_some_iff.1 h).2];rfl
theorem mJ(h:PR w0 w p f M vt s top)(hs:WS N s)(hN:N<=1000000)(hl:s.toks.length<=100000)(hK:∀w',PR w0 w' p f M vt (bA s) top->Eff p f M M w w'->K (.agg (eS (cur s)).toArray) w'):
  aC P0 29 [.pointer (some ⟨p,0,none⟩)] w K:=by
 refine aAp ?_;unfold W29;refine bG λb w1 hb hz1 hbb hx1=>?_;have hp:=h.lt;have h1:=h.ext hx1;have L1:=h.loc hz1 hb hbb;refine cZ.go (λst w'=>st=[]/\∃j,PR w0 w' p f M vt {s with i:=j} top/\s.i<=j/\bA {s with i:=j}=bA s/\j<=(bA s).i/\Eff p f M M w w'/\Loc w0 w' p f M vt b TkT [i64 0,str [],i64 0]) (λ_ w'=>s.toks.length-yX w' p)
  ⟨rfl,s.i,h1,aU _,rfl,HY s,Eff.ext hx1,L1⟩ ?_
 rintro st g w2 ⟨rfl,j,h2,hj,hnow,hjn,he2,L2⟩;have hg:=fN hs;have hjl:j<s.toks.length:=by have:=(hg.ws hs).lt;rw[hg.toks]at this;omega
 have hws:WS N {s with i:=j}:=⟨hs.tg,hjl,hs.pN⟩;obtain⟨t,ht⟩:∃t,s.toks[j]?=some t:=⟨_,List.getElem?_eq_getElem hjl⟩;have h3:=h2.drew;have sl:SlAt w2.drew TkT vt s.toks.length (toks s.toks):=h3.tk;have stop:bA {s with i:=j}={s with i:=j}->dJ (.pointer (some ⟨p,0,none⟩)) (λt30=>aY 0 t30 λt31=>ldW false 1 t31 w2.drew.drew λt32=>dJ (.pointer (some ⟨p,0,none⟩)) λt34=>aY 1 t34 λt35=>ldW false 1 t35 w2.drew.drew λt36=>dV none 3 t32 t36 λt37=>ldW true 3 t37 w2.drew.drew λt38=>bO TkT [(.int .i64 0),(.string (ofL [])),(.int .i64 0)] w2.drew.drew λt3 w17=>(ldW true 3 t37 w17 λx=>x=t38)/\(ldW false 1 t35 w17 λx=>x=t36)/\(ldW false 1 t31 w17 λx=>x=t32)/\stW 3 t3 t38 w17 λw18=>aY 2 t3 λt39=>ldW false 1 t39 w18.drew λt40=>dJ (.pointer (some ⟨p,0,none⟩)) λt42=>aY 2 t42 λt43=>ldW false 1 t43 w18.drew λt44=>aQ .add t40 t44 λt45=>aY 2 t3 λt46=>stW 1 t46 t45 w18.drew λw19=>ldW true 3 t3 w19 λt47=>stW 3 (.pointer (some ⟨b,0,none⟩)) t47 w19 λw20=>ldW true 3 (.pointer (some ⟨b,0,none⟩)) w20 λr21=>K r21 w20):=λhn=>by
  have h4:=h3.drew;have ecur:cur s={t with a:=t.a+s.off}:=by
   unfold cur;rw[<-hnow,hn];have:lH {s with i:=j}=t:=by unfold lH;rw[List.getD_eq_getElem?_getD,ht];rfl
   rw[this]
  have hpos:=hws.tg.pos j t ht;simp only at hpos;have ldT:∀{w':World},PR w0 w' p f M vt {s with i:=j} top->ldW false 1 (.pointer (some ((⟨p,0,none⟩:Addr).add 0))) w' λx=>x=vt:=λh=>by
   rw[dM];exact⟨vt,by rw[bY,cC,h.ps,cN];rfl,rfl⟩
  have ldI:∀{w':World},PR w0 w' p f M vt {s with i:=j} top->ldW false 1 (.pointer (some ((⟨p,0,none⟩:Addr).add 1))) w' λx=>x=i64 (j:Nat):=λh=>by
   rw[dM];exact⟨_,by rw[bY,cC,h.ps,cN];rfl,rfl⟩
  refine h4.ld rfl ?_;refine h4.ld rfl ?_;refine tO (size:=3) h4.tk (CH _) (by omega) hjl λtb o c fr htb hc=>?_;have hcell:∀i,i<3->c[o+i]?=(eS t)[i]?:=λi hi=>by rw[hc i hi];exact Hj ht hi
  have three:∀{w':World},w'.heap[tb]?=some (.cells c TkT fr)->jN w' ⟨tb,o,none⟩ 0 3=some (eS t):=λh=>by
   have h0:=hcell 0 (by omega);have h1:=hcell 1 (by omega);have h2:=hcell 2 (by omega);simp only[eS,fA,List.getElem?_cons_zero,List.getElem?_cons_succ]at h0 h1 h2;simp only[jN,bY,cC,h,cN,fA,h0,h1,h2,gZ,Nat.reduceAdd];rfl
  rw[Do];refine⟨eS t,three htb,?_⟩;refine bG λb2 w5 hb2 hz5 hbb5 hx5=>?_;have h5:=h4.ext hx5;have L5:=h4.loc hz5 hb2 hbb5;have htb5:=hx5.at htb id;refine⟨by rw[Do];exact⟨_,three htb5,rfl⟩,ldI h5,ldT h5,?_⟩;refine cG (l:=eS t) L5.1 rfl rfl rfl λw6 hz6 hb6 hc6=>?_;have L6:Loc w0 w6 p f M vt b2 TkT (eS t):=⟨hb6,L5.2.up (by omega)⟩;have h6:=h5.one hc6 L5.2;refine L6.drew.ldf rfl ?_;refine h6.drew.ld (v:=i64 s.off) rfl ?_;rw[cA,cK (by omega) (by omega),bP,bY,aX];refine L6.drew.st rfl (by simp[eS]) λw7 L7 hc7 hz7=>?_;have h7:=h6.drew.one hc7 L6.drew.2;refine bX (l:=eS (cur s)) (by rw[L7.1,ecur];rfl) rfl ?_;have hbb2:b2≠b:=by have:=L2.lt;have:w2.drew.drew.heap.size=w2.heap.size:=rfl;omega
  have L2':=(((L2.drew.drew.ext hx5).one hc6 (tS hbb2)).drew.one hc7 (tS hbb2));refine jA (l:=eS (cur s)) L2'.1 rfl rfl rfl λw8 hc8=>?_;have h8:=h7.one hc8 L2'.2;refine hK w8 (by rw[<-hnow,hn];exact h8) ?_;have hz2:=he2.chg.size;have z1:w2.drew.drew.heap.size=w2.heap.size:=rfl;exact((((((he2.x (cY _)).x (cY _)).x hx5).one hc6 (by omega)).x (cY _)).one hc7 (by omega)).one hc8 (by omega)
 by_cases hq:s.quiet=true
 ·refine h3.ld (v:=.bool true) (by simp[hq]) ?_;simp only[gX,QC];refine⟨_,rfl,_,rfl,_,rfl,vt,by rw[dM];exact⟨vt,by rw[bY,cC,h3.ps,cN];rfl,rfl⟩,_,rfl,_,rfl,_,rfl,i64 (j:Nat),by rw[dM];exact⟨_,by rw[bY,cC,h3.ps,cN];rfl,rfl⟩,?_⟩;obtain⟨q,cap,hv,g1,g2,g3⟩:=sl;have hne:toks s.toks≠[]:=λe=>by have:=congrArg List.length e;rw[CH,aL]at this;omega
  obtain⟨tb,o,c,fr,rfl,htb,hcs⟩:=g3 hne;have hlen:(toks s.toks).length=s.toks.length*3:=CH _;refine⟨.pointer (some ((⟨tb,o,none⟩:Addr).add (j*3))),?_,.pointer (some (((⟨tb,o,none⟩:Addr).add (j*3)).add 0)),rfl,i64 t.k,?_,.bool (decide (t.k=5)),by rw[bL],?_⟩
  ·rw[hv,qU];exact⟨by omega,by omega,by rw[aV]⟩
  ·rw[dM];refine⟨_,?_,rfl⟩;rw[bY,bY,cC,htb,cN,fA,hcs _ (by omega)];have:=Hj (j:=0) ht (by omega);rw[fA]at this;exact this
  rw[lS,aM];refine⟨λhk=>?_,λhk=>stop ?_⟩
  ·have hrun:bA {s with i:=j+1}=bA s:=by
    rw[<-hnow];unfold bA;simp only[hq,gU];have e:=tB ht;rw[aH hk]at e;rw[e];congr 1;omega
   refine h3.go (wsi hws hl) λw4 h4 he4 hz4=>?_;refine⟨⟨trivial,j+1,h4,by omega,hrun,?_,(he2.x (cY _)).trans he4,L2.drew.eff he4⟩,?_⟩
   ·rw[<-hrun];exact HY {s with i:=j+1}
   ·rw[h4.at_,h2.at_];simp only[step1];omega
  ·have e:=tB ht;rw[aD hk]at e;unfold bA;simp only[hq,gU,e,fA]
 ·have hq:s.quiet=false:=by simpa using hq
  refine h3.ld (v:=.bool false) (by simp[hq]) ?_;simp only[gX,Xf];rw[rH,cX];exact stop (by unfold bA;simp only[hq];rfl)
end
end
theorem xF{xs:List Value}(h:SlAt w T v n xs)(hc:Chg S w w')(hS:∀k,v.ownBlock=some k->¬S k):SlAt w' T v n xs:=by
 obtain⟨q,cap,hv,h1,h2,h3⟩:=h;refine⟨q,cap,hv,h1,h2,λhne=>?_⟩;obtain⟨b,off,c,fr,hq,hb,hcs⟩:=h3 hne;exact⟨b,off,c,fr,hq,hc.at hb (hS b (by rw[hv,hq];rfl)),hcs⟩
def aC7(w0 w:World)(p f:Nat)(M:Lay)(vt:Value)(v:Value)(T:TypeId)(n:Nat)(cs:List Value):Prop:=SlAt w T v n cs/\∀k,v.ownBlock=some k->Off w0 w p f M vt k
theorem upi(h:i<=4611686018427387904):IntKind.i64.wrap ((i:Int)+1)=((i+1:Nat):Int):=by rw[cK (by omega) (by omega)];rfl
def qB:List Str->Str->Nat->Int
 |[],_,_=>-1
 |a::r,x,i=>if x=a then(i:Nat)else qB r x (i+1)
theorem Hp(x:Str):∀(l:List Str) (i:Nat),(0<=qB l x i↔x∈l)
 |[],i=>by simp[qB]
 |a::r,i=>by
  simp only[qB]
  split
  ·rename_i h
   simp[h]
  ·rename_i h
   rw[Hp x r (i+1)]
   simp[h]
theorem vK{x:Str}{K:Q0}(hK:∀b w',b=w.heap.size->w'.heap.size=w.heap.size+1->w'.heap[b]?=some (.cells [str x].toArray StT (0,0))->Ext w w'->K (.slice (some ⟨b,0,none⟩) 1 1) w'):dN StT 1 [(.string (ofL []))] [(0,1,str x)] w K:=by
 rw[dN];simp only[dZ,cU,aA,aL,aW];refine⟨by omega,?_⟩;exact row_new λa w' ha hz hb hx _=>hK a w' ha hz hb hx
theorem jJ{x:Int}{K:Q0}(hK:∀b w',b=w.heap.size->w'.heap.size=w.heap.size+1->w'.heap[b]?=some (.cells [i64 x].toArray iG (0,0))->Ext w w'->K (.slice (some ⟨b,0,none⟩) 1 1) w'):dN iG 1 [(.int .i64 0)] [(0,1,i64 x)] w K:=by
 rw[dN];simp only[dA,cU,aA,aL,aW];refine⟨by omega,?_⟩;exact row_new λa w' ha hz hb hx _=>hK a w' ha hz hb hx
theorem Jc{x y:Int}{K:Q0}(hK:∀b w',b=w.heap.size->w'.heap.size=w.heap.size+1->w'.heap[b]?=some (.cells [i64 x,i64 y].toArray iG (0,0))->Ext w w'->K (.slice (some ⟨b,0,none⟩) 2 2) w'):dN iG 2 [(.int .i64 0),(.int .i64 0)] [(0,1,i64 x),(1,1,i64 y)] w K:=by
 rw[dN];simp only[dA,cU,aA,aL,aW,aZ];refine⟨by omega,by omega,?_⟩;exact row_new λa w' ha hz hb hx _=>hK a w' ha hz hb hx
theorem Qp{x y z:Int}{K:Q0}(hK:∀b w',b=w.heap.size->w'.heap.size=w.heap.size+1->w'.heap[b]?=some (.cells [i64 x,i64 y,i64 z].toArray iG (0,0))->Ext w w'->K (.slice (some ⟨b,0,none⟩) 3 3) w'):dN iG 3 [(.int .i64 0),(.int .i64 0),(.int .i64 0)] [(0,1,i64 x),(1,1,i64 y),(2,1,i64 z)] w K:=by
 rw[dN];simp only[dA,cU,aA,aL,aW,aZ];refine⟨by omega,by omega,by omega,?_⟩;exact row_new λa w' ha hz hb hx _=>hK a w' ha hz hb hx
theorem Av{z d:List Value}{K:Q0}(hd:d.length=n)(hz0:z.length=n)(hK:∀b w',b=w.heap.size->w'.heap.size=w.heap.size+1->w'.heap[b]?=some (.cells d.toArray T (0,0))->Ext w w'->K (.slice (some ⟨b,0,none⟩) 1 1) w'):dN T 1 z [(0,n,.agg d.toArray)] w K:=by
 rw[dN];simp only[dD,Value.cells];refine⟨by simpa using hd,by omega,?_⟩;have e:(z.take 0++(d++z.drop (0+n)))=d:=by rw[List.take_zero,eQ,aX,<-hz0,dQ,eA]
 rw[e];exact row_new λa w' ha hz hb hx _=>hK a w' ha hz hb hx
theorem zT{b:Nat}(h:w.heap[b]?=some (.cells cs.toArray T (0,0)))(hn:cs.length=n):SlAt w T (.slice (some ⟨b,0,none⟩) n n) n cs:=
 ⟨_,_,rfl,aU _,λe=>(by cases e),λ_=>⟨b,0,cs.toArray,_,rfl,h,λi _=>by simp⟩⟩
theorem OQ{B b m:Nat}(h:w.heap[b]?=some (.cells cs.toArray T (0,0)))(hB:B<=b)(hn:cs.length=n*m)(hm:n<=1000000):Own w B T m (.slice (some ⟨b,0,none⟩) n n) n cs:=
 ⟨hn,.inr ⟨b,n,cs.toArray,rfl,hB,h,aU _,by unfold maxLen;omega,by simpa using hn,by simp[<-hn]⟩⟩
theorem GH{f:Nat}{a a' b d:List Nat}(h:(f::(a++b)).Nodup)(hlt:∀k∈f::(a++b),k<n)(ha':a'.Nodup)(hn:∀k∈a',k∈a\/n<=k)(hd:d.Nodup)(hdd:∀k∈d,k<n/\k∉f::(a++b)):(f::(a'++(d++b))).Nodup:=by
 rw[iS,fC]at h;obtain⟨hf,_,hb,hab⟩:=h;have new:∀k∈a',k∉b/\k≠f/\k∉d:=λk hk=>by
  rcases hn k hk with hk|hk
  ·exact⟨λe=>hab k hk k e rfl,λe=>hf (e▸eF _ hk),λe=>(hdd k e).2 (aS _ (eF _ hk))⟩
  ·exact⟨λe=>by have:=hlt k (aS _ (cR _ e));omega,λe=>by have:=hlt k (by rw[e];exact bC);omega,λe=>by have:=(hdd k e).1;omega⟩
 rw[iS];refine⟨λe=>?_,?_⟩
 ·rcases eH.1 e with e|e
  ·exact(new f e).2.1 rfl
  rcases eH.1 e with e|e
  ·exact(hdd f e).2 bC
  ·exact hf (cR _ e)
 ·refine fC.2 ⟨ha',fC.2 ⟨hd,hb,λx hx y hy e=>?_⟩,λx hx y hy e=>?_⟩
  ·subst e;exact(hdd x hx).2 (aS _ (cR _ hy))
  ·subst e;rcases eH.1 hy with hy|hy
   ·exact(new x hx).2.2 hy
   ·exact(new x hx).1 hy
theorem uP(v:Value)(c:List Value):ub (v::c)=ub [v]++ub c:=by
 rw[<-tK];rfl
theorem lF(v:Value):(ub [v]).Nodup:=by
 unfold ub;cases h:v.ownBlock with
 |none=>simp[h]
 |some k=>simp[h]
theorem Jy(M:Lay)(f:Nat):M.uses f=f::(ub [M.vE]++ub ([M.vB,M.vT]++(M.cE++M.cB))):=by
 unfold Lay.uses;rw[dG,uP]
theorem QN(M:Lay)(f:Nat)(v:Value)(d:List Value):(({M with vE:=v,cE:=M.cE++d}:Lay).uses f).Perm (f::(ub [v]++(ub d++ub ([M.vB,M.vT]++(M.cE++M.cB))))):=by
 rw[CB];intro a;rw[Jy];simp only[tK,kU,Cf];omega
theorem Jz(M:Lay)(f:Nat):(M.uses f).Perm (f::(ub [M.vB]++ub ([M.vE,M.vT]++(M.cE++M.cB)))):=by
 rw[CB];intro a;unfold Lay.uses;simp only[tK,kU,Cf];rw[uP M.vE,uP M.vB,uP M.vE [M.vT]];simp only[kU];omega
theorem QO(M:Lay)(f:Nat)(v:Value)(d:List Value):(({M with vB:=v,cB:=M.cB++d}:Lay).uses f).Perm (f::(ub [v]++(ub d++ub ([M.vE,M.vT]++(M.cE++M.cB))))):=by
 rw[CB];intro a;rw[(Jz _ f).count_eq];simp only[tK,kU,Cf];omega
section
variable{w0 w w1 w2:World}{p f:Nat}{M:Lay}{vt:Value}{s:PS}{top:List Nat}
theorem PR.putE(h:PR w0 w p f M vt s top){wb:World}{M0:Lay}(he:Eff p f M0 M wb w){e:Ex}{d:List Value}{v':Value}(hd:ExR w w0.heap.size e d)(hu:∀k∈ub d,Off w0 w p f M vt k)(hn:(ub d).Nodup)(hnew:∀k∈ub d,wb.heap.size<=k)
  (hO:Own w1 w0.heap.size ExT 5 v' (s.ex.length+1) (M.cE++d))(hc1:Chg (λk=>M.vE.ownBlock=some k) w w1)(hv:∀k,v'.ownBlock=some k->M.vE.ownBlock=some k\/w.heap.size<=k)
  (hc2:Chg (One f) w1 w2)(hf:w2.heap[f]?=some (.cells [v',M.vB,M.vT].toArray FlT (0,0))):PR w0 w2 p f {M with vE:=v',cE:=M.cE++d} vt {s with ex:=s.ex++[e]} top/\Eff p f M0 {M with vE:=v',cE:=M.cE++d} wb w2/\∀b T cs,Loc w0 w p f M vt b T cs->b∉ub d->Loc w0 w2 p f {M with vE:=v',cE:=M.cE++d} vt b T cs:=by
 have hb:=h.base;have hzb:=he.chg.size;have eE:=Jy M f;have use:∀k,M.vE.ownBlock=some k->k∈M.uses f:=λk hk=>aS _ (kB (v:=M.vE) (by simp) hk);have hnd:=h.fr.nd;rw[eE,iS,fC]at hnd;obtain⟨nf,_,nb,nab⟩:=hnd;have rest:∀k∈ub ([M.vB,M.vT]++(M.cE++M.cB)),M.vE.ownBlock≠some k/\k≠f/\k<w.heap.size:=λk hk=>
  ⟨λe=>nab k (gE.2 e) k hk rfl,λe=>nf (e▸cR _ hk),h.fr.lt k (by rw[eE];exact aS _ (cR _ hk))⟩
 have c12:Chg (λk=>M.vE.ownBlock=some k\/k=f) w w2:=(hc1.mono λk _ e=>.inl e).trans (hc2.mono λk _ e=>.inr e);have sub:∀v∈[M.vB,M.vT]++(M.cE++M.cB),∀k,v.ownBlock=some k->¬(M.vE.ownBlock=some k\/k=f):=λv hv k hk e=>by
  have:=rest k (kB hv hk);exact e.elim this.1 this.2.1
 have hOf:∀k,v'.ownBlock=some k->k≠f:=λk hk e=>by
  subst e;rcases hv k hk with e|e
  ·exact nf (eF _ (gE.2 e))
  ·have:=eW h.fr.hf;omega
 have nE:M.vE.ownBlock≠some p:=λe=>h.np (use p e);have pf:p≠f:=λe=>h.np (e▸bC);have perm:=QN M f v' d;have hN:(f::(ub [v']++(ub d++ub ([M.vB,M.vT]++(M.cE++M.cB))))).Nodup:=GH (n:=w.heap.size) (a:=ub [M.vE]) (by rw[<-eE];exact h.fr.nd) (λk hk=>h.fr.lt k (by rw[eE];exact hk)) (lF _) (λk hk=>(hv k (gE.1 hk)).imp (λe=>gE.2 e) id) hn λk hk=>⟨(hu k hk).1.2,by rw[<-eE];exact(hu k hk).2.2.1⟩;have hz:=c12.size;have mem:∀k∈({M with vE:=v',cE:=M.cE++d}:Lay).uses f,k=f\/v'.ownBlock=some k\/k∈ub d\/k∈ub ([M.vB,M.vT]++(M.cE++M.cB)):=λk hk=>by
  have hk:=perm.mem_iff.1 hk;rcases bW.1 hk with e|e
  ·exact .inl e
  rcases eH.1 e with e|e
  ·exact .inr (.inl (gE.1 e))
  rcases eH.1 e with e|e
  ·exact .inr (.inr (.inl e))
  ·exact .inr (.inr (.inr e))
 have cT:Chg (Tn p f M) w w2:=c12.mono λk _ e=>e.elim (λe=>.inr (.inr (.inl e))) λe=>.inr (.inl e);refine⟨⟨?_,⟨hf,?_,?_,?_,?_,?_,perm.nodup_iff.2 hN,λk hk=>?_,λk hk=>?_⟩,?_,?_,λe=>?_,h.lo,λk hk=>?_⟩,⟨(he.trans (Eff.of cT)).chg,λk hk=>?_,λk hk=>(hv k hk).elim (he.hE k) λe=>.inr (by omega),he.hB,he.hT⟩,λb T cs hL hbd=>⟨cT.at hL.1 hL.2.no,⟨hL.2.1.1,cL hL.2.1.2 hz⟩,hL.2.2.1,λhk=>?_,hL.2.2.2.2⟩⟩
 ·refine h.ch.then c12 λk hk e=>?_;rcases e with e|e
  ·exact(h.fr.lo k (use k e)).resolve_right (by omega)
  ·exact e
 ·rw[bE];exact iO hO hc2 λk hk e=>hOf k hk e
 ·exact iO h.fr.oB c12 (sub _ (by simp))
 ·exact iO h.fr.oT c12 (sub _ (by simp))
 ·refine nX.snoc ?_ (hd.at_ c12 λk hk e=>?_) (by obtain⟨va,vk,rfl,_⟩:=hd;rfl)
  ·refine h.fr.ee.imp λx d hd hx=>hx.at_ c12 λk hk=>?_;obtain⟨v,hv,hk⟩:=gA.1 hk;exact sub v (by simp[hd v hv]) k hk
  ·have ho:=(hu k hk).2.2.1;rcases e with e|e
   ·exact ho (use k e)
   ·exact ho (e▸bC)
 ·refine h.fr.bb.imp λx d hd hx=>hx.at_ c12 λk hk=>?_;obtain⟨v,hv,hk⟩:=gA.1 hk;exact sub v (by simp[hd v hv]) k hk
 ·rcases mem k hk with e|e|e|e
  ·rw[e];exact eW hf
  ·exact cL (pU hO e).1 hc2.size
  ·exact cL (hu k e).1.2 hz
  ·exact cL (rest k e).2.2 hz
 ·rcases mem k hk with e|e|e|e
  ·exact .inl e
  ·exact .inr (pU hO e).2
  ·exact .inr (hu k e).1.1
  ·exact h.fr.lo k (by rw[eE];exact aS _ (cR _ e))
 ·exact c12.at h.ps λe=>e.elim nE pf
 ·exact xF h.tk c12 λk hk e=>by
   have:=(h.nt k hk).1;rcases e with e|e
   ·exact this (use k e)
   ·exact this (e▸bC)
 ·rcases mem p e with e|e|e|e
  ·exact pf e
  ·exact(hv p e).elim nE λe=>by have:=h.lt;omega
  ·exact(hu p e).2.1 rfl
  ·exact h.np (by rw[eE];exact aS _ (cR _ e))
 ·have ht:=h.nt k hk;refine⟨λe=>?_,ht.2.1,cL ht.2.2 hz⟩;rcases mem k e with e|e|e|e
  ·exact ht.1 (e▸bC)
  ·exact(hv k e).elim (λe=>ht.1 (use k e)) λe=>by omega
  ·exact(hu k e).2.2.2 hk
  ·exact ht.1 (by rw[eE];exact aS _ (cR _ e))
 ·rcases mem k hk with e|e|e|e
  ·exact he.us k (e▸bC)
  ·exact(hv k e).elim (λe=>he.us k (use k e)) λe=>.inr (by omega)
  ·exact .inr (hnew k e)
  ·exact he.us k (by rw[eE];exact aS _ (cR _ e))
 ·have ho:=hL.2;rcases mem b hk with e|e|e|e
  ·exact ho.2.2.1 (e▸bC)
  ·exact(hv b e).elim (λe=>ho.2.2.1 (use b e)) λe=>by have:=ho.1.2;omega
  ·exact hbd e
  ·exact ho.2.2.1 (by rw[eE];exact aS _ (cR _ e))
end
section
variable [HX]
variable{w0 w:World}{p f:Nat}{M:Lay}{vt:Value}{s:PS}{top:List Nat}{N:Int}{K:Q0}
theorem Ly{l:List Str}{x:Str}{K:Q0}(h:SlAt w T v l.length (strs l))(hl:l.length<=1000000)(hK:K (i64 (qB l x 0)) w):aC P0 113 [v,str x] w K:=by
 refine Wk ?_;unfold aCK;rw[fR h];refine cZ.go (λst w'=>∃j:Nat,st=[i64 j]/\j<=l.length/\w'=w/\qB (l.drop j) x j=qB l x 0) (λst _=>match st with|[.int _ j]=>l.length-j.toNat|_=>0) ⟨0,rfl,by omega,rfl,rfl⟩ ?_;rintro st g w' ⟨j,rfl,hj,rfl,hs⟩;simp only[aF];rw[dW,aM];refine⟨λhlt=>?_,λhge=>?_⟩
 ·have hlt:j<l.length:=by omega
  refine rO (x:=str l[j]) h (by simp[strs]) (by simp[strs,hlt]) ?_;rw[cD hlt]at hs;simp only[qB]at hs;rw[qJ,aM];refine⟨λe=>?_,λe=>?_⟩
  ·rw[aH e]at hs;rw[hs];exact hK
  ·rw[aD e]at hs;rw[cA,upi (by omega)];exact⟨⟨j+1,rfl,by omega,trivial,hs⟩,by simp only[aV];omega⟩
 ·rw[eO (by omega)]at hs;simp only[qB]at hs;rw[hs];exact hK
theorem BW{l:List Str}{x:Str}{K:Q0}(h:SlAt w T v l.length (strs l))(hl:l.length<=1000000)(hK:K (.bool (decide (x∈l))) w):aC P0 81 [v,str x] w K:=by
 refine ZH ?_;unfold W81;refine Ly h hl ?_;rw[lM];simp only[Hp];exact hK
theorem Ka(h:PR w0 w p f M vt s top)(hs:WS N s)(hN:N<=1000000)(hl:s.toks.length<=100000)(hK:∀w',PR w0 w' p f M vt (iH s) top->Eff p f M M w w'->K (.agg (eS (cur s)).toArray) w'):
  aC P0 48 [.pointer (some ⟨p,0,none⟩)] w K:=by
 refine aAf ?_;unfold W48;refine bG λb w1 hb hz1 hbb hx1=>?_;have h1:=h.ext hx1;have L1:=h.loc hz1 hb hbb;refine mJ h1 hs hN hl λw2 h2 he2=>?_;have L2:=L1.eff he2;refine bG λb2 w3 hb2 hz3 hbb3 hx3=>?_;have h3:=h2.ext hx3;have L3:=h2.loc hz3 hb2 hbb3;have hne:b≠b2:=by have:=L2.lt;omega
 have L23:=L2.ext hx3;refine cG (l:=eS (cur s)) L3.1 rfl rfl rfl λw4 hz4 hb4 hc4=>?_;have L4:Loc w0 w4 p f M vt b2 TkT (eS (cur s)):=⟨hb4,L3.2.up (by omega)⟩;have h4:=h3.one hc4 L3.2;have L24:=L23.one hc4 hne;have he4:Eff p f M M w w4:=(((Eff.ext hx1).trans he2).x hx3).one hc4 (by have:=he2.chg.size;omega);refine bU.cut (λ_ w'=>PR w0 w' p f M vt (iH s) top/\Eff p f M M w4 w') ?_ ?_
 ·refine L4.ldf rfl ?_;rw[fL,aM];unfold iH;refine⟨λhk=>?_,λhk=>?_⟩
  ·rw[aH hk];exact h4.go (wsi ((fN hs).ws hs) (by rw[(fN hs).toks];exact hl)) λw5 h5 he5 _=>⟨h5,he5⟩
  ·rw[aD hk];exact⟨h4,Eff.refl _ _ _ _⟩
 rintro st g w5 ⟨h5,he5⟩;have L5:=L4.eff he5;have L25:=L24.eff he5;refine bX L5.1 rfl ?_;refine jA (l:=eS (cur s)) L25.1 rfl rfl rfl λw6 hc6=>?_;exact hK w6 (h5.one hc6 L25.2) ((he4.trans he5).one hc6 (by omega))
theorem YT{x:Str}(h:PR w0 w p f M vt s top)(hs:WS N s)(hN:N<=1000000)(hl:s.toks.length<=100000)(hv:aC7 w0 w p f M vt v StT 1 [str x])(hK:∀w',PR w0 w' p f M vt (bA s) top->Eff p f M M w w'->K (.bool (isS s x)) w'):
  aC P0 49 [.pointer (some ⟨p,0,none⟩),v] w K:=by
 refine aAe ?_;unfold W49;refine mJ h hs hN hl λw1 h1 he1=>?_;refine bG λb w2 hb hz2 hbb hx2=>?_;have h2:=h1.ext hx2;have L2:=h1.loc hz2 hb hbb;refine cG (l:=eS (cur s)) L2.1 rfl rfl rfl λw3 hz3 hb3 hc3=>?_;have L3:Loc w0 w3 p f M vt b TkT (eS (cur s)):=⟨hb3,L2.2.up (by omega)⟩;have h3:=h2.one hc3 L2.2;have he3:Eff p f M M w w3:=(he1.x hx2).one hc3 (by have:=he1.chg.size;omega);have sl3:SlAt w3 StT v 1 [str x]:=xF hv.1 he3.chg λk hk=>(hv.2 k hk).no;refine L3.ldf rfl ?_;rw[bL];refine GdW.look (decide ((cur s).t=x)) (λ_ J hJ=>?_) λg=>?_
 ·refine L3.ldf rfl ?_;refine BW (l:=[x]) sl3 (by simp) ?_;simpa using hJ
 ·simp only[aF,gX];rw[eU];exact hK w3 h3 he3
theorem tL{x:Str}(h:PR w0 w p f M vt s top)(hs:WS N s)(hN:N<=1000000)(hl:s.toks.length<=100000)(hK:∀w',PR w0 w' p f M vt (bQ s x).2 top->Eff p f M M w w'->K (.bool (bQ s x).1) w'):
  aC P0 52 [.pointer (some ⟨p,0,none⟩),str x] w K:=by
 refine aAb ?_;unfold W52;refine vK λb w1 hb hz1 hbb hx1=>?_;have h1:=h.ext hx1;have L1:=h.loc hz1 hb hbb;refine YT h1 hs hN hl ⟨zT hbb rfl,λk hk=>by simp only[Value.ownBlock,bD]at hk;subst hk;exact L1.2⟩ λw2 h2 he2=>?_;have he:=(Eff.ext hx1).trans he2;unfold bQ at hK;rw[eD,bS];refine⟨λe=>?_,λe=>?_⟩
 ·have e:isS s x=false:=by simpa using e
  rw[aD (by rw[e];decide)]at hK;exact hK w2 h2 he
 ·have e:isS s x=true:=by simpa using e
  rw[aH e]at hK;exact h2.go (wsi ((fN hs).ws hs) (by rw[(fN hs).toks];exact hl)) λw3 h3 he3 _=>hK w3 h3 (he.trans he3)
theorem vY{x:Str}(h:PR w0 w p f M vt s top)(hs:WS N s)(hN:N<=1000000)(hl:s.toks.length<=100000)(hK:∀s',nO s x=.ok () s'->∀w',PR w0 w' p f M vt s' top->Eff p f M M w w'->K (.tuple #[]) w')(ht:∀c a,nO s x=.err c a->Thr w0 f c a):
  aC P0 116 [.pointer (some ⟨p,0,none⟩),str x] w K:=by
 refine Wi ?_;unfold aCI;refine tL h hs hN hl λw1 h1 he1=>?_;unfold bQ at h1 he1⊢;unfold nO at hK ht;rw[eD,bS];by_cases e:isS s x=true
 ·simp only[aH e]at h1 he1 hK ht⊢;exact⟨λe=>(by cases e),λ_=>hK _ rfl w1 h1 he1⟩
 ·simp only[aD e]at h1 he1 hK ht⊢;refine⟨λ_=>?_,λe=>(by cases e)⟩;refine mJ h1 ((fN hs).ws hs) hN (by rw[(fN hs).toks];exact hl) λw2 h2 he2=>?_;rw[kA];refine⟨i64 (cur s).a,rfl,?_⟩;exact pD h2 (ht _ _ rfl)
theorem wN{k:Int}(h:PR w0 w p f M vt s top)(hs:WS N s)(hN:N<=1000000)(hl:s.toks.length<=100000)(hK:∀t s',kZ s k=.ok t s'->∀w',PR w0 w' p f M vt s' top->Eff p f M M w w'->K (.agg (eS t).toArray) w')(ht:∀c a,kZ s k=.err c a->Thr w0 f c a):
  aC P0 46 [.pointer (some ⟨p,0,none⟩),i64 k] w K:=by
 refine aAh ?_;unfold W46;refine bG λb w1 hb hz1 hbb hx1=>?_;have h1:=h.ext hx1;have L1:=h.loc hz1 hb hbb;have hsn:=(fN hs).ws hs;have hln:(bA s).toks.length<=100000:=by rw[(fN hs).toks];exact hl
 unfold kZ at hK ht;refine bU.cut (λ_ w'=>PR w0 w' p f M vt (bA s) top/\Eff p f M M w1 w'/\(cur s).k=k) ?_ ?_
 ·refine mJ h1 hs hN hl λw2 h2 he2=>?_;refine⟨i64 (cur s).k,rfl,?_⟩;dsimp only;rw[fL,aM];refine⟨λe=>?_,λe=>⟨h2,he2,by omega⟩⟩;refine mJ h2 hsn hN hln λw3 h3 he3=>?_;rw[kA];refine⟨i64 (cur s).a,rfl,?_⟩;exact pD h3 (ht _ _ (by rw[aD e]))
 rintro st g w2 ⟨h2,he2,hk⟩;rw[aH hk]at hK;refine Ka h2 hsn hN hln λw3 h3 he3=>?_;rw[kA];have L3:=(L1.eff he2).eff he3;refine jA (l:=eS (cur s)) L3.1 rfl rfl rfl λw4 hc4=>?_;have e:iH (bA s)=iH s:=by unfold iH;rw[kA,gC]
 rw[e]at h3;exact hK _ _ rfl w4 (h3.one hc4 L3.2) ((((Eff.ext hx1).trans he2).trans he3).one hc4 (by omega))
end
end
end Go.Proofs.YtghhmpppnmoeoaaGreatDoor
namespace Go.Syn
section
open Go Go.Eng Go.Lex
variable{w:World}{K:Q0}{cs:List Value}{G:Nat->Prop}{T:TypeId}{i:Nat}{n:Nat}{v:Value}{w':World}{P:Program}{c:UInt8}{S:Nat->Prop}
def qI:Str->Bool
 |[]=>true
 |[c]=>c !=92
 |c::e::r=>if c=92 then qI r else qI (e::r)
theorem Nq{r:Str}(hc:c≠92)(h:qI r=true):qI (c::r)=true:=by
 cases r with
 |nil=>simp[qI,hc]
 |cons e r=>simp only[qI];rw[aD hc];exact h
theorem Dd:∀(n:Nat) (t:Str),t.length<=n->noD t=true->qI t=true
 |_,[],_,_=>rfl
 |_,[c],_,h=>by simp only[noD,aJ]at h;exact h.1
 |0,c::e::r,h,_=>by simp at h
 |n+1,c::e::r,h,hd=>by
  simp only[noD]at hd
  simp only[aA]at h
  simp only[qI]
  split at hd
  ·rename_i hc
   rw[aH hc]
   exact Dd n r (by omega) hd
  ·rename_i hc
   rw[aD hc]
   simp only[aJ]at hd
   exact Dd n (e::r) (by simp only[aA];omega) hd.2
theorem qE{c':UInt8}{r r':Str}{k:Nat}(h:(c'::r').take (k+1)=(c::r).take (k+1)):c'=c/\r'.take k=r.take k:=by
 simp only[Cy,eJ]at h;exact h
theorem mC{r r':Str}{k j m:Nat}(h:r'.take k=r.take k)(hk:j+m<=k):(r'.drop j).take m=(r.drop j).take m:=by
 have e:∀s:Str,(s.drop j).take m=((s.take k).drop j).take m:=λs=>by
  rw[Es,List.take_take,nC (by omega)]
 rw[e r',e r,h]
theorem HL{x x':UInt8}{r r':Str}(h:x=x'):oN [36,123] (c::x::r)=oN [36,123] (c::x'::r'):=by
 subst h;simp[oN,List.isPrefixOf]
theorem JE:∀(N:Nat) (r r':Str),r.length<=N->
  (∀d k,fP r d=(k,0)->r'.take k=r.take k->k<=r'.length->fP r' d=(k,0))/\
  (∀d k,jP r d=(k,0)->r'.take k=r.take k->k<=r'.length->jP r' d=(k,0)):=by
 intro N;induction N with
 |zero=>
  intro r r' hr;have:r=[]:=bI (by omega);subst this;exact⟨λd k h=>(by rw[oV]at h;cases h),λd k h=>(by rw[Dt]at h;cases h)⟩
 |succ N ih=>
  intro r r' hr;cases r with
  |nil=>exact ih [] r' (by simp)
  |cons c r=>
   simp only[aA]at hr;have hr:r.length<=N:=by omega
   have sh:∀{k:Nat},1<=k->r'.take k=(c::r).take k->k<=r'.length->∃r2,r'=c::r2/\r2.take (k-1)=r.take (k-1)/\k-1<=r2.length:=λ{k} hk ht hl=>by
    cases r' with
    |nil=>simp at hl;omega
    |cons c' r2=>
     obtain⟨j,rfl⟩:∃j,k=j+1:=⟨k-1,by omega⟩;obtain⟨rfl,h2⟩:=qE ht;exact⟨r2,rfl,h2,by simpa using hl⟩
   refine⟨λd k h ht hl=>?_,λd k h ht hl=>?_⟩
   ·have hk:=((iN _ (c::r) (aU _)).1 d k h).2.1;obtain⟨r2,rfl,h2,hl2⟩:=sh hk ht hl;rw[oW]at h⊢;simp only[fI]at h⊢;split at h
    ·rename_i e;rw[aH e];exact h
    rename_i e;rw[aD e];split at h
    ·cases h
    rename_i e1;rw[aD e1];split at h
    ·rename_i e2;rw[aH e2];cases r with
     |nil=>cases h
     |cons x rr=>
      simp only at h;split at h
      ·rename_i e3;obtain⟨g1,g2⟩:=lJ h;have gk:=((iN _ rr (aU _)).1 d _ g1).2.1;cases r2 with
       |nil=>simp at hl2;omega
       |cons x' rr'=>
        obtain⟨j,rfl⟩:∃j,k=j+2:=⟨k-2,by omega⟩;rw[show j+2-1=j+1 by omega]at h2 hl2;obtain⟨rfl,h3⟩:=qE h2;simp only[aH e3];have:=(ih rr rr' (by simp at hr;omega)).1 d j (by simpa using g1) h3 (by simpa using hl2);rw[this];unfold mA;simp
      ·cases h
    rename_i e2;rw[aD e2];split at h
    ·rename_i e3;split at h
     ·cases h
     rename_i e24;split at h
     ·rename_i e4;obtain⟨g1,g2⟩:=lJ h;have gk:=((iN _ _ (aU _)).1 d _ g1).2;have gi:=((iN _ (r.drop 1) (aU _)).2 (d+1) _ (eZ rfl e4)).1;cases r with
      |nil=>simp[oN]at e3
      |cons x rr=>
       cases r2 with
       |nil=>simp at hl2;omega
       |cons x' rr'=>
        obtain⟨j,rfl⟩:∃j,k=j+2:=⟨k-2,by omega⟩;rw[show j+2-1=j+1 by omega]at h2 hl2;obtain⟨rfl,h3⟩:=qE h2;simp only[cS,cV]at g1 gk gi e4⊢;have hl3:j<=rr'.length:=by simpa using hl2
        have hp:oN [36,123] (c::x'::rr')=true:=by rw[HL (r':=rr) rfl];exact e3
        have hrr:rr.length<=N:=by simp at hr;omega
        have hi:=(ih rr rr' hrr).2 (d+1) (jP rr (d+1)).1 (eZ rfl e4) (by have:=mC (j:=0) (m:=(jP rr (d+1)).1) h3 (by omega);simpa using this) (by omega);rw[aH hp,aD e24,hi];simp only;have ht:=(ih (rr.drop (jP rr (d+1)).1) (rr'.drop (jP rr (d+1)).1) (jZ _ hrr)).1 d _ g1 (mC h3 (by omega)) (by rw[aP];omega);rw[ht];unfold mA;simp;omega
     ·rename_i e4;injection h with _ h2
      exact absurd h2 e4
    ·rename_i e3;obtain⟨g1,g2⟩:=lJ h;have gk:=((iN _ _ (aU _)).1 d _ g1).2;have hp:¬oN [36,123] (c::r2)=true:=by
      cases r with
      |nil=>rw[oV]at g1;exact absurd (congrArg Prod.snd g1) (by simp)
      |cons x rr=>
       cases r2 with
       |nil=>simp at hl2;omega
       |cons x' rr'=>
        obtain⟨j,hj⟩:∃j,k-1=j+1:=⟨k-2,by omega⟩;rw[hj]at h2;obtain⟨rfl,_⟩:=qE h2;rw[HL (r':=rr) rfl];exact e3
     rw[aD hp];have:=(ih r r2 hr).1 d (k-1) g1 h2 hl2;rw[this];unfold mA;simp;omega
   ·have hk:=((iN _ (c::r) (aU _)).2 d k h).1.1;obtain⟨r2,rfl,h2,hl2⟩:=sh hk ht hl;rw[Ba]at h⊢;simp only[fI]at h⊢;split at h
    ·rename_i e;rw[aH e];exact h
    rename_i e;rw[aD e];split at h
    ·cases h
    rename_i e1;rw[aD e1];split at h
    ·rename_i e2;rw[aH e2];split at h
     ·cases h
     rename_i e24;rw[aD e24];split at h
     ·rename_i e4;obtain⟨g1,g2⟩:=lJ h;have gk:=((iN _ _ (aU _)).2 d _ g1).1;have hi:=(ih r r2 hr).2 (d+1) (jP r (d+1)).1 (eZ rfl e4) (by have:=mC (j:=0) (m:=(jP r (d+1)).1) h2 (by omega);simpa using this) (by omega);rw[hi];simp only[gU];have ht:=(ih (r.drop (jP r (d+1)).1) (r2.drop (jP r (d+1)).1) (jZ _ hr)).2 d _ g1 (mC h2 (by omega)) (by rw[aP];omega);rw[ht];unfold mA;simp;omega
     ·rename_i e4;injection h with _ h2
      exact absurd h2 e4
    rename_i e2;rw[aD e2];split at h
    ·rename_i e3;rw[aH e3];split at h
     ·rename_i e4;obtain⟨g1,g2⟩:=lJ h;have gk:=((iN _ _ (aU _)).2 d _ g1).1;have hi:=(ih r r2 hr).1 d (fP r d).1 (eZ rfl e4) (by have:=mC (j:=0) (m:=(fP r d).1) h2 (by omega);simpa using this) (by omega);rw[hi];simp only[gU];have ht:=(ih (r.drop (fP r d).1) (r2.drop (fP r d).1) (jZ _ hr)).2 d _ g1 (mC h2 (by omega)) (by rw[aP];omega);rw[ht];unfold mA;simp;omega
     ·rename_i e4;injection h with _ h2
      exact absurd h2 e4
    ·rename_i e3;rw[aD e3];obtain⟨g1,g2⟩:=lJ h;have:=(ih r r2 hr).2 d (k-1) g1 h2 hl2;rw[this];unfold mA;simp;omega
def Scd(t:Str):Prop:=∃d,fP (t++[34]) d=(t.length+1,0)
theorem Ou{r:Str}{d k:Nat}(h:fP r d=(k,0))(hl:∀b,r[k-1]?=some b->b=34):Scd (r.take (k-1)):=by
 obtain⟨_,h1,h2⟩:=(iN _ r (aU _)).1 d k h;obtain⟨j,rfl⟩:∃j,k=j+1:=⟨k-1,by omega⟩;rw[Ep]at hl⊢;have e1:(r.take j).length=j:=by rw[cI];omega
 have hlt:j<r.length:=by omega
 have e2:r.take j++[34]=r.take (j+1):=by
  have:=hl _ (List.getElem?_eq_getElem hlt);rw[eP,List.getElem?_eq_getElem hlt,this];rfl
 refine⟨d,?_⟩;rw[e2,e1];exact(JE _ r (r.take (j+1)) (aU _)).1 d (j+1) h (by rw[List.take_take,Nat.min_self]) (by rw[cI];omega)
theorem wA:∀(N:Nat) (r:Str) (d k:Nat),r.length<=N->fP r d=(k,0)->r[k-1]?=some 34
 |0,r,d,k,hr,h=>by
  have:r=[]:=bI (by omega)
  subst this
  rw[oV]at h;cases h
 |N+1,[],d,k,_,h=>by rw[oV]at h;cases h
 |N+1,c::r,d,k,hr,h=>by
  simp only[aA]at hr
  have hr:r.length<=N:=by omega
  rw[oW]at h
  simp only[fI]at h
  split at h
  ·rename_i e
   injection h with h1 _
   subst h1 e
   rfl
  split at h
  ·cases h
  split at h
  ·cases r with
   |nil=>cases h
   |cons x rr=>
    simp only at h
    split at h
    ·obtain⟨g1,g2⟩:=lJ h
     have gk:=((iN _ rr (aU _)).1 d _ g1).2.1
     have:=wA N rr d _ (by simp at hr;omega) g1
     rw[show k-1=(k-2-1)+2 by omega]
     exact this
    ·cases h
  split at h
  ·rename_i e3
   split at h
   ·cases h
   split at h
   ·obtain⟨g1,g2⟩:=lJ h
    have gk:=((iN _ _ (aU _)).1 d _ g1).2.1
    have:=wA N _ d _ (jZ _ (jZ 1 hr)) g1
    rw[List.getElem?_drop,List.getElem?_drop]at this
    rw[show k-1=1+((jP (r.drop 1) (d+1)).1+(k-((jP (r.drop 1) (d+1)).1+2)-1))+1 by omega]
    exact this
   ·rename_i e4
    injection h with _ h2
    exact absurd h2 e4
  ·obtain⟨g1,g2⟩:=lJ h
   have gk:=((iN _ r (aU _)).1 d _ g1).2.1
   have:=wA N r d _ hr g1
   rw[show k-1=(k-1-1)+1 by omega]
   exact this
theorem Gp:∀(N:Nat) (t:Str),t.length<=N->Scd t->(insP t=none->qI t=true)/\∀i e,insP t=some (i,e)->qI (t.take i)=true/\i+3<=e/\e<=t.length/\Scd (t.drop e)
 |_,[],_,_=>⟨λ_=>rfl,λi e h=>by simp[insP]at h⟩
 |0,_::_,h,_=>by simp at h
 |N+1,[c],_,⟨d,h⟩=>by
  refine⟨λ_=>?_,λi e h=>by simp[insP]at h⟩
  simp only[qI,bne_iff_ne,bT]
  intro e
  subst e
  simp only[dG,eQ]at h
  rw[oW]at h
  simp[Lex.escOk,mA,oV]at h
 |N+1,c::x::r,hN,⟨d,h⟩=>by
  simp only[aA]at hN
  simp only[dG]at h
  rw[oW]at h
  simp only[fI]at h
  split at h
  ·injection h with h1 _
   simp at h1
  split at h
  ·cases h
  simp only[insP,qI]
  split at h
  ·rename_i e92
   rw[aH e92,aH e92]
   split at h
   ·obtain⟨g1,g2⟩:=lJ h
    have sr:Scd r:=⟨d,by rw[g1];simp⟩
    obtain⟨i1,i2⟩:=Gp N r (by omega) sr
    refine⟨λhn=>i1 (by cases hr:insP r with|none=>rfl|some y=>rw[hr]at hn;cases hn),λi e hi=>?_⟩
    cases hr:insP r with
    |none=>rw[hr]at hi;cases hi
    |some y=>
     rw[hr]at hi
     simp only[gZ,bD,fJ]at hi
     obtain⟨rfl,rfl⟩:=hi
     obtain⟨j1,j2,j3,j4⟩:=i2 _ _ hr
     refine⟨?_,by omega,by simp only[aA];omega,by rw[show y.2+2=y.2+1+1 by omega,cS,cS];exact j4⟩
     rw[show y.1+2=y.1+1+1 by omega,Cy,Cy]
     simp only[qI]
     rw[aH e92]
     exact j1
   ·cases h
  rename_i e92
  rw[aD e92,aD e92]
  split at h
  ·rename_i e3
   have hc:c=36/\x=123:=by
    simp[oN,List.isPrefixOf]at e3;exact⟨e3.1.symm,e3.2.symm⟩
   rw[aH hc];refine⟨λhn=>(by cases hn),λi e hi=>?_⟩;simp only[bD,fJ]at hi;obtain⟨rfl,rfl⟩:=hi;split at h
   ·cases h
   split at h
   ·rename_i e4;simp only[cS,cV]at h e4;obtain⟨k1,e5⟩:∃k1,jP (r++[34]) (d+1)=(k1,0):=⟨_,eZ rfl e4⟩;simp only[e5]at h;obtain⟨g1,g2⟩:=lJ h;have gk:=((iN _ _ (aU _)).1 d _ g1).2;have gi:=((iN _ (r++[34]) (aU _)).2 (d+1) _ e5).1;simp only[aA]at g1 gk g2;have hle:k1<=r.length:=by omega
    have hs:=(JE _ (r++[34]) r (aU _)).2 (d+1) _ e5 (by rw[Bu hle]) hle;have hb:=((iN _ r (aU _)).2 (d+1) _ hs).2 1 (by omega);rw[aH rfl]at hb;have eb:Je (x::r)=1+k1:=by
     show pF (x::r) 0=_;rw[nW,aH hc.2,show(0:Int)+1=1 from rfl,hb]
    rw[eb];refine⟨rfl,by omega,by simp only[aA];omega,?_⟩;rw[show 1+(1+k1)=k1+1+1 by omega,cS,cS];refine⟨d,?_⟩;rw[<-Bv hle,g1,aP];simp only[fJ,lI];omega
   ·rename_i e4;injection h with _ h2
    exact absurd h2 e4
  ·rename_i e3;have hc:¬(c=36/\x=123):=λe=>e3 (by simp[oN,List.isPrefixOf,e.1,e.2]);rw[aD hc];obtain⟨g1,g2⟩:=lJ h;have sr:Scd (x::r):=⟨d,by simp only[dG];rw[g1];simp⟩;obtain⟨i1,i2⟩:=Gp N (x::r) (by simp only[aA];omega) sr;refine⟨λhn=>i1 (by cases hr:insP (x::r)with|none=>rfl|some y=>rw[hr]at hn;cases hn),λi e hi=>?_⟩;cases hr:insP (x::r)with
   |none=>rw[hr]at hi;cases hi
   |some y=>
    rw[hr]at hi;simp only[gZ,bD,fJ]at hi;obtain⟨rfl,rfl⟩:=hi;obtain⟨j1,j2,j3,j4⟩:=i2 _ _ hr;refine⟨?_,by omega,by simp only[aA]at j3⊢;omega,by rw[cS];exact j4⟩;rw[Cy];exact Nq e92 j1
def En(t:Str):Prop:=noD t=true\/Scd t
theorem JA{t:Str}(h:En t):(insP t=none->qI t=true)/\∀i e,insP t=some (i,e)->qI (t.take i)=true/\i+3<=e/\e<=t.length/\En (t.drop e):=by
 rcases h with h|h
 ·exact⟨λ_=>Dd _ t (aU _) h,λi e hi=>by rw[Cn _ t (aU _) h]at hi;cases hi⟩
 ·obtain⟨h1,h2⟩:=Gp _ t (aU _) h;exact⟨h1,λi e hi=>by obtain⟨a,b,c,d⟩:=h2 i e hi;exact⟨a,b,c,.inr d⟩⟩
def TS(l:List Tok):Prop:=∀t∈l,t.k=3->En t.t/\t.t.length<=100000
theorem uJ:∀s:Str,(jU s).length<=2*s.length
 |[]=>aU _
 |c::r=>by
  have:=uJ r
  simp only[jU]
  split
  ·simp only[aA];omega
  split
  ·simp only[aA];omega
  split
  ·simp only[aA];omega
  ·simp only[aA];omega
theorem Fw:∀(n:Nat) (name s:Str),(lL n name s).1.length<=2*s.length
 |0,_,_=>by simp[lL]
 |n+1,name,s=>by
  have hr:=pR (λb=>b !=10) s
  simp only[lL]
  split
  ·simp
  split
  ·simp
  rename_i hlen
  split
  ·have h1:=Fw n name (s.drop (eC (λb=>b !=10) s+1))
   have h2:=uJ (s.take (eC (λb=>b !=10) s))
   rw[aP]at h1
   rw[cI]at h2
   simp only[bE,aA,aL]
   omega
  ·simp
theorem Iu(s:Str):(gT s).1.length<=2*s.length:=by
 unfold gT;simp only;generalize (if iU ((s.drop 2).headD 0)=true then eC jB (s.drop 2)else 0)=n;split
 ·simp
 split
 ·have h1:=Fw (s.length+1) ((s.drop 2).take n) (s.drop (2+n+1));rw[aP]at h1;split
  ·show(lL (s.length+1) ((s.drop 2).take n) (s.drop (2+n+1))).1.length<=_;omega
  ·simp
 ·simp
theorem YK{s:Str}{t:Tok}{k:Nat}(h:oH s=(t,k,0))(hk:t.k=3):En t.t/\t.t.length<=2*s.length:=by
 unfold oH at h;simp only at h;split at h
 ·injection h with h1 _;subst h1;cases hk
 split at h
 ·injection h with h1 _;subst h1;cases hk
 split at h
 ·injection h with h1 _;subst h1;cases hk
 split at h
 ·split at h
  ·rename_i hq he;injection h with h1 _
   subst h1;have hx:nP (s.length+1) (s.drop 1) 0=fP (s.drop 1) 0:=sR (by rw[aP];omega);rw[hx]at he⊢;refine⟨.inr (Ou (d:=0) (eZ rfl he) λb hb=>?_),by simp only[cI,aP];omega⟩;rw[wA _ (s.drop 1) 0 _ (aU _) (eZ rfl he)]at hb;injection hb with hb
   exact hb.symm
  ·rename_i he;injection h with h1 h2
   injection h2 with _ h2
   exact absurd h2 he
 split at h
 ·injection h with h1 h2
  injection h2 with h2 h3
  obtain⟨i1,i2,i3⟩:=Dw (s:=s) (t:=(gT s).1) (k:=(gT s).2.1) (eZ rfl (eZ rfl h3));subst h1;exact⟨.inl i3,Iu s⟩
 ·injection h with h1 _;subst h1;cases hk
theorem Hu:∀(n:Nat) (s:Str) (a cnt:Nat) (l:List Tok),s.length<=16384->mI n s a cnt=.ok l->TS l
 |0,_,_,_,_,_,h=>by simp[mI]at h
 |n+1,s,a,cnt,l,hl,h=>by
  simp only[mI]at h
  split at h
  ·cases h
  split at h
  ·injection h with h
   subst h
   intro t ht hk
   simp only[bR]at ht
   subst ht
   cases hk
  split at h
  ·cases h
  rename_i ho
  split at h
  ·cases h
  split at h
  ·rename_i l' hl'
   injection h with h
   subst h
   intro t ht hk
   rcases bW.1 ht with rfl|ht
   ·have h1:=YK (t:=(oH (s.drop (eX (s.length+1) s).1)).1) (k:=(oH (s.drop (eX (s.length+1) s).1)).2.1) (eZ rfl (eZ rfl (yE.1 ho))) hk
    rw[aP]at h1
    exact⟨h1.1,by simp only;omega⟩
   ·exact Hu n _ _ _ _ (by rw[aP,aP];omega) hl' t ht hk
  ·rename_i hne
   exact absurd h (hne l)
theorem Ld{s:Str}{l:List Tok}(h:pK s=.ok l):TS l:=by
 unfold pK at h;split at h
 ·cases h
 rename_i hl;split at h
 ·cases h
 exact Hu _ _ _ _ _ (by omega) h
theorem EJ:∀(n:Nat) (s:Str) (a cnt:Nat) (l:List Tok),cnt<=4096->mI n s a cnt=.ok l->cnt+l.length<=4097
 |0,_,_,_,_,_,h=>by simp[mI]at h
 |n+1,s,a,cnt,l,hc,h=>by
  simp only[mI]at h
  split at h
  ·cases h
  split at h
  ·injection h with h
   subst h
   simp only[aA,aL];omega
  split at h
  ·cases h
  split at h
  ·cases h
  rename_i hne
  split at h
  ·rename_i l' hl'
   injection h with h
   subst h
   have:=EJ n _ _ _ _ (by omega) hl'
   simp only[aA];omega
  ·rename_i hne
   exact absurd h (hne l)
theorem Hr{s:Str}{l:List Tok}(h:pK s=.ok l):l.length<=4097/\s.length<=16384:=by
 unfold pK at h;split at h
 ·cases h
 rename_i hl;split at h
 ·cases h
 have:=EJ _ _ _ _ _ (fW _) h;omega
end
end Go.Syn
namespace Go.Proofs.YtghhmpppnmoeoaaGreatDoor
section
open Go Go.Eng Go.RowKit Go.Syn Go.Lex
variable{w:World}{K:Q0}{cs:List Value}{G:Nat->Prop}{T:TypeId}{i:Nat}{n:Nat}{v:Value}{w':World}{P:Program}{c:UInt8}{S:Nat->Prop}
theorem Uz{B b:Nat}{l:Str}(h:Bld w B b l):Lib.IsBuilderF BdT U8 B b (Lib.byteCells l) w:=by
 obtain⟨p,v,h1,h2,h3,h4⟩:=h;have hO:w.ownsRow B U8 1 v (u8s l).length (u8s l):=by rw[oS];exact h3
 have:Lib.BuilderAt BdT U8 B b p (u8s l) w:=⟨h4,v,h1,hO,λe=>Jh h1 (h3.block b e)⟩;rcases h2 with rfl|rfl
 ·exact .inl (Lib.BuilderAtF.of this)
 ·exact .inr (Lib.BuilderAtF.of this)
theorem jI[HX]{g:FuncId}{args caps:List Value}{K:Q0}(h:aC P g (args++caps) w K):nU P (.func (.func g) #[] caps.toArray) args w K:=by
 unfold nU Oq;unfold aC at h;have:(do let d<-(Deferred.ofValue (.func (.func g) #[] caps.toArray) args.toArray);invoke d.target d.args:Sem Next)=callFunc g (args++caps).toArray:=by
  show callFunc g (#[]++args.toArray++caps.toArray)=_;simp
 rw[this];exact h
theorem iC{s:Str}(h:i<s.length):s.drop i=s[i]::s.drop (i+1):=cD h
theorem pre_eq(s:Str):Lib.hasPrefix s [36,123]=oN [36,123] s:=rfl
section
variable [HX]
theorem Bq{B b:Nat}{l:Str}{K:Q0}(h:Bld w B b l)(hB:B<=w.heap.size)(hK:∀w',Chg (λk=>B<=k) w w'->K (str l) w'):aC P0 64 [.pointer (some ⟨b,0,none⟩)] w K:=by
 refine gF (args:=#[.pointer (some ⟨b,0,none⟩)]) Tryz.call64 ((Tryz.Builder_String_any_k B b l w (Uz h) hB).mono ?_);rintro e w' ⟨rfl,_,hb,_⟩;exact⟨_,rfl,hK w' ⟨hb.os,hb.tape,hb.output,hb.size,λk _ hn=>hb.block k (by omega)⟩⟩
theorem zC{s q:Str}{K:Q0}(hK:K (.bool (Lib.hasPrefix s q)) w):aC P0 43 [str s,str q] w K:=by
 refine gF (args:=#[str s,str q]) Tryz.call43 ((Tryz.strings_HasPrefix (ofL s) (ofL q) w).mono ?_);rintro e w' ⟨rfl,rfl⟩;rw[eG,eG];exact⟨_,rfl,hK⟩
theorem qD{s:Str}{K:Value->Prop}(h:i<s.length)(hK:K (.int .u8 (s[i].toNat:Nat))):oO (str s) (i64 (i:Nat)) K:=by
 rw[GJ];exact⟨by omega,s[i],by simpa using List.getElem?_eq_getElem h,hK⟩
theorem Ey(c:UInt8)(k:Nat)(hk:k<256):decide (((c.toNat:Nat):Int)=(k:Int))=decide (c=UInt8.ofNat k):=by
 rw[decide_eq_decide];constructor
 ·intro h;have h:c.toNat=k:=by omega
  rw[<-h];simp
 ·intro h;subst h;rw[iW];omega
theorem JJ{s:Str}{K:Q0}(he:qI s=true)(hl:s.length<=1000000)(hK:∀w',Ext w w'->K (str (jS s)) w'):aC P0 80 [str s] w K:=by
 refine ZI ?_;unfold W80;refine Zl (B:=w.heap.size) (aU _) λb w1 hb hB1 hx1=>?_;have hz1:=hx1.size;refine cZ.go (λst w'=>∃i out,st=[i64 (i:Nat)]/\i<=s.length/\Bld w' w.heap.size b out/\Ext w w'/\out++jS (s.drop i)=jS s/\out.length<=i/\qI (s.drop i)=true) (λst _=>match st with|[.int _ i]=>s.length-i.toNat|_=>0)
  ⟨0,[],rfl,by omega,hB1,hx1,rfl,aU _,he⟩ ?_
 rintro st g w2 ⟨i,out,rfl,hi,hB2,hx2,hs,ho,hes⟩;have hz2:=hx2.size;simp only[aF];rw[fH,dW,aM];have fin:∀{w3:World} {l:Str} {j:Nat} (c:UInt8),Chg (BCh w2 w.heap.size b) w2 w3->Bld w3 w.heap.size b (out++[c])->i<=j->j<s.length->(out++[c])++jS (s.drop (j+1))=jS s->qI (s.drop (j+1))=true->
   (∃i' out',[i64 ((j+1:Nat))]=[i64 (i':Nat)]/\i'<=s.length/\Bld w3 w.heap.size b out'/\Ext w w3/\out'++jS (s.drop i')=jS s/\out'.length<=i'/\qI (s.drop i')=true)/\s.length-((j+1:Nat):Int).toNat<s.length-((i:Nat):Int).toNat:=λ{w3 l j} c hc hB3 hij hj he1 he2=>by
  refine⟨⟨j+1,out++[c],rfl,by omega,hB3,BCh.new hx2 (aU _) (by omega) hc,he1,by simp;omega,he2⟩,?_⟩;simp only[aV];omega
 refine⟨λhlt=>?_,λhge=>?_⟩
 ·have hlt:i<s.length:=by omega
  refine qD hlt ?_;have hd:=iC hlt;have he0:=hes;rw[hd]at hes hs;refine bU.cut (λst w'=>w'=w2/\∃(j:Nat) (c:UInt8),st=[i64 (j:Nat),.int .u8 (c.toNat:Nat)]/\i<=j/\j<s.length/\(out++[c])++jS (s.drop (j+1))=jS s/\qI (s.drop (j+1))=true) ?_ ?_
  ·rw[bL,aM];refine⟨λe=>?_,λe=>?_⟩
   ·have ec:s[i]=92:=iR.1 (by have e:(s[i].toNat:Int)=92:=e;show s[i].toNat=92;omega);have hlt2:i+1<s.length:=by
     by_cases h2:i+1<s.length
     ·exact h2
     ·rw[eO (by omega),ec]at hes;simp[qI]at hes
    have hd2:=iC hlt2;rw[hd2,ec]at hes hs;simp only[qI,gU]at hes;simp only[jS,gU]at hs;rw[cA,upi (by omega)];refine qD hlt2 ?_;rw[bL,aM];refine⟨λe1=>?_,λe1=>?_⟩
    ·have e1:s[i+1]=110:=iR.1 (by have e:(s[i+1].toNat:Int)=110:=e1;show s[i+1].toNat=110;omega);rw[aH e1]at hs;exact⟨rfl,i+1,10,rfl,by omega,hlt2,by rw[<-hs];simp,hes⟩
    have e1':s[i+1]≠110:=λh=>e1 (by rw[h];rfl);rw[bL,aM];rw[aD e1']at hs;refine⟨λe2=>?_,λe2=>?_⟩
    ·have e2:s[i+1]=116:=iR.1 (by have e:(s[i+1].toNat:Int)=116:=e2;show s[i+1].toNat=116;omega);rw[aH e2]at hs;exact⟨rfl,i+1,9,rfl,by omega,hlt2,by rw[<-hs];simp,hes⟩
    have e2':s[i+1]≠116:=λh=>e2 (by rw[h];rfl);rw[bL,aM];rw[aD e2']at hs;refine⟨λe3=>?_,λe3=>?_⟩
    ·have e3:s[i+1]=114:=iR.1 (by have e:(s[i+1].toNat:Int)=114:=e3;show s[i+1].toNat=114;omega);rw[aH e3]at hs;exact⟨rfl,i+1,13,rfl,by omega,hlt2,by rw[<-hs];simp,hes⟩
    have e3':s[i+1]≠114:=λh=>e3 (by rw[h];rfl);rw[aD e3']at hs;exact⟨rfl,i+1,s[i+1],rfl,by omega,hlt2,by rw[<-hs];simp,hes⟩
   ·have ec:s[i]≠92:=λh=>e (by rw[h];rfl);refine⟨rfl,i,s[i],rfl,aU _,hlt,?_,?_⟩
    ·rw[<-hs];cases hr:s.drop (i+1)with
     |nil=>simp only[jS];rw[aD ec];simp
     |cons x r=>simp only[jS];rw[aD ec];simp
    ·cases hr:s.drop (i+1)with
     |nil=>rfl
     |cons x r=>rw[hr]at hes;simp only[qI]at hes;rw[aD ec]at hes;exact hes
  rintro st g2 w3 ⟨rfl,j,c,rfl,hij,hj,he1,he2⟩;simp only[aF,cW];refine Ci (n:=c.toNat) hB2 hz2 (by omega) (sK c) λw4 hB4 hc4=>?_;rw[cA,upi (by omega)];rw[qX]at hB4;exact fin (l:=[]) c hc4 hB4 hij hj he1 he2
 ·obtain rfl:i=s.length:=by omega
  rw[dQ]at hs;simp only[jS,eA]at hs;subst hs;refine Bq hB2 hz2 λw3 hc3=>?_;exact hK w3 (hx2.then hc3 λk hk e=>by omega)
end
theorem fF(s:Str)(i j:Nat):(s.drop i).drop j=s.drop (i+j):=gV
section
variable [HX]
def aAI(n:Nat):Prop:=∀(s:Str) (w:World) (K:Q0),s.length<=n->s.length<=1000000->K (i64 (pF s 0:Nat)) w->aC P0 112 [str s] w K
def Wx(n:Nat):Prop:=∀(c:UInt8) (r:Str) (w:World) (K:Q0),r.length<n->r.length<=1000000->K (i64 ((1+rF r:Nat):Int)) w->aC P0 150 [str (c::r)] w K
theorem Jd(hq:Wx n):aAI n:=by
 intro s w K hn hl hK;refine Wl ?_;unfold aCL;refine cZ.go (λst w'=>∃(d:Int) (i:Nat),st=[i64 d,i64 (i:Nat)]/\i<=s.length/\w'=w/\i+pF (s.drop i) d=pF s 0/\-(i:Int)<=d/\d<=i) (λst _=>match st with|[_,.int _ i]=>s.length-i.toNat|_=>0) ⟨0,0,rfl,by omega,rfl,by simp,by omega,by omega⟩ ?_;rintro st g w2 ⟨d,i,rfl,hi,rfl,hb,hd1,hd2⟩;simp only[aF,cW];rw[fH,dW,aM];refine⟨λhlt=>?_,λhge=>?_⟩
 ·have hlt:i<s.length:=by omega
  have hd:=iC hlt;rw[hd,nW]at hb;have cond:∀(k:Nat),k<256->(((s[i].toNat:Nat):Int)=(k:Int)↔s[i]=UInt8.ofNat k):=λk hk=>by
   have:=Ey s[i] k hk;rwa[decide_eq_decide]at this
  refine bU.cut (λst w'=>w'=w2/\∃(d':Int) (j:Nat),st=[i64 d',i64 (j:Nat)]/\i<=j/\j<s.length/\j+1+pF (s.drop (j+1)) d'=pF s 0/\-((j+1:Nat):Int)<=d'/\d'<=((j+1:Nat):Int)) ?_ ?_
  ·refine qD hlt ?_;rw[bL,aM];refine⟨λe=>?_,λe=>?_⟩
   ·have e:s[i]=123:=(cond 123 (by omega)).1 e;rw[aH e]at hb;rw[cA,cK (by omega) (by omega)];exact⟨rfl,d+1,i,rfl,aU _,hlt,by omega,by omega,by omega⟩
   have e:¬s[i]=123:=λh=>e ((cond 123 (by omega)).2 h);rw[aD e]at hb;rw[bL,aM];refine⟨λe=>?_,λe=>?_⟩
   ·have e:s[i]=125:=(cond 125 (by omega)).1 e;rw[aH e]at hb;rw[nB,cK (by omega) (by omega),bL,aM];refine⟨λh0=>?_,λh0=>?_⟩
    ·rw[aH h0]at hb;rw[cA,upi (by omega),hb];exact hK
    ·rw[aD h0]at hb;exact⟨rfl,d-1,i,rfl,aU _,hlt,by omega,by omega,by omega⟩
   have e:¬s[i]=125:=λh=>e ((cond 125 (by omega)).2 h);rw[aD e]at hb;rw[bL,aM];refine⟨λe=>?_,λe=>?_⟩
   ·have e:s[i]=34:=(cond 34 (by omega)).1 e;rw[aH e]at hb;rw[fG,fT,eM];refine⟨by omega,by omega,?_⟩;rw[bM,aV,hd];refine hq _ _ _ _ (by rw[aP];omega) (by rw[aP];omega) ?_;have hle:=(Xc _ (s.drop (i+1)) (aU _)).2;rw[aP]at hle;rw[nB,cK (by omega) (by omega),cA,cK (by omega) (by omega)];rw[fF]at hb;refine⟨rfl,d,i+rF (s.drop (i+1)),?_,by omega,?_,?_,by omega,by omega⟩
    ·simp only[eJ,Value.int.injEq,dH,lI];omega
    ·omega
    ·rw[show i+rF (s.drop (i+1))+1=i+1+rF (s.drop (i+1))by omega];omega
   have e:¬s[i]=34:=λh=>e ((cond 34 (by omega)).2 h);rw[aD e]at hb;exact⟨rfl,d,i,rfl,aU _,hlt,by omega,by omega,by omega⟩
  rintro st g2 w3 ⟨rfl,d',j,rfl,hij,hj,hb',h1,h2⟩;simp only[aF,cW];rw[cA,upi (by omega)];refine⟨⟨d',j+1,rfl,by omega,trivial,by omega,by omega,by omega⟩,?_⟩;simp only[aV];omega
 ·obtain rfl:i=s.length:=by omega
  rw[dQ,Qr]at hb;rw[<-hb]at hK;exact hK
theorem OD(hbr:aAI n):Wx (n+1):=by
 intro c r w K hn hl hK;refine VJ ?_;unfold aCn;have hlen:(c::r).length=r.length+1:=rfl;refine cZ.go (λst w'=>∃(i:Nat),st=[i64 ((i+1:Nat):Int)]/\w'=w/\((i<=r.length/\i+rF (r.drop i)=rF r)\/(i=r.length+1/\rF r=r.length))) (λst _=>match st with|[.int _ i]=>r.length+2-i.toNat|_=>0) ⟨0,rfl,rfl,.inl ⟨by omega,by simp⟩⟩ ?_;rintro st g w2 ⟨i,rfl,rfl,hbi⟩;simp only[aF,cW];rw[fH,dW,aM,hlen];refine⟨λhlt=>?_,λhge=>?_⟩
 ·have hlt:i<r.length:=by omega
  obtain⟨hi,hb⟩:=hbi.resolve_right (by omega);have hd:=iC hlt;rw[hd,AL]at hb;have cond:∀(k:Nat),k<256->(((r[i].toNat:Nat):Int)=(k:Int)↔r[i]=UInt8.ofNat k):=λk hk=>by
   have:=Ey r[i] k hk;rwa[decide_eq_decide]at this
  have ix:∀{KK:Value->Prop},KK (.int .u8 (r[i].toNat:Nat))->oO (str (c::r)) (i64 ((i+1:Nat):Int)) KK:=λh=>qD (s:=c::r) (i:=i+1) (by rw[hlen];omega) h;refine bU.cut (λst w'=>w'=w2/\∃(j:Nat),st=[i64 ((j+1:Nat):Int)]/\i<=j/\((j+1<=r.length/\j+1+rF (r.drop (j+1))=rF r)\/(j+1=r.length+1/\rF r=r.length))) ?_ ?_
  ·refine ix ?_;rw[bL,aM];refine⟨λe=>?_,λe=>?_⟩
   ·have e:r[i]=34:=(cond 34 (by omega)).1 e;rw[aH e]at hb;rw[cA,upi (by omega)];rw[<-hb,show 1+(i+1)=i+1+1 by omega]at hK;exact hK
   have e:¬r[i]=34:=λh=>e ((cond 34 (by omega)).2 h);rw[aD e]at hb;refine ix ?_;rw[bL,aM];refine⟨λe=>?_,λe=>?_⟩
   ·have e:r[i]=92:=(cond 92 (by omega)).1 e;rw[aH e]at hb;rw[cA,upi (by omega)];refine⟨rfl,i+1,rfl,by omega,?_⟩;cases hr:r.drop (i+1)with
    |nil=>
     rw[hr]at hb;have hle:r.length<=i+1:=by
      have:=congrArg List.length hr;rw[aP,aL]at this;omega
     simp only at hb;exact .inr ⟨by omega,by omega⟩
    |cons x rr=>
     rw[hr]at hb;simp only at hb;have e2:r.drop (i+1+1)=rr:=by rw[<-fF,hr];rfl
     have e3:=congrArg List.length hr;rw[aP,aA]at e3;exact .inl ⟨by omega,by rw[e2];omega⟩
   have e:¬r[i]=92:=λh=>e ((cond 92 (by omega)).2 h);rw[aD e]at hb;rw[fG,fT,eM];refine⟨by omega,by rw[hlen];omega,?_⟩;rw[bM,aV,cS,hd];refine zC ?_;rw[pre_eq,bS];refine⟨λe=>?_,λe=>?_⟩
   ·rw[aH e]at hb;rw[cA,upi (by omega),fG,fT,eM];refine⟨by omega,by rw[hlen];omega,?_⟩;rw[bM,aV,cS];refine hbr _ _ _ (by rw[aP];omega) (by rw[aP];omega) ?_;have hle:=GW (r.drop (i+1)) 0;rw[aP]at hle;rw[cA,cK (by omega) (by omega)];rw[fF]at hb;refine⟨rfl,i+pF (r.drop (i+1)) 0,?_,by omega,.inl ⟨by omega,?_⟩⟩
    ·simp only[eJ,Value.int.injEq,dH,lI];omega
    ·rw[show i+pF (r.drop (i+1)) 0+1=i+1+pF (r.drop (i+1)) 0 by omega];omega
   ·rw[aD (by rw[e];decide)]at hb;exact⟨rfl,i,rfl,aU _,.inl ⟨by omega,by omega⟩⟩
  rintro st g2 w3 ⟨rfl,j,rfl,hij,hb'⟩;simp only[aF,cW];rw[cA,upi (by omega)];refine⟨⟨j+1,rfl,trivial,hb'⟩,?_⟩;simp only[aV];omega
 ·have hq:rF r=r.length:=by
   rcases hbi with⟨hi,hb⟩|h
   ·rw[eO (by omega),OE]at hb;omega
   ·exact h.2
  rw[hq,show 1+r.length=r.length+1 by omega]at hK;exact hK
theorem Ma:∀n,aAI n/\Wx n
 |0=>have hq:Wx 0:=λ_ _ _ _ h=>by omega
  ⟨Jd hq,hq⟩
 |n+1=>have hq:=OD (Ma n).1
  ⟨Jd hq,hq⟩
theorem Qq{s:Str}{K:Q0}(hl:s.length<=1000000)(hK:K (i64 (Je s:Nat)) w):aC P0 112 [str s] w K:=(Ma s.length).1 s w K (aU _) hl hK
def GM(s:Str):List Value:=match Syn.insP s with|some (i,e)=>[i64 (i:Nat),i64 (e:Nat)]|none=>[i64 (-1),i64 0]
theorem Nb(c:UInt8)(r:Str):Syn.insP (c::r)=if c=92 then(Syn.insP (r.drop 1)).map (λx=>(x.1+2,x.2+2))else if oN [36,123] (c::r)=true then some (0,1+Je r)else(Syn.insP r).map λx=>(x.1+1,x.2+1):=by
 cases r with
 |nil=>
  simp only[Syn.insP,List.drop_nil,Option.map_none];split
  ·rfl
  ·simp[oN,List.isPrefixOf]
 |cons e r=>
  simp only[Syn.insP,cS,cV];split
  ·rfl
  ·have:(c=36/\e=123)↔oN [36,123] (c::e::r)=true:=by
    simp[oN,List.isPrefixOf];exact⟨λh=>⟨h.1.symm,h.2.symm⟩,λh=>⟨h.1.symm,h.2.symm⟩⟩
   by_cases h:c=36/\e=123
   ·rw[aH h,aH (this.1 h)]
   ·rw[aD h,aD (λx=>h (this.2 x))]
theorem wO{s:Str}{K:Q0}(hl:s.length<=1000000)(hK:K (.tuple (GM s).toArray) w):aC P0 79 [str s] w K:=by
 refine ZJ ?_;unfold W79;refine cZ.go (λst w'=>∃(i:Nat),st=[i64 (i:Nat)]/\w'=w/\Syn.insP s=(Syn.insP (s.drop i)).map λx=>(x.1+i,x.2+i)) (λst _=>match st with|[.int _ i]=>s.length+1-i.toNat|_=>0) ⟨0,rfl,rfl,by rw[cV];cases Syn.insP s<;>rfl⟩ ?_;rintro st g w2 ⟨i,rfl,rfl,hb⟩;simp only[aF];rw[fH,dW,aM];unfold GM at hK;refine⟨λhlt=>?_,λhge=>?_⟩
 ·have hlt:i<s.length:=by omega
  have hd:=iC hlt;rw[hd,Nb]at hb;have cond:∀(k:Nat),k<256->(((s[i].toNat:Nat):Int)=(k:Int)↔s[i]=UInt8.ofNat k):=λk hk=>by
   have:=Ey s[i] k hk;rwa[decide_eq_decide]at this
  refine bU.cut (λst w'=>w'=w2/\∃(j:Nat),st=[i64 (j:Nat)]/\i<=j/\j<=i+1/\Syn.insP s=(Syn.insP (s.drop (j+1))).map λx=>(x.1+(j+1),x.2+(j+1))) ?_ ?_
  ·refine qD hlt ?_;rw[bL,aM];refine⟨λe=>?_,λe=>?_⟩
   ·have e:s[i]=92:=(cond 92 (by omega)).1 e;rw[aH e,fF]at hb;rw[cA,upi (by omega)];refine⟨rfl,i+1,rfl,by omega,by omega,?_⟩;rw[hb,Option.map_map];congr 1;funext x;simp only[Function.comp,fJ];omega
   have e:¬s[i]=92:=λh=>e ((cond 92 (by omega)).2 h);rw[aD e]at hb;rw[fG,fT,eM];refine⟨by omega,by omega,?_⟩;rw[bM,aV,hd];refine zC ?_;rw[pre_eq,bS];refine⟨λe=>?_,λe=>?_⟩
   ·rw[aH e]at hb;rw[cA,upi (by omega),cA,upi (by omega),fG,fT,eM];refine⟨by omega,by omega,?_⟩;rw[bM,aV];refine Qq (by rw[aP];omega) ?_;have hle:=GW (s.drop (i+1)) 0;have eb:Je (s.drop (i+1))=pF (s.drop (i+1)) 0:=rfl;rw[aP]at hle;rw[cA,cK (by omega) (by omega)];rw[hb]at hK;simp only[gZ]at hK;have e1:((0+i:Nat):Int)=(i:Int):=by omega
    have e2:((1+Je (s.drop (i+1))+i:Nat):Int)=((i+1:Nat):Int)+(Je (s.drop (i+1)):Nat):=by omega
    rw[e1,e2]at hK;exact hK
   ·rw[aD (by rw[e];decide)]at hb;refine⟨rfl,i,rfl,by omega,by omega,?_⟩;rw[hb,Option.map_map];congr 1;funext x;simp only[Function.comp,fJ];omega
  rintro st g2 w3 ⟨rfl,j,rfl,hij,hj,hb'⟩;simp only[aF];rw[cA,upi (by omega)];refine⟨⟨j+1,rfl,trivial,hb'⟩,?_⟩;simp only[aV];omega
 ·rw[eO (by omega)]at hb;rw[hb]at hK;exact hK
end
def wG:List Str:=[[124,124],[38,38],[61,61],[33,61],[60],[62],[60,61],[62,61],[43],[45],[42],[47],[37]]
def Cq(x:Int):Int:=if x=0 then 27 else if x=101 then 26 else if x=202 then 20 else if x=203 then 21 else if x=304 then 22 else if x=305 then 23 else if x=306 then 24 else if x=307 then 25 else if x=408 then 15 else if x=409 then 16 else if x=510 then 17 else if x=511 then 18 else if x=512 then 19 else 0
theorem Pl:∀k:Fin 13,∀n:Fin 6,Cq ((n.val:Int)*100+(k.val:Int))=Iq n.val (wG[k.val]'k.isLt):=by decide+kernel
theorem AI(x:Str):∀(l:List Str) (i:Nat),(∃k,l[k]?=some x/\qB l x i=((i+k:Nat):Int))\/(x∉l/\qB l x i=-1)
 |[],i=>.inr ⟨by simp,rfl⟩
 |a::r,i=>by
  simp only[qB]
  split
  ·rename_i h
   exact .inl ⟨0,by simp[h],rfl⟩
  ·rename_i h
   rcases AI x r (i+1)with⟨k,h1,h2⟩|⟨h1,h2⟩
   ·exact .inl ⟨k+1,by simpa using h1,by rw[h2];omega⟩
   ·exact .inr ⟨by simp[h,h1],h2⟩
theorem Pq{x:Str}(h:x∉wG):Iq n x=0:=by
 simp only[wG,bW,eY,sH,not_or]at h;obtain⟨h1,h2,h3,h4,h5,h6,h7,h8,h9,h10,h11,h12,h13⟩:=h;unfold Iq;simp only[aD h1,aD h2,aD h3,aD h4,aD h5,aD h6,aD h7,aD h8,aD h9,aD h10,aD h11,aD h12,aD h13,ite_self]
theorem Kg(hn:n<=5)(x:Str):Cq ((n:Int)*100+qB wG x 0)=Iq n x:=by
 rcases AI x wG 0 with⟨k,h1,h2⟩|⟨h1,h2⟩
 ·have hk:k<13:=(List.getElem?_eq_some_iff.1 h1).1;have:=Pl ⟨k,hk⟩ ⟨n,by omega⟩;rw[h2,aX,this];congr 1;exact(List.getElem?_eq_some_iff.1 h1).2
 ·rw[h2,Pq h1];have:∀m:Fin 6,Cq ((m.val:Int)*100+-1)=0:=by decide+kernel
  exact this ⟨n,by omega⟩
section
variable [HX]
theorem TD{x:Str}{K:Q0}(hK:K (i64 (wL x)) w):aC P0 259 [str x] w K:=by
 refine UQ ?_;unfold aBL;unfold wL at hK;rw[qJ,aM];refine⟨λh=>by rw[aH h]at hK;exact hK,λh=>?_⟩;rw[aD h]at hK;rw[qJ,aM];refine⟨λh=>by rw[aH h]at hK;exact hK,λh=>?_⟩;rw[aD h]at hK;rw[qJ,aM];refine⟨λh=>by rw[aH h]at hK;exact hK,λh=>?_⟩;rw[aD h]at hK;exact hK
theorem Ri{K:Q0}(h:∀v w',SlAt w' T v n cs->Ext w w'->K v w')(hn:cs.length=n):K (.slice (some ⟨w.heap.size,0,none⟩) n n) (w.alloc (.cells cs.toArray T)):=
 row_new λa w' ha hz hb hx _=>h _ w' (zT hb hn) hx
theorem Mx{K:Q0}(hK:∀v w',SlAt w' StT v 13 (strs wG)->Ext w w'->K v w'):
  dN StT 13 (List.replicate 13 (.string (ofL []))) [(0,1,(.string (ofL [124,124]))),(1,1,(.string (ofL [38,38]))),(2,1,(.string (ofL [61,61]))),(3,1,(.string (ofL [33,61]))),(4,1,(.string (ofL [60]))),(5,1,(.string (ofL [62]))),(6,1,(.string (ofL [60,61]))),(7,1,(.string (ofL [62,61]))),(8,1,(.string (ofL [43]))),(9,1,(.string (ofL [45]))),(10,1,(.string (ofL [42]))),(11,1,(.string (ofL [47]))),(12,1,(.string (ofL [37])))] w K:=by
 rw[dN];simp only[List.replicate,dZ,cU,aA,aL,aW,aZ,Nat.reduceAdd,Nat.reduceLT,dH,aB];exact Ri hK rfl
theorem TQ{t:Tok}{K:Q0}(hn:n<=5)(hK:∀w',Ext w w'->K (i64 (uY t n)) w'):aC P0 152 [.agg (eS t).toArray,i64 (n:Nat)] w K:=by
 refine VH ?_;unfold aCl;refine fS (z:=eS t) λb w1 hb hz1 hbb hx1=>?_;unfold uY at hK;have ldc:∀{w':World} {off:Nat} {v:Value} {KK:Value->Prop},w'.heap[b]?=some (.cells (eS t).toArray TkT (0,0))->(eS t)[off]?=some v->KK v->aY off (.pointer (some ⟨b,0,none⟩)) λx=>ldW false 1 x w' KK:=λh hv hk=>by
  rw[bP,bY,aX,dM];exact⟨_,by rw[cC,h,cN];simpa using hv,hk⟩
 refine ldc hbb rfl ?_;rw[fL,aM];refine⟨λh=>?_,λh=>?_⟩
 ·rw[aD h]at hK;exact hK w1 hx1
 have h:t.k=4:=by omega
 rw[aH h,<-Kg hn]at hK;rw[Cx,cK (by omega) (by omega)];refine Mx λv w2 hv hx2=>?_;refine ldc (hx2.at hbb id) rfl ?_;refine Ly (l:=wG) hv (by decide) ?_;have hr:-1<=qB wG t.t 0/\qB wG t.t 0<=12:=by
  rcases AI t.t wG 0 with⟨k,h1,h2⟩|⟨h1,h2⟩
  ·have hk:k<13:=(List.getElem?_eq_some_iff.1 h1).1;rw[h2];omega
  ·rw[h2];omega
 rw[cA,cK (by omega) (by omega)];generalize (n:Int)*100+qB wG t.t 0=x at*
 have hx:=hK w2 (hx1.trans hx2);unfold Cq at hx;have step:∀{k r e:Int} {A B:Prop},((if x=k then r else e)=r->A)->(¬x=k->B)->aR (.bool (decide (x=k))) A B:=λh1 h2=>by
  rw[aM];exact⟨λe=>h1 (aH e),h2⟩
 iterate 13
  rw[bL,aM];refine⟨λe=>by rw[aH e]at hx;exact hx,λe=>?_⟩;rw[aD e]at hx
 exact hx
theorem qR{b:Nat}(h:w.heap[b]?=some (.cells cs.toArray T (0,0)))(hn:0<n:=by omega):SlAt w T (.slice (some ⟨b,0,none⟩) n n) n cs:=
 ⟨_,_,rfl,aU _,λe=>(by cases e),λ_=>⟨b,0,cs.toArray,_,rfl,h,λi _=>by simp⟩⟩
section
variable{w0 w:World}{p f:Nat}{M:Lay}{vt:Value}{s:PS}{top:List Nat}{N:Int}{K:Q0}
theorem Li{t:Tok}(h:PR w0 w p f M vt s top)(hx:En t.t)(hl:t.t.length<=1000000)(hK:∀l s',oY s t=.ok l s'->∀w',Ext w w'->K (str l) w')(ht:∀c a,oY s t=.err c a->Thr w0 f c a):
  aC P0 47 [.pointer (some ⟨p,0,none⟩),.agg (eS t).toArray] w K:=by
 refine aAg ?_;unfold W47;refine fS (z:=eS t) λb w1 hb hz1 hbb hx1=>?_;have h1:=h.ext hx1;have L1:=h.loc hz1 hb hbb;unfold oY at hK ht;refine bU.cut (λ_ w'=>w'=w1/\(Syn.insP t.t).isSome=false) ?_ ?_
 ·refine L1.ldf rfl ?_;refine wO hl ?_;rw[bJ];unfold GM;cases hi:Syn.insP t.t with
  |none=>
   refine⟨i64 (-1),rfl,?_⟩;rw[bJ];refine⟨i64 0,rfl,?_⟩;rw[lM,aM];exact⟨λe=>by omega,λ_=>⟨rfl,rfl⟩⟩
  |some x=>
   refine⟨i64 (x.1:Nat),rfl,?_⟩;rw[bJ];refine⟨i64 (x.2:Nat),rfl,?_⟩;rw[lM,aM];refine⟨λ_=>?_,λe=>by omega⟩;refine L1.ldf rfl ?_;exact pD h1 (ht _ _ (by rw[hi];rfl))
 rintro st g w2 ⟨rfl,hi⟩;rw[aD (by rw[hi];decide)]at hK;refine L1.ldf rfl ?_;refine JJ ((JA hx).1 (by cases hr:Syn.insP t.t with|none=>rfl|some x=>rw[hr]at hi;cases hi)) hl λw3 hx3=>?_;exact hK _ _ rfl w3 (hx1.trans hx3)
theorem Kf{s:PS}(h:(cur s).k=5):fQ (step1 (bA s))=fQ s:=by
 have ht:(bA s).toks=s.toks:=by unfold bA;split<;>rfl
 have hk:(lH (bA s)).k=5:=h;have hlt:(bA s).i<(bA s).toks.length:=by
  by_cases hl:(bA s).i<(bA s).toks.length
  ·exact hl
  ·unfold lH at hk;rw[List.getD_eq_getElem?_getD,List.getElem?_eq_none (by omega)]at hk;cases hk
 have hg:(bA s).toks[(bA s).i]?=some (lH (bA s)):=by unfold lH;rw[List.getD_eq_getElem?_getD,List.getElem?_eq_getElem hlt];rfl
 have e:=tB hg;rw[aH hk]at e;have hq:s.quiet=false:=by
  by_cases hq:s.quiet=true
  ·exfalso;have e2:bA (bA s)=bA s:=gC s;have hq2:(bA s).quiet=true:=by unfold bA;split<;>exact hq
   have e3:(bA (bA s)).i=(bA s).i+gM ((bA s).toks.drop (bA s).i):=by
    rw[bA,aH hq2]
   rw[e2]at e3;omega
  ·simpa using hq
 have n1:∀s:PS,s.quiet=false->bA s=s:=λs h=>by unfold bA;rw[h];rfl
 have h1:=n1 s hq;rw[h1]at e⊢;have h2:=n1 (step1 s) hq;unfold fQ;rw[h1,h2];show({s with i:=s.i+1+gM (s.toks.drop (s.i+1))}:PS)={s with i:=s.i+gM (s.toks.drop s.i)};rw[e];congr 1;omega
theorem Ke{N:Int}{s:PS}(hs:WS N s)(h:(cur s).k≠5):fQ s=bA s:=by
 have hn:=(fN hs).ws hs;have e:=tB (vZ hn);have hk:(lH (bA s)).k≠5:=h;rw[aD hk,(fN hs).toks]at e;unfold fQ;rw[e];rfl
theorem xM(h:PR w0 w p f M vt s top)(hs:WS N s)(hN:N<=1000000)(hl:s.toks.length<=100000)(hK:∀w',PR w0 w' p f M vt (fQ s) top->Eff p f M M w w'->K (.tuple #[]) w'):
  aC P0 28 [.pointer (some ⟨p,0,none⟩)] w K:=by
 refine aAq ?_;unfold W28;refine cZ.go (λst w'=>st=[]/\∃s1,PR w0 w' p f M vt s1 top/\WS N s1/\s1.toks=s.toks/\fQ s1=fQ s/\Eff p f M M w w') (λ_ w'=>s.toks.length-yX w' p) ⟨rfl,s,h,hs,rfl,rfl,Eff.refl _ _ _ _⟩ ?_;rintro st g w2 ⟨rfl,s1,h2,hs1,et,el,he2⟩;refine mJ h2 hs1 hN (by rw[et];exact hl) λw3 h3 he3=>?_;refine⟨i64 (cur s1).k,rfl,?_⟩;dsimp only;rw[bL,aM];have hg:=fN hs1;have hsn:=hg.ws hs1;refine⟨λhk=>?_,λhk=>?_⟩
 ·have hk0:(cur s1).k≠0:=by rw[hk];decide
  have hst:=iZ hs1 hk0;refine h3.go (wsi hsn (by rw[hg.toks,et];exact hl)) λw4 h4 he4 hz4=>?_;refine⟨⟨rfl,_,h4,hst.1.ws hs1,hst.1.toks.trans et,(Kf hk).trans el,(he2.trans he3).trans he4⟩,?_⟩;rw[h4.at_,h2.at_];have:=hst.2;have h5:=hst.1.lt;rw[hst.1.toks,et]at h5;omega
 ·rw[Ke hs1 hk]at el;rw[el]at h3;exact hK w3 h3 (he2.trans he3)
theorem nZ{a:Int}{q:Bool}{fv:Value}(h:PR w0 w p f M vt s top)(hd:s.deep<=24)(hbad:s.deep=24->Thr w0 f 7 a)
  (hf:s.deep≠24->∀w1,PR w0 w1 p f M vt {s with deep:=s.deep+1,quiet:=q} top->Eff p f M M w w1->nU P0 fv [] w1 λ_ w2=>∃M2 s2,PR w0 w2 p f M2 vt s2 top/\s2.deep=s.deep+1/\
    ∀w3,PR w0 w3 p f M2 vt {s2 with deep:=s.deep,quiet:=s.quiet} top->Eff p f M2 M2 w2 w3->K (.tuple #[]) w3):
  aC P0 50 [.pointer (some ⟨p,0,none⟩),i64 a,.bool q,fv] w K:=by
 refine aAd ?_;unfold W50;refine bU.cut (λ_ w'=>w'=w/\s.deep≠24) ?_ ?_
 ·refine h.ld rfl ?_;rw[bL,aM];refine⟨λe=>?_,λe=>⟨rfl,λh=>e (by rw[h];rfl)⟩⟩;exact pD h (hbad (by omega))
 rintro st g w1 ⟨rfl,hne⟩;refine h.ld rfl ?_;refine h.ld rfl ?_;rw[cA,upi (by omega)];refine h.st_deep λw2 h2 he2 hz2=>?_;refine h2.st_quiet (q:=q) λw3 h3 he3 hz3=>?_;have hc:=hf hne w3 h3 (he2.trans he3);refine Res.mono ?_ hc;rintro v w4 ⟨M2,s2,h4,e4,hk⟩;refine h4.ld rfl ?_;rw[nB,cK (by omega) (by omega)];have e:((s2.deep:Nat):Int)-1=((s.deep:Nat):Int):=by omega
 rw[e];refine h4.st_deep λw5 h5 he5 hz5=>?_;refine h5.st_quiet (q:=s.quiet) λw6 h6 he6 hz6=>?_;exact hk w6 h6 (he5.trans he6)
theorem JQ{M0:Lay}{wb:World}{e:Ex}{d:List Value}(h:PR w0 w p f M vt s top)(he:Eff p f M0 M wb w)(hd:ExR w w0.heap.size e d)(hu:∀k∈ub d,Off w0 w p f M vt k)(hn:(ub d).Nodup)(hnew:∀k∈ub d,wb.heap.size<=k)(hlen:s.ex.length<=1000000)
  (hK:∀M' w',PR w0 w' p f M' vt {s with ex:=s.ex++[e]} top->Eff p f M0 M' wb w'->(∀b T cs,Loc w0 w p f M vt b T cs->b∉ub d->Loc w0 w' p f M' vt b T cs)->K (i64 (s.ex.length:Nat)) w'):
  aC P0 117 [.pointer (some ⟨p,0,none⟩),.agg d.toArray] w K:=by
 refine Wh ?_;unfold aCH;have hdl:d.length=5:=by obtain⟨va,vk,rfl,_⟩:=hd;rfl
 have hd1:∀u∈d,gH u=true:=by
  obtain⟨va,vk,rfl,h1,h2⟩:=hd;obtain⟨_,_,rfl,_⟩:=h1.sl.shape;obtain⟨_,_,rfl,_⟩:=h2.sl.shape;intro u hu;simp only[bW,eY,sH]at hu;rcases hu with rfl|rfl|rfl|rfl|rfl<;>rfl
 refine fS (z:=d) λb w1 hb hz1 hbb hx1=>?_;have h1:=(h.ext hx1).drew;have hx1':Ext w w1.drew:=hx1.trans (cY _);have L1:=(h.loc hz1 hb hbb).drew;have ldF:∀{w':World},w'.heap[p]?=some (.cells [vt,i64 (s.i:Nat),i64 s.off,.pointer (some ⟨f,0,none⟩),i64 (s.deep:Nat),.bool s.quiet].toArray PsT (0,0))->ldW false 1 (.pointer (some ((⟨p,0,none⟩:Addr).add 3))) w' λx=>x=.pointer (some ⟨f,0,none⟩):=by
  intro w' h;rw[dM];exact⟨_,by rw[bY,cC,h,cN];rfl,rfl⟩
 have ldE:∀{w':World} {v:Value} {r:List Value},w'.heap[f]?=some (.cells (v::r).toArray FlT (0,0))->w'.cell? ((⟨f,0,none⟩:Addr).add 0)=some v:=by
  intro w' v r h;rw[bY,cC,h,cN];rfl
 have use:∀k,M.vE.ownBlock=some k->k∈M.uses f:=λk hk=>aS _ (kB (v:=M.vE) (by simp) hk);have nE:¬M.vE.ownBlock=some p:=λe=>h.np (use p e);have nF:¬M.vE.ownBlock=some f:=λe=>by
  have hnd:=h.fr.nd;rw[Jy,iS]at hnd;exact hnd.1 (eF _ (gE.2 e))
 have pf:p≠f:=λe=>h.np (e▸bC);have cF:∀{w':World},w'.heap[p]?=some (.cells [vt,i64 (s.i:Nat),i64 s.off,.pointer (some ⟨f,0,none⟩),i64 (s.deep:Nat),.bool s.quiet].toArray PsT (0,0))->w'.cell? ((⟨p,0,none⟩:Addr).add 3)=some (.pointer (some ⟨f,0,none⟩)):=by
  intro w' h;rw[bY,cC,h,cN];rfl
 rw[dI,bP,dM];refine⟨_,cF h1.ps,?_⟩;rw[dI,bP,dM];refine⟨_,cF h1.ps,?_⟩;rw[dI,bP,dM];refine⟨_,ldE h1.fr.hf,?_⟩;refine bX L1.1 hdl ?_;refine Av hdl rfl λr w2 hr hz2 hrb hx2=>?_;have h2:=h1.ext hx2;refine⟨by rw[dM];exact⟨_,ldE h2.fr.hf,rfl⟩,ldF h2.ps,ldF h2.ps,?_⟩;have hx02:Ext w w2:=hx1'.trans hx2;have hc0:Chg (λk=>M.vE.ownBlock=some k) w w2:=Chg.of_ext hx02;refine jG aBi h2.fr.oE (qR (n:=1) (T:=ExT) (cs:=d) hrb) (by rw[hdl]) hd1 (by omega) (by omega) h2.base λv' w3 hO3 hc3 hv3=>?_;have hp3:=hc3.at h2.ps nE;have hf3:=hc3.at h2.fr.hf nF;refine⟨ldF hp3,?_⟩;rw[dI,bP,bY,aX];obtain⟨vp,vc,ev,_⟩:=hO3.sl.shape;refine iT hf3 (by rw[ev];rfl) (by simp) λw4 hz4 hf4 hc4=>?_;have hz02:=hx02.size;obtain⟨h4,he4,hk4⟩:=h.putE (w1:=w3) (w2:=w4) (v':=v') he hd hu hn hnew hO3 (hc0.trans hc3) (λk hk=>(hv3 k hk).imp id λe=>by omega) hc4 (by rw[hf4];simp);rw[dI,bP,dM];refine⟨_,cF h4.ps,?_⟩;rw[dI,bP,dM];refine⟨_,ldE h4.fr.hf,?_⟩;dsimp only;rw[ev,Cr,nB,cK (by omega) (by omega)];have e1:((s.ex.length+1:Nat):Int)-1=(s.ex.length:Nat):=by omega
 rw[e1];exact hK _ w4 h4 he4 hk4
end
end
structure Gd(N:Int)(s:PS)(dl:Nat):Prop where
 ws:WS N s
 hN:N<=1000000
 few:s.toks.length<=4097
 ts:TS s.toks
 phi:phi s<=100000
 lev:s.deep+dl=24
theorem Gd.l{N:Int}{s:PS}{dl:Nat}(h:Gd N s dl):s.toks.length<=100000:=by have:=h.few;omega
theorem Gd.go{N:Int}{s s':PS}{dl:Nat}(h:Gd N s dl)(hg:Go1 N s s')(hp:Syn.phi s'<=Syn.phi s):Gd N s' dl:=
 ⟨hg.ws h.ws,h.hN,by rw[hg.toks];exact h.few,by rw[hg.toks];exact h.ts,cH hp h.phi,by rw[hg.deep];exact h.lev⟩
theorem Gd.frame{N:Int}{s:PS}{dl:Nat}(h:Gd N s (dl+1))(q:Bool):Gd N {s with deep:=s.deep+1,quiet:=q} dl:=⟨vW h.ws _ _,h.hN,h.few,h.ts,h.phi,by have:=h.lev;show s.deep+1+dl=24;omega⟩
theorem Gd.back{N:Int}{s s':PS}{dl:Nat}{q:Bool}(h:Gd N s (dl+1))(h':Gd N s' dl):Gd N {s' with deep:=s.deep,quiet:=q} (dl+1):=⟨vW h'.ws _ _,h.hN,h'.few,h'.ts,h'.phi,h.lev⟩
theorem Gd.now{N:Int}{s:PS}{dl:Nat}(h:Gd N s dl):Gd N (bA s) dl:=h.go (fN h.ws) (jL s)
theorem Gd.take{N:Int}{s:PS}{dl:Nat}(h:Gd N s dl)(w:Str):Gd N (bQ s w).2 dl:=h.go (iY h.ws w).1 (kE s w).1
theorem Gd.lines{N:Int}{s:PS}{dl:Nat}(h:Gd N s dl):Gd N (fQ s) dl:=h.go (lU h.ws).1 (uG s)
theorem Gd.next{N:Int}{s:PS}{dl:Nat}(h:Gd N s dl):Gd N (iH s) dl:=h.go (qF h.ws).1 (uF s).1
theorem Gd.step{N:Int}{s:PS}{dl:Nat}(h:Gd N s dl)(hk:(cur s).k≠0):Gd N (step1 (bA s)) dl:=h.go (iZ h.ws hk).1 (by have:=(oG hk).2;omega)
theorem Gd.want{N:Int}{s s':PS}{dl:Nat}(h:Gd N s dl){w:Str}(e:nO s w=.ok () s'):Gd N s' dl/\s.i<s'.i/\s'.ex=s.ex/\s'.bl=s.bl:=by
 have h1:=jR h.ws w;have h2:=kD s w;rw[e]at h1 h2;obtain⟨g,x,b⟩:=h1;exact⟨h.go g.1 (by have h2:Syn.phi s'+1<=Syn.phi s:=h2;omega),g.2,x,b⟩
theorem Gd.kind{N:Int}{s s':PS}{dl:Nat}{t:Tok}{k:Int}(h:Gd N s dl)(hk:k≠0)(e:kZ s k=.ok t s'):Gd N s' dl/\s.i<s'.i/\s'.ex=s.ex/\s'.bl=s.bl/\t=cur s/\t.k=k:=by
 have h1:=kY h.ws k hk;have h2:=mU s k;rw[e]at h1 h2;obtain⟨g,x,b,ht,hk⟩:=h1;exact⟨h.go g.1 h2.1,g.2,x,b,ht,hk⟩
theorem Gd.ex{N:Int}{s:PS}{dl:Nat}(h:Gd N s dl):s.ex.length<=100000/\s.bl.length<=100000:=by have:=YI s;have:=h.phi;omega
structure pZ(F:PS->R Nat):Prop where
 ok:∀N,EOk N F
 z:EZ F
theorem Gd.e{N:Int}{s s':PS}{dl x:Nat}{F:PS->R Nat}(h:Gd N s dl)(hF:pZ F)(e:F s=.ok x s'):Gd N s' dl/\s.i<s'.i:=by
 have h1:=hF.ok N s h.ws;have h2:=hF.z s;rw[e]at h1 h2;exact⟨h.go h1.1.1 h2,h1.1.2⟩
theorem Gd.at0{N:Int}{s:PS}{dl:Nat}(h:Gd N s dl):0<=(cur s).a/\(cur s).a<=1000000:=by have:=jM h.ws;have:=h.hN;omega
section
variable [HX]
def xA(w0:World)(f:Nat):Prop:=∀(w:World) (K:Q0) (s:Str),Chg (Of f) w0 w->s.length<=1000000->
 (∀l,pK s=.ok l->∀v w',Ext w w'->SlAt w' TkT v l.length (toks l)->(∀k,v.ownBlock=some k->w.heap.size<=k/\k<w'.heap.size)->K (.tuple #[v,.pointer none]) w')->
 (∀c a,pK s=.bad c a->∀d w',Ext w w'->w.heap.size<=d->w'.heap[d]?=some (.cells [i64 c,str [],i64 a].toArray 53 (0,0))->K (.tuple #[.slice none 0 0,.pointer (some ⟨d,0,none⟩)]) w')->
 aC P0 26 [str s] w K
def EC(w0:World)(f:Nat)(g:FuncId)(F:PS->R Nat)(dl:Nat):Prop:=∀(w:World) (p:Nat) (M:Lay) (vt:Value) (s:PS) (top:List Nat) (N:Int) (K:Q0),PR w0 w p f M vt s top->Gd N s dl->
 (∀x s',F s=.ok x s'->∀M' w',PR w0 w' p f M' vt s' top->Eff p f M M' w w'->K (i64 (x:Nat)) w')->(∀c a,F s=.err c a->Thr w0 f c a)->aC P0 g [.pointer (some ⟨p,0,none⟩)] w K
structure Ro(w0 w:World)(p f:Nat)(M:Lay)(vt:Value)(wb:Nat)(T:TypeId)(m:Nat)(v:Value)(n:Nat)(xs:List Value):Prop where
 own:Own w w0.heap.size T m v n xs
 off:∀k,v.ownBlock=some k->Off w0 w p f M vt k
 new:∀k,v.ownBlock=some k->wb<=k
section
variable{w0 w w' w1:World}{p f b:Nat}{M M':Lay}{vt:Value}{s:PS}{top:List Nat}{N:Int}{K:Q0}{wb:Nat}{T:TypeId}{m:Nat}{v:Value}{n:Nat}{xs:List Value}
theorem Ro.nil(T:TypeId)(m:Nat):Ro w0 w p f M vt wb T m (.slice none 0 0) 0 []:=⟨⟨by simp,.inl ⟨rfl,rfl⟩⟩,λk hk=>by simp[Value.ownBlock]at hk,λk hk=>by simp[Value.ownBlock]at hk⟩
theorem Ro.eff(h:Ro w0 w p f M vt wb T m v n xs)(he:Eff p f M M' w w'):Ro w0 w' p f M' vt wb T m v n xs:=⟨he.own h.own h.off,λk hk=>(h.off k hk).eff he,h.new⟩
theorem Ro.ext(h:Ro w0 w p f M vt wb T m v n xs)(hx:Ext w w'):Ro w0 w' p f M vt wb T m v n xs:=h.eff (Eff.ext hx)
theorem Ro.one(h:Ro w0 w p f M vt wb T m v n xs)(hc:Chg (One b) w w')(hb:v.ownBlock≠some b):Ro w0 w' p f M vt wb T m v n xs:=
 ⟨iO h.own hc λk hk e=>hb (by have e:k=b:=e;rw[hk,e]),λk hk=>(h.off k hk).up hc.size,h.new⟩
theorem Ro.row{u:Value}(h:Ro w0 w p f M vt wb T m v n xs)(hc:Chg (λk=>u.ownBlock=some k) w w')(hb:∀k,v.ownBlock=some k->u.ownBlock≠some k):Ro w0 w' p f M vt wb T m v n xs:=
 ⟨iO h.own hc λk hk e=>hb k hk e,λk hk=>(h.off k hk).up hc.size,h.new⟩
theorem Loc.row{u:Value}(h:Loc w0 w p f M vt b T cs)(hc:Chg (λk=>u.ownBlock=some k) w w')(hb:u.ownBlock≠some b):Loc w0 w' p f M vt b T cs:=⟨hc.at h.1 hb,h.2.up hc.size⟩
theorem PR.row{u:Value}(h:PR w0 w p f M vt s top)(hc:Chg (λk=>u.ownBlock=some k) w w')(hb:∀k,u.ownBlock=some k->Off w0 w p f M vt k):PR w0 w' p f M vt s top:=
 h.keep hc (λk hk e=>by have:=(hb k e).1.1;omega) (λk hk e=>(hb k e).2.2.1 hk) (λe=>(hb p e).2.1 rfl) λk hk e=>(hb k e).2.2.2 hk
theorem Ro.app{t:TypeId}{bytes:Nat}{r:Nat}{news:List Value}{ty:TypeId}(hT:sF P0 t T m bytes)(hR:Ro w0 w p f M vt wb T m v n xs)(hp:PR w0 w p f M vt s top)(hr:w.heap[r]?=some (.cells news.toArray T (0,0)))(hl:news.length=m)(h1:∀u∈news,gH u=true)(hn:n<=1000000)(hby:bytes<=1000)(hwb:wb<=w.heap.size)
  (hK:∀v' w',Ro w0 w' p f M vt wb T m v' (n+1) (xs++news)->Chg (λk=>v.ownBlock=some k) w w'->(∀k,v'.ownBlock=some k->v.ownBlock=some k\/w.heap.size<=k)->PR w0 w' p f M vt s top->K v' w'):
  dY P0 (Builtin.append_ #[t,t] ty #[v,.slice (some ⟨r,0,none⟩) 1 1]) w K:=by
 have hb:=hp.base;have hbt:(n+1)*bytes<=140737488355328:=cH (yB (show n+1<=1000001 by omega) hby) (by decide);refine jG hT hR.own (qR (n:=1) hr) (by rw[hl];omega) h1 (by omega) hbt hb λv' w' hO hc hv=>?_;refine hK v' w' ⟨hO,λk hk=>?_,λk hk=>?_⟩ hc hv (hp.row hc hR.off)
 ·rcases hv k hk with e|e
  ·exact(hR.off k e).up hc.size
  ·exact hp.off_new e (pU hO hk).1
 ·rcases hv k hk with e|e
  ·exact hR.new k e
  ·omega
theorem PR.inner{q:Nat}{q':PS}(h:PR w0 w p f M vt s top)(hx:Ext w w1)(hq:PR w0 w' q f M' v q' top)(he:Eff q f M M' w1 w')(hqn:w.heap.size<=q):
  PR w0 w' p f M' vt {s with ex:=q'.ex,bl:=q'.bl} top/\Eff p f M M' w w':=by
 have he':Eff p f M M' w w':=Eff.anew hx he hqn;have hz:=hx.size;have h1:=h.ext hx;refine⟨⟨hq.ch,hq.fr,?_,?_,λe=>?_,h.lo,λk hk=>⟨λe=>?_,(h.nt k hk).2.1,cL (h.nt k hk).2.2 he'.chg.size⟩⟩,he'⟩
 ·exact he.chg.at h1.ps λe=>by
   rcases JB e with e|e
   ·have:=h.lt;omega
   ·exact h.np e
 ·exact xF h1.tk he.chg λk hk e=>by
   rcases JB e with e|e
   ·have:=(h.nt k hk).2.2;omega
   ·exact(h.nt k hk).1 e
 ·exact(he'.us p e).elim h.np λe=>by have:=h.lt;omega
 ·exact(he'.us k e).elim (h.nt k hk).1 λe=>by have:=(h.nt k hk).2.2;omega
theorem TZ{E:PS->R Nat}{dl:Nat}{t:Str}{a:Int}(hS:xA w0 f)(hE:EC w0 f 82 E dl)(hF:pZ E)(h:PR w0 w p f M vt s top)(hg:Gd N s dl)(h0:0<=a)(h1:a+t.length<=N)(hphi:Syn.phi s+t.length<=100000)
  (hK:∀x s',oJ E s t a=.ok x s'->∀M' w',PR w0 w' p f M' vt s' top->Eff p f M M' w w'->K (i64 (x:Nat)) w')(ht:∀c a',oJ E s t a=.err c a'->Thr w0 f c a'):
  aC P0 279 [.pointer (some ⟨p,0,none⟩),str t,i64 a] w K:=by
 refine UH ?_;unfold aBC;have hN:=hg.hN;refine hS w _ t h.ch (by omega) (λl hl v w1 hx1 hv hvn=>?_) (λc b hb d w1 hx1 hd hdb=>?_)
 ·rw[bJ];refine⟨v,rfl,?_⟩;rw[bJ];refine⟨.pointer none,rfl,?_⟩;refine bU.cut (λ_ w'=>w'=w1) ?_ ?_
  ·show aR (.bool false) _ _;rw[cX]
  rintro st g w2 rfl;have h2:=(h.ext hx1).drew;have hx2:=hx1.trans (cY w2);refine h2.ld rfl ?_;refine h2.ld rfl ?_;obtain⟨q,cap,ev,_⟩:=hv.shape;subst ev;simp only[gB,dA,Gx,cU,aA,aL,aW,aZ,Nat.reduceAdd,Nat.reduceLT,dH,aB];refine fS (z:=[.slice q l.length cap,i64 0,i64 a,.pointer (some ⟨f,0,none⟩),i64 (s.deep:Nat),.bool false]) λqb w3 hq hz3 hqb hx3=>?_;have hx03:=hx2.trans hx3;have h3:=h2.ext hx3;have z2:w2.drew.heap.size=w2.heap.size:=rfl;have hz1:=hx1.size;have hq3:PR w0 w3 qb f M (.slice q l.length cap) ⟨l,0,a,s.deep,false,s.ex,s.bl⟩ top:=
   ⟨h3.ch,h3.fr,hqb,hv.ext ((cY w2).trans hx3),λe=>by have:=h.fr.lt _ e;omega,by have:=h.base;omega,λk hk=>by
    have hb:=hvn k hk;exact⟨λe=>by have:=h.fr.lt _ e;omega,by omega,by omega⟩⟩
  have htg:=Gr hl h0 h1;have hw:=Gq hl;have hgq:Gd N ⟨l,0,a,s.deep,false,s.ex,s.bl⟩ dl:=⟨⟨htg,dF.2 htg.ne,hg.ws.pN⟩,hN,(Hr hl).1,Ld hl,by
   unfold Syn.phi at hphi⊢;simp only[cV];omega,hg.lev⟩
  unfold oJ at hK ht;simp only[hl]at hK ht;refine hE w3 qb M _ _ top N _ hq3 hgq (λx q1 e1 M' w4 h4 he4=>?_) λc a' e1=>ht c a' (by rw[e1];rfl);rw[e1]at hK ht;simp only[R.bind]at hK ht;obtain⟨hg1,_⟩:=hgq.e hF e1;refine wN h4 hg1.ws hN hg1.l (λt' q2 e2 w5 h5 he5=>?_) λc a' e2=>ht c a' (by rw[e2]);rw[e2]at hK;obtain⟨h6,he6⟩:=h.inner hx03 h5 (he4.trans he5) (by omega);exact hK x _ rfl M' w5 h6 he6
 ·rw[bJ];refine⟨.slice none 0 0,rfl,?_⟩;rw[bJ];refine⟨.pointer (some ⟨d,0,none⟩),rfl,?_⟩;refine bU.cut (λ_ _=>False) ?_ (λ_ _ _ h=>h.elim);show aR (.bool true) _ _;rw[dR,dI,bP,dM];refine⟨i64 c,by rw[bY,cC,heap_drew,hdb,cN];rfl,?_⟩;rw[dI,bP,dM];refine⟨i64 b,by rw[bY,cC,heap_drew,hdb,cN];rfl,?_⟩;have hsb:=Hs hb;rw[cA,cK (by omega) (by omega)];refine pD (h.ext hx1).drew (ht _ _ ?_);unfold oJ;rw[hb]
end
end
def kJ(rest:Str):Nat×Nat:=match Syn.insP rest with|some x=>x|none=>(rest.length,rest.length)
def uU(s:PS)(rest:Str)(a:Int):PS:=if 0<(kJ rest).1 then{s with ex:=s.ex++[⟨5,jS (rest.take (kJ rest).1),[],[],a⟩]}else s
theorem HR{E:PS->R Nat}{s:PS}{rest:Str}{a:Int}{av:List Nat}{ks:List Str}(hr:rest≠[])(hn:rest.length<n+1):
  mL E (n+1) s rest a av ks=
   (if(kJ rest).1<(kJ rest).2 then(within (uU s rest a) (a+(kJ rest).1) false λq=>oJ E q ((rest.drop ((kJ rest).1+2)).take ((kJ rest).2-1-((kJ rest).1+2))) (a+(kJ rest).1+2)).bind λx s2=>
     mL E n s2 (rest.drop (kJ rest).2) (a+(kJ rest).2) ((if 0<(kJ rest).1 then av++[s.ex.length]else av)++[x]) ((if 0<(kJ rest).1 then ks++[[116]]else ks)++[[101]])
   else mL E n (uU s rest a) (rest.drop (kJ rest).2) (a+(kJ rest).2) (if 0<(kJ rest).1 then av++[s.ex.length]else av) (if 0<(kJ rest).1 then ks++[[116]]else ks)):=by
 simp only[mL];rw[aD hr];have hpos:0<rest.length:=dF.2 hr;unfold kJ uU kJ;cases hi:Syn.insP rest with
 |none=>
  simp only;rw[aD (Nat.lt_irrefl _),aH hpos,aH hpos,aH hpos,dQ,bM];obtain⟨m,rfl⟩:∃m,n=m+1:=⟨n-1,by omega⟩;simp only[mL,gU]
 |some x=>rfl
theorem TY{rest:Str}(hx:En rest):(kJ rest).1<=rest.length/\(kJ rest).2<=rest.length/\qI (rest.take (kJ rest).1)=true/\En (rest.drop (kJ rest).2)/\((kJ rest).1<(kJ rest).2->(kJ rest).1+3<=(kJ rest).2)/\(rest≠[]->0<(kJ rest).2)/\(kJ rest).1<=(kJ rest).2:=by
 obtain⟨h1,h2⟩:=JA hx;unfold kJ;cases hi:Syn.insP rest with
 |none=>
  simp only;exact⟨aU _,aU _,by rw[bM];exact h1 hi,by rw[dQ];exact .inl rfl,λe=>absurd e (Nat.lt_irrefl _),λh=>dF.2 h,aU _⟩
 |some x=>
  obtain⟨a,b,c,d⟩:=h2 x.1 x.2 hi;simp only;exact⟨by omega,c,a,d,λ_=>b,λ_=>by omega,by omega⟩
section
variable [HX]
variable{w0 w w' w1:World}{p f b:Nat}{M M':Lay}{vt:Value}{s:PS}{top:List Nat}{N:Int}{K:Q0}
abbrev PpT:TypeId:=67
structure TL(w0 w:World)(p f:Nat)(M:Lay)(vt:Value)(B1 b2 b7 b8 b9:Nat)(ta:Int)(rest:Str)(a:Int)(va vk:Value)(av:List Nat)(ks:List Str):Prop where
 l2:Loc w0 w p f M vt b2 PpT [.pointer (some ⟨p,0,none⟩)]
 l7:Loc w0 w p f M vt b7 ExT [i64 6,str [],va,vk,i64 ta]
 l8:Loc w0 w p f M vt b8 StT [str rest]
 l9:Loc w0 w p f M vt b9 iG [i64 a]
 rA:Ro w0 w p f M vt B1 iG 1 va av.length (ints av)
 rK:Ro w0 w p f M vt B1 StT 1 vk ks.length (strs ks)
 dd:∀k,va.ownBlock=some k->vk.ownBlock≠some k
 lt:b2<B1/\b7<B1/\b8<B1/\b9<B1/\B1<=w.heap.size
 ne:b2≠b7/\b2≠b8/\b2≠b9/\b7≠b8/\b7≠b9/\b8≠b9
section
variable{B1 b2 b7 b8 b9:Nat}{ta:Int}{rest:Str}{a:Int}{va vk:Value}{av:List Nat}{ks:List Str}
theorem TL.eff(h:TL w0 w p f M vt B1 b2 b7 b8 b9 ta rest a va vk av ks)(he:Eff p f M M' w w'):TL w0 w' p f M' vt B1 b2 b7 b8 b9 ta rest a va vk av ks:=
 ⟨h.l2.eff he,h.l7.eff he,h.l8.eff he,h.l9.eff he,h.rA.eff he,h.rK.eff he,h.dd,⟨h.lt.1,h.lt.2.1,h.lt.2.2.1,h.lt.2.2.2.1,cH h.lt.2.2.2.2 he.chg.size⟩,h.ne⟩
theorem TL.ext(h:TL w0 w p f M vt B1 b2 b7 b8 b9 ta rest a va vk av ks)(hx:Ext w w'):TL w0 w' p f M vt B1 b2 b7 b8 b9 ta rest a va vk av ks:=h.eff (Eff.ext hx)
theorem TL.one(h:TL w0 w p f M vt B1 b2 b7 b8 b9 ta rest a va vk av ks)(hc:Chg (One b) w w')(hb:B1<=b)(hA:va.ownBlock≠some b)(hK:vk.ownBlock≠some b):TL w0 w' p f M vt B1 b2 b7 b8 b9 ta rest a va vk av ks:=by
 obtain⟨q1,q2,q3,q4,q5⟩:=h.lt;exact⟨h.l2.one hc (by omega),h.l7.one hc (by omega),h.l8.one hc (by omega),h.l9.one hc (by omega),h.rA.one hc hA,h.rK.one hc hK,h.dd,⟨q1,q2,q3,q4,cH q5 hc.size⟩,h.ne⟩
theorem TL.noA(h:TL w0 w p f M vt B1 b2 b7 b8 b9 ta rest a va vk av ks){k:Nat}(hk:k<B1):va.ownBlock≠some k/\vk.ownBlock≠some k:=
 ⟨λe=>by have:=h.rA.new k e;omega,λe=>by have:=h.rK.new k e;omega⟩
theorem TL.args{w2 w3:World}{va':Value}{x:Nat}(h:TL w0 w p f M vt B1 b2 b7 b8 b9 ta rest a va vk av ks)(hR:Ro w0 w2 p f M vt B1 iG 1 va' (av++[x]).length (ints (av++[x])))(hc:Chg (λk=>va.ownBlock=some k) w w2)(hv:∀k,va'.ownBlock=some k->va.ownBlock=some k\/w.heap.size<=k)
  (hc3:Chg (One b7) w2 w3)(hb:w3.heap[b7]?=some (.cells [i64 6,str [],va',vk,i64 ta].toArray ExT (0,0))):TL w0 w3 p f M vt B1 b2 b7 b8 b9 ta rest a va' vk (av++[x]) ks:=by
 obtain⟨q1,q2,q3,q4,q5⟩:=h.lt;obtain⟨n1,n2,n3,n4,n5,n6⟩:=h.ne;have z:=hc3.size;have o7:=((h.l7.row hc (h.noA q2).1).2).up z;refine⟨(h.l2.row hc (h.noA q1).1).one hc3 n1,⟨hb,o7⟩,(h.l8.row hc (h.noA q3).1).one hc3 (tS n4),(h.l9.row hc (h.noA q4).1).one hc3 (tS n5),hR.one hc3 λe=>by have:=hR.new b7 e;omega,
  (h.rK.row hc λk hk e=>h.dd k e hk).one hc3 (h.noA q2).2,λk hk=>?_,⟨q1,q2,q3,q4,cH q5 (cH hc.size z)⟩,h.ne⟩
 rcases hv k hk with e|e
 ·exact h.dd k e
 ·intro e';have:=(h.rK.off k e').1.2;omega
theorem TL.keys{w2 w3:World}{vk':Value}{x:Str}(h:TL w0 w p f M vt B1 b2 b7 b8 b9 ta rest a va vk av ks)(hR:Ro w0 w2 p f M vt B1 StT 1 vk' (ks++[x]).length (strs (ks++[x])))(hc:Chg (λk=>vk.ownBlock=some k) w w2)(hv:∀k,vk'.ownBlock=some k->vk.ownBlock=some k\/w.heap.size<=k)
  (hc3:Chg (One b7) w2 w3)(hb:w3.heap[b7]?=some (.cells [i64 6,str [],va,vk',i64 ta].toArray ExT (0,0))):TL w0 w3 p f M vt B1 b2 b7 b8 b9 ta rest a va vk' av (ks++[x]):=by
 obtain⟨q1,q2,q3,q4,q5⟩:=h.lt;obtain⟨n1,n2,n3,n4,n5,n6⟩:=h.ne;have z:=hc3.size;have o7:=((h.l7.row hc (h.noA q2).2).2).up z;refine⟨(h.l2.row hc (h.noA q1).2).one hc3 n1,⟨hb,o7⟩,(h.l8.row hc (h.noA q3).2).one hc3 (tS n4),(h.l9.row hc (h.noA q4).2).one hc3 (tS n5),(h.rA.row hc λk hk e=>h.dd k hk e).one hc3 (h.noA q2).1,
  hR.one hc3 λe=>by have:=hR.new b7 e;omega,λk hk e'=>?_,⟨q1,q2,q3,q4,cH q5 (cH hc.size z)⟩,h.ne⟩
 rcases hv k e' with e|e
 ·exact h.dd k hk e
 ·have:=(h.rA.off k hk).1.2;omega
theorem TL.appA{x:Nat}{r:Nat}{ty:TypeId}{KW:World->Prop}(h:TL w0 w p f M vt B1 b2 b7 b8 b9 ta rest a va vk av ks)(hp:PR w0 w p f M vt s top)(hr:w.heap[r]?=some (.cells [i64 (x:Nat)].toArray iG (0,0)))(hn:av.length<=1000000)
  (hK:∀va' w',TL w0 w' p f M vt B1 b2 b7 b8 b9 ta rest a va' vk (av++[x]) ks->PR w0 w' p f M vt s top->Chg (λk=>va.ownBlock=some k\/k=b7) w w'->(∀k,va'.ownBlock=some k->va.ownBlock=some k\/w.heap.size<=k)->KW w'):
  dY P0 (Builtin.append_ #[30,30] ty #[va,.slice (some ⟨r,0,none⟩) 1 1]) w λt62 w36=>aY 2 (.pointer (some ⟨b7,0,none⟩)) λt63=>stW 1 t63 t62 w36 KW:=by
 obtain⟨q1,q2,q3,q4,q5⟩:=h.lt;refine Ro.app Bf h.rA hp hr rfl (λu hu=>by simp only[bR]at hu;subst hu;rfl) hn (by decide) q5 λv' w2 hR hc hv hp2=>?_;have e1:(av++[x]).length=av.length+1:=by simp
 have e2:ints (av++[x])=ints av++[i64 (x:Nat)]:=by simp[ints]
 rw[<-e1,<-e2]at hR;rw[bP,bY,aX];obtain⟨vp,vc,ev,_⟩:=hR.own.sl.shape;refine(h.l7.row hc (h.noA q2).1).st (by rw[ev];rfl) (by simp) λw3 L3 hc3 hz3=>?_;exact hK v' w3 (h.args hR hc hv hc3 (by rw[L3.1];rfl)) (hp2.one hc3 ⟨⟨L3.2.1.1,by have:=L3.2.1.2;omega⟩,L3.2.2⟩) ((hc.mono λk _ e=>.inl e).trans (hc3.mono λk _ e=>.inr e)) hv
theorem TL.appK{x:Str}{r:Nat}{ty:TypeId}{KW:World->Prop}(h:TL w0 w p f M vt B1 b2 b7 b8 b9 ta rest a va vk av ks)(hp:PR w0 w p f M vt s top)(hr:w.heap[r]?=some (.cells [str x].toArray StT (0,0)))(hn:ks.length<=1000000)
  (hK:∀vk' w',TL w0 w' p f M vt B1 b2 b7 b8 b9 ta rest a va vk' av (ks++[x])->PR w0 w' p f M vt s top->Chg (λk=>vk.ownBlock=some k\/k=b7) w w'->(∀k,vk'.ownBlock=some k->vk.ownBlock=some k\/w.heap.size<=k)->KW w'):
  dY P0 (Builtin.append_ #[24,24] ty #[vk,.slice (some ⟨r,0,none⟩) 1 1]) w λt62 w36=>aY 3 (.pointer (some ⟨b7,0,none⟩)) λt63=>stW 1 t63 t62 w36 KW:=by
 obtain⟨q1,q2,q3,q4,q5⟩:=h.lt;refine Ro.app PZ h.rK hp hr rfl (λu hu=>by simp only[bR]at hu;subst hu;rfl) hn (by decide) q5 λv' w2 hR hc hv hp2=>?_;have e1:(ks++[x]).length=ks.length+1:=by simp
 have e2:strs (ks++[x])=strs ks++[str x]:=by simp[strs]
 rw[<-e1,<-e2]at hR;rw[bP,bY,aX];obtain⟨vp,vc,ev,_⟩:=hR.own.sl.shape;refine(h.l7.row hc (h.noA q2).2).st (by rw[ev];rfl) (by simp) λw3 L3 hc3 hz3=>?_;exact hK v' w3 (h.keys hR hc hv hc3 (by rw[L3.1];rfl)) (hp2.one hc3 ⟨⟨L3.2.1.1,by have:=L3.2.1.2;omega⟩,L3.2.2⟩) ((hc.mono λk _ e=>.inl e).trans (hc3.mono λk _ e=>.inr e)) hv
theorem Xj{E:PS->R Nat}{dl e b10 b11:Nat}{M0:Lay}{wb:World}(he0:Eff p f M0 M wb w)(hw7:wb.heap.size<=b7)(hwB:wb.heap.size<=B1)(hS:xA w0 f)(hE:EC w0 f 82 E dl)(hF:pZ E)(h:PR w0 w p f M vt s top)(hg:Gd N s dl)(hT:TL w0 w p f M vt B1 b2 b7 b8 b9 ta rest a va vk av ks)
  (l10:Loc w0 w p f M vt b10 iG [i64 (i:Nat)])(l11:Loc w0 w p f M vt b11 iG [i64 (e:Nat)])(n10:va.ownBlock≠some b10/\vk.ownBlock≠some b10/\b10≠b7)(n11:va.ownBlock≠some b11/\vk.ownBlock≠some b11/\b11≠b7)
  (hie:i+3<=e)(hel:e<=rest.length)(h0:0<=a)(h1:a+rest.length+1<=N)(hphi:Syn.phi s+(e-1-(i+2))<=100000)(hn:av.length<=1000000)
  (hK:∀x s',oJ E s ((rest.drop (i+2)).take (e-1-(i+2))) (a+i+2)=.ok x s'->∀M' va' w',PR w0 w' p f M' vt s' top->Eff p f M0 M' wb w'->TL w0 w' p f M' vt B1 b2 b7 b8 b9 ta rest a va' vk (av++[x]) ks->
    Loc w0 w' p f M' vt b10 iG [i64 (i:Nat)]->Loc w0 w' p f M' vt b11 iG [i64 (e:Nat)]->(va'.ownBlock≠some b10/\va'.ownBlock≠some b11)->K (.tuple #[]) w')
  (ht:∀c a',oJ E s ((rest.drop (i+2)).take (e-1-(i+2))) (a+i+2)=.err c a'->Thr w0 f c a'):
  aC P0 278 [.pointer (some ⟨b7,0,none⟩),.pointer (some ⟨b2,0,none⟩),.pointer (some ⟨b8,0,none⟩),.pointer (some ⟨b10,0,none⟩),.pointer (some ⟨b11,0,none⟩),.pointer (some ⟨b9,0,none⟩)] w K:=by
 refine UI ?_;unfold aBD;have hN:=hg.hN;have T1:=hT.ext (cY w);have h1':=h.drew;have k10:=l10.drew;have k11:=l11.drew;rw[bP,bY,aX];refine T1.l7.ld rfl ?_;refine T1.l2.ld rfl ?_;refine T1.l8.ld rfl ?_;refine k10.ld rfl ?_;rw[cA,cK (by omega) (by omega)];refine k11.ld rfl ?_;rw[nB,cK (by omega) (by omega),fG,eM];refine⟨by omega,by omega,?_⟩;rw[eM];refine⟨by omega,by omega,?_⟩;refine T1.l9.ld rfl ?_;refine k10.ld rfl ?_;rw[cA,cK (by omega) (by omega),cA,cK (by omega) (by omega)];have et:(rest.take ((e:Int)-1).toNat).drop ((i:Int)+2).toNat=(rest.drop (i+2)).take (e-1-(i+2)):=by
  rw[show((e:Int)-1).toNat=e-1 by omega,show((i:Int)+2).toNat=i+2 by omega,Es]
 rw[et];have hlen:((rest.drop (i+2)).take (e-1-(i+2))).length=e-1-(i+2):=by rw[cI,aP];omega
 refine TZ hS hE hF h1' hg (by omega) (by rw[hlen];omega) (by rw[hlen];exact hphi) (λx s' hx M' w2 h2 he2=>?_) ht;have T2:=T1.eff he2;have ld7:∀{w3:World},TL w0 w3 p f M' vt B1 b2 b7 b8 b9 ta rest a va vk av ks->ldW false 1 (.pointer (some ⟨b7,2,none⟩)) w3 λx=>x=va:=λT=>T.l7.ld rfl rfl;refine⟨ld7 T2,?_⟩;refine jJ λr w3 hr hz3 hrb hx3=>?_;have T3:=T2.ext hx3;refine⟨ld7 T3,?_⟩;refine T3.appA (h2.ext hx3) hrb hn λva' w4 T4 h4 hc4 hv4=>?_;have he23:=(Eff.ext (cY w)).trans (he2.x hx3);have z3:=he23.chg.size;have j10:=(k10.eff he2).ext hx3;have j11:=(k11.eff he2).ext hx3;have b7o:=T3.l7.2;have heb:Eff p f M0 M' wb w4:=(he0.trans he23).then hc4 λk hk e=>by
  rcases e with e|e
  ·have:=hT.rA.new k e;omega
  ·omega
 exact hK x s' hx M' va' w4 h4 heb T4 ⟨hc4.at j10.1 λe=>e.elim n10.1 n10.2.2,j10.2.up hc4.size⟩ ⟨hc4.at j11.1 λe=>e.elim n11.1 n11.2.2,j11.2.up hc4.size⟩ ⟨λe=>(hv4 _ e).elim n10.1 λe=>by have:=j10.lt;omega,λe=>(hv4 _ e).elim n11.1 λe=>by have:=j11.lt;omega⟩
end
end
end
end Go.Proofs.YtghhmpppnmoeoaaGreatDoor
