/- One plain sentence: weakest preconditions, contracts and plain laws that the claim rests on, text behind text. Conditions: those that each states. -/
import Derived.Test.YtofhaneggcpdaaaGreatDoorPP3
import Derived.Test.YtofhaneggcpdaaaGreatDoorPP2
import Derived.Lib.Join
import Derived.Test.YtofhaneggcpdaaaGreatDoorPP1
import Derived.Test.YtofhaneggcpdaaaGreatDoorRows
import Derived.Below
import Derived.RowKit
import Derived.ChangeMaps5
import Derived.MakeChecks
import Derived.Lib.LaidTab
import Derived.Lib.LaidU8
import Derived.SizedLaws
import Derived.Shelf.Vars
set_option linter.all false
set_option linter.unusedSimpArgs false
set_option linter.unusedVariables false
set_option linter.unusedSectionVars false
namespace Go.Proofs.YtofhaneggcpdaaaGreatDoor
open Go Go.Eng Go.RowKit Go.Syn Go.Lex
set_option maxRecDepth 100000
section
variable [HX]
variable {w0 w w' w1 : World} {p f : Nat} {M M' M0 : Lay} {vt : Value} {s : PS} {top : List Nat} {N : Int} {K : Value → World → Prop} {e : Ex} {wbn : Nat} {wb : World} {dl : Nat} {B1 b4 : Nat} {typ : Str} {a : Int} {vl va vb : Value} {ls : List Str} {av : List Atr} {bs : List Nat}
theorem nextS_now (s : PS) : nextS (nowS s) = nextS s := by unfold nextS; rw [cur_now,nowS_idem]
theorem Gd.plain {N : Int} {s s' : PS} {t : Tok} {l : Str} (e : plainR s t = .ok l s') : s' = s := by
 unfold plainR at e
 split at e
 · cases e
 · injection e with _ e; exact e.symm
theorem items_p {E B : PS → R Nat} {b1 : Nat} (hE : EC w0 f 81 E dl) (hB : EC w0 f 21 B dl) (hF : Fine E) (hFB : FineB B) (h : PR w0 w p f M vt s top) (hg : Gd N s dl) (hc0 : (cur s).k ≠ 0) (hnow : nowS s = s)
   (hL : BL w0 w p f M vt B1 b4 typ a vl (.slice none 0 0) (.slice none 0 0) ls [] []) (L1 : Loc w0 w p f M vt b1 PpT [.pointer (some ⟨p,0,none⟩)]) (hb1 : b1 < B1 ∧ b1 ≠ b4)
   {M0 : Lay} {wb : World} (he0 : Eff p f M0 M wb w) (hw4 : wb.heap.size ≤ b4) (hwB : wb.heap.size ≤ B1)
   (hK : ∀ x s',itemsF E B (s.toks.length + 1) (linesS (step1 s)) [] [] = .ok x s' → ∀ M' va' vb' w',PR w0 w' p f M' vt s' top → Gd N s' dl → Eff p f M0 M' wb w' → BL w0 w' p f M' vt B1 b4 typ a vl va' vb' ls x.1 x.2 → Loc w0 w' p f M' vt b1 PpT [.pointer (some ⟨p,0,none⟩)] → K (.tuple #[]) w')
   (ht : ∀ c a',itemsF E B (s.toks.length + 1) (linesS (step1 s)) [] [] = .err c a' → Thr w0 f c a') :
   callF Tryz.prog 44 [.pointer (some ⟨b1,0,none⟩),.pointer (some ⟨b4,0,none⟩)] w K := by
 refine W44_ok ?_
 unfold W44
 have hN := hg.hN
 have hg1 : Gd N (step1 s) dl := by have := hg.step hc0; rw [hnow] at this; exact this
 have zz := he0.chg.size
 refine L1.ld rfl ?_
 refine h.go (wsi hg.ws hg.l) fun w1 h1 he1 hz1 => ?_
 have L1 := L1.eff he1
 have hL := hL.eff he1
 have he1 := he0.trans he1
 refine L1.ld rfl ?_
 refine lines_p h1 hg1.ws hN hg1.l fun w2 h2 he2 => ?_
 have L1 := L1.eff he2
 have hL := hL.eff he2
 have he2 := he1.trans he2
 have hg2 := hg1.lines
 have et2 := congrArg List.length (lines_go hg1.ws).1.toks
 generalize hR : itemsF E B (s.toks.length + 1) (linesS (step1 s)) [] [] = R0 at hK ht
 refine LoopW.go (fun st w' => st = [] ∧ ∃ s1 M1 av bs va vb n,PR w0 w' p f M1 vt s1 top ∧ Gd N s1 dl ∧ Eff p f M0 M1 wb w' ∧ Loc w0 w' p f M1 vt b1 PpT [.pointer (some ⟨p,0,none⟩)] ∧ BL w0 w' p f M1 vt B1 b4 typ a vl va vb ls av bs ∧ itemsF E B n s1 av bs = R0 ∧ s1.toks.length < n + s1.i ∧ av.length ≤ s1.i ∧ bs.length ≤ s1.i ∧ s1.toks.length = s.toks.length) (fun _ w' => s.toks.length - psAt w' p)
   ⟨rfl,_,M,[],[],_,_,s.toks.length + 1,h2,hg2,he2,L1,hL,hR,by rw [et2]; show s.toks.length < _; omega,by simp,by simp,by rw [et2]; rfl⟩ ?_
 clear hL L1 h1 h2 he1 he2
 rintro st g w3 ⟨rfl,s1,M1,av,bs,va,vb,n,h3,hg3,he3,L1,hL,hit,hn,hal,hbl,htl⟩
 have hlt3 := hg3.ws.lt
 obtain ⟨n,rfl⟩ : ∃ m,n = m + 1 := ⟨n - 1,by omega⟩
 simp only [itemsF] at hit
 refine L1.ld rfl ?_
 refine take_p h3 hg3.ws hN hg3.l fun w4 h4 he4 => ?_
 have L1 := L1.eff he4
 have hL := hL.eff he4
 have he4 := he3.trans he4
 have hg4 := hg3.take [125]
 have tg := take_go hg3.ws [125]
 have tgt := congrArg List.length tg.1.toks
 rw [un_not,condW_b]
 refine ⟨fun hn' => ?_,fun hy => ?_⟩
 · have hn' : (takeS s1 [125]).1 = false := by simpa using hn'
   rw [if_neg (by rw [hn']; decide)] at hit
   have few := hg3.few
   refine L1.ld rfl ?_
   refine item_p hE hB hF hFB h4 hg4 hL (by omega) (by omega) he4 hw4 hwB (fun x s2 ex M2 va2 vb2 w5 h5 hg5 hi5 ht5 hxa hxb he5 hL5 hl5 hv5 hu5 => ?_) fun c a' ex => ht c a' (by rw [← hit,ex]; rfl)
   rw [ex] at hit
   simp only [R.bind] at hit
   have ht5 := congrArg List.length ht5
   have L1 := hl5 _ _ _ L1 hb1.2 (fun e => by have := hL.rA.new _ e; have := hb1.1; omega) (fun e => by have := hL.rB.new _ e; have := hb1.1; omega)
   have hgn := hg5.now
   have hng := now_go hg5.ws
   have hngt := congrArg List.length hng.toks
   have hngi := hng.le
   refine JoinW.cut (fun _ w' => PR w0 w' p f M2 vt (nowS s2) top ∧ Eff p f M2 M2 w5 w' ∧ itemsF E B n (linesS (nowS s2)) x.1 x.2 = R0) ?_ ?_
   · refine L1.ld rfl ?_
     refine now_p h5 hg5.ws hN hg5.l fun w6 h6 he6 => ?_
     refine ⟨i64 (cur s2).k,rfl,?_⟩
     dsimp only
     rw [bin_neq]
     have L1 := L1.eff he6
     by_cases hk5 : (cur s2).k ≠ 5
     · rw [decide_eq_true hk5]
       simp only [isB_t]
       refine GdW.act (!isS (nowS s2) [125]) (fun w' => PR w0 w' p f M2 vt (nowS s2) top ∧ Eff p f M2 M2 w5 w') (fun e => by cases e) (fun _ J hJ => ?_) fun g5 w7 hR7 => ?_
       · refine L1.ld rfl ?_
         refine isq_p h6 hgn fun w7 h7 he7 => ?_
         rw [un_not]
         rw [nowS_idem] at h7
         exact hJ w7 ⟨h7,he6.trans he7⟩
       obtain ⟨h7,he7⟩ := hR7
       simp only [List.getD_cons_zero,cond_true,pick_t]
       rw [condW_b]
       refine ⟨fun hq => ?_,fun hq => ?_⟩
       · have hq : isS (nowS s2) [125] = false := by simpa using hq
         have L1 : Loc w0 w7 p f M2 vt b1 PpT [.pointer (some ⟨p,0,none⟩)] := (hl5 _ _ _ ‹Loc w0 w4 p f M1 vt b1 PpT [.pointer (some ⟨p,0,none⟩)]› hb1.2 (fun e => by have := hL.rA.new _ e; have := hb1.1; omega) (fun e => by have := hL.rB.new _ e; have := hb1.1; omega)).eff he7
         refine L1.ld rfl ?_
         refine now_p h7 hgn.ws hN hgn.l fun w8 h8 he8 => ?_
         refine ⟨i64 (cur (nowS s2)).a,rfl,?_⟩
         refine fail_p h8 (ht 50 _ ?_)
         rw [← hit,if_pos ⟨hk5,hq⟩]
       · have hq : isS (nowS s2) [125] = true := by simpa using hq
         rw [if_neg (fun h => by rw [h.2] at hq; cases hq)] at hit
         exact ⟨h7,he7,hit⟩
     · rw [decide_eq_false hk5]
       simp only [isB_t,GdW_f]
       intro g5
       rw [pick_f,condW_false]
       rw [if_neg (fun h => hk5 h.1)] at hit
       exact ⟨h6,he6,hit⟩
   rintro _ g4 w6 ⟨h6,he6,hit⟩
   have L1 := L1.eff he6
   refine L1.ld rfl ?_
   refine lines_p h6 hgn.ws hN hgn.l fun w7 h7 he7 => ?_
   have lg := lines_go hgn.ws
   have lgt := congrArg List.length lg.1.toks
   have lgi := lg.1.le
   have tgi := tg.1.le
   have hgl := hgn.lines
   have hltl := hgl.ws.lt
   refine ⟨⟨rfl,linesS (nowS s2),M2,x.1,x.2,va2,vb2,n,h7,hgl,(he5.trans he6).trans he7,L1.eff he7,(hL5.eff he6).eff he7,hit,by omega,by omega,by omega,by omega⟩,?_⟩
   rw [h7.at_,h3.at_]; omega
 · have hy : (takeS s1 [125]).1 = true := by simpa using hy
   rw [if_pos hy] at hit
   exact hK _ _ hit.symm M1 va vb w4 h4 hg4 he4 hL L1
theorem block_p {E B : PS → R Nat} (hE : ∀ d,dl = d + 1 → EC w0 f 81 E d) (hB : ∀ d,dl = d + 1 → EC w0 f 21 B d) (hF : Fine E) (hFB : FineB B) : EC w0 f 21 (blockR E B) dl := by
 intro w p M vt s top N K h hg hK ht
 refine W21_ok ?_
 unfold W21
 have hN := hg.hN
 refine box_one rfl fun b1 w1 hb1 hz1 hbb1 hx1 => ?_
 have h1 := h.ext hx1
 have L1 := h.loc hz1 hb1 hbb1
 unfold blockR at hK ht
 refine L1.ld rfl ?_
 refine kind_p h1 hg.ws hN hg.l (fun t s1 et w2 h2 he2 => ?_) fun c a' et => ht c a' (by rw [et]; rfl)
 rw [et] at hK ht
 simp only [R.bind] at hK ht
 obtain ⟨hg1,hi1,_⟩ := hg.kind (by decide) et
 have hks := kind_sat hg.ws 1 (by decide)
 have hkp := phi_kind s 1
 rw [et] at hks hkp
 have hkp := hkp.2 (by decide)
 have hkt := congrArg List.length hks.1.1.toks
 have L1 := L1.eff he2
 have he2 := (Eff.ext hx1).trans he2
 have lt1 := L1.lt
 have hw2 := he2.chg.size
 refine alloc_new fun b3 w3 hb3 hz3 hbb3 hx3 => ?_
 have h3 := h2.ext hx3
 have L3 := h2.loc hz3 hb3 hbb3
 have L1 := L1.ext hx3
 refine st_agg_at (l := tokc t) L3.1 rfl rfl rfl fun w4 hz4 hbb4 hc4 => ?_
 have L3 : Loc w0 w4 p f M vt b3 TkT (tokc t) := ⟨hbb4,L3.2.up (by omega)⟩
 have h4 := h3.one hc4 L3.2
 have L1 := L1.one hc4 (by omega)
 have he4 := (he2.x hx3).one hc4 (by omega)
 refine L3.ldf rfl ?_
 refine L3.ldf rfl ?_
 simp only [put_int,put_str,put_nil,List.length_cons,List.length_nil,List.set_cons_zero,List.set_cons_succ,Nat.reduceAdd,Nat.reduceLT,true_and,Nat.zero_lt_succ]
 refine alloc_new fun b4 w5 hb4 hz5 hbb5 hx5 => ?_
 have h5 := h4.ext hx5
 have L4 := h4.loc hz5 hb4 hbb5
 have L1 := L1.ext hx5
 refine st_agg_at (l := [str t.t,.slice none 0 0,.slice none 0 0,.slice none 0 0,i64 t.a]) L4.1 rfl rfl rfl fun w6 hz6 hbb6 hc6 => ?_
 have L4 : Loc w0 w6 p f M vt b4 BkT [str t.t,.slice none 0 0,.slice none 0 0,.slice none 0 0,i64 t.a] := ⟨hbb6,L4.2.up (by omega)⟩
 have h6 := h5.one hc6 L4.2
 have L1 := L1.one hc6 (by omega)
 have he6 := (he4.x hx5).one hc6 (by omega)
 have hw6 := he6.chg.size
 obtain ⟨B1,hB1⟩ : ∃ B1,B1 = w6.heap.size := ⟨_,rfl⟩
 have hL : BL w0 w6 p f M vt B1 b4 t.t t.a (.slice none 0 0) (.slice none 0 0) (.slice none 0 0) [] [] [] :=
   ⟨L4,Ro.nil _ _,Ro.nil _ _,Ro.nil _ _,fun k hk => by simp [Value.ownBlock] at hk,fun k hk => by simp [Value.ownBlock] at hk,fun k hk => by simp [Value.ownBlock] at hk,by omega,by omega⟩
 have hb14 : b1 < B1 ∧ b1 ≠ b4 := ⟨by omega,by omega⟩
 have hwB : w.heap.size ≤ B1 := by omega
 have hw4 : w.heap.size ≤ b4 := by omega
 clear L3 L4 h2 h3 h4 h5 he2 he4
 -- the labels
 generalize hR : labelsF (s.toks.length + 1) s1 [] = R0 at hK ht
 refine LoopW.go (fun st w' => st = [] ∧ ∃ s2 M1 ls vl n,PR w0 w' p f M1 vt s2 top ∧ Gd N s2 dl ∧ Eff p f M M1 w w' ∧ Loc w0 w' p f M1 vt b1 PpT [.pointer (some ⟨p,0,none⟩)] ∧ BL w0 w' p f M1 vt B1 b4 t.t t.a vl (.slice none 0 0) (.slice none 0 0) ls [] [] ∧ labelsF n s2 ls = R0 ∧ s2.toks.length < n + s2.i ∧ ls.length ≤ s2.i ∧ s2.toks.length = s.toks.length ∧ Syn.phi s2 + 1 ≤ Syn.phi s) (fun _ w' => s.toks.length - psAt w' p)
   ⟨rfl,s1,M,[],_,s.toks.length + 1,h6,hg1,he6,L1,hL,hR,by have := hg1.ws.lt; omega,by simp,hkt,hkp⟩ ?_
 clear hL L1 h6 he6
 rintro st g w7 ⟨rfl,s2,M1,ls,vl,n,h7,hg7,he7,L1,hL,hla,hn,hll,htl,hph⟩
 have hlt7 := hg7.ws.lt
 obtain ⟨n,rfl⟩ : ∃ m,n = m + 1 := ⟨n - 1,by omega⟩
 simp only [labelsF] at hla
 refine L1.ld rfl ?_
 refine now_p h7 hg7.ws hN hg7.l fun w8 h8 he8 => ?_
 have L1 := L1.eff he8
 have hL := hL.eff he8
 have he8 := he7.trans he8
 have hgn := hg7.now
 refine ⟨i64 (cur s2).k,rfl,?_⟩
 dsimp only
 rw [bin_eql,condW_dec]
 refine ⟨fun hk3 => ?_,fun hk3 => ?_⟩
 · rw [if_pos hk3] at hla
   have htx := hg7.tx hk3
   have L1 := L1.drew
   have hL := hL.ext (ext_drew w8)
   have h8 := h8.drew
   have he8 := he8.x (ext_drew w8)
   rw [fld_ptr,add_mk,Nat.zero_add]
   refine hL.l4.ld rfl ?_
   refine L1.ld rfl ?_
   refine L1.ld rfl ?_
   refine next_p h8 hgn.ws hN hgn.l fun w9 h9 he9 => ?_
   rw [nextS_now] at h9
   rw [cur_now]
   have L1 := L1.eff he9
   have hL := hL.eff he9
   have he9 := he8.trans he9
   refine ⟨L1.ld rfl rfl,hL.l4.ld rfl rfl,?_⟩
   have hgx := hg7.next
   refine plain_p h9 htx.1 (by omega) (fun l s3 el w10 hx10 => ?_) fun c a' el => ht c a' (by rw [← hla,el]; rfl)
   have e3 := Gd.plain (N := N) el
   subst e3
   rw [el] at hla
   simp only [R.bind] at hla
   have L1 := L1.ext hx10
   have hL := hL.ext hx10
   have h10 := h9.ext hx10
   have he10 := he9.x hx10
   refine ⟨hL.l4.ld rfl rfl,?_⟩
   refine bsl_str fun r w11 hr hz11 hrb hx11 => ?_
   have L1 := L1.ext hx11
   have hL := hL.ext hx11
   have he11 := he10.x hx11
   have hw11 := he11.chg.size
   refine ⟨hL.l4.ld rfl rfl,?_⟩
   have few := hg7.few
   refine hL.appL (h10.ext hx11) hrb (by omega) fun vl' w12 hL12 h12 hc12 hl12 hv12 => ?_
   have L1 := hl12 _ _ _ L1 hb14.2 fun e => by have := hL.rL.new _ e; have := hb14.1; omega
   have ng := next_go hg7.ws
   have ngt := congrArg List.length ng.1.toks
   have ngi := ng.2.1 (by rw [hk3]; decide)
   have ngl := hgx.ws.lt
   have nph := (phi_next s2).1
   refine ⟨⟨rfl,nextS s2,M1,ls ++ [l],vl',n,h12,hgx,he11.then hc12 fun k hk e => ?_,L1,hL12,hla,by omega,by rw [List.length_append,List.length_cons,List.length_nil]; omega,by omega,by omega⟩,?_⟩
   · rcases e with e | e
     · have := hL.rL.new k e; omega
     · omega
   · rw [h12.at_,h7.at_]; omega
 · rw [if_neg hk3] at hla
   rw [← hla] at hK ht
   simp only at hK ht
   simp only [is_now,cur_now,nowS_idem] at hK ht
   refine L1.ld rfl ?_
   refine now_p h8 hgn.ws hN hgn.l fun w9 h9 he9 => ?_
   rw [nowS_idem] at h9
   rw [cur_now]
   have L1 := L1.eff he9
   have hL := hL.eff he9
   have he9 := he8.trans he9
   refine alloc_new fun b5 w10 hb5 hz10 hbb10 hx10 => ?_
   have h10 := h9.ext hx10
   have L5 := h9.loc hz10 hb5 hbb10
   have fr := hL.fresh (k := b5) (by omega)
   have lt1 := L1.lt
   have hw9 := he9.chg.size
   refine st_agg_at (l := tokc (cur s2)) L5.1 rfl rfl rfl fun w11 hz11 hbb11 hc11 => ?_
   have L5 : Loc w0 w11 p f M1 vt b5 TkT (tokc (cur s2)) := ⟨hbb11,L5.2.up (by omega)⟩
   have h11 := h10.one hc11 L5.2
   have L1 := (L1.ext hx10).one hc11 (by omega)
   have hL := (hL.ext hx10).one hc11 fr.1 fr.2.1 fr.2.2.1 fr.2.2.2
   have he11 := (he9.x hx10).one hc11 (by omega)
   -- {
   refine JoinW.cut (fun _ w' => PR w0 w' p f M1 vt (nowS s2) top ∧ Eff p f M1 M1 w11 w' ∧ isS s2 [123] = true) ?_ ?_
   · refine L1.ld rfl ?_
     refine isq_p h11 hgn fun w12 h12 he12 => ?_
     rw [nowS_idem] at h12
     rw [is_now,un_not,condW_b]
     refine ⟨fun hi => ?_,fun hi => ⟨h12,he12,by simpa using hi⟩⟩
     have hi : isS s2 [123] = false := by simpa using hi
     refine (L5.eff he12).ldf rfl ?_
     exact fail_p h12 (ht _ _ (by rw [if_pos hi]))
   rintro _ g2 w12 ⟨h12,he12,hi⟩
   rw [if_neg (by rw [hi]; decide)] at hK ht
   have L1 := L1.eff he12
   have L5 := L5.eff he12
   have hL := hL.eff he12
   have he12 := he11.trans he12
   refine L1.ld rfl ?_
   refine L5.ldf rfl ?_
   have hlev := hgn.lev
   refine within_p h12 (by omega) (fun hd => ht 7 _ (by rw [win_bad hd])) fun hd w13 h13 he13 => ?_
   obtain ⟨d,rfl⟩ : ∃ d,dl = d + 1 := ⟨dl - 1,by omega⟩
   rw [win_ok hd] at hK ht
   obtain ⟨q1,q2,q3,q4⟩ := hg7.sign hi false
   have ntl := congrArg List.length (now_go hg7.ws).toks
   refine callV_cap' (caps := [.pointer (some ⟨b1,0,none⟩),.pointer (some ⟨b4,0,none⟩)]) ?_
   have ph2 : Syn.phi (nowS s2) ≤ Syn.phi s2 := phi_now s2
   have efuel : ({ nowS s2 with deep := (nowS s2).deep + 1,quiet := false } : PS).toks.length + 1 = s.toks.length + 1 := by show (nowS s2).toks.length + 1 = _; omega
   have efuel2 : (nowS s2).toks.length + 1 = s.toks.length + 1 := by omega
   refine items_p (hE d rfl) (hB d rfl) hF hFB h13 q1 q3 q2 (hL.eff he13) (L1.eff he13) hb14 (he12.trans he13) hw4 hwB (fun x s3 ex M3 va vb w14 h14 hg14 he14 hL14 L1 => ?_) fun c a' ex => ht c a' ?_
   · rw [efuel] at ex
     rw [ex] at hK
     simp only [R.bind] at hK
     have g14l := hg14.lev
     refine ⟨M3,s3,h14,by omega,fun w15 h15 he15 => ?_⟩
     have L1 := (L1.eff he15).drew
     have hL := (hL14.eff he15).ext (ext_drew w15)
     have h15 := h15.drew
     have he15 := (he14.trans he15).x (ext_drew w15)
     have hg15 : Gd N { s3 with deep := (nowS s2).deep,quiet := (nowS s2).quiet } (d + 1) := hgn.back hg14
     generalize hs4 : ({ s3 with deep := (nowS s2).deep,quiet := (nowS s2).quiet } : PS) = s4 at *
     have s4b : s4.bl = s3.bl := by rw [← hs4]
     have hbl := hg15.ex.2
     have hw15 := he15.chg.size
     have cF : ∀ {w' : World},w'.heap[p]? = some (.cells [vt,i64 (s4.i : Nat),i64 s4.off,.pointer (some ⟨f,0,none⟩),i64 (s4.deep : Nat),.bool s4.quiet].toArray PsT (0,0)) → w'.cell? ((⟨p,0,none⟩ : Addr).add 3) = some (.pointer (some ⟨f,0,none⟩)) := by
       intro w' h
       rw [add_mk,cell_eq,h,cellO_some]; rfl
     have cB : ∀ {w' : World} {u v : Value} {r : List Value},w'.heap[f]? = some (.cells (u :: v :: r).toArray FlT (0,0)) → w'.cell? ((⟨f,0,none⟩ : Addr).add 1) = some v := by
       intro w' u v r h
       rw [add_mk,cell_eq,h,cellO_some]; rfl
     have ld1 : ∀ {w' : World} {M' : Lay},Loc w0 w' p f M' vt b1 PpT [.pointer (some ⟨p,0,none⟩)] → ldW false 1 (.pointer (some ⟨b1,0,none⟩)) w' fun x => x = .pointer (some ⟨p,0,none⟩) := fun L => L.ld rfl rfl
     have use : ∀ k,M3.vB.ownBlock = some k → k ∈ M3.uses f := fun k hk => List.mem_cons_of_mem _ (ub_mem (v := M3.vB) (by simp) hk)
     have nE : ¬ M3.vB.ownBlock = some p := fun e => h15.np (use p e)
     have nF : ¬ M3.vB.ownBlock = some f := fun e => by
       have hnd := (uses_B M3 f).nodup_iff.1 h15.fr.nd
       rw [List.nodup_cons] at hnd
       exact hnd.1 (List.mem_append_left _ (ub_one.2 e))
     have n1 : ¬ M3.vB.ownBlock = some b1 := fun e => L1.2.2.2.1 (use b1 e)
     refine L1.ld rfl ?_
     rw [nil_ptr,fld_ptr,ld_one]
     refine ⟨_,cF h15.ps,?_⟩
     refine L1.ld rfl ?_
     rw [nil_ptr,fld_ptr,ld_one]
     refine ⟨_,cF h15.ps,?_⟩
     rw [nil_ptr,fld_ptr,ld_one]
     refine ⟨_,cB h15.fr.hf,?_⟩
     refine ld_all hL.l4.1 rfl ?_
     refine bsl_agg rfl rfl fun r w16 hr hz16 hrb hx16 => ?_
     have h16 := h15.ext hx16
     have L16 := L1.ext hx16
     refine ⟨by rw [ld_one]; exact ⟨_,cB h16.fr.hf,rfl⟩,by rw [ld_one]; exact ⟨_,cF h16.ps,rfl⟩,ld1 L16,by rw [ld_one]; exact ⟨_,cF h16.ps,rfl⟩,ld1 L16,?_⟩
     have hc0 : Chg (fun k => M3.vB.ownBlock = some k) w15.drew w16 := Chg.of_ext hx16
     obtain ⟨lp,lc,el1,_⟩ := hL.rL.own.sl.shape
     obtain ⟨ap,ac,ea1,_⟩ := hL.rA.own.sl.shape
     obtain ⟨bp,bc,eb1,_⟩ := hL.rB.own.sl.shape
     refine append_own3 el_bk h16.fr.oB (slat_new' (n := 1) (T := BkT) hrb) rfl (fun u hu => by
       simp only [List.mem_cons,List.not_mem_nil,or_false] at hu
       rcases hu with rfl | rfl | rfl | rfl | rfl
       · rfl
       · rw [el1]; rfl
       · rw [ea1]; rfl
       · rw [eb1]; rfl
       · rfl) (by omega) (by omega) h16.base fun v' w17 hO17 hc17 hv17 => ?_
     have hp17 := hc17.at h16.ps nE
     have hf17 := hc17.at h16.fr.hf nF
     refine ⟨by rw [ld_one]; exact ⟨_,cF hp17,rfl⟩,ld1 (M' := M3) ⟨hc17.at L16.1 n1,L16.2.up hc17.size⟩,?_⟩
     rw [nil_ptr,fld_ptr,add_mk,Nat.zero_add]
     obtain ⟨vp,vc,ev,_⟩ := hO17.sl.shape
     refine st_at hf17 (by rw [ev]; rfl) (by simp) fun w18 hz18 hf18 hc18 => ?_
     have L18 : Loc w0 w17 p f M3 vt b1 PpT [.pointer (some ⟨p,0,none⟩)] := ⟨hc17.at L16.1 n1,L16.2.up hc17.size⟩
     have nf1 : b1 ≠ f := fun e => L16.2.2.2.1 (e ▸ List.mem_cons_self)
     have L19 := L18.one hc18 nf1
     have hzx := hx16.size
     have hub : ∀ k,k ∈ ub [str t.t,vl,va,vb,i64 t.a] ↔ vl.ownBlock = some k ∨ va.ownBlock = some k ∨ vb.ownBlock = some k := fun k => by
       rw [show [str t.t,vl,va,vb,i64 t.a] = [str t.t] ++ ([vl] ++ ([va] ++ ([vb] ++ [i64 t.a]))) from rfl]
       simp only [ub_app,List.mem_append,ub_one]
       simp [Value.ownBlock]
     have hnd : (ub [str t.t,vl,va,vb,i64 t.a]).Nodup := by
       rw [show [str t.t,vl,va,vb,i64 t.a] = [str t.t] ++ ([vl] ++ ([va] ++ ([vb] ++ [i64 t.a]))) from rfl]
       simp only [ub_app]
       rw [show ub [str t.t] = [] from rfl,show ub [i64 t.a] = [] from rfl,List.nil_append,List.append_nil]
       refine List.nodup_append.2 ⟨ub_nodup1 _,List.nodup_append.2 ⟨ub_nodup1 _,ub_nodup1 _,fun x hx y hy e => by subst e; exact hL.d3 x (ub_one.1 hx) (ub_one.1 hy)⟩,fun x hx y hy e => ?_⟩
       subst e
       rcases List.mem_append.1 hy with hy | hy
       · exact hL.d1 x (ub_one.1 hx) (ub_one.1 hy)
       · exact hL.d2 x (ub_one.1 hx) (ub_one.1 hy)
     obtain ⟨h20,he20⟩ := h15.putB (w1 := w17) (w2 := w18) (v' := v') he15 (e := ⟨t.t,ls,x.1,x.2,t.a⟩) ⟨vl,va,vb,rfl,hL.rL.own,hL.rA.own,hL.rB.own⟩ (fun k hk => by
       rcases (hub k).1 hk with e | e | e
       · exact hL.rL.off k e
       · exact hL.rA.off k e
       · exact hL.rB.off k e) hnd (fun k hk => by
       rcases (hub k).1 hk with e | e | e
       · have := hL.rL.new k e; omega
       · have := hL.rA.new k e; omega
       · have := hL.rB.new k e; omega) hO17 (hc0.trans hc17) (fun k hk => (hv17 k hk).imp id fun e => by omega) hc18 (by rw [hf18]; simp)
     refine L19.ld rfl ?_
     rw [nil_ptr,fld_ptr,ld_one]
     refine ⟨_,cF h20.ps,?_⟩
     rw [nil_ptr,fld_ptr,ld_one]
     refine ⟨_,cB h20.fr.hf,?_⟩
     dsimp only
     rw [ev,lenl_sl,bin_sub,wrap_id (by omega) (by omega)]
     have e1 : ((s4.bl.length + 1 : Nat) : Int) - 1 = (s4.bl.length : Nat) := by omega
     rw [e1]
     subst hs4
     exact hK _ _ rfl _ w18 h20 he20
   · rw [efuel] at ex
     rw [ex]; rfl
theorem fineB_dead : FineB dead := ⟨dead_bok,dead_z⟩
theorem fine_blockD (d : Nat) : FineB (blockD d) := ⟨fun N => blockD_ok N d,blockD_z d⟩
theorem blockD_p (hS : ScanC w0 f) : ∀ dl,EC w0 f 21 (blockD dl) dl
 | 0 => block_p (fun d e => by omega) (fun d e => by omega) fine_dead fineB_dead
 | d + 1 => by
   have ih := blockD_p hS d
   refine block_p (fun d' e => ?_) (fun d' e => ?_) (fine_exprD d).1 (fine_blockD d)
   · have e : d' = d := by omega
     subst e; exact (exprD_p hS d').1
   · have e : d' = d := by omega
     subst e; exact ih
end
end Go.Proofs.YtofhaneggcpdaaaGreatDoor
namespace Go.Proofs.YtofhaneggcpdaaaGreatDoor
open Go Go.Eng Go.RowKit Go.Syn Go.Lex
set_option maxRecDepth 100000
theorem as_diag (v : Value) (w : World) : (Instr.typeAssert (.iface DT v) 20 DT false).run Tryz.prog w = .ok v w := by kernel_rfl
theorem nil_idle (w : World) (K : Value → Prop) : eqQ Tryz.prog .neq 20 false true .nilIface .nilIface w K ↔ K (.bool false) := by
 have h : (do eqGuard .neq 20 (stand false) (stand true) .nilIface .nilIface; binOp .neq 20 .nilIface .nilIface : Sem Value).run Tryz.prog w = .ok (.bool false) w := by kernel_rfl
 unfold eqQ semQ
 rw [h]
 exact ⟨fun ⟨v,h1,h2⟩ => by cases h1; exact h2,fun h2 => ⟨_,rfl,h2⟩⟩
theorem nil_thrown (v : Value) (w : World) (K : Value → Prop) : eqQ Tryz.prog .neq 20 false true (.iface DT v) .nilIface w K ↔ K (.bool true) := by
 have h : (do eqGuard .neq 20 (stand false) (stand true) (.iface DT v) .nilIface; binOp .neq 20 (.iface DT v) .nilIface : Sem Value).run Tryz.prog w = .ok (.bool true) w := by kernel_rfl
 unfold eqQ semQ
 rw [h]
 exact ⟨fun ⟨v,h1,h2⟩ => by cases h1; exact h2,fun h2 => ⟨_,rfl,h2⟩⟩
theorem rec_idle {a b : Value} {w : World} {K : World → Prop} (hK : K w) : DefC Tryz.prog 18 [a,b] .returning w K := by
 letI := noX
 refine R18_ok .idle ?_
 unfold R18
 rw [nil_idle,condW_false]
 exact hK
theorem rec_thrown {a b d : Nat} {cs : List Value} {v : Value} {Ta Tb : TypeId} {w : World} {K : World → Prop} (ha : w.heap[a]? = some (.cells cs.toArray Ta (0,0))) (hl : cs.length = 3) (hb : w.heap[b]? = some (.cells [v].toArray Tb (0,0))) (hab : a ≠ b)
   (hK : ∀ w',Chg (fun k => k = a ∨ k = b) w w' → w'.heap[a]? = some (.cells [.slice none 0 0,.slice none 0 0,.slice none 0 0].toArray Ta (0,0)) → w'.heap[b]? = some (.cells [.pointer (some ⟨d,0,none⟩)].toArray Tb (0,0)) → K w') :
   DefC Tryz.prog 18 [.pointer (some ⟨a,0,none⟩),.pointer (some ⟨b,0,none⟩)] (.panicking [{ v := .iface DT (.pointer (some ⟨d,0,none⟩)),recovered := false }]) w K := by
 letI := noX
 refine R18_ok (.thrown _) ?_
 unfold R18
 rw [nil_thrown,condW_true,put_nil]
 refine ⟨_,as_diag _ _,?_⟩
 refine st_agg_at (l := [.slice none 0 0,.slice none 0 0,.slice none 0 0]) (w := w.drew) ha rfl hl rfl fun w2 hz2 ha2 hc2 => ?_
 refine ⟨⟨_,as_diag _ _,rfl⟩,?_⟩
 have hb2 := hc2.at (w := w.drew) hb (fun e => hab e.symm)
 refine st_at hb2 rfl (by simp) fun w3 hz3 hb3 hc3 => ?_
 refine hK w3 ?_ (hc3.at ha2 hab) (by rw [hb3]; simp)
 exact ((Chg.drew (Chg.refl _ w)).trans (hc2.mono fun k _ e => .inl e)).trans (hc3.mono fun k _ e => .inr e)
structure FO (w : World) (B : Nat) (M : Lay) (fl : Fl) : Prop where
 oE : Own w B ExT 5 M.vE fl.ex.length M.cE
 oB : Own w B BkT 5 M.vB fl.bl.length M.cB
 oT : Own w B IntT 1 M.vT fl.top.length (ints fl.top)
 ee : RowsR (ExR w B) 5 fl.ex M.cE
 bb : RowsR (BkR w B) 5 fl.bl M.cB
 nd : (ub ([M.vE,M.vB,M.vT] ++ (M.cE ++ M.cB))).Nodup
 lt : ∀ k ∈ ub ([M.vE,M.vB,M.vT] ++ (M.cE ++ M.cB)),k < w.heap.size
 lo : ∀ k ∈ ub ([M.vE,M.vB,M.vT] ++ (M.cE ++ M.cB)),B ≤ k
theorem FR.out {w : World} {B f : Nat} {M : Lay} {ex : List Ex} {bl : List Blk} {top : List Nat} (h : FR w B f M ex bl top) : FO w B M ⟨ex,bl,top⟩ := by
 have hn := h.nd
 unfold Lay.uses at hn
 rw [List.nodup_cons] at hn
 exact ⟨h.oE,h.oB,h.oT,h.ee,h.bb,hn.2,fun k hk => h.lt k (List.mem_cons_of_mem _ hk),fun k hk => (h.lo k (List.mem_cons_of_mem _ hk)).resolve_left fun e => hn.1 (e ▸ hk)⟩
theorem FO.keep {S : Nat → Prop} {w w' : World} {B : Nat} {M : Lay} {fl : Fl} (h : FO w B M fl) (hc : Chg S w w') (hS : ∀ k,B ≤ k → k < w.heap.size → k ∈ ub ([M.vE,M.vB,M.vT] ++ (M.cE ++ M.cB)) → ¬ S k) : FO w' B M fl := by
 have hu : ∀ v ∈ [M.vE,M.vB,M.vT] ++ (M.cE ++ M.cB),∀ k,v.ownBlock = some k → ¬ S k := fun v hv k hk => hS k (h.lo k (ub_mem hv hk)) (h.lt k (ub_mem hv hk)) (ub_mem hv hk)
 refine ⟨own_at h.oE hc (hu _ (by simp)),own_at h.oB hc (hu _ (by simp)),own_at h.oT hc (hu _ (by simp)),?_,?_,h.nd,fun k hk => Nat.lt_of_lt_of_le (h.lt k hk) hc.size,h.lo⟩
 · refine h.ee.imp fun x d hd hx => hx.at_ hc fun k hk => ?_
   obtain ⟨v,hv,hk⟩ := List.mem_filterMap.1 hk
   exact hu v (by simp [hd v hv]) k hk
 · refine h.bb.imp fun x d hd hx => hx.at_ hc fun k hk => ?_
   obtain ⟨v,hv,hk⟩ := List.mem_filterMap.1 hk
   exact hu v (by simp [hd v hv]) k hk
theorem ExR.low {w : World} {B B' : Nat} {e : Ex} {d : List Value} (h : ExR w B e d) (hb : B' ≤ B) : ExR w B' e d := by
 obtain ⟨va,vk,e1,h1,h2⟩ := h
 exact ⟨va,vk,e1,h1.base hb,h2.base hb⟩
theorem BkR.low {w : World} {B B' : Nat} {e : Blk} {d : List Value} (h : BkR w B e d) (hb : B' ≤ B) : BkR w B' e d := by
 obtain ⟨vl,va,vk,e1,h1,h2,h3⟩ := h
 exact ⟨vl,va,vk,e1,h1.base hb,h2.base hb,h3.base hb⟩
theorem FO.low {w : World} {B B' : Nat} {M : Lay} {fl : Fl} (h : FO w B M fl) (hb : B' ≤ B) : FO w B' M fl :=
 ⟨h.oE.base hb,h.oB.base hb,h.oT.base hb,h.ee.imp fun x d _ hx => hx.low hb,h.bb.imp fun x d _ hx => hx.low hb,h.nd,h.lt,fun k hk => Nat.le_trans hb (h.lo k hk)⟩
section
variable {w0 w w1 w2 : World} {p f : Nat} {M : Lay} {vt : Value} {s : PS} {top : List Nat}
theorem uses_T (M : Lay) (f : Nat) : (M.uses f).Perm (f :: (ub [M.vT] ++ ub ([M.vE,M.vB] ++ (M.cE ++ M.cB)))) := by
 rw [List.perm_iff_count]
 intro a
 unfold Lay.uses
 simp only [ub_app,List.count_append,List.count_cons]
 rw [ub_cons M.vE,ub_cons M.vB,ub_cons M.vE [M.vB]]
 simp only [List.count_append]
 omega
theorem PR.putT (h : PR w0 w p f M vt s top) {x : Nat} {v' : Value} (hO : Own w1 w0.heap.size IntT 1 v' (top.length + 1) (ints top ++ [i64 (x : Nat)])) (hc1 : Chg (fun k => M.vT.ownBlock = some k) w w1) (hv : ∀ k,v'.ownBlock = some k → M.vT.ownBlock = some k ∨ w.heap.size ≤ k)
   (hc2 : Chg (One f) w1 w2) (hf : w2.heap[f]? = some (.cells [M.vE,M.vB,v'].toArray FlT (0,0))) : PR w0 w2 p f { M with vT := v' } vt s (top ++ [x]) := by
 have hb := h.base
 have pT := uses_T M f
 have use : ∀ k,M.vT.ownBlock = some k → k ∈ M.uses f := fun k hk => List.mem_cons_of_mem _ (ub_mem (v := M.vT) (by simp) hk)
 have hnd0 := pT.nodup_iff.1 h.fr.nd
 have hnd := hnd0
 rw [List.nodup_cons,List.nodup_append] at hnd
 obtain ⟨nf,_,nb,nab⟩ := hnd
 have inU : ∀ k ∈ ub ([M.vE,M.vB] ++ (M.cE ++ M.cB)),k ∈ M.uses f := fun k hk => pT.mem_iff.2 (List.mem_cons_of_mem _ (List.mem_append_right _ hk))
 have rest : ∀ k ∈ ub ([M.vE,M.vB] ++ (M.cE ++ M.cB)),M.vT.ownBlock ≠ some k ∧ k ≠ f ∧ k < w.heap.size := fun k hk =>
   ⟨fun e => nab k (ub_one.2 e) k hk rfl,fun e => nf (e ▸ List.mem_append_right _ hk),h.fr.lt k (inU k hk)⟩
 have c12 : Chg (fun k => M.vT.ownBlock = some k ∨ k = f) w w2 := (hc1.mono fun k _ e => .inl e).trans (hc2.mono fun k _ e => .inr e)
 have sub : ∀ v ∈ [M.vE,M.vB] ++ (M.cE ++ M.cB),∀ k,v.ownBlock = some k → ¬ (M.vT.ownBlock = some k ∨ k = f) := fun v hv k hk e => by
   have := rest k (ub_mem hv hk)
   exact e.elim this.1 this.2.1
 have hOf : ∀ k,v'.ownBlock = some k → k ≠ f := fun k hk e => by
   subst e
   rcases hv k hk with e | e
   · exact nf (List.mem_append_left _ (ub_one.2 e))
   · have := at_lt h.fr.hf; omega
 have nE : M.vT.ownBlock ≠ some p := fun e => h.np (use p e)
 have pf : p ≠ f := fun e => h.np (e ▸ List.mem_cons_self)
 have perm := uses_T { M with vT := v' } f
 have hN : (f :: (ub [v'] ++ ([] ++ ub ([M.vE,M.vB] ++ (M.cE ++ M.cB))))).Nodup := nd_grow (n := w.heap.size) (a := ub [M.vT]) hnd0 (fun k hk => h.fr.lt k (pT.mem_iff.2 hk)) (ub_nodup1 _) (fun k hk => (hv k (ub_one.1 hk)).imp (fun e => ub_one.2 e) id) List.nodup_nil fun k hk => by cases hk
 have hz := c12.size
 have mem : ∀ k ∈ ({ M with vT := v' } : Lay).uses f,k = f ∨ v'.ownBlock = some k ∨ k ∈ ub ([M.vE,M.vB] ++ (M.cE ++ M.cB)) := fun k hk => by
   have hk := perm.mem_iff.1 hk
   rcases List.mem_cons.1 hk with e | e
   · exact .inl e
   rcases List.mem_append.1 e with e | e
   · exact .inr (.inl (ub_one.1 e))
   · exact .inr (.inr e)
 refine ⟨?_,⟨hf,?_,?_,?_,?_,?_,perm.nodup_iff.2 hN,fun k hk => ?_,fun k hk => ?_⟩,?_,?_,fun e => ?_,h.lo,fun k hk => ?_⟩
 · refine h.ch.then c12 fun k hk e => ?_
   rcases e with e | e
   · exact (h.fr.lo k (use k e)).resolve_right (by omega)
   · exact e
 · exact own_at h.fr.oE c12 (sub _ (by simp))
 · exact own_at h.fr.oB c12 (sub _ (by simp))
 · rw [List.length_append,List.length_cons,List.length_nil,ints_app]
   exact own_at hO hc2 fun k hk e => hOf k hk e
 · refine h.fr.ee.imp fun x d hd hx => hx.at_ c12 fun k hk => ?_
   obtain ⟨v,hv,hk⟩ := List.mem_filterMap.1 hk
   exact sub v (by simp [hd v hv]) k hk
 · refine h.fr.bb.imp fun x d hd hx => hx.at_ c12 fun k hk => ?_
   obtain ⟨v,hv,hk⟩ := List.mem_filterMap.1 hk
   exact sub v (by simp [hd v hv]) k hk
 · rcases mem k hk with e | e | e
   · rw [e]; exact at_lt hf
   · exact Nat.lt_of_lt_of_le (own_lt hO e).1 hc2.size
   · exact Nat.lt_of_lt_of_le (rest k e).2.2 hz
 · rcases mem k hk with e | e | e
   · exact .inl e
   · exact .inr (own_lt hO e).2
   · exact h.fr.lo k (inU k e)
 · exact c12.at h.ps fun e => e.elim nE pf
 · exact slat_at h.tk c12 fun k hk e => by
     have := (h.nt k hk).1
     rcases e with e | e
     · exact this (use k e)
     · exact this (e ▸ List.mem_cons_self)
 · rcases mem p e with e | e | e
   · exact pf e
   · exact (hv p e).elim nE fun e => by have := h.lt; omega
   · exact h.np (inU p e)
 · have ht := h.nt k hk
   refine ⟨fun e => ?_,ht.2.1,Nat.lt_of_lt_of_le ht.2.2 hz⟩
   rcases mem k e with e | e | e
   · exact ht.1 (e ▸ List.mem_cons_self)
   · exact (hv k e).elim (fun e => ht.1 (use k e)) fun e => by omega
   · exact ht.1 (inU k e)
end
def TabI (w : World) : Prop := ∃ m,w.cell? ⟨0,0,none⟩ = some (.int .i64 m)
section
variable [HX]
def ScanP : Prop := ∀ (w : World) (K : Value → World → Prop) (s : Str),TabI w → s.length ≤ 1000000 →
 (∀ l,scanM s = .ok l → ∀ v w',Ext w w' → SlAt w' TkT v l.length (toks l) → (∀ k,v.ownBlock = some k → w.heap.size ≤ k ∧ k < w'.heap.size) → K (.tuple #[v,.pointer none]) w') →
 (∀ c a,scanM s = .bad c a → ∀ d w',Ext w w' → w.heap.size ≤ d → w'.heap[d]? = some (.cells [i64 c,str [],i64 a].toArray 48 (0,0)) → K (.tuple #[.slice none 0 0,.pointer (some ⟨d,0,none⟩)]) w') →
 callF Tryz.prog 17 [str s] w K
end
theorem TabI.chg {w w' : World} {f : Nat} {cs : List Value} (h : TabI w) (hc : Chg (Of f) w w') (hf : w.heap[f]? = some (.cells cs.toArray FlT (0,0))) (h0 : ∀ m,cs[0]? ≠ some (.int .i64 m)) : TabI w' := by
 obtain ⟨m,h⟩ := h
 refine ⟨m,?_⟩
 rw [cell_eq] at h ⊢
 cases hx : w.heap[0]? with
 | none => rw [hx] at h; cases h
 | some o =>
   rw [hc.at hx ?_]
   · rw [hx] at h; exact h
   · intro e
     have e : 0 = f := e
     subst e
     rw [hf,cellO_some] at h
     exact h0 m (by simpa using h)
theorem parse_p [HX] (hS : ∀ [HX],ScanP) {t : Str} {w : World} {K : Value → World → Prop} (hT : TabI w) (hl : t.length ≤ 1000000)
   (hok : ∀ fl,parseM t = .ok fl → ∀ M w',Ext w w' → FO w' w.heap.size M fl → (fl.ex.length ≤ 100000 ∧ fl.bl.length ≤ 100000 ∧ fl.top.length ≤ 100000) → K (.tuple #[.agg [M.vE,M.vB,M.vT].toArray,.pointer none]) w')
   (hbad : ∀ c a,parseM t = .bad c a → ∀ d w',Ext w w' → w.heap.size ≤ d → w'.heap[d]? = some (.cells [i64 c,str [],i64 a].toArray 48 (0,0)) → K (.tuple #[.agg [.slice none 0 0,.slice none 0 0,.slice none 0 0].toArray,.pointer (some ⟨d,0,none⟩)]) w') :
   callF Tryz.prog 9 [str t] w K := by
 refine W9_ok ?_
 unfold W9
 refine alloc_new fun f w1 hf hz1 hbb1 hx1 => ?_
 refine alloc_new fun bd w2 hbd hz2 hbb2 hx2 => ?_
 have hx02 := hx1.trans hx2
 have hf2 := hx2.at hbb1 id
 have hT2 : TabI w2 := by
   obtain ⟨m,h⟩ := hT
   refine ⟨m,?_⟩
   rw [cell_eq] at h ⊢
   cases hx : w.heap[0]? with
   | none => rw [hx] at h; cases h
   | some o => rw [hx02.at hx id]; rw [hx] at h; exact h
 unfold parseM at hok hbad
 refine hS w2 _ t hT2 hl (fun l hsc v w3 hx3 hv hvn => ?_) (fun c a hsc d w3 hx3 hd hdb => ?_)
 · rw [ext_tuple]
   refine ⟨v,rfl,?_⟩
   rw [ext_tuple]
   refine ⟨.pointer none,rfl,?_⟩
   have hbd3 := hx3.at hbb2 id
   have hf3 := hx3.at hf2 id
   refine st_at hbd3 rfl (by simp) fun w4 hz4 hbb4 hc4 => ?_
   have hbb4 : w4.heap[bd]? = some (.cells [.pointer none].toArray 29 (0,0)) := by rw [hbb4]; simp
   have hf4 := hc4.at hf3 (by omega)
   refine ⟨.pointer none,by rw [cell_eq,hbb4]; rfl,?_⟩
   show condW (.bool false) _ _
   rw [condW_false]
   have hx4 : Ext w w4 := (hx02.trans hx3).new (hc4.mono fun k _ e => e) (by omega)
   have hlt4 := at_lt hf4
   -- behind the deferral
   have hT4 : TabI w4 := by
     obtain ⟨m,h⟩ := hT
     refine ⟨m,?_⟩
     rw [cell_eq] at h ⊢
     cases hx : w.heap[0]? with
     | none => rw [hx] at h; cases h
     | some o => rw [hx4.at hx id]; rw [hx] at h; exact h
   have hv4 : SlAt w4 TkT v l.length (toks l) := slat_at hv hc4 fun k hk e => by have := (hvn k hk).1; have e : k = bd := e; omega
   letI inst : HX := ⟨fun ch x10 => DefC Tryz.prog 18 [.pointer (some ⟨f,0,none⟩),.pointer (some ⟨bd,0,none⟩)] (.panicking ch) x10 fun w10 =>
       ldW true 3 (.pointer (some ⟨f,0,none⟩)) w10 fun r11 =>
       ldW false 1 (.pointer (some ⟨bd,0,none⟩)) w10 fun r12 =>
       K (.tuple #[r11,r12]) w10⟩
   have hSC : ScanC w4 f := fun w' KK s hc hsl h1 h2 => hS w' KK s (hT4.chg hc hf4 (by simp)) hsl h1 h2
   have hThr : ∀ c a,(∀ d w',Ext w w' → w.heap.size ≤ d → w'.heap[d]? = some (.cells [i64 c,str [],i64 a].toArray 48 (0,0)) → K (.tuple #[.agg [.slice none 0 0,.slice none 0 0,.slice none 0 0].toArray,.pointer (some ⟨d,0,none⟩)]) w') → Thr w4 f c a := by
     intro c a hb d w' cs hc hd hcs hcf hdb
     have hzc := hx4.size
     refine rec_thrown hcf hcs (hc.at hbb4 (by show ¬ bd = f; omega)) (by omega) fun w5 hc5 ha5 hb5 => ?_
     refine ld_all ha5 rfl ?_
     refine ⟨_,by rw [cell_eq,hb5]; rfl,?_⟩
     have hd' : w4.heap.size ≤ d := hd
     have hzx3 := hx3.size
     refine hb d w5 ?_ (by omega) (hc5.at hdb (by show ¬ (d = f ∨ d = bd); omega))
     refine (hx4.then hc fun k hk e => ?_).then hc5 fun k hk e => ?_
     · have e : k = f := e; omega
     · omega
   obtain ⟨q,cap,ev,_⟩ := hv.shape
   subst ev
   simp only [put_slice,put_int,put_ptr,put_nil,List.length_cons,List.length_nil,List.set_cons_zero,List.set_cons_succ,Nat.reduceAdd,Nat.reduceLT,true_and,Nat.zero_lt_succ]
   refine box_new (z := [.slice q l.length cap,i64 0,i64 0,.pointer (some ⟨f,0,none⟩),i64 0,.bool false]) fun p w5 hp hz5 hpb hx5 => ?_
   have hzx3 := hx3.size
   have hf5 := hx5.at hf4 id
   have hbd5 := hx5.at hbb4 id
   let M0 : Lay := ⟨.slice none 0 0,.slice none 0 0,.slice none 0 0,[],[]⟩
   have huse : M0.uses f = [f] := rfl
   have hPR : PR w4 w5 p f M0 (.slice q l.length cap) ⟨l,0,0,0,false,[],[]⟩ [] :=
     ⟨Chg.of_ext hx5,⟨hf5,⟨by simp [M0],.inl ⟨rfl,rfl⟩⟩,⟨by simp [M0],.inl ⟨rfl,rfl⟩⟩,⟨by simp [ints],.inl ⟨rfl,rfl⟩⟩,RowsR.nil _ _,RowsR.nil _ _,by rw [huse]; simp,by rw [huse]; intro k hk; simp only [List.mem_singleton] at hk; omega,by rw [huse]; intro k hk; simp only [List.mem_singleton] at hk; exact .inl hk⟩,
       hpb,hv4.ext hx5,by rw [huse]; simp only [List.mem_singleton]; omega,by omega,fun k hk => by
         have hb := hvn k hk
         rw [huse]
         simp only [List.mem_singleton]
         omega⟩
   have htg := scan_tg (N := (t.length : Nat)) (off := 0) hsc (Int.le_refl _) (by omega)
   have hfew := scan_few hsc
   have hwt := scan_wt hsc
   have hg0 : Gd (t.length : Nat) ⟨l,0,0,0,false,[],[]⟩ 24 := ⟨⟨htg,List.length_pos_iff.2 htg.ne,by omega⟩,by omega,hfew.1,scan_ts hsc,by unfold Syn.phi; simp only [List.length_nil,List.drop_zero]; omega,rfl⟩
   rw [hsc] at hok hbad
   simp only at hok hbad
   have hN := hg0.hN
   refine lines_p hPR hg0.ws hN hg0.l fun w6 h6 he6 => ?_
   have hg1 := hg0.lines
   have et1 := congrArg List.length (lines_go hg0.ws).1.toks
   generalize hR : topF (l.length + 1) (linesS ⟨l,0,0,0,false,[],[]⟩) [] = R0 at hok hbad
   have hbdk : ∀ {w' : World},Chg (Of f) w4 w' → w'.heap[bd]? = some (.cells [.pointer none].toArray 29 (0,0)) := fun hc => hc.at hbb4 (by show ¬ bd = f; omega)
   refine LoopW.go (fun st w' => st = [] ∧ ∃ s1 M1 top n,PR w4 w' p f M1 (.slice q l.length cap) s1 top ∧ Gd (t.length : Nat) s1 24 ∧ topF n s1 top = R0 ∧ s1.toks.length < n + s1.i ∧ top.length ≤ s1.i ∧ s1.toks.length = l.length) (fun _ w' => l.length - psAt w' p)
     ⟨rfl,_,M0,[],l.length + 1,h6,hg1,hR,by rw [et1]; show l.length < _; omega,by simp,by rw [et1]⟩ ?_
   rintro st g w7 ⟨rfl,s1,M1,top,n,h7,hg7,htop,hn,htl,htk⟩
   have hlt7 := hg7.ws.lt
   obtain ⟨n,rfl⟩ : ∃ m,n = m + 1 := ⟨n - 1,by omega⟩
   simp only [topF] at htop
   have hgn := hg7.now
   have ng := now_go hg7.ws
   have ngt := congrArg List.length ng.toks
   have ngi := ng.le
   refine now_p h7 hg7.ws hN hg7.l fun w8 h8 he8 => ?_
   refine ⟨i64 (cur s1).k,rfl,?_⟩
   dsimp only
   rw [bin_neq,condW_dec]
   refine ⟨fun hk0 => ?_,fun hk0 => ?_⟩
   · have hk0 : (cur s1).k ≠ 0 := hk0
     rw [if_neg hk0] at htop
     have h8 := h8.drew
     rw [fld_ptr,ld_one]
     refine ⟨M1.vT,by rw [add_mk,cell_eq,h8.fr.hf,cellO_some]; rfl,?_⟩
     refine blockD_p hSC 24 w8.drew p M1 _ _ top _ _ h8 hgn (fun x s2 ex M2 w9 h9 he9 => ?_) fun c a' ex => hThr c a' (hbad c a' (by rw [← htop,ex]; rfl))
     rw [ex] at htop
     simp only [R.bind] at htop
     obtain ⟨hg9,hi9,ht9⟩ := hgn.bk (fine_blockD 24) ex
     have ht9 := congrArg List.length ht9
     have eT := he9.hT
     have ldT : ∀ {w' : World},w'.heap[f]? = some (.cells [M2.vE,M2.vB,M2.vT].toArray FlT (0,0)) → ldW false 1 (.pointer (some ((⟨f,0,none⟩ : Addr).add 2))) w' fun x => x = M1.vT := fun h => by
       rw [ld_one]; exact ⟨M2.vT,by rw [add_mk,cell_eq,h,cellO_some]; rfl,eT⟩
     refine ⟨ldT h9.fr.hf,?_⟩
     refine bsl_int1 fun r w10 hr hz10 hrb hx10 => ?_
     have h10 := h9.ext hx10
     refine ⟨ldT h10.fr.hf,?_⟩
     have few := hg7.few
     have hzx := hx10.size
     have nF : ¬ M2.vT.ownBlock = some f := fun e => by
       have hnd := (uses_T M2 f).nodup_iff.1 h10.fr.nd
       rw [List.nodup_cons] at hnd
       exact hnd.1 (List.mem_append_left _ (ub_one.2 e))
     rw [← eT]
     refine append_own3 el_int h10.fr.oT (slat_new' (n := 1) (T := IntT) hrb) rfl (fun u hu => by simp only [List.mem_singleton] at hu; subst hu; rfl) (by omega) (by omega) h10.base fun v' w11 hO11 hc11 hv11 => ?_
     have hf11 := hc11.at h10.fr.hf nF
     rw [fld_ptr,add_mk,Nat.zero_add]
     obtain ⟨vp,vc,ev,_⟩ := hO11.sl.shape
     refine st_at hf11 (by rw [ev]; rfl) (by simp) fun w12 hz12 hf12 hc12 => ?_
     have h12 := h10.putT (w1 := w11) (w2 := w12) (x := x) hO11 hc11 hv11 hc12 (by rw [hf12]; simp)
     have hg10 := hg9.now
     have ng9 := now_go hg9.ws
     have ng9t := congrArg List.length ng9.toks
     have ng9i := ng9.le
     refine JoinW.cut (fun _ w' => PR w4 w' p f { M2 with vT := v' } (.slice q l.length cap) (nowS s2) (top ++ [x]) ∧ topF n (linesS (nowS s2)) (top ++ [x]) = R0) ?_ ?_
     · refine now_p h12 hg9.ws hN hg9.l fun w13 h13 he13 => ?_
       refine ⟨i64 (cur s2).k,rfl,?_⟩
       dsimp only
       rw [bin_neq]
       simp only [isB_t,bin_neq,GdW_pure]
       intro g2
       simp only [List.getD_cons_zero]
       rw [pick_gd_and,condW_b]
       refine ⟨fun hb => ?_,fun hb => ?_⟩
       · have hb : (cur s2).k ≠ 5 ∧ (cur s2).k ≠ 0 := by simpa using hb
         rw [if_pos hb] at htop
         refine now_p h13 hg10.ws hN hg10.l fun w14 h14 he14 => ?_
         refine ⟨i64 (cur (nowS s2)).a,rfl,?_⟩
         exact fail_p h14 (hThr 50 _ (hbad 50 _ (by rw [← htop])))
       · have hb : ¬ ((cur s2).k ≠ 5 ∧ (cur s2).k ≠ 0) := by simpa using hb
         rw [if_neg hb] at htop
         exact ⟨h13,htop⟩
     rintro _ g2 w13 ⟨h13,htop⟩
     refine lines_p h13 hg10.ws hN hg10.l fun w14 h14 he14 => ?_
     have lg := lines_go hg10.ws
     have lgt := congrArg List.length lg.1.toks
     have lgi := lg.1.le
     have hgl := hg10.lines
     have hltl := hgl.ws.lt
     refine ⟨⟨rfl,linesS (nowS s2),_,top ++ [x],n,h14,hgl,htop,by omega,by rw [List.length_append,List.length_cons,List.length_nil]; omega,by omega⟩,?_⟩
     rw [h14.at_,h7.at_]; omega
   · have hk0 : (cur s1).k = 0 := by
       by_cases h : (cur s1).k = 0
       · exact h
       · exact absurd h hk0
     rw [if_pos hk0] at htop
     refine ld_all h8.fr.hf rfl ?_
     obtain ⟨ep,ec,e1,_⟩ := h8.fr.oE.sl.shape
     obtain ⟨bp,bc,e2,_⟩ := h8.fr.oB.sl.shape
     obtain ⟨tp,tc,e3,_⟩ := h8.fr.oT.sl.shape
     refine st_agg_at (l := [M1.vE,M1.vB,M1.vT]) h8.fr.hf rfl rfl (by rw [e1,e2,e3]; rfl) fun w9 hz9 hf9 hc9 => ?_
     have hc49 : Chg (Of f) w4 w9 := h8.ch.trans (hc9.mono fun k _ e => e)
     refine st_at (hbdk hc49) rfl (by simp) fun w10 hz10 hbd10 hc10 => ?_
     have hf10 := hc10.at hf9 (by omega)
     refine rec_idle ?_
     refine ld_all hf10 rfl ?_
     refine ⟨.pointer none,by rw [cell_eq,hbd10]; rfl,?_⟩
     have hFO := h8.fr.out
     have hFO := hFO.keep hc9 fun k hk hlt hu e => by have e : k = f := e; omega
     have hFO := hFO.keep hc10 fun k hk hlt hu e => by have e : k = bd := e; omega
     have hzc := hx4.size
     rw [← htop] at hok
     have few := hg7.few
     refine hok _ rfl M1 w10 ?_ (hFO.low hzc) ⟨hgn.ex.1,hgn.ex.2,by show top.length ≤ _; omega⟩
     refine (hx4.then hc49 fun k hk e => ?_).then hc10 fun k hk e => ?_
     · have e : k = f := e; omega
     · have e : k = bd := e; omega
 · rw [ext_tuple]
   refine ⟨.slice none 0 0,rfl,?_⟩
   rw [ext_tuple]
   refine ⟨.pointer (some ⟨d,0,none⟩),rfl,?_⟩
   have hbd3 := hx3.at hbb2 id
   have hf3 := hx3.at hf2 id
   refine st_at hbd3 rfl (by simp) fun w4 hz4 hbb4 hc4 => ?_
   have hbb4 : w4.heap[bd]? = some (.cells [.pointer (some ⟨d,0,none⟩)].toArray 29 (0,0)) := by rw [hbb4]; simp
   have hf4 := hc4.at hf3 (by omega)
   refine ⟨.pointer (some ⟨d,0,none⟩),by rw [cell_eq,hbb4]; rfl,?_⟩
   show condW (.bool true) _ _
   rw [condW_true,put_nil]
   refine ⟨.pointer (some ⟨d,0,none⟩),by rw [cell_eq,heap_drew,hbb4]; rfl,?_⟩
   refine st_agg_at (w := w4.drew) (l := [.slice none 0 0,.slice none 0 0,.slice none 0 0]) hf4 rfl rfl rfl fun w5 hz5 hf5 hc5 => ?_
   have hbb5 := hc5.at (w := w4.drew) hbb4 (by omega)
   refine ⟨⟨.pointer (some ⟨d,0,none⟩),by rw [cell_eq,hbb5]; rfl,rfl⟩,?_⟩
   refine st_at hbb5 rfl (by simp) fun w6 hz6 hbb6 hc6 => ?_
   have hf6 := hc6.at hf5 (by omega)
   refine ld_all hf6 rfl ?_
   refine ⟨.pointer (some ⟨d,0,none⟩),by rw [cell_eq,hbb6]; rfl,?_⟩
   have hx3' := hx02.trans hx3
   have hd4 := hc4.at hdb (by omega)
   have hd5 := hc5.at (w := w4.drew) hd4 (by omega)
   refine hbad c a (by rw [hsc]) d w6 ?_ (by omega) (hc6.at hd5 (by omega))
   exact (((hx3'.new hc4 (by omega)).trans (ext_drew w4)).new hc5 (by omega)).new hc6 (by omega)
end Go.Proofs.YtofhaneggcpdaaaGreatDoor
namespace Go.Proofs.YtofhaneggcpdaaaGreatDoor
open Go Go.Eng Go.RowKit Go.Syn Go.Lex
set_option maxRecDepth 100000
abbrev cv (c : UInt8) : Value := .int .u8 (c.toNat : Nat)
theorem le_nat (a c : UInt8) : decide (((a.toNat : Nat) : Int) ≤ ((c.toNat : Nat) : Int)) = decide (a ≤ c) := by
 rw [decide_eq_decide,UInt8.le_iff_toNat_le]; omega
theorem eq_nat (a c : UInt8) : decide (((c.toNat : Nat) : Int) = ((a.toNat : Nat) : Int)) = (c == a) := by
 rw [Bool.eq_iff_iff,decide_eq_true_iff,beq_iff_eq,← UInt8.toNat_inj]; omega
section
variable [HX]
theorem letter_p {c : UInt8} {w : World} {K : Value → World → Prop} (hK : K (.bool (isLetter c)) w) : callF Tryz.prog 71 [cv c] w K := by
 refine W71_ok ?_
 unfold W71
 have e1 : decide ((97 : Int) ≤ ((c.toNat : Nat) : Int)) = decide (97 ≤ c) := le_nat 97 c
 have e2 : decide (((c.toNat : Nat) : Int) ≤ 122) = decide (c ≤ 122) := le_nat c 122
 have e3 : decide ((65 : Int) ≤ ((c.toNat : Nat) : Int)) = decide (65 ≤ c) := le_nat 65 c
 have e4 : decide (((c.toNat : Nat) : Int) ≤ 90) = decide (c ≤ 90) := le_nat c 90
 have e5 : decide (((c.toNat : Nat) : Int) = 95) = (c == 95) := eq_nat 95 c
 simp only [bin_geq,bin_leq,bin_eql,e1,e2,e3,e4,e5]
 unfold isLetter at hK
 generalize decide (97 ≤ c) = a at *
 generalize decide (c ≤ 122) = b at *
 generalize decide (65 ≤ c) = d at *
 generalize decide (c ≤ 90) = e at *
 generalize (c == 95) = g at *
 cases a <;> cases b <;> cases d <;> cases e <;> cases g <;>
   (simp only [isB_t,isB_f,isB_u,GdW_f,GdW_pure,cond_true,cond_false,pick_t,pick_f,List.getD_cons_zero,Bool.not_true,Bool.not_false]; intros; exact hK)
theorem digit_p {c : UInt8} {w : World} {K : Value → World → Prop} (hK : K (.bool (isDigit c)) w) : callF Tryz.prog 73 [cv c] w K := by
 refine W73_ok ?_
 unfold W73
 have e1 : decide ((48 : Int) ≤ ((c.toNat : Nat) : Int)) = decide (48 ≤ c) := le_nat 48 c
 have e2 : decide (((c.toNat : Nat) : Int) ≤ 57) = decide (c ≤ 57) := le_nat c 57
 simp only [bin_geq,bin_leq,e1,e2]
 unfold isDigit at hK
 generalize decide (48 ≤ c) = a at *
 generalize decide (c ≤ 57) = b at *
 cases a <;> cases b <;>
   (simp only [isB_t,isB_f,isB_u,GdW_f,GdW_pure,cond_true,cond_false,pick_t,pick_f,List.getD_cons_zero,Bool.not_true,Bool.not_false]; intros; exact hK)
theorem callV_fn' {P : Program} {g : FuncId} {args : List Value} {w : World} {K : Value → World → Prop} (h : callF P g args w K) : callV P (.func (.func g) #[] #[]) args w K := callV_cap' (caps := []) (by rw [List.append_nil]; exact h)
theorem name1_p {c : UInt8} {w : World} {K : Value → World → Prop} (hK : K (.bool (isName c)) w) : callF Tryz.prog 72 [cv c] w K := by
 refine W72_ok ?_
 unfold W72
 refine letter_p ?_
 have e5 : decide (((c.toNat : Nat) : Int) = 45) = (c == 45) := eq_nat 45 c
 unfold isName at hK
 simp only [isB_f,bin_eql,e5]
 refine GdW.look (isDigit c) (fun _ J hJ => digit_p hJ) fun g => ?_
 simp only [List.getD_cons_zero]
 rw [pick_gd_or]
 simp only [isB_f,GdW_pure,List.getD_cons_zero]
 intro g2
 rw [pick_gd_or]
 exact hK
theorem name2_p {c : UInt8} {w : World} {K : Value → World → Prop} (hK : K (.bool (isName c)) w) : callF Tryz.prog 99 [cv c] w K := by
 refine W99_ok ?_
 unfold W99
 refine letter_p ?_
 have e5 : decide (((c.toNat : Nat) : Int) = 45) = (c == 45) := eq_nat 45 c
 unfold isName at hK
 simp only [isB_f,bin_eql,e5]
 refine GdW.look (isDigit c) (fun _ J hJ => digit_p hJ) fun g => ?_
 simp only [List.getD_cons_zero]
 rw [pick_gd_or]
 simp only [isB_f,GdW_pure,List.getD_cons_zero]
 intro g2
 rw [pick_gd_or]
 exact hK
theorem line1_p {c : UInt8} {w : World} {K : Value → World → Prop} (hK : K (.bool (c != 10)) w) : callF Tryz.prog 69 [cv c] w K := by
 refine W69_ok ?_
 unfold W69
 rw [bin_neq]
 have e : decide (((c.toNat : Nat) : Int) ≠ 10) = (c != 10) := by
   have e5 : decide (((c.toNat : Nat) : Int) = 10) = (c == 10) := eq_nat 10 c
   rw [bne,← e5,decide_not]
 rw [e]
 exact hK
theorem run_p {q : UInt8 → Bool} {fv : Value} {s : Str} {w : World} {K : Value → World → Prop} (hl : s.length ≤ 1000000) (hq : ∀ c {w : World} {K : Value → World → Prop},K (.bool (q c)) w → callV Tryz.prog fv [cv c] w K) (hK : K (i64 (runM q s : Nat)) w) : callF Tryz.prog 68 [str s,fv] w K := by
 refine W68_ok ?_
 unfold W68
 rw [lens_str]
 refine LoopW.go (fun st w' => ∃ i : Nat,st = [i64 (i : Nat)] ∧ i ≤ s.length ∧ w' = w ∧ i + runM q (s.drop i) = runM q s) (fun st _ => match st with | [.int _ i] => s.length - i.toNat | _ => 0) ⟨0,rfl,by omega,rfl,by simp⟩ ?_
 rintro st g w' ⟨i,rfl,hi,rfl,hr⟩
 simp only [List.getD_cons_zero]
 rw [bin_lss,condW_dec]
 refine ⟨fun hlt => ?_,fun hge => ?_⟩
 · have hlt : i < s.length := by omega
   rw [drop_len hlt] at hr
   simp only [runM] at hr
   refine ixs_i hlt ?_
   refine hq _ ?_
   rw [un_not,condW_b]
   refine ⟨fun hn => ?_,fun hy => ?_⟩
   · rw [if_neg (by simpa using hn),Nat.add_zero] at hr
     rw [hr]; exact hK
   · rw [if_pos (by simpa using hy)] at hr
     rw [bin_add,upi (by omega)]
     refine ⟨⟨i + 1,rfl,by omega,rfl,by omega⟩,?_⟩
     simp only [Int.toNat_natCast]; omega
 · obtain rfl : i = s.length := by omega
   rw [List.drop_length] at hr
   simp only [runM,Nat.add_zero] at hr
   rw [lens_str,hr]; exact hK
theorem indexb_p {l : Str} {c : UInt8} {w : World} {K : Value → World → Prop} (hK : K (i64 (Lib.indexByte l c)) w) : callF Tryz.prog 67 [str l,cv c] w K := by
 refine of_calls (args := #[str l,cv c]) Tryz.call67 ((Tryz.strings_IndexByte (ofL l) (c.toNat : Nat) w).mono ?_)
 rintro e w' ⟨rfl,rfl⟩
 refine ⟨_,rfl,?_⟩
 rw [ofL_data]
 simpa using hK
theorem index2_p {s : Str} {w : World} {K : Value → World → Prop} (hT : TabI w) (hl : s.length ≤ 1000000) (hK : K (i64 (Lib.index s [42,47])) w) : callF Tryz.prog 70 [str s,str [42,47]] w K := by
 obtain ⟨m,hm⟩ := hT
 refine of_calls (args := #[str s,str [42,47]]) Tryz.call70 ((Tryz.strings_Index (ofL s) (ofL [42,47]) m w (by rw [ofL_size]; omega) hm).mono ?_)
 rintro e w' ⟨rfl,rfl⟩
 rw [ofL_data,ofL_data]
 exact ⟨_,rfl,hK⟩
end
end Go.Proofs.YtofhaneggcpdaaaGreatDoor
namespace Go.Proofs.YtofhaneggcpdaaaGreatDoor
open Go Go.Eng Go.RowKit Go.Syn Go.Lex
set_option maxRecDepth 100000
theorem blank3 (c : UInt8) : decide (0 ≤ Lib.indexByte [32,9,13] c) = (c == 32 || c == 9 || c == 13) := by
 have : ∀ m : Fin 256,decide (0 ≤ Lib.indexByte [32,9,13] (UInt8.ofNat m.val)) = (UInt8.ofNat m.val == 32 || UInt8.ofNat m.val == 9 || UInt8.ofNat m.val == 13) := by decide +kernel
 have h := this ⟨c.toNat,UInt8.toNat_lt c⟩
 rwa [UInt8.ofNat_toNat] at h
theorem esc6 (c : UInt8) : decide (Lib.indexByte [34,92,110,116,114,36] c < 0) = !Lex.escOk c := by
 have : ∀ m : Fin 256,decide (Lib.indexByte [34,92,110,116,114,36] (UInt8.ofNat m.val) < 0) = !Lex.escOk (UInt8.ofNat m.val) := by decide +kernel
 have h := this ⟨c.toNat,UInt8.toNat_lt c⟩
 rwa [UInt8.ofNat_toNat] at h
theorem sign19 (c : UInt8) : decide (0 ≤ Lib.indexByte [123,125,91,93,40,41,61,43,45,42,47,37,60,62,33,63,58,44,46] c) = signs1.contains c := by
 have : ∀ m : Fin 256,decide (0 ≤ Lib.indexByte [123,125,91,93,40,41,61,43,45,42,47,37,60,62,33,63,58,44,46] (UInt8.ofNat m.val)) = signs1.contains (UInt8.ofNat m.val) := by decide +kernel
 have h := this ⟨c.toNat,UInt8.toNat_lt c⟩
 rwa [UInt8.ofNat_toNat] at h
theorem skip_step (n : Nat) (c : UInt8) (r : Str) : skipF (n + 1) (c :: r) = (if (c == 32 || c == 9 || c == 13) = true then ((skipF n r).1 + 1,(skipF n r).2) else if (c == 35 || Lib.hasPrefix (c :: r) [47,47]) = true then ((skipF n ((c :: r).drop (runM (fun b => b != 10) (c :: r)))).1 + runM (fun b => b != 10) (c :: r),(skipF n ((c :: r).drop (runM (fun b => b != 10) (c :: r)))).2)
   else if Lib.hasPrefix (c :: r) [47,42] = true then (if Lib.index (r.drop 1) [42,47] < 0 then (0,40) else ((skipF n ((c :: r).drop ((Lib.index (r.drop 1) [42,47]).toNat + 4))).1 + ((Lib.index (r.drop 1) [42,47]).toNat + 4),(skipF n ((c :: r).drop ((Lib.index (r.drop 1) [42,47]).toNat + 4))).2)) else (0,0)) := by
 simp only [skipF,Bool.or_eq_true,beq_iff_eq]
 rfl
theorem runM_pos {q : UInt8 → Bool} {c : UInt8} {r : Str} (h : q c = true) : 1 ≤ runM q (c :: r) := by simp only [runM]; rw [if_pos h]; omega
theorem add_add (i j : Nat) (x : Nat × Int) : addM i (addM j x) = addM (i + j) x := by
 unfold addM
 by_cases h : x.2 = 0
 · simp only [h,if_true]; rw [show x.1 + j + i = x.1 + (i + j) by omega]
 · simp only [if_neg h]
section
variable [HX]
theorem skip_p {s : Str} {w : World} {K : Value → World → Prop} (hT : TabI w) (hl : s.length ≤ 1000000) (hK : K (.tuple #[i64 ((skipF (s.length + 1) s).1 : Nat),i64 (skipF (s.length + 1) s).2]) w) : callF Tryz.prog 37 [str s] w K := by
 refine W37_ok ?_
 unfold W37
 generalize hR : skipF (s.length + 1) s = R0 at hK
 refine LoopW.go (fun st w' => ∃ i n : Nat,st = [i64 (i : Nat)] ∧ i ≤ s.length ∧ w' = w ∧ ((skipF n (s.drop i)).1 + i,(skipF n (s.drop i)).2) = R0 ∧ s.length < n + i) (fun st _ => match st with | [.int _ i] => s.length - i.toNat | _ => 0) ⟨0,s.length + 1,rfl,by omega,rfl,by rw [List.drop_zero,hR]; rfl,by omega⟩ ?_
 rintro st g w' ⟨i,n,rfl,hi,rfl,hr,hn⟩
 obtain ⟨n,rfl⟩ : ∃ m,n = m + 1 := ⟨n - 1,by omega⟩
 simp only [List.getD_cons_zero]
 rw [lens_str,bin_lss,condW_dec]
 refine ⟨fun hlt => ?_,fun hge => ?_⟩
 · have hlt : i < s.length := by omega
   have hd := drop_len hlt
   rw [hd,skip_step] at hr
   rw [sls_str,bd_none,bd_some]
   refine ⟨by omega,by omega,?_⟩
   rw [List.take_length,Int.toNat_natCast]
   refine ixs_i hlt ?_
   refine indexb_p ?_
   rw [bin_geq,blank3,condW_b]
   refine ⟨fun hb => ?_,fun hb => ?_⟩
   · rw [if_pos hb] at hr
     rw [bin_add,upi (by omega)]
     refine ⟨⟨i + 1,n,rfl,by omega,rfl,?_,by omega⟩,?_⟩
     · rw [← hr]; simp only [Prod.mk.injEq,and_true]; omega
     · simp only [Int.toNat_natCast]; omega
   rw [if_neg (by rw [hb]; decide)] at hr
   have hd' := hd
   rw [hd]
   generalize hc : s[i] = c at *
   generalize hrr : s.drop (i + 1) = r at *
   have hrl : (c :: r).length = s.length - i := by rw [← hd,List.length_drop]
   simp only [List.length_cons] at hrl
   refine JoinW.cut (fun st w2 => st = [.bool (c == 35 || Lib.hasPrefix (c :: r) [47,47])] ∧ w2 = w') ?_ ?_
   · refine ixs_i hlt ?_
     rw [hc]
     have e5 : decide (((c.toNat : Nat) : Int) = 35) = (c == 35) := eq_nat 35 c
     rw [bin_eql,e5,condW_b]
     refine ⟨fun h => ⟨by rw [h]; rfl,rfl⟩,fun h => ?_⟩
     refine hasp_p ?_
     exact ⟨by rw [h,Bool.false_or],rfl⟩
   rintro st g2 w2 ⟨rfl,rfl⟩
   simp only [List.getD_cons_zero]
   rw [condW_b]
   refine ⟨fun hcm => ?_,fun hcm => ?_⟩
   · rw [if_pos hcm] at hr
     refine run_p (q := fun b => b != 10) (by simp only [List.length_cons]; omega) (fun c {w K} h => callV_fn' (line1_p h)) ?_
     have hle := run_le (fun b => b != 10) (c :: r)
     have hpos : 1 ≤ runM (fun b => b != 10) (c :: r) := runM_pos (by
       rw [Bool.or_eq_true] at hcm
       rcases hcm with h | h
       · rw [beq_iff_eq] at h; subst h; rfl
       · simp only [Lib.hasPrefix,List.isPrefixOf,Bool.and_eq_true,beq_iff_eq] at h
         rw [← h.1]; rfl)
     simp only [List.length_cons] at hle
     rw [bin_add,wrap_id (by omega) (by omega)]
     generalize runM (fun b => b != 10) (c :: r) = k at *
     refine ⟨⟨i + k,n,by simp only [List.cons.injEq,Value.int.injEq,true_and,and_true]; omega,by omega,rfl,?_,by omega⟩,?_⟩
     · rw [← hr,← drop_drop',hd']; simp only [Prod.mk.injEq,and_true]; omega
     · simp only [Int.toNat_natCast]; omega
   rw [if_neg (by rw [hcm]; decide)] at hr
   refine hasp_p ?_
   rw [condW_b]
   refine ⟨fun hcm2 => ?_,fun hcm2 => ?_⟩
   · rw [if_pos hcm2] at hr
     rw [sls_str,bd_none,bd_some]
     have h2 : 2 ≤ (c :: r).length := pre_len (p := [47,42]) (s := c :: r) hcm2
     simp only [List.length_cons] at h2
     refine ⟨by omega,by simp only [List.length_cons]; omega,?_⟩
     rw [List.take_length]
     show callF Tryz.prog 70 [str (r.drop 1),str [42,47]] w2 _
     refine index2_p hT (by rw [List.length_drop]; omega) ?_
     rw [bin_lss,condW_dec]
     refine ⟨fun hneg => ?_,fun hpos => ?_⟩
     · rw [if_pos hneg] at hr
       rw [← hr,Nat.zero_add] at hK
       exact hK
     · rw [if_neg hpos] at hr
       obtain ⟨j,hj⟩ := Int.eq_ofNat_of_zero_le (show 0 ≤ Lib.index (r.drop 1) [42,47] by omega)
       have hjl := idx_len _ _ hj
       rw [List.length_drop] at hjl
       rw [hj] at hr ⊢
       rw [bin_add,wrap_id (by omega) (by omega),bin_add,wrap_id (by omega) (by omega)]
       rw [Int.toNat_natCast] at hr
       refine ⟨⟨i + (j + 4),n,by simp only [List.cons.injEq,Value.int.injEq,true_and,and_true]; omega,by omega,rfl,?_,by omega⟩,?_⟩
       · rw [← hr,← drop_drop',hd']; simp only [Prod.mk.injEq,and_true]; omega
       · simp only [Int.toNat_natCast]; omega
   · rw [if_neg (by rw [hcm2]; decide),Nat.zero_add] at hr
     rw [← hr] at hK
     exact hK
 · obtain rfl : i = s.length := by omega
   rw [List.drop_length] at hr
   simp only [skipF,Nat.zero_add] at hr
   rw [← hr] at hK
   exact hK
def outV (x : Nat × Int) : List Value := if x.2 = 0 then [i64 ((x.1 + 1 : Nat) : Int),i64 0] else [i64 0,i64 x.2]
def TxC (n : Nat) : Prop := ∀ (c : UInt8) (r : Str) (d : Nat) (w : World) (K : Value → World → Prop),r.length < n → r.length ≤ 1000000 → d ≤ 24 → K (.tuple (outV (textX r d)).toArray) w → callF Tryz.prog 75 [str (c :: r),i64 (d : Nat)] w K
def InC (n : Nat) : Prop := ∀ (c : UInt8) (r : Str) (d : Nat) (w : World) (K : Value → World → Prop),r.length < n → r.length ≤ 1000000 → d ≤ 25 → K (.tuple (outV (if 24 < d then (0,7) else insX r d)).toArray) w → callF Tryz.prog 98 [str (c :: r),i64 (d : Nat)] w K
theorem out_add {i : Nat} {x : Nat × Int} : outV (addM i x) = if x.2 = 0 then [i64 ((i + x.1 + 1 : Nat) : Int),i64 0] else [i64 0,i64 x.2] := by
 unfold outV addM
 by_cases h : x.2 = 0
 · simp only [h,if_true]; rw [show x.1 + i + 1 = i + x.1 + 1 by omega]
 · simp only [if_neg h]
theorem tx_step {n : Nat} (hi : InC n) : TxC (n + 1) := by
 intro c r d w K hn hl hd24 hK
 refine W75_ok ?_
 unfold W75
 have hlen : (c :: r).length = r.length + 1 := rfl
 generalize hR : outV (textX r d) = R0 at hK
 have cond : ∀ {c : UInt8} (k : Nat),k < 256 → (((c.toNat : Nat) : Int) = (k : Int) ↔ c = UInt8.ofNat k) := fun {c} k hk => by
   have := u8_eq c k hk
   rwa [decide_eq_decide] at this
 refine LoopW.go (fun st w' => ∃ i : Nat,st = [i64 ((i + 1 : Nat) : Int)] ∧ w' = w ∧ i ≤ r.length ∧ outV (addM i (textX (r.drop i) d)) = R0) (fun st _ => match st with | [.int _ i] => r.length + 1 - i.toNat | _ => 0) ⟨0,rfl,rfl,by omega,by rw [List.drop_zero,out_add,← hR]; unfold outV; rw [Nat.zero_add]⟩ ?_
 rintro st g w2 ⟨i,rfl,rfl,hi',hr⟩
 simp only [List.getD_cons_zero]
 rw [lens_str,bin_lss,condW_dec,hlen]
 refine ⟨fun hlt => ?_,fun hge => ?_⟩
 · have hlt : i < r.length := by omega
   have hd := drop_len hlt
   rw [hd,textX_cons] at hr
   simp only [beq_iff_eq] at hr
   have ix : ∀ {KK : Value → Prop},KK (cv r[i]) → ixsW (str (c :: r)) (i64 ((i + 1 : Nat) : Int)) KK := fun h => ixs_i (s := c :: r) (i := i + 1) (by rw [hlen]; omega) h
   refine ix ?_
   rw [bin_eql,condW_dec]
   refine ⟨fun e => ?_,fun e => ?_⟩
   · have e : r[i] = 34 := (cond 34 (by omega)).1 e
     rw [if_pos e,out_add,if_pos rfl] at hr
     rw [bin_add,upi (by omega)]
     rw [← hr] at hK
     exact hK
   have e : ¬ r[i] = 34 := fun h => e ((cond 34 (by omega)).2 h)
   rw [if_neg e] at hr
   refine ix ?_
   rw [bin_eql,condW_dec]
   refine ⟨fun e => ?_,fun e => ?_⟩
   · have e : r[i] = 10 := (cond 10 (by omega)).1 e
     rw [if_pos e,out_add,if_neg (by simp)] at hr
     rw [← hr] at hK
     exact hK
   have e : ¬ r[i] = 10 := fun h => e ((cond 10 (by omega)).2 h)
   rw [if_neg e] at hr
   refine ix ?_
   rw [bin_eql,condW_dec]
   refine ⟨fun e => ?_,fun e => ?_⟩
   · have e : r[i] = 92 := (cond 92 (by omega)).1 e
     rw [if_pos e] at hr
     rw [bin_add,upi (by omega),lens_str,bin_geq,hlen]
     simp only [isB_f]
     by_cases hend : r.length ≤ i + 1
     · have e0 : r.drop (i + 1) = [] := List.drop_of_length_le hend
       rw [e0] at hr
       simp only at hr
       rw [out_add,if_neg (by simp)] at hr
       rw [decide_eq_true (by omega),Bool.not_true,GdW_f]
       intro g2
       rw [pick_t,condW_true]
       rw [← hr] at hK
       exact hK
     · have hlt2 : i + 1 < r.length := by omega
       have hd2 := drop_len hlt2
       rw [hd2] at hr
       simp only at hr
       rw [decide_eq_false (by omega),Bool.not_false]
       refine GdW.look (!Lex.escOk r[i + 1]) (fun _ J hJ => ?_) fun g2 => ?_
       · rw [bin_add,upi (by omega)]
         refine ixs_i (s := c :: r) (i := i + 2) (by rw [hlen]; omega) ?_
         refine indexb_p ?_
         rw [bin_lss]
         have := esc6 r[i + 1]
         rw [show (c :: r)[i + 2] = r[i + 1] from rfl,this]
         exact hJ
       simp only [List.getD_cons_zero,cond_true,pick_f]
       rw [condW_b]
       refine ⟨fun hb => ?_,fun hg => ?_⟩
       · have hb : ¬ Lex.escOk r[i + 1] = true := by simpa using hb
         rw [if_neg hb,out_add,if_neg (by simp)] at hr
         rw [← hr] at hK
         exact hK
       · have hg : Lex.escOk r[i + 1] = true := by simpa using hg
         rw [if_pos hg,add_add] at hr
         rw [bin_add,wrap_id (by omega) (by omega)]
         refine ⟨⟨i + 2,by simp only [List.cons.injEq,Value.int.injEq,true_and,and_true]; omega,trivial,by omega,hr⟩,?_⟩
         simp only [Int.toNat_natCast]; omega
   have e : ¬ r[i] = 92 := fun h => e ((cond 92 (by omega)).2 h)
   rw [if_neg e] at hr
   rw [sls_str,bd_none,bd_some]
   refine ⟨by omega,by rw [hlen]; omega,?_⟩
   rw [List.take_length,Int.toNat_natCast,List.drop_succ_cons,hd]
   refine hasp_p ?_
   rw [pre_eq,condW_b]
   refine ⟨fun e => ?_,fun e => ?_⟩
   · rw [if_pos e] at hr
     have h2 := pre_len e
     have hlt2 : i + 1 < r.length := by
       simp only [List.length_cons,List.length_nil,List.length_drop] at h2; omega
     have hd2 := drop_len hlt2
     rw [bin_add,upi (by omega),sls_str,bd_none,bd_some]
     refine ⟨by omega,by rw [hlen]; omega,?_⟩
     rw [List.take_length,Int.toNat_natCast,List.drop_succ_cons,hd2,bin_add,upi (by omega)]
     have hdd : (r.drop (i + 1)).drop 1 = r.drop (i + 2) := by rw [drop_drop']
     rw [hdd] at hr
     have hll : (r.drop (i + 2)).length = r.length - (i + 2) := List.length_drop ..
     refine hi _ _ (d + 1) _ _ (by show (r.drop (i + 2)).length < n; omega) (by show (r.drop (i + 2)).length ≤ _; omega) (by omega) ?_
     have hx' : ∃ x : Nat × Int,x = (if 24 < d + 1 then ((0 : Nat),(7 : Int)) else insX (r.drop (i + 2)) (d + 1)) ∧ outV (addM i (if x.2 = 0 then addM (x.1 + 2) (textX ((r.drop (i + 2)).drop x.1) d) else (0,x.2))) = R0 ∧ (x.2 = 0 → x.1 ≤ (r.drop (i + 2)).length) := by
       refine ⟨_,rfl,?_,?_⟩
       · by_cases h : 24 < d + 1
         · rw [if_pos h] at hr ⊢
           exact hr
         · rw [if_neg h] at hr ⊢
           exact hr
       · by_cases h : 24 < d + 1
         · rw [if_pos h]; intro h; exact absurd h (by simp)
         · rw [if_neg h]
           intro h0
           exact ((ins_bra _ (r.drop (i + 2)) (Nat.le_refl _)).2 (d + 1) _ (Prod.ext rfl h0)).1.2
     obtain ⟨x,ex,hr,hxl⟩ := hx'
     rw [show r.drop (i + 1 + 1) = r.drop (i + 2) from rfl,← ex]
     by_cases h0 : x.2 = 0
     · have eo : outV x = [i64 ((x.1 + 1 : Nat) : Int),i64 0] := by unfold outV; rw [if_pos h0]
       have hxl := hxl h0
       rw [if_pos h0,add_add,drop_drop'] at hr
       rw [eo,ext_tuple]
       refine ⟨i64 ((x.1 + 1 : Nat) : Int),rfl,?_⟩
       rw [ext_tuple]
       refine ⟨i64 0,rfl,?_⟩
       rw [bin_neq,condW_dec]
       refine ⟨fun h => absurd rfl h,fun _ => ?_⟩
       rw [bin_add,wrap_id (by omega) (by omega),bin_add,wrap_id (by omega) (by omega)]
       refine ⟨⟨i + (x.1 + 2),by simp only [List.cons.injEq,Value.int.injEq,true_and,and_true]; omega,rfl,by omega,by rw [show i + (x.1 + 2) = i + 2 + x.1 by omega] at hr ⊢; exact hr⟩,?_⟩
       simp only [Int.toNat_natCast]; omega
     · have eo : outV x = [i64 0,i64 x.2] := by unfold outV; rw [if_neg h0]
       rw [if_neg h0,out_add,if_neg h0] at hr
       rw [eo,ext_tuple]
       refine ⟨i64 0,rfl,?_⟩
       rw [ext_tuple]
       refine ⟨i64 x.2,rfl,?_⟩
       rw [bin_neq,condW_dec]
       refine ⟨fun _ => by rw [← hr] at hK; exact hK,fun h => absurd h0 h⟩
   · rw [if_neg (by rw [e]; decide),add_add] at hr
     rw [bin_add,upi (by omega)]
     refine ⟨⟨i + 1,rfl,rfl,by omega,hr⟩,?_⟩
     simp only [Int.toNat_natCast]; omega
 · obtain rfl : i = r.length := by omega
   rw [List.drop_length,textX_nil,out_add,if_neg (by simp)] at hr
   rw [← hr] at hK
   exact hK
theorem in_step {n : Nat} (hi : InC n) (htx : TxC n) : InC (n + 1) := by
 intro c r d w K hn hl hd25 hK
 refine W98_ok ?_
 unfold W98
 rw [bin_gtr,condW_dec]
 refine ⟨fun h => ?_,fun h => ?_⟩
 · rw [if_pos (by omega)] at hK
   exact hK
 have hd24 : d ≤ 24 := by omega
 rw [if_neg (by omega)] at hK
 have hlen : (c :: r).length = r.length + 1 := rfl
 generalize hR : outV (insX r d) = R0 at hK
 have cond : ∀ {c : UInt8} (k : Nat),k < 256 → (((c.toNat : Nat) : Int) = (k : Int) ↔ c = UInt8.ofNat k) := fun {c} k hk => by
   have := u8_eq c k hk
   rwa [decide_eq_decide] at this
 refine LoopW.go (fun st w' => ∃ i : Nat,st = [i64 ((i + 1 : Nat) : Int)] ∧ w' = w ∧ i ≤ r.length ∧ outV (addM i (insX (r.drop i) d)) = R0) (fun st _ => match st with | [.int _ i] => r.length + 1 - i.toNat | _ => 0) ⟨0,rfl,rfl,by omega,by rw [List.drop_zero,out_add,← hR]; unfold outV; rw [Nat.zero_add]⟩ ?_
 rintro st g w2 ⟨i,rfl,rfl,hi',hr⟩
 simp only [List.getD_cons_zero]
 rw [lens_str,bin_lss,condW_dec,hlen]
 refine ⟨fun hlt => ?_,fun hge => ?_⟩
 · have hlt : i < r.length := by omega
   have hd := drop_len hlt
   rw [hd,insX_cons] at hr
   simp only [beq_iff_eq] at hr
   have hll : (r.drop (i + 1)).length = r.length - (i + 1) := List.length_drop ..
   refine JoinW.cut (fun st w' => w' = w2 ∧ ∃ (k : Nat) (e : Int),st = [i64 (if e = 0 then ((k + 1 : Nat) : Int) else 0),i64 e] ∧ (e = 0 → i + (k + 1) ≤ r.length ∧ outV (addM (i + (k + 1)) (insX (r.drop (i + (k + 1))) d)) = R0) ∧ (e ≠ 0 → [i64 0,i64 e] = R0)) ?_ ?_
   · refine ixs_i (s := c :: r) (i := i + 1) (by rw [hlen]; omega) ?_
     show binW .eql (cv r[i]) _ _
     rw [bin_eql,condW_dec]
     refine ⟨fun e => ?_,fun e => ?_⟩
     · have e : r[i] = 125 := (cond 125 (by omega)).1 e
       rw [if_pos e,out_add,if_pos rfl] at hr
       rw [bin_add,upi (by omega)]
       rw [← hr] at hK
       exact hK
     have e : ¬ r[i] = 125 := fun h => e ((cond 125 (by omega)).2 h)
     rw [if_neg e] at hr
     rw [bin_eql,condW_dec]
     refine ⟨fun e => ?_,fun e => ?_⟩
     · have e : r[i] = 10 := (cond 10 (by omega)).1 e
       rw [if_pos e,out_add,if_neg (by simp)] at hr
       rw [← hr] at hK
       exact hK
     have e : ¬ r[i] = 10 := fun h => e ((cond 10 (by omega)).2 h)
     rw [if_neg e] at hr
     -- one that goes over k bytes behind this one
     have sub : ∀ (x : Nat × Int),outV (addM i (if x.2 = 0 then addM (x.1 + 1) (insX ((r.drop (i + 1)).drop x.1) d) else (0,x.2))) = R0 → (x.2 = 0 → x.1 ≤ (r.drop (i + 1)).length) → extW 0 (.tuple (outV x).toArray) fun t33 => extW 1 (.tuple (outV x).toArray) fun t34 => (fun (st : List Value) (w' : World) => w' = w2 ∧ ∃ (k : Nat) (e : Int),st = [i64 (if e = 0 then ((k + 1 : Nat) : Int) else 0),i64 e] ∧ (e = 0 → i + (k + 1) ≤ r.length ∧ outV (addM (i + (k + 1)) (insX (r.drop (i + (k + 1))) d)) = R0) ∧ (e ≠ 0 → [i64 0,i64 e] = R0)) [t33,t34] w2 := fun x hx hxl => by
       by_cases h0 : x.2 = 0
       · have eo : outV x = [i64 ((x.1 + 1 : Nat) : Int),i64 0] := by unfold outV; rw [if_pos h0]
         have hxl := hxl h0
         rw [if_pos h0,add_add,drop_drop'] at hx
         rw [eo,ext_tuple]
         refine ⟨i64 ((x.1 + 1 : Nat) : Int),rfl,?_⟩
         rw [ext_tuple]
         refine ⟨i64 0,rfl,rfl,x.1,0,by rw [if_pos rfl],fun _ => ⟨by omega,by rw [show i + (x.1 + 1) = i + 1 + x.1 by omega] at hx ⊢; exact hx⟩,fun h => absurd rfl h⟩
       · have eo : outV x = [i64 0,i64 x.2] := by unfold outV; rw [if_neg h0]
         rw [if_neg h0,out_add,if_neg h0] at hx
         rw [eo,ext_tuple]
         refine ⟨i64 0,rfl,?_⟩
         rw [ext_tuple]
         exact ⟨i64 x.2,rfl,rfl,0,x.2,by rw [if_neg h0],fun h => absurd h h0,fun _ => hx⟩
     rw [bin_eql,condW_dec]
     refine ⟨fun e => ?_,fun e => ?_⟩
     · have e : r[i] = 123 := (cond 123 (by omega)).1 e
       rw [if_pos e] at hr
       rw [sls_str,bd_none,bd_some]
       refine ⟨by omega,by rw [hlen]; omega,?_⟩
       rw [List.take_length,Int.toNat_natCast,List.drop_succ_cons,hd,bin_add,upi (by omega)]
       refine hi _ _ (d + 1) _ _ (by omega) (by omega) (by omega) ?_
       refine sub _ ?_ ?_
       · by_cases h : 24 < d + 1
         · rw [if_pos h] at hr ⊢
           exact hr
         · rw [if_neg h] at hr ⊢
           exact hr
       · by_cases h : 24 < d + 1
         · rw [if_pos h]; intro h; exact absurd h (by simp)
         · rw [if_neg h]
           intro h0
           exact ((ins_bra _ (r.drop (i + 1)) (Nat.le_refl _)).2 (d + 1) _ (Prod.ext rfl h0)).1.2
     have e : ¬ r[i] = 123 := fun h => e ((cond 123 (by omega)).2 h)
     rw [if_neg e] at hr
     rw [bin_eql,condW_dec]
     refine ⟨fun e => ?_,fun e => ?_⟩
     · have e : r[i] = 34 := (cond 34 (by omega)).1 e
       rw [if_pos e] at hr
       rw [sls_str,bd_none,bd_some]
       refine ⟨by omega,by rw [hlen]; omega,?_⟩
       rw [List.take_length,Int.toNat_natCast,List.drop_succ_cons,hd]
       refine htx _ _ d _ _ (by omega) (by omega) hd24 ?_
       refine sub _ hr fun h0 => ?_
       exact ((ins_bra _ (r.drop (i + 1)) (Nat.le_refl _)).1 d _ (Prod.ext rfl h0)).2.2
     · have e : ¬ r[i] = 34 := fun h => e ((cond 34 (by omega)).2 h)
       rw [if_neg e,add_add] at hr
       exact ⟨rfl,0,0,rfl,fun _ => ⟨by omega,hr⟩,fun h => absurd rfl h⟩
   rintro st g2 w3 ⟨rfl,k,e,rfl,h1,h2⟩
   simp only [List.getD_cons_zero,List.getD_cons_succ]
   rw [bin_neq,condW_dec]
   refine ⟨fun he => by rw [← h2 he] at hK; exact hK,fun he => ?_⟩
   have he : e = 0 := by
     by_cases h : e = 0
     · exact h
     · exact absurd h he
   obtain ⟨g1,g2⟩ := h1 he
   rw [if_pos he,bin_add,wrap_id (by omega) (by omega)]
   refine ⟨⟨i + (k + 1),by simp only [List.cons.injEq,Value.int.injEq,true_and,and_true]; omega,trivial,g1,g2⟩,?_⟩
   simp only [Int.toNat_natCast]; omega
 · obtain rfl : i = r.length := by omega
   rw [List.drop_length,insX_nil,out_add,if_neg (by simp)] at hr
   rw [← hr] at hK
   exact hK
theorem tx_in : ∀ n,TxC n ∧ InC n
 | 0 => ⟨fun _ _ _ _ _ h => by omega,fun _ _ _ _ _ h => by omega⟩
 | n + 1 => ⟨tx_step (tx_in n).2,in_step (tx_in n).2 (tx_in n).1⟩
theorem ltext_p {c : UInt8} {r : Str} {d : Nat} {w : World} {K : Value → World → Prop} (hl : r.length ≤ 1000000) (hd : d ≤ 24) (hK : K (.tuple (outV (textX r d)).toArray) w) : callF Tryz.prog 75 [str (c :: r),i64 (d : Nat)] w K := (tx_in (r.length + 1)).1 c r d w K (by omega) hl hd hK
end
end Go.Proofs.YtofhaneggcpdaaaGreatDoor
namespace Go.Proofs.YtofhaneggcpdaaaGreatDoor
open Go Go.Eng Go.RowKit Go.Syn Go.Lex
set_option maxRecDepth 100000
theorem pre_one (c d : UInt8) (r : Str) : [d].isPrefixOf (c :: r) = (d == c) := by simp [List.isPrefixOf]
theorem index_run (s : Str) : Lib.index s [10] = if runM (fun b => b != 10) s < s.length then ((runM (fun b => b != 10) s : Nat) : Int) else -1 := by
 induction s with
 | nil => rfl
 | cons c r ih =>
   simp only [Lib.index,pre_one]
   by_cases h : c = 10
   · subst h
     rfl
   · have h1 : ((10 : UInt8) == c) = false := by rw [beq_eq_false_iff_ne]; exact fun e => h e.symm
     have h2 : (c != 10) = true := by simp [h]
     have e2 : runM (fun b => b != 10) (c :: r) = runM (fun b => b != 10) r + 1 := by simp only [runM]; rw [if_pos h2]
     obtain ⟨k,hk0⟩ : ∃ k,k = runM (fun b => b != 10) r := ⟨_,rfl⟩
     have ih' : Lib.index r [10] = if k < r.length then (k : Int) else -1 := by rw [hk0]; exact ih
     rw [h1,if_neg (by decide),ih',e2,← hk0]
     simp only [List.length_cons]
     by_cases hk : k < r.length
     · have e3 : (if k < r.length then (k : Int) else -1) = k := if_pos hk
       have e4 : (if k + 1 < r.length + 1 then ((k + 1 : Nat) : Int) else -1) = ((k + 1 : Nat) : Int) := if_pos (by omega)
       rw [e3,e4,if_neg (by simp only [beq_iff_eq]; omega)]
       rfl
     · have e3 : (if k < r.length then (k : Int) else -1) = -1 := if_neg hk
       have e4 : (if k + 1 < r.length + 1 then ((k + 1 : Nat) : Int) else -1) = -1 := if_neg (by omega)
       rw [e3,e4]
       rfl
theorem cut_run (s : Str) : (Lib.cut s [10]).1 = s.take (runM (fun b => b != 10) s) ∧ (Lib.cut s [10]).2.2 = decide (runM (fun b => b != 10) s < s.length) := by
 have hle := run_le (fun b => b != 10) s
 unfold Lib.cut
 rw [index_run]
 by_cases h : runM (fun b => b != 10) s < s.length
 · rw [if_pos h,if_pos (by omega),Int.toNat_natCast]
   exact ⟨rfl,by simp [h]⟩
 · rw [if_neg h,if_neg (by omega)]
   exact ⟨by rw [List.take_of_length_le (by omega)],by simp [h]⟩
theorem trim_run (l : Str) : Lib.trimLeftS l [32,9] = l.drop (runM (fun b => b == 32 || b == 9) l) := by
 unfold Lib.trimLeftS
 induction l with
 | nil => rfl
 | cons c r ih =>
   simp only [List.dropWhile_cons,runM]
   have e : ([32,9] : Str).contains c = (c == 32 || c == 9) := by simp [List.contains,List.elem]; cases (c == 32) <;> cases (c == 9) <;> rfl
   rw [e]
   by_cases hb : (c == 32 || c == 9) = true
   · rw [if_pos hb,if_pos hb]; exact ih
   · rw [if_neg hb,if_neg hb]; rfl
theorem hereL_app (a b : Str) : hereL (a ++ b) = hereL a ++ hereL b := by
 induction a with
 | nil => rfl
 | cons c r ih =>
   simp only [List.cons_append,hereL]
   (repeat' split) <;> simp only [List.cons_append,ih]
theorem hereL_high {u : Str} (h : ∀ c ∈ u,128 ≤ c.toNat) : hereL u = u := by
 induction u with
 | nil => rfl
 | cons c r ih =>
   have hc := h c List.mem_cons_self
   have n : ∀ k : UInt8,k.toNat < 128 → (c == k) = false := fun k hk => by
     rw [beq_eq_false_iff_ne]
     intro e
     subst e
     omega
   simp only [hereL,n 92 (by decide),n 34 (by decide),n 36 (by decide),n 9 (by decide),n 13 (by decide),Bool.or_self,Bool.false_eq_true,if_false,ih fun x hx => h x (List.mem_cons_of_mem _ hx)]
theorem utf_cons {c : UInt8} {r : Str} (h : Utf (c :: r)) (hc : c.toNat < 128) : Utf r := by
 generalize he : c :: r = z at h
 cases h with
 | nil => cases he
 | @cons u r' hu hr =>
   rcases hu.cases with ⟨x,rfl,_⟩ | hh
   · simp only [List.cons_append,List.nil_append,List.cons.injEq] at he
     rw [he.2]; exact hr
   · cases u with
     | nil => exact absurd rfl hu.1
     | cons y u' =>
       simp only [List.cons_append,List.cons.injEq] at he
       have := hh y List.mem_cons_self
       rw [← he.1] at this
       omega
theorem utf_split {t : Str} (h : Utf t) : ∀ {a b : Str} {c : UInt8},t = a ++ c :: b → c.toNat < 128 → Utf a ∧ Utf (c :: b) := by
 induction h with
 | nil => intro a b c e; simp at e
 | @cons u r hu hr ih =>
   intro a b c e hc
   by_cases hle : u.length ≤ a.length
   · have h1 : a = u ++ a.drop u.length := by
       have := congrArg (List.take u.length) e
       rw [List.take_left,List.take_append_of_le_length hle] at this
       have h2 := List.take_append_drop u.length a
       rw [← this] at h2
       exact h2.symm
     rw [h1,List.append_assoc] at e
     have e := List.append_cancel_left e
     obtain ⟨i1,i2⟩ := ih e hc
     rw [h1]
     exact ⟨.cons hu i1,i2⟩
   · have hmem : c ∈ u := by
       have : (u ++ r)[a.length]? = some c := by rw [e]; simp
       rw [List.getElem?_append_left (by omega)] at this
       exact List.mem_of_getElem? this
     rcases hu.cases with ⟨x,rfl,_⟩ | hh
     · have ha : a = [] := List.eq_nil_of_length_eq_zero (by simp only [List.length_cons,List.length_nil] at hle; omega)
       subst ha
       simp only [List.nil_append] at e
       rw [← e]
       exact ⟨.nil,.cons hu hr⟩
     · have := hh c hmem; omega
theorem utf_drop {t : Str} (h : Utf t) {i : Nat} {c : UInt8} {b : Str} (hd : t.drop i = c :: b) (hc : c.toNat < 128) : Utf (t.take i) ∧ Utf (c :: b) :=
 utf_split h (by rw [← hd,List.take_append_drop]) hc
theorem utf_line {s : Str} (h : Utf s) : Utf (s.take (runM (fun b => b != 10) s)) ∧ (runM (fun b => b != 10) s < s.length → Utf (s.drop (runM (fun b => b != 10) s + 1))) := by
 have stop : ∀ s : Str,∀ b,(s.drop (runM (fun b => b != 10) s)).head? = some b → b = 10 := by
   intro s
   induction s with
   | nil => intro b hb; simp [runM] at hb
   | cons c r ih =>
     intro b hb
     simp only [runM] at hb
     by_cases hc : (c != 10) = true
     · rw [if_pos hc,List.drop_succ_cons] at hb; exact ih b hb
     · rw [if_neg hc] at hb
       simp only [List.drop_zero,List.head?_cons,Option.some.injEq] at hb
       rw [← hb]; simpa using hc
 by_cases hk : runM (fun b => b != 10) s < s.length
 · have hd := drop_len hk
   have h10 := stop s s[runM (fun b => b != 10) s] (by rw [hd]; rfl)
   obtain ⟨h1,h2⟩ := utf_drop h hd (by rw [h10]; decide)
   exact ⟨h1,fun _ => utf_cons h2 (by rw [h10]; decide)⟩
 · exact ⟨by rw [List.take_of_length_le (by omega)]; exact h,fun e => absurd e hk⟩
theorem TabI.ext {w w' : World} (h : TabI w) (hx : Ext w w') : TabI w' := by
 obtain ⟨m,h⟩ := h
 refine ⟨m,?_⟩
 rw [cell_eq] at h ⊢
 cases hh : w.heap[0]? with
 | none => rw [hh] at h; cases h
 | some o => rw [hx.at hh id]; rw [hh] at h; exact h
section
variable [HX]
theorem lrange_str {l : Str} {w : World} {K : Value → World → Prop} (hK : K (.pointer (some ⟨w.heap.size,0,none⟩)) (w.alloc (.stringIter (ofL l) 0))) : semE Tryz.prog (Instr.range 9 (str l)) w K := by
 have hT : Tryz.prog.underlying 9 = some .string := by kernel_rfl
 have hr : (Instr.range 9 (str l)).run Tryz.prog w = .ok (.pointer (some ⟨w.heap.size,0,none⟩)) (w.alloc (.stringIter (ofL l) 0)) := by
   simp [Instr.range,run_bind,run_underlying' hT,run_pure,newObj,Sem.run]
 unfold semE
 rw [hr]
 exact hK
theorem lset_chg {w : World} {r : Nat} {o : Obj} (h : r < w.heap.size) : Chg (· = r) w { w with heap := w.heap.setIfInBounds r o } :=
 ⟨rfl,rfl,rfl,by simp,fun k _ hk => by
   show (w.heap.setIfInBounds r o)[k]? = _
   rw [Array.getElem?_setIfInBounds_ne (by omega)]⟩
theorem lnext_str {r pos : Nat} {l : Str} {T : TypeId} {w : World} {K : Value → World → Prop} (hw : w.heap[r]? = some (.stringIter (ofL l) pos))
   (h0 : l.length ≤ pos → K (.tuple #[.bool false]) w)
   (h1 : pos < l.length → ∀ w',w'.heap[r]? = some (.stringIter (ofL l) (pos + (Utf8.decode (ofL l) pos).2)) → Chg (· = r) w w' → w'.heap.size = w.heap.size → K (.tuple #[.bool true,i64 pos,.int .i32 (Utf8.decode (ofL l) pos).1]) w') :
   semE Tryz.prog (Instr.next (.pointer (some ⟨r,0,none⟩)) true T) w K := by
 have hg : (getObj r).run Tryz.prog w = .ok (.stringIter (ofL l) pos) w := by simp [getObj,Sem.run,hw]
 have hlt : r < w.heap.size := (Array.getElem?_eq_some_iff.1 hw).1
 unfold semE
 simp only [Instr.next,run_bind,hg,ofL_size]
 by_cases hp : pos < l.length
 · have hset : (setObj r (.stringIter (ofL l) (pos + (Utf8.decode (ofL l) pos).2))).run Tryz.prog w = .ok () { w with heap := w.heap.setIfInBounds r (.stringIter (ofL l) (pos + (Utf8.decode (ofL l) pos).2)) } := by simp [setObj,Sem.run,hw]
   rw [if_pos hp]
   simp only [run_bind,hset,run_pure]
   exact h1 hp _ (by simp [hlt]) (lset_chg hlt) (by simp)
 · rw [if_neg hp]
   simp only [run_pure]
   exact h0 (by omega)
theorem sign_ref {c : UInt8} {r : Str} {w : World} {K : Value → World → Prop} (hl : r.length ≤ 1000000) (hK : K (str (signM (c :: r))) w) : callF Tryz.prog 77 [str (c :: r)] w K := by
 refine W77_ok ?_
 unfold W77
 unfold signM at hK
 refine JoinW.cut (fun _ w' => w' = w ∧ signs2.contains ((c :: r).take 2) = false) ?_ ?_
 · rw [lens_str,bin_gtr,condW_dec]
   refine ⟨fun hlen => ?_,fun hlen => ⟨rfl,?_⟩⟩
   · rw [sls_str,bd_some]
     refine ⟨by omega,by omega,?_⟩
     rw [bd_none,List.drop_zero]
     rw [show (c :: r).take (Int.toNat 2) = (c :: r).take 2 from rfl]
     generalize hx : (c :: r).take 2 = x at hK ⊢
     refine JoinW.cut (fun st w' => st = [.bool (signs2.contains x)] ∧ w' = w) ?_ ?_
     · unfold signs2
       simp only [List.contains_cons,List.contains_nil,Bool.or_false]
       have eqd : ∀ y : Str,decide (x = y) = (x == y) := fun y => by rw [Bool.eq_iff_iff]; simp
       simp only [bin_seq,eqd]
       generalize (x == [61,61]) = a1
       generalize (x == [33,61]) = a2
       generalize (x == [60,61]) = a3
       generalize (x == [62,61]) = a4
       generalize (x == [38,38]) = a5
       generalize (x == [124,124]) = a6
       cases a1 <;> simp only [condW_true,condW_false,Bool.true_or,Bool.false_or,and_self]
       cases a2 <;> simp only [condW_true,condW_false,Bool.true_or,Bool.false_or,and_self]
       cases a3 <;> simp only [condW_true,condW_false,Bool.true_or,Bool.false_or,and_self]
       cases a4 <;> simp only [condW_true,condW_false,Bool.true_or,Bool.false_or,and_self]
       cases a5 <;> simp only [condW_true,condW_false,Bool.true_or,Bool.false_or,and_self]
     rintro st g w' ⟨rfl,rfl⟩
     simp only [List.getD_cons_zero]
     rw [condW_b]
     refine ⟨fun hy => ?_,fun hn => ⟨trivial,hn⟩⟩
     rw [if_pos hy] at hK
     rw [sls_str,bd_some]
     refine ⟨by omega,by omega,?_⟩
     rw [bd_none,List.drop_zero]
     show K (str ((c :: r).take 2)) w'
     rw [hx]
     exact hK
   · have : r = [] := List.eq_nil_of_length_eq_zero (by simp only [List.length_cons] at hlen; omega)
     subst this
     simp [signs2]
 rintro _ g w' ⟨rfl,hn⟩
 rw [if_neg (by rw [hn]; decide)] at hK
 refine ixs_i (s := c :: r) (i := 0) (by simp) ?_
 show callF Tryz.prog 67 [_,cv c] w' _
 refine indexb_p ?_
 rw [bin_geq,sign19,condW_b]
 have hK : K (str (if signs1.contains c = true then (c :: r).take 1 else [])) w' := hK
 refine ⟨fun hy => ?_,fun hy => ?_⟩
 · rw [if_pos hy] at hK
   rw [sls_str,bd_some]
   refine ⟨by omega,by simp only [List.length_cons]; omega,?_⟩
   rw [bd_none,List.drop_zero]
   exact hK
 · rw [if_neg (by rw [hy]; decide)] at hK
   exact hK
theorem cutl_p {t : Str} {w : World} {K : Value → World → Prop} (hT : TabI w) (hl : t.length ≤ 1000000) (hK : ∀ x w',Ext w w' → K (.tuple #[str (t.take (runM (fun b => b != 10) t)),x,.bool (decide (runM (fun b => b != 10) t < t.length))]) w') : callF Tryz.prog 100 [str t,str [10]] w K := by
 obtain ⟨m,hm⟩ := hT
 refine of_calls (args := #[str t,str [10]]) Tryz.call100 ((Tryz.strings_Cut (ofL t) (ofL [10]) m w (by rw [ofL_size]; omega) hm).mono ?_)
 rintro e w' ⟨rfl,n,rfl⟩
 obtain ⟨h1,h2⟩ := cut_run t
 rw [ofL_data,ofL_data]
 refine ⟨_,rfl,?_⟩
 rw [show (⟨(Lib.cut t [10]).1.toArray⟩ : ByteArray) = ofL (t.take (runM (fun b => b != 10) t)) from by rw [h1]; rfl,h2]
 refine hK _ _ ?_
 exact ⟨rfl,rfl,rfl,Nat.le_refl _,fun _ _ _ => rfl⟩
theorem triml_p {t : Str} {w : World} {K : Value → World → Prop} (hl : t.length ≤ 1000000) (hK : ∀ w',Ext w w' → K (str (t.drop (runM (fun b => b == 32 || b == 9) t))) w') : callF Tryz.prog 101 [str t,str [32,9]] w K := by
 refine of_calls (args := #[str t,str [32,9]]) Tryz.call101 ((Tryz.strings_TrimLeft_laid (ofL t) (ofL [32,9]) w (by rw [ofL_size]; decide) (fun j b hb => ?_)).mono ?_)
 · rw [ofL_data] at hb
   have := List.mem_of_getElem? hb
   simp only [List.mem_cons,List.not_mem_nil,or_false] at this
   rcases this with rfl | rfl <;> decide
 rintro e w' ⟨rfl,hb⟩
 rw [ofL_data,ofL_data,trim_run]
 exact ⟨_,rfl,hK w' (Chg.of_below hb)⟩
end
end Go.Proofs.YtofhaneggcpdaaaGreatDoor
namespace Go.Proofs.YtofhaneggcpdaaaGreatDoor
open Go Go.Eng Go.RowKit Go.Syn Go.Lex
set_option maxRecDepth 100000
theorem hereL_len (s : Str) : (hereL s).length ≤ 2 * s.length := by
 induction s with
 | nil => simp [hereL]
 | cons c r ih => simp only [hereL]; (repeat' split) <;> simp only [List.length_cons] <;> omega
def hereR (c : Nat) : Str × Nat := if c = 92 ∨ c = 34 ∨ c = 36 then ([92],c) else if c = 9 then ([92],116) else if c = 13 then ([92],114) else ([],c)
theorem hereR_one (x : UInt8) (h : wrM x.toNat = [x]) : hereL [x] = (hereR x.toNat).1 ++ wrM (hereR x.toNat).2 := by
 have e : ∀ k : UInt8,(x == k) = decide (x.toNat = k.toNat) := fun k => by
   rw [Bool.eq_iff_iff,beq_iff_eq,decide_eq_true_iff,UInt8.toNat_inj]
 simp only [hereL,e]
 unfold hereR
 by_cases h1 : x.toNat = 92 ∨ x.toNat = 34 ∨ x.toNat = 36
 · rw [if_pos (by simp only [Bool.or_eq_true,decide_eq_true_iff]; rcases h1 with h | h | h; exact .inl (.inl h); exact .inl (.inr h); exact .inr h),if_pos h1]
   show _ = [92] ++ wrM x.toNat
   rw [h]; rfl
 rw [if_neg (by simp only [Bool.or_eq_true,decide_eq_true_iff]; rintro ((h | h) | h); exact h1 (.inl h); exact h1 (.inr (.inl h)); exact h1 (.inr (.inr h))),if_neg h1]
 by_cases h2 : x.toNat = 9
 · rw [if_pos (by simpa using h2),if_pos h2]; rfl
 rw [if_neg (by simpa using h2),if_neg h2]
 by_cases h3 : x.toNat = 13
 · rw [if_pos (by simpa using h3),if_pos h3]; rfl
 rw [if_neg (by simpa using h3),if_neg h3]
 exact h.symm
theorem hereR_high {c : Nat} (h : 128 ≤ c) : hereR c = ([],c) := by
 unfold hereR
 rw [if_neg (by omega),if_neg (by omega),if_neg (by omega)]
theorem hereR_ok {c : Nat} (h : c < 55296 ∨ 57343 < c ∧ c ≤ 1114111) : (hereR c).2 < 55296 ∨ 57343 < (hereR c).2 ∧ (hereR c).2 ≤ 1114111 := by
 unfold hereR
 (repeat' split) <;> (dsimp only; omega)
theorem hereR_len (c : Nat) : (hereR c).1.length ≤ 1 := by unfold hereR; (repeat' split) <;> simp
def hfin (l : Str) (at_ : Nat) (x : Str × Nat × Int) : Str × Nat × Int := if x.2.2 = 0 then (l ++ x.1,x.2.1 + at_,0) else ([],0,x.2.2)
theorem hfin_hfin (l m : Str) (a b : Nat) (x : Str × Nat × Int) : hfin l a (if x.2.2 = 0 then (m ++ x.1,x.2.1 + b,0) else ([],0,x.2.2)) = hfin (l ++ m) (a + b) x := by
 unfold hfin
 by_cases h : x.2.2 = 0
 · simp only [h,if_true,List.append_assoc]; rw [show x.2.1 + b + a = x.2.1 + (a + b) by omega]
 · simp only [if_neg h]
theorem here_step (n : Nat) (name s : Str) : hereF (n + 1) name s = (if (s.take (runM (fun b => b != 10) s)).drop (runM (fun b => b == 32 || b == 9) (s.take (runM (fun b => b != 10) s))) = name then ([],runM (fun b => b != 10) s,0) else if s.length ≤ runM (fun b => b != 10) s then ([],0,40) else
 (if (hereF n name (s.drop (runM (fun b => b != 10) s + 1))).2.2 = 0 then (hereL (s.take (runM (fun b => b != 10) s)) ++ [92,110] ++ (hereF n name (s.drop (runM (fun b => b != 10) s + 1))).1,(hereF n name (s.drop (runM (fun b => b != 10) s + 1))).2.1 + (runM (fun b => b != 10) s + 1),0) else ([],0,(hereF n name (s.drop (runM (fun b => b != 10) s + 1))).2.2))) := rfl
section
variable [HX]
theorem heredoc_p {s : Str} {w : World} {K : Value → World → Prop} (hT : TabI w) (hU : Utf s) (hl : s.length ≤ 1000000) (h2 : 2 ≤ s.length)
   (hK : ∀ w',Ext w w' → K (.tuple #[str (heredocM s).1,i64 ((heredocM s).2.1 : Nat),i64 (heredocM s).2.2]) w') : callF Tryz.prog 76 [str s] w K := by
 refine W76_ok ?_
 unfold W76
 unfold heredocM at hK
 dsimp only at hK
 generalize hn : (if isLetter ((s.drop 2).headD 0) then runM isName (s.drop 2) else 0) = n at hK
 have hnl : n + 2 ≤ s.length := by
   have := run_le isName (s.drop 2)
   rw [List.length_drop] at this
   rw [← hn]; split <;> omega
 refine JoinW.cut (fun st w' => st = [i64 (n : Nat)] ∧ w' = w) ?_ ?_
 · rw [lens_str,bin_gtr]
   refine GdW.look (isLetter ((s.drop 2).headD 0)) (fun hg J hJ => ?_) fun g => ?_
   · rw [isB_t,decide_eq_true_iff] at hg
     have hlt : 2 < s.length := by omega
     refine ixs_i (i := 2) hlt ?_
     refine letter_p ?_
     rw [drop_len hlt] at hJ
     exact hJ
   · simp only [List.getD_cons_zero,isB_t]
     rw [pick_gd_and,condW_b]
     refine ⟨fun hy => ?_,fun hno => ?_⟩
     · rw [Bool.and_eq_true] at hy
       rw [if_pos hy.2] at hn
       rw [sls_str,bd_none,bd_some]
       refine ⟨by omega,by omega,?_⟩
       rw [List.take_length]
       show callF Tryz.prog 68 [str (s.drop 2),_] w _
       refine run_p (q := isName) (by rw [List.length_drop]; omega) (fun c {w K} h => callV_fn' (name2_p h)) ?_
       rw [hn]
       exact ⟨rfl,rfl⟩
     · have : n = 0 := by
         rw [← hn]
         by_cases hlet : isLetter ((s.drop 2).headD 0) = true
         · rw [hlet,Bool.and_true,decide_eq_false_iff_not] at hno
           rw [if_pos hlet,List.drop_eq_nil_of_le (by omega)]; rfl
         · rw [if_neg hlet]
       rw [this]
       exact ⟨rfl,trivial⟩
 rintro st g w' ⟨rfl,rfl⟩
 simp only [List.getD_cons_zero]
 rw [bin_add,wrap_id (by omega) (by omega)]
 rw [sls_str,bd_some,bd_some]
 refine ⟨by omega,by omega,by omega,by omega,?_⟩
 have hnm : (s.take (Int.toNat (2 + (n : Nat)))).drop (Int.toNat 2) = (s.drop 2).take n := by
   rw [show Int.toNat (2 + (n : Nat)) = 2 + n by omega,show Int.toNat 2 = 2 from rfl,List.drop_take]
   rw [show 2 + n - 2 = n by omega]
 rw [hnm,bin_add,wrap_id (by omega) (by omega),show (2 + (n : Nat) : Int) = ((2 + n : Nat) : Int) by omega]
 generalize (s.drop 2).take n = nm at *
 rw [bin_eql]
 simp only [isB_f]
 refine GdW.look (decide (s.length ≤ 2 + n)) (fun _ J hJ => ?_) fun g1 => ?_
 · rw [lens_str,bin_geq,show decide (((s.length : Nat) : Int) ≤ ((2 + n : Nat) : Int)) = decide (s.length ≤ 2 + n) by rw [decide_eq_decide]; omega]
   exact hJ
 simp only [List.getD_cons_zero]
 rw [pick_gd_or]
 simp only [isB_f]
 refine GdW.look (decide ((s.drop (2 + n)).head? ≠ some 10)) (fun hg J hJ => ?_) fun g2 => ?_
 · have hlt : 2 + n < s.length := by
     simp only [Bool.not_eq_true',Bool.or_eq_false_iff,decide_eq_false_iff_not] at hg
     omega
   refine ixs_i hlt ?_
   have e5 : decide (((s[2 + n].toNat : Nat) : Int) = 10) = (s[2 + n] == 10) := eq_nat 10 _
   rw [bin_neq]
   rw [drop_len hlt] at hJ
   have : decide (((s[2 + n].toNat : Nat) : Int) ≠ 10) = decide ((s[2 + n] :: s.drop (2 + n + 1)).head? ≠ some 10) := by
     have e6 : ∀ (c : UInt8) (r : Str),(c == 10) = decide ((c :: r).head? = some 10) := fun c r => by rw [Bool.eq_iff_iff]; simp
     rw [decide_not,e5,decide_not,e6 _ (s.drop (2 + n + 1))]
   rw [this]
   exact hJ
 simp only [List.getD_cons_zero]
 rw [pick_gd_or,condW_b]
 refine ⟨fun hbad => ?_,fun hok => ?_⟩
 · have hb : n = 0 ∨ ¬ (s.drop (2 + n)).head? = some 10 := by
     simp only [Bool.or_eq_true,decide_eq_true_iff] at hbad
     rcases hbad with (h | h) | h
     · exact .inl (by omega)
     · right; rw [List.drop_eq_nil_of_le (by omega)]; simp
     · exact .inr h
   have hK := hK w' (Chg.refl _ _)
   rcases hb with h | h
   · rw [if_pos h] at hK; exact hK
   · rw [if_neg h] at hK
     split at hK <;> exact hK
 simp only [Bool.or_eq_false_iff,decide_eq_false_iff_not,ne_eq,Decidable.not_not] at hok
 obtain ⟨⟨hn0,hlt⟩,h10⟩ := hok
 have hlt : 2 + n < s.length := by omega
 rw [if_neg (by omega),if_pos h10] at hK
 rw [bin_add,upi (by omega)]
 have hUs : Utf (s.drop (2 + n + 1)) := by
   have hd := drop_len hlt
   rw [hd] at h10
   simp only [List.head?_cons,Option.some.injEq] at h10
   exact utf_cons (utf_drop hU hd (by rw [h10]; decide)).2 (by rw [h10]; decide)
 generalize hR : hereF (s.length + 1) nm (s.drop (2 + n + 1)) = X at hK
 have hR2 : hfin [] (2 + n + 1) X = if X.2.2 = 0 then (X.1,X.2.1 + (2 + n + 1),0) else ([],0,X.2.2) := by unfold hfin; rw [List.nil_append]
 rw [← hR2] at hK
 refine bnew (B := w'.heap.size) (Nat.le_refl _) fun b w1 hb h1 hx1 => ?_
 generalize hR0 : hfin [] (2 + n + 1) X = R0 at hK
 refine LoopW.go (fun st w2 => ∃ (i m : Nat) (l : Str),st = [i64 (i : Nat)] ∧ i ≤ s.length ∧ Utf (s.drop i) ∧ Bld w2 w'.heap.size b l ∧ Ext w' w2 ∧ l.length ≤ 2 * i ∧ hfin l i (hereF m nm (s.drop i)) = R0 ∧ s.length < m + i) (fun st _ => match st with | [.int _ i] => s.length + 1 - i.toNat | _ => 0) ⟨2 + n + 1,s.length + 1,[],rfl,by omega,hUs,h1,hx1,by simp,by rw [hR,hR0],by omega⟩ ?_
 rintro st g3 w2 ⟨i,m,l,rfl,hi,hu,hB,hx,hll,hr,hm⟩
 obtain ⟨m,rfl⟩ : ∃ k,m = k + 1 := ⟨m - 1,by omega⟩
 rw [here_step] at hr
 simp only [List.getD_cons_zero]
 rw [sls_str,bd_none,bd_some]
 refine ⟨by omega,by omega,?_⟩
 rw [List.take_length,Int.toNat_natCast]
 have hsl : (s.drop i).length = s.length - i := List.length_drop
 refine cutl_p (hT.ext hx) (by omega) fun x w3 hx3 => ?_
 rw [ext_tuple]; refine ⟨_,rfl,?_⟩
 rw [ext_tuple]; refine ⟨_,rfl,?_⟩
 rw [ext_tuple]; refine ⟨_,rfl,?_⟩
 obtain ⟨ul,ur⟩ := utf_line hu
 have hkl := run_le (fun b => b != 10) (s.drop i)
 have htk : ((s.drop i).take (runM (fun b => b != 10) (s.drop i))).length = runM (fun b => b != 10) (s.drop i) := by rw [List.length_take]; omega
 generalize runM (fun b => b != 10) (s.drop i) = k at *
 generalize hln : (s.drop i).take k = ln at *
 refine triml_p (by omega) fun w4 hx4 => ?_
 have hx' : Ext w' w4 := (hx.trans hx3).trans hx4
 have hB4 : Bld w4 w'.heap.size b l := (hB.ext hx3).ext hx4
 rw [bin_seq,condW_dec]
 refine ⟨fun hy => ?_,fun hno => ?_⟩
 · rw [if_pos hy] at hr
   refine bstring_p hB4 hx'.size fun w5 hc5 => ?_
   rw [lens_str,bin_add,wrap_id (by omega) (by omega)]
   have hfx : Ext w' w5 := hx'.then hc5 fun k hk e => by omega
   have hK := hK w5 hfx
   rw [← hr] at hK
   simp only [hfin,if_true,List.append_nil] at hK
   rw [show (i : Int) + (ln.length : Nat) = ((k + i : Nat) : Int) by omega]
   exact hK
 rw [if_neg hno] at hr
 rw [un_not,condW_b]
 refine ⟨fun hend => ?_,fun hmore => ?_⟩
 · rw [if_pos (by simpa using hend)] at hr
   have hK := hK w4 hx'
   rw [← hr] at hK
   exact hK
 have hk : k < (s.drop i).length := by simpa using hmore
 rw [if_neg (by omega)] at hr
 rw [hfin_hfin] at hr
 have hun := ur hk
 clear ur
 have hlk : (s.drop i).length = s.length - i := List.length_drop
 refine lrange_str ?_
 have hz4 := hx'.size
 have hbb := hB4.lt
 refine LoopW.go (fun st w5 => ∃ p,p ≤ ln.length ∧ st = [] ∧ Utf (ln.drop p) ∧ w5.heap[w4.heap.size]? = some (.stringIter (ofL ln) p) ∧ Bld w5 w'.heap.size b (l ++ hereL (ln.take p)) ∧ Ext w' w5)
   (fun _ w5 => match w5.heap[w4.heap.size]? with | some (.stringIter _ p) => ln.length - p | _ => 0)
   ⟨0,Nat.zero_le _,rfl,by rw [List.drop_zero]; exact ul,heap_anew _ _ _ rfl,by rw [List.take_zero]; show Bld _ _ _ (l ++ []); rw [List.append_nil]; exact hB4.ext (Chg.alloc (Chg.refl _ _) _),hx'.trans (Chg.alloc (Chg.refl _ _) _)⟩ ?_
 rintro st g4 w5 ⟨p,hp,rfl,hup,hit,hB5,hx5⟩
 have hz5 := hx5.size
 have hl5 : (l ++ hereL (ln.take p)).length ≤ 2 * i + 2 * k := by
   have := hereL_len (ln.take p)
   have : (ln.take p).length ≤ k := by rw [List.length_take]; omega
   rw [List.length_append]; omega
 refine lnext_str hit (fun hpe => ?_) (fun hpl w6 hit6 hc6 hz6 => ?_)
 · rw [ext_tuple]
   refine ⟨.bool false,rfl,?_⟩
   rw [condW_false]
   obtain rfl : p = ln.length := by omega
   rw [List.take_length] at hB5 hl5
   refine wstr_p hB5 hz5 (by simp only [List.length_cons,List.length_nil]; omega) fun v w6 h6 hc6 => ?_
   have hx6 : Ext w' w6 := BCh.new hx5 (Nat.le_refl _) (by omega) hc6
   rw [lens_str,bin_add,wrap_id (by omega) (by omega),bin_add,wrap_id (by omega) (by omega)]
   have hgl := hereL_len ln
   refine ⟨⟨i + (k + 1),m,l ++ hereL ln ++ [92,110],by simp only [List.cons.injEq,Value.int.injEq,true_and,and_true]; omega,by omega,?_,h6,hx6,?_,?_,by omega⟩,?_⟩
   · rw [← drop_drop']; exact hun
   · simp only [List.length_append,List.length_cons,List.length_nil]; omega
   · rw [← hr,drop_drop',List.append_assoc]
   · simp only [Int.toNat_natCast]; omega
 · have hne : ln.drop p ≠ [] := fun e => by have := List.drop_eq_nil_iff.1 e; omega
   obtain ⟨u,r,hru,hur,hdr⟩ : ∃ u r,Rn u ∧ Utf r ∧ ln.drop p = u ++ r := by
     cases hd : ln.drop p with
     | nil => exact absurd hd hne
     | cons x y =>
       rw [hd] at hup
       generalize he : x :: y = z at hup
       cases hup with
       | nil => cases he
       | cons h1 h2 => exact ⟨_,_,h1,h2,rfl⟩
   have hrm : runeM ln p = u.length := hru.at hdr
   have huz := hru.pos
   obtain ⟨c,hc⟩ := rune_good hpl (by omega)
   rw [hrm] at hc
   have htk2 : (ln.drop p).take u.length = u := by rw [hdr,List.take_left]
   have hnext : ln.take (p + u.length) = ln.take p ++ u := by rw [List.take_add,htk2]
   have hdr2 : ln.drop (p + u.length) = r := drop_app hdr
   have hdec := hc.dec
   have hct := hc.top
   have hcv := hc.val
   have hcu : wrM c = u := by rw [← wr_enc (by omega),hc.bytes,htk2]
   rw [hdec] at hit6
   have hfit := hc.fits
   have hB6 : Bld w6 w'.heap.size b (l ++ hereL (ln.take p)) := hB5.chg hc6 (fun e => by have := e; omega) fun k hk e => by
     obtain ⟨_,c',hc'⟩ := hk
     have e : k = w4.heap.size := e
     rw [e,hit] at hc'; cases hc'
   have hx6 : Ext w' w6 := hx5.then hc6 fun k hk e => by omega
   have hu2 : hereL u = (hereR c).1 ++ wrM (hereR c).2 := by
     rcases hru.cases with ⟨x,hx,hxl⟩ | hh
     · subst hx
       have hcx : c = x.toNat := by
         have := (hc.low rfl).1
         rw [this]
         have e := byteM_in hpl
         rw [Go.Eng.byte_at (show ln.drop p = x :: r from hdr)] at e
         omega
       subst hcx
       exact hereR_one x hcu
     · have hc128 : 128 ≤ c := by
         have hb0 := byte_pref (j := 0) hdr huz
         have h128 := hh u[0] (List.getElem_mem ..)
         rw [Nat.add_zero,byteM_in hpl] at hb0
         by_cases h1 : u.length = 1
         · have := hc.low h1; omega
         · exact (hc.high (by omega)).1
       rw [hereR_high hc128,hereL_high hh,hcu]; rfl
   have hok := hereR_ok (c := c) (by omega)
   have hl1 := hereR_len c
   rw [ext_tuple]
   refine ⟨.bool true,rfl,?_⟩
   rw [condW_true,ext_tuple]
   refine ⟨.int .i32 (c : Int),by rw [hdec]; rfl,?_⟩
   refine JoinW.cut (fun st w7 => st = [.int .i32 ((hereR c).2 : Nat)] ∧ Bld w7 w'.heap.size b (l ++ hereL (ln.take p) ++ (hereR c).1) ∧ w7.heap[w4.heap.size]? = some (.stringIter (ofL ln) (p + u.length)) ∧ Ext w' w7) ?_ ?_
   · have wr : ∀ (x : Nat) (w7 : World),hereR c = ([92],x) → Bld w7 w'.heap.size b (l ++ hereL (ln.take p) ++ [92]) → Chg (BCh w6 w'.heap.size b) w6 w7 → [Value.int .i32 (x : Int)] = [.int .i32 ((hereR c).2 : Nat)] ∧ Bld w7 w'.heap.size b (l ++ hereL (ln.take p) ++ (hereR c).1) ∧ w7.heap[w4.heap.size]? = some (.stringIter (ofL ln) (p + u.length)) ∧ Ext w' w7 := by
       intro x w7 e h7 hc7
       rw [e]
       exact ⟨rfl,h7,BCh.iter hc7 hit6 (by omega),BCh.new hx6 (Nat.le_refl _) (by omega) hc7⟩
     refine JoinW.cut (fun st w7 => st = [.bool (decide (c = 92 ∨ c = 34 ∨ c = 36))] ∧ w7 = w6) ?_ ?_
     · rw [bin_eql,condW_dec]
       refine ⟨fun h => ?_,fun h => ?_⟩
       · rw [decide_eq_true h,decide_eq_true (.inl (by omega))]; exact ⟨rfl,rfl⟩
       rw [bin_eql,condW_dec]
       refine ⟨fun h' => ?_,fun h' => ?_⟩
       · rw [decide_eq_true h',decide_eq_true (.inr (.inl (by omega)))]; exact ⟨rfl,rfl⟩
       rw [bin_eql]
       rw [show decide (((c : Nat) : Int) = 36) = decide (c = 92 ∨ c = 34 ∨ c = 36) by rw [decide_eq_decide]; omega]
       exact ⟨rfl,rfl⟩
     rintro st g5 w7 ⟨rfl,rfl⟩
     simp only [List.getD_cons_zero]
     rw [condW_dec]
     refine ⟨fun h => ?_,fun h => ?_⟩
     · refine wbyte_p (n := 92) hB6 (by omega) (by omega) (by omega) fun w8 h8 hc8 => ?_
       exact wr c w8 (by unfold hereR; rw [if_pos h]) h8 hc8
     rw [bin_eql,condW_dec]
     refine ⟨fun h' => ?_,fun h' => ?_⟩
     · refine wbyte_p (n := 92) hB6 (by omega) (by omega) (by omega) fun w8 h8 hc8 => ?_
       exact wr 116 w8 (by unfold hereR; rw [if_neg h,if_pos (by omega)]) h8 hc8
     rw [bin_eql,condW_dec]
     refine ⟨fun h'' => ?_,fun h'' => ?_⟩
     · refine wbyte_p (n := 92) hB6 (by omega) (by omega) (by omega) fun w8 h8 hc8 => ?_
       exact wr 114 w8 (by unfold hereR; rw [if_neg h,if_neg (by omega),if_pos (by omega)]) h8 hc8
     have e : hereR c = ([],c) := by unfold hereR; rw [if_neg h,if_neg (by omega),if_neg (by omega)]
     rw [e,List.append_nil]
     exact ⟨rfl,hB6,hit6,hx6⟩
   rintro st g5 w7 ⟨rfl,hB7,hit7,hx7⟩
   simp only [List.getD_cons_zero]
   have hz7 := hx7.size
   refine wrune_p hB7 hz7 (by rw [List.length_append]; omega) hok fun v w8 h8 hc8 => ?_
   have hit8 := BCh.iter hc8 hit7 (by omega)
   refine ⟨⟨p + u.length,hfit,trivial,by rw [hdr2]; exact hur,hit8,?_,BCh.new hx7 (Nat.le_refl _) (by omega) hc8⟩,?_⟩
   · rw [hnext,hereL_app,hu2,← List.append_assoc,← List.append_assoc]; exact h8
   · rw [hit8,hit]
     show ln.length - (p + u.length) < ln.length - p
     omega
end
end Go.Proofs.YtofhaneggcpdaaaGreatDoor
namespace Go.Proofs.YtofhaneggcpdaaaGreatDoor
open Go Go.Eng Go.RowKit Go.Syn Go.Lex
set_option maxRecDepth 100000
theorem textX_fits {r : Str} {d : Nat} (h : (textX r d).2 = 0) : 1 ≤ (textX r d).1 ∧ (textX r d).1 ≤ r.length := by
 exact ((ins_bra _ r (Nat.le_refl _)).1 d _ (Prod.ext rfl h)).2
theorem one_cons (c : UInt8) (r : Str) : oneM (c :: r) =
 (if (c == 10) = true then (⟨5,[10],0⟩,1,0)
 else if isLetter c = true then (⟨1,(c :: r).take (runM isName (c :: r)),0⟩,runM isName (c :: r),if 32 < runM isName (c :: r) then 3 else 0)
 else if isDigit c = true then
   (⟨2,(c :: r).take (runM isDigit (c :: r)),0⟩,runM isDigit (c :: r),if ((runM isDigit (c :: r) < (c :: r).length && isLetter (((c :: r).drop (runM isDigit (c :: r))).headD 0)) || (c == 48 && 1 < runM isDigit (c :: r))) = true then 40 else if Num.goodN ((c :: r).take (runM isDigit (c :: r))) = true then 0 else 3)
 else if (c == 34) = true then
   (if (textF ((c :: r).length + 1) r 0).2 = 0 then (⟨3,r.take ((textF ((c :: r).length + 1) r 0).1 - 1),0⟩,(textF ((c :: r).length + 1) r 0).1 + 1,0) else (⟨0,[],0⟩,0,(textF ((c :: r).length + 1) r 0).2))
 else if preM [60,60] (c :: r) = true then (⟨3,(heredocM (c :: r)).1,0⟩,(heredocM (c :: r)).2.1,(heredocM (c :: r)).2.2)
 else (⟨4,signM (c :: r),0⟩,(signM (c :: r)).length,if (signM (c :: r)).length = 0 then 40 else 0)) := rfl
section
variable [HX]
theorem one_p {c : UInt8} {r : Str} {w : World} {K : Value → World → Prop} (hT : TabI w) (hU : Utf (c :: r)) (hl : r.length ≤ 100000)
   (hK : ∀ w',Ext w w' → K (.tuple #[.agg (tokc (oneM (c :: r)).1).toArray,i64 ((oneM (c :: r)).2.1 : Nat),i64 (oneM (c :: r)).2.2]) w') : callF Tryz.prog 38 [str (c :: r)] w K := by
 refine W38_ok ?_
 unfold W38
 have hlen : (c :: r).length = r.length + 1 := rfl
 refine alloc_new fun a w1 ha hz1 hab1 hx1 => ?_
 refine alloc_new fun b w2 hb hz2 hbb2 hx2 => ?_
 have hx02 := hx1.trans hx2
 have hab2 := hx2.at hab1 id
 have cond : ∀ (k : Nat),k < 256 → (((c.toNat : Nat) : Int) = (k : Int) ↔ c = UInt8.ofNat k) := fun k hk => by
   have := u8_eq c k hk
   rwa [decide_eq_decide] at this
 generalize ho : oneM (c :: r) = o at hK
 rw [one_cons] at ho
 refine JoinW.cut (fun st w' => st = [i64 o.2.2,i64 (o.2.1 : Nat)] ∧ Ext w w' ∧ w'.heap[a]? = some (.cells [i64 0,str [],i64 0].toArray TkT (0,0)) ∧ w'.heap[b]? = some (.cells (tokc o.1).toArray TkT (0,0))) ?_ ?_
 · -- a token laid in b at a later world
   have put : ∀ {w3 : World} {t : Tok} {old : List Value} {K' : World → Prop},Ext w w3 → w3.heap[a]? = some (.cells [i64 0,str [],i64 0].toArray TkT (0,0)) → w3.heap[b]? = some (.cells old.toArray TkT (0,0)) → old.length = 3 →
       (∀ w4,Ext w w4 → w4.heap[a]? = some (.cells [i64 0,str [],i64 0].toArray TkT (0,0)) → w4.heap[b]? = some (.cells (tokc t).toArray TkT (0,0)) → K' w4) → stW 3 (.pointer (some ⟨b,0,none⟩)) (.agg (tokc t).toArray) w3 K' := by
     intro w3 t old K' hx ha3 hb3 ho3 h
     refine st_agg_at hb3 rfl ho3 rfl fun w4 hz4 hb4 hc4 => ?_
     exact h w4 (hx.new hc4 (by omega)) (hc4.at ha3 (by omega)) hb4
   refine ixs_i (i := 0) (by rw [hlen]; omega) ?_
   simp only [List.getElem_cons_zero]
   rw [bin_eql,condW_dec]
   refine ⟨fun e => ?_,fun e => ?_⟩
   · have e : c = 10 := (cond 10 (by omega)).1 e
     subst e
     simp only [beq_self_eq_true,if_true] at ho
     subst ho
     simp only [put_int,put_str,List.length_cons,List.length_nil,List.set_cons_zero,List.set_cons_succ,Nat.reduceAdd,Nat.reduceLT,true_and,Nat.zero_lt_succ]
     refine st_agg_at (l := [i64 5,str [10],i64 0]) hab2 rfl rfl rfl fun w3 hz3 hab3 hc3 => ?_
     refine ld_all hab3 rfl ?_
     exact hK w3 (hx02.new hc3 (by omega))
   have e : ¬ (c == 10) = true := fun h => e ((cond 10 (by omega)).2 (by simpa using h))
   rw [if_neg e] at ho
   refine letter_p ?_
   rw [condW_b]
   refine ⟨fun hy => ?_,fun hno => ?_⟩
   · rw [if_pos hy] at ho
     refine run_p (q := isName) (by rw [hlen]; omega) (fun c {w K} h => callV_fn' (name1_p h)) ?_
     have hle := run_le isName (c :: r)
     rw [hlen] at hle
     generalize runM isName (c :: r) = n at *
     rw [sls_str,bd_some]
     refine ⟨by omega,by rw [hlen]; omega,?_⟩
     rw [bd_none,List.drop_zero,Int.toNat_natCast]
     simp only [put_int,put_str,List.length_cons,List.length_nil,List.set_cons_zero,List.set_cons_succ,Nat.reduceAdd,Nat.reduceLT,true_and,Nat.zero_lt_succ]
     refine put (t := ⟨1,(c :: r).take n,0⟩) hx02 hab2 hbb2 rfl fun w4 hx4 ha4 hb4 => ?_
     rw [bin_gtr,condW_dec]
     subst ho
     refine ⟨fun h => ?_,fun h => ?_⟩
     · exact ⟨by rw [if_pos (by omega)],hx4,ha4,hb4⟩
     · exact ⟨by rw [if_neg (by omega)],hx4,ha4,hb4⟩
   rw [if_neg (by rw [hno]; decide)] at ho
   refine digit_p ?_
   rw [condW_b]
   refine ⟨fun hy => ?_,fun hno => ?_⟩
   · rw [if_pos hy] at ho
     refine run_p (q := isDigit) (by rw [hlen]; omega) (fun c {w K} h => callV_fn' (digit_p h)) ?_
     have hle := run_le isDigit (c :: r)
     rw [hlen] at hle
     generalize runM isDigit (c :: r) = n at *
     rw [sls_str,bd_some]
     refine ⟨by omega,by rw [hlen]; omega,?_⟩
     rw [bd_none,List.drop_zero,Int.toNat_natCast]
     simp only [put_int,put_str,List.length_cons,List.length_nil,List.set_cons_zero,List.set_cons_succ,Nat.reduceAdd,Nat.reduceLT,true_and,Nat.zero_lt_succ]
     refine put (t := ⟨2,(c :: r).take n,0⟩) hx02 hab2 hbb2 rfl fun w4 hx4 ha4 hb4 => ?_
     refine JoinW.cut (fun st w' => st = [.bool ((n < (c :: r).length && isLetter (((c :: r).drop n).headD 0)) || (c == 48 && 1 < n))] ∧ w' = w4) ?_ ?_
     · rw [lens_str,bin_lss,show decide (((n : Nat) : Int) < (((c :: r).length : Nat) : Int)) = decide (n < (c :: r).length) by rw [decide_eq_decide]; omega]
       simp only [isB_t]
       refine GdW.look (isLetter (((c :: r).drop n).headD 0)) (fun hg J hJ => ?_) fun g => ?_
       · have hlt : n < (c :: r).length := by simpa using hg
         refine ixs_i hlt ?_
         refine letter_p ?_
         rw [drop_len hlt] at hJ
         exact hJ
       simp only [List.getD_cons_zero]
       rw [pick_gd_and,condW_b]
       refine ⟨fun h => by rw [h,Bool.true_or]; exact ⟨rfl,trivial⟩,fun h => ?_⟩
       have e5 : decide (((c.toNat : Nat) : Int) = 48) = (c == 48) := eq_nat 48 c
       rw [bin_eql,e5]
       simp only [isB_t,bin_gtr,GdW_pure,List.getD_cons_zero]
       intro g2
       rw [pick_gd_and,h,Bool.false_or]
       refine ⟨?_,trivial⟩
       rw [show decide ((1 : Int) < ((n : Nat) : Int)) = decide (1 < n) by rw [decide_eq_decide]; omega]
     rintro st g w5 ⟨rfl,rfl⟩
     simp only [List.getD_cons_zero]
     rw [condW_b]
     refine ⟨fun h => ?_,fun h => ?_⟩
     · rw [if_pos h] at ho
       subst ho
       exact ⟨rfl,hx4,ha4,hb4⟩
     rw [if_neg (by rw [h]; decide)] at ho
     rw [fld_ptr,ld_one]
     refine ⟨str ((c :: r).take n),by rw [add_mk,cell_eq,hb4]; rfl,?_⟩
     refine numgood_ref (by have : ((c :: r).take n).length ≤ n := (by rw [List.length_take]; omega); omega) fun w6 hx6 => ?_
     rw [un_not,condW_b]
     subst ho
     refine ⟨fun h => ?_,fun h => ?_⟩
     · exact ⟨by rw [if_neg (by simpa using h)],hx4.trans hx6,hx6.at ha4 id,hx6.at hb4 id⟩
     · exact ⟨by rw [if_pos (by simpa using h)],hx4.trans hx6,hx6.at ha4 id,hx6.at hb4 id⟩
   rw [if_neg (by rw [hno]; decide)] at ho
   rw [bin_eql,condW_dec]
   refine ⟨fun e => ?_,fun e => ?_⟩
   · have e : c = 34 := (cond 34 (by omega)).1 e
     rw [if_pos (by rw [e]; rfl),textF_x (by omega)] at ho
     refine ltext_p (d := 0) (by omega) (by omega) ?_
     by_cases h0 : (textX r 0).2 = 0
     · rw [if_pos h0] at ho
       have hf := textX_fits h0
       unfold outV
       rw [if_pos h0,ext_tuple]
       refine ⟨_,rfl,?_⟩
       rw [ext_tuple]
       refine ⟨_,rfl,?_⟩
       rw [bin_eql,condW_dec]
       refine ⟨fun _ => ?_,fun h => absurd rfl h⟩
       rw [bin_sub,wrap_id (by omega) (by omega),sls_str,bd_some,bd_some]
       refine ⟨by omega,by rw [hlen]; omega,by omega,by omega,?_⟩
       have et : ((c :: r).take (Int.toNat (((textX r 0).1 + 1 : Nat) - 1))).drop (Int.toNat 1) = r.take ((textX r 0).1 - 1) := by
         rw [show Int.toNat ((((textX r 0).1 + 1 : Nat) : Int) - 1) = ((textX r 0).1 - 1) + 1 by omega]
         rfl
       rw [et]
       simp only [put_int,put_str,List.length_cons,List.length_nil,List.set_cons_zero,List.set_cons_succ,Nat.reduceAdd,Nat.reduceLT,true_and,Nat.zero_lt_succ]
       refine put (t := ⟨3,r.take ((textX r 0).1 - 1),0⟩) hx02 hab2 hbb2 rfl fun w4 hx4 ha4 hb4 => ?_
       subst ho
       exact ⟨rfl,hx4,ha4,hb4⟩
     · rw [if_neg h0] at ho
       unfold outV
       rw [if_neg h0,ext_tuple]
       refine ⟨_,rfl,?_⟩
       rw [ext_tuple]
       refine ⟨_,rfl,?_⟩
       rw [bin_eql,condW_dec]
       refine ⟨fun h => absurd h h0,fun h => ?_⟩
       subst ho
       exact ⟨rfl,hx02,hab2,hbb2⟩
   have e : ¬ (c == 34) = true := fun h => e ((cond 34 (by omega)).2 (by simpa using h))
   rw [if_neg e] at ho
   refine hasp_p ?_
   rw [condW_b]
   refine ⟨fun hy => ?_,fun hno => ?_⟩
   · rw [if_pos (show preM [60,60] (c :: r) = true from hy)] at ho
     have h2 : 2 ≤ (c :: r).length := pre_len (p := [60,60]) (s := c :: r) hy
     rw [fld_ptr,add_mk,Nat.zero_add]
     refine st_at hbb2 rfl (by simp) fun w3 hz3 hb3 hc3 => ?_
     have hx3 := hx02.new hc3 (by omega)
     have ha3 := hc3.at hab2 (by omega)
     refine heredoc_p (hT.ext hx3) hU (by rw [hlen]; omega) h2 fun w4 hx4 => ?_
     rw [ext_tuple]; refine ⟨_,rfl,?_⟩
     rw [ext_tuple]; refine ⟨_,rfl,?_⟩
     rw [ext_tuple]; refine ⟨_,rfl,?_⟩
     have hb4 := hx4.at hb3 id
     rw [fld_ptr,add_mk,Nat.zero_add]
     refine st_at hb4 rfl (by simp) fun w5 hz5 hb5 hc5 => ?_
     subst ho
     exact ⟨rfl,(hx3.trans hx4).new hc5 (by omega),hc5.at (hx4.at ha3 id) (by omega),by rw [hb5]; simp [tokc]⟩
   · rw [if_neg (show ¬ preM [60,60] (c :: r) = true from by rw [show preM [60,60] (c :: r) = false from hno]; decide)] at ho
     refine sign_ref (by omega) ?_
     simp only [put_int,put_str,List.length_cons,List.length_nil,List.set_cons_zero,List.set_cons_succ,Nat.reduceAdd,Nat.reduceLT,true_and,Nat.zero_lt_succ]
     refine put (t := ⟨4,signM (c :: r),0⟩) hx02 hab2 hbb2 rfl fun w4 hx4 ha4 hb4 => ?_
     rw [fld_ptr,ld_one]
     refine ⟨str (signM (c :: r)),by rw [add_mk,cell_eq,hb4]; rfl,?_⟩
     rw [lens_str,bin_eql,condW_dec]
     subst ho
     refine ⟨fun h => ?_,fun h => ?_⟩
     · exact ⟨by rw [if_pos (by omega)],hx4,ha4,hb4⟩
     · exact ⟨by rw [if_neg (by omega)],hx4,ha4,hb4⟩
 rintro st g w3 ⟨rfl,hx3,ha3,hb3⟩
 refine ld_all hb3 rfl ?_
 refine st_agg_at (l := tokc o.1) ha3 rfl rfl rfl fun w4 hz4 ha4 hc4 => ?_
 refine ld_all ha4 rfl ?_
 exact hK w4 (hx3.new hc4 (by omega))
end
end Go.Proofs.YtofhaneggcpdaaaGreatDoor
namespace Go.Proofs.YtofhaneggcpdaaaGreatDoor
open Go Go.Eng Go.RowKit Go.Syn Go.Lex
set_option maxRecDepth 100000
theorem utf_at {s : Str} {k : Nat} (h : Utf s) (hc : ∀ c,(s.drop k).head? = some c → c.toNat < 128) : Utf (s.drop k) := by
 cases hd : s.drop k with
 | nil => exact .nil
 | cons c b => exact (utf_drop h hd (hc c (by rw [hd]; rfl))).2
theorem utf_past {s : Str} {k : Nat} {c : UInt8} (h : Utf s) (hk : s[k]? = some c) (hc : c.toNat < 128) : Utf (s.drop (k + 1)) := by
 obtain ⟨hlt,e⟩ := List.getElem?_eq_some_iff.1 hk
 have hd := drop_len hlt
 rw [e] at hd
 exact utf_cons (utf_drop h hd hc).2 hc
theorem run_stop (q : UInt8 → Bool) : ∀ (s : Str) (b : UInt8),(s.drop (runM q s)).head? = some b → q b = false
 | [],b,h => by simp [runM] at h
 | c :: r,b,h => by
   simp only [runM] at h
   by_cases hc : q c = true
   · rw [if_pos hc,List.drop_succ_cons] at h; exact run_stop q r b h
   · rw [if_neg hc] at h
     simp only [List.drop_zero,List.head?_cons,Option.some.injEq] at h
     rw [← h]; simpa using hc
theorem run_last (q : UInt8 → Bool) : ∀ (s : Str) (k : Nat),runM q s = k + 1 → ∃ c,s[k]? = some c ∧ q c = true
 | [],k,h => by simp [runM] at h
 | c :: r,k,h => by
   simp only [runM] at h
   by_cases hc : q c = true
   · rw [if_pos hc] at h
     cases k with
     | zero => exact ⟨c,rfl,hc⟩
     | succ k =>
       obtain ⟨x,h1,h2⟩ := run_last q r k (by omega)
       exact ⟨x,by simpa using h1,h2⟩
   · rw [if_neg hc] at h; omega
theorem idx_end : ∀ (s : Str) (i : Nat),Lib.index s [42,47] = (i : Int) → s[i + 1]? = some 47
 | [],i,h => by
   unfold Lib.index at h
   simp at h
 | b :: l,i,h => by
   unfold Lib.index at h
   split at h
   · rename_i hp
     have hi : i = 0 := by omega
     subst hi
     cases l with
     | nil => simp [List.isPrefixOf] at hp
     | cons c l =>
       simp only [List.isPrefixOf,Bool.and_eq_true,beq_iff_eq,Bool.and_true] at hp
       simp [hp.2]
   · split at h
     · omega
     · rename_i hq
       have h1 : Lib.index l [42,47] ≠ -1 := by simpa using hq
       have hg := Lib.index_ge l [42,47]
       have := idx_end l (i - 1) (by omega)
       have hi : 1 ≤ i := by omega
       rw [show i - 1 + 1 = i by omega] at this
       simpa using this
theorem utf_line2 {s : Str} (h : Utf s) : Utf (s.drop (runM (fun b => b != 10) s)) :=
 utf_at h fun c hc => by
   have := run_stop _ _ _ hc
   have : c = 10 := by simpa using this
   subst this; decide
theorem skip_utf : ∀ (n : Nat) (s : Str),Utf s → Utf (s.drop (skipF n s).1)
 | 0,s,h => by simpa [skipF] using h
 | n + 1,[],h => by simpa [skipF] using h
 | n + 1,c :: r,h => by
   rw [skip_step]
   split
   · rename_i hb
     have hc : c.toNat < 128 := by
       simp only [Bool.or_eq_true,beq_iff_eq] at hb
       rcases hb with (rfl | rfl) | rfl <;> decide
     rw [List.drop_succ_cons]
     exact skip_utf n r (utf_cons h hc)
   split
   · have := skip_utf n _ (utf_line2 h)
     rw [drop_drop'] at this
     rw [Nat.add_comm]; exact this
   split
   · rename_i hp
     split
     · simpa using h
     · rename_i hn
       obtain ⟨j,hj⟩ := Int.eq_ofNat_of_zero_le (show 0 ≤ Lib.index (r.drop 1) [42,47] by omega)
       have he := idx_end _ _ hj
       have hu : Utf ((c :: r).drop ((Lib.index (r.drop 1) [42,47]).toNat + 4)) := by
         rw [hj,Int.toNat_natCast]
         refine utf_past (k := j + 3) (c := 47) h ?_ (by decide)
         rw [List.getElem?_drop] at he
         rw [List.getElem?_cons_succ,← he]
         congr 1; omega
       have := skip_utf n _ hu
       rw [drop_drop'] at this
       rw [Nat.add_comm]; exact this
   · simpa using h
theorem hereF_stop : ∀ (n : Nat) (name s : Str) (c : UInt8),(hereF n name s).2.2 = 0 → (s.drop (hereF n name s).2.1).head? = some c → c = 10
 | 0,_,_,_,h,_ => by simp [hereF] at h
 | n + 1,name,s,c,h,hc => by
   rw [here_step] at h hc
   split at h
   · rename_i h1
     rw [if_pos h1] at hc
     have := run_stop _ _ _ hc
     simpa using this
   rename_i h1
   rw [if_neg h1] at hc
   split at h
   · cases h
   rename_i h2
   rw [if_neg h2] at hc
   split at h
   · rename_i h3
     rw [if_pos h3] at hc
     refine hereF_stop n name _ c h3 ?_
     rw [drop_drop']
     rw [show runM (fun b => b != 10) s + 1 + (hereF n name (s.drop (runM (fun b => b != 10) s + 1))).2.1 = (hereF n name (s.drop (runM (fun b => b != 10) s + 1))).2.1 + (runM (fun b => b != 10) s + 1) by omega]
     exact hc
   · rename_i h3; exact absurd h h3
theorem heredoc_stop {s : Str} {c : UInt8} (h : (heredocM s).2.2 = 0) (hc : (s.drop (heredocM s).2.1).head? = some c) : c = 10 := by
 unfold heredocM at h hc
 simp only at h hc
 generalize (if isLetter ((s.drop 2).headD 0) = true then runM isName (s.drop 2) else 0) = n at h hc
 split at h
 · cases h
 rename_i h1
 rw [if_neg h1] at hc
 split at h
 · rename_i h2
   rw [if_pos h2] at hc
   split at h
   · rename_i h3
     rw [if_pos h3] at hc
     refine hereF_stop _ _ _ c h3 ?_
     rw [drop_drop',Nat.add_comm]
     exact hc
   · rename_i h3; exact absurd h h3
 · cases h
theorem name_low {c : UInt8} (h : isName c = true) : c.toNat < 128 := by
 have : ∀ m : Fin 256,isName (UInt8.ofNat m.val) = true → (UInt8.ofNat m.val).toNat < 128 := by decide +kernel
 have h' := this ⟨c.toNat,UInt8.toNat_lt c⟩
 rw [UInt8.ofNat_toNat] at h'
 exact h' h
theorem digit_low {c : UInt8} (h : isDigit c = true) : c.toNat < 128 := name_low (by unfold isName; rw [h]; simp)
theorem sign_low {c : UInt8} (h : signs1.contains c = true) : c.toNat < 128 := by
 have : ∀ m : Fin 256,signs1.contains (UInt8.ofNat m.val) = true → (UInt8.ofNat m.val).toNat < 128 := by decide +kernel
 have h' := this ⟨c.toNat,UInt8.toNat_lt c⟩
 rw [UInt8.ofNat_toNat] at h'
 exact h' h
theorem sign2_low {x : Str} (h : signs2.contains x = true) : x.length = 2 ∧ ∃ c,x[1]? = some c ∧ c.toNat < 128 := by
 have : x ∈ signs2 := by simpa using h
 simp only [signs2,List.mem_cons,List.not_mem_nil,or_false] at this
 rcases this with rfl | rfl | rfl | rfl | rfl | rfl <;> exact ⟨rfl,_,rfl,by decide⟩
theorem one_utf {c : UInt8} {r : Str} (h : Utf (c :: r)) (h0 : (oneM (c :: r)).2.2 = 0) : Utf ((c :: r).drop (oneM (c :: r)).2.1) := by
 have run : ∀ q : UInt8 → Bool,(∀ c,q c = true → c.toNat < 128) → Utf ((c :: r).drop (runM q (c :: r))) := fun q hq => by
   cases hk : runM q (c :: r) with
   | zero => exact h
   | succ k =>
     obtain ⟨x,h1,h2⟩ := run_last q _ _ hk
     exact utf_past h h1 (hq x h2)
 rw [one_cons] at h0 ⊢
 split
 · rename_i e
   have e : c = 10 := by simpa using e
   exact utf_cons h (by rw [e]; decide)
 rename_i n1
 rw [if_neg n1] at h0
 split
 · exact run _ fun c => name_low
 rename_i n2
 rw [if_neg n2] at h0
 split
 · exact run _ fun c => digit_low
 rename_i n3
 rw [if_neg n3] at h0
 split
 · rename_i e
   rw [if_pos e] at h0
   split
   · rename_i h1
     rw [textF_x (by simp only [List.length_cons]; omega)] at h1 ⊢
     have hf := textX_fits h1
     have he := text_end _ r 0 _ (Nat.le_refl _) (Prod.ext rfl h1 : textX r 0 = ((textX r 0).1,0))
     refine utf_past (c := 34) h ?_ (by decide)
     rw [show (textX r 0).1 = (textX r 0).1 - 1 + 1 by omega,List.getElem?_cons_succ]
     exact he
   · rename_i h1
     rw [if_neg h1] at h0
     exact absurd h0 h1
 rename_i n4
 rw [if_neg n4] at h0
 split
 · rename_i h1
   rw [if_pos h1] at h0
   exact utf_at h fun x hx => by rw [heredoc_stop h0 hx]; decide
 rename_i n5
 rw [if_neg n5] at h0
 show Utf ((c :: r).drop (signM (c :: r)).length)
 unfold signM
 split
 · rename_i h1
   obtain ⟨e1,x,e2,e3⟩ := sign2_low h1
   rw [e1]
   refine utf_past (k := 1) (c := x) h ?_ e3
   rw [← e2,List.getElem?_take_of_lt (by omega)]
 split
 · rename_i h1
   exact utf_cons h (sign_low h1)
 · exact h
theorem badF_utf {s : Str} : ∀ (n i : Nat),s.length < n + i → badF n s i = none → Utf (s.drop i)
 | 0,i,hl,_ => by rw [List.drop_of_length_le (by omega)]; exact .nil
 | n + 1,i,hl,h => by
   rw [badF] at h
   split at h
   · rename_i hi; rw [List.drop_of_length_le hi]; exact .nil
   split at h
   · cases h
   · rename_i hi h0
     have hs : stepM s i = runeM s i := by unfold stepM; omega
     rw [hs] at h
     have := Utf.cons (Rn.of h0) (badF_utf n (i + runeM s i) (by omega) h)
     rwa [← List.drop_drop,List.take_append_drop] at this
theorem bad_pref {s : Str} {i : Nat} (h : runeM s i = 0) : Lib.hasPrefix (s.drop i) [239,191,189] = false := by
 rw [Bool.eq_false_iff]
 intro hp
 obtain ⟨r,hr⟩ := List.isPrefixOf_iff_prefix.1 hp
 have hn : Rn [239,191,189] := ⟨by decide,by decide⟩
 have := hn.at hr.symm
 rw [h] at this
 cases this
theorem good_pref {s : Str} {i n : Nat} (h : RuneAt s i n 65533) : Lib.hasPrefix (s.drop i) [239,191,189] = true := by
 have hb := h.bytes
 refine List.isPrefixOf_iff_prefix.2 ?_
 have e : Lib.encodeRune ((65533 : Nat) : Int) = [239,191,189] := by decide
 rw [e] at hb
 rw [hb]
 exact List.take_prefix _ _
end Go.Proofs.YtofhaneggcpdaaaGreatDoor
namespace Go.Proofs.YtofhaneggcpdaaaGreatDoor
open Go Go.Eng Go.RowKit Go.Syn Go.Lex
set_option maxRecDepth 100000
def sfin (acc : List Tok) : RS → RS
 | .ok l => .ok (acc ++ l)
 | .bad c a => .bad c a
theorem sfin_sfin (acc : List Tok) (t : Tok) (x : RS) : sfin acc (match x with | .ok l => .ok (t :: l) | x => x) = sfin (acc ++ [t]) x := by
 cases x <;> simp [sfin]
theorem toks_app (a : List Tok) (t : Tok) : toks (a ++ [t]) = toks a ++ tokc t := by simp [toks,tokc]
section
variable [HX]
theorem scan_p : ScanP := by
 intro w K s hT hl hok hbad
 refine W17_ok ?_
 unfold W17
 rw [lens_str,bin_gtr,condW_dec]
 unfold scanM at hok hbad
 -- what is wrong is handed back in a block of its own
 have bad : ∀ {w1 : World} (c : Int) (i : Nat) {K' : Value → World → Prop},(∀ d w',Ext w w' → w.heap.size ≤ d → w'.heap[d]? = some (.cells [i64 c,str [],i64 (i : Nat)].toArray 48 (0,0)) → K (.tuple #[.slice none 0 0,.pointer (some ⟨d,0,none⟩)]) w') → Ext w w1 →
     boxW 48 (.agg [i64 c,str [],i64 (i : Nat)].toArray) w1 fun t16 w2 => K (.tuple #[.slice none 0 0,t16]) w2 := by
   intro w1 c i _ h hx
   refine box_new (z := [i64 c,str [],i64 (i : Nat)]) fun d w2 hd hz hdb hx2 => ?_
   have := hx.size
   exact h d w2 (hx.trans hx2) (by omega) hdb
 refine ⟨fun h => ?_,fun h => ?_⟩
 · rw [if_pos (by omega)] at hbad
   simp only [put_int,put_str,List.length_cons,List.length_nil,List.set_cons_zero,List.set_cons_succ,Nat.reduceAdd,Nat.reduceLT,true_and,Nat.zero_lt_succ]
   exact bad (K' := K) 3 0 (fun d w' => hbad 3 0 rfl d w') (Chg.refl _ _)
 have hls : s.length ≤ 16384 := by omega
 rw [if_neg (by omega)] at hok hbad
 generalize hB : badF (s.length + 1) s 0 = Bd at hok hbad
 refine lrange_str ?_
 refine LoopW.go (fun st w5 => ∃ p m,p ≤ s.length ∧ st = [] ∧ w5.heap[w.heap.size]? = some (.stringIter (ofL s) p) ∧ Ext w w5 ∧ badF m s p = Bd ∧ s.length < m + p)
   (fun _ w5 => match w5.heap[w.heap.size]? with | some (.stringIter _ p) => s.length - p | _ => 0)
   ⟨0,s.length + 1,Nat.zero_le _,rfl,heap_anew _ _ _ rfl,Chg.alloc (Chg.refl _ _) _,hB,by omega⟩ ?_
 rintro st g w5 ⟨p,m,hp,rfl,hit,hx5,hbf,hm⟩
 obtain ⟨m,rfl⟩ : ∃ k,m = k + 1 := ⟨m - 1,by omega⟩
 rw [badF] at hbf
 have hz5 := hx5.size
 refine lnext_str hit (fun hpe => ?_) (fun hpl w6 hit6 hc6 hz6 => ?_)
 · -- it is UTF-8
   rw [ext_tuple]
   refine ⟨.bool false,rfl,?_⟩
   rw [condW_false]
   rw [if_pos hpe] at hbf
   subst hbf
   simp only at hok hbad
   have hU : Utf s := by
     have := badF_utf (s := s) (s.length + 1) 0 (by omega) hB
     rwa [List.drop_zero] at this
   generalize hR : scanF (s.length + 1) s 0 0 = R0 at hok hbad
   refine LoopW.go (fun st w7 => ∃ (i m : Nat) (acc : List Tok) (v : Value),st = [v,i64 (i : Nat)] ∧ i ≤ s.length ∧ Utf (s.drop i) ∧ Ext w w7 ∧ Own w7 w.heap.size TkT 3 v acc.length (toks acc) ∧ sfin acc (scanF m (s.drop i) i acc.length) = R0 ∧ s.length < m + i ∧ acc.length ≤ 4096)
     (fun st _ => match st with | [_,.int _ i] => s.length - i.toNat | _ => 0)
     ⟨0,s.length + 1,[],_,rfl,Nat.zero_le _,by rw [List.drop_zero]; exact hU,hx5,⟨by simp [toks],.inl ⟨rfl,rfl⟩⟩,by rw [List.drop_zero,List.length_nil,hR]; cases R0 <;> rfl,by omega,by simp⟩ ?_
   rintro st g2 w7 ⟨i,m2,acc,v,rfl,hi,hu,hx7,hO,hr,hm2,hcnt⟩
   obtain ⟨m2,rfl⟩ : ∃ k,m2 = k + 1 := ⟨m2 - 1,by omega⟩
   simp only [scanF] at hr
   simp only [List.getD_cons_zero,List.getD_cons_succ]
   have hz7 := hx7.size
   have hsl : (s.drop i).length = s.length - i := List.length_drop
   rw [sls_str,bd_none,bd_some]
   refine ⟨by omega,by omega,?_⟩
   rw [List.take_length,Int.toNat_natCast]
   refine skip_p (hT.ext hx7) (by omega) ?_
   have hku := skip_utf ((s.drop i).length + 1) _ hu
   have hkl := skip_le ((s.drop i).length + 1) (s.drop i)
   rw [drop_drop'] at hku hr
   generalize skipF ((s.drop i).length + 1) (s.drop i) = k at *
   obtain ⟨k,kc⟩ := k
   simp only at hku hkl hr ⊢
   rw [ext_tuple]; refine ⟨_,rfl,?_⟩
   rw [ext_tuple]; refine ⟨_,rfl,?_⟩
   rw [bin_add,wrap_id (by omega) (by omega),show (i : Int) + (k : Nat) = ((i + k : Nat) : Int) by omega,bin_eql]
   simp only [isB_t]
   refine GdW.look (decide (i + k = s.length)) (fun _ J hJ => ?_) fun g3 => ?_
   · rw [lens_str,bin_eql,show decide (((i + k : Nat) : Int) = ((s.length : Nat) : Int)) = decide (i + k = s.length) by rw [decide_eq_decide]; omega]
     exact hJ
   simp only [List.getD_cons_zero]
   rw [pick_gd_and,condW_b]
   refine ⟨fun hend => ?_,fun hgo => ?_⟩
   · simp only [Bool.and_eq_true,decide_eq_true_iff] at hend
     rw [if_neg (by rw [hend.1]; simp),if_pos (List.drop_eq_nil_of_le (by omega))] at hr
     simp only [put_int,put_str,List.length_cons,List.length_nil,List.set_cons_zero,List.set_cons_succ,Nat.reduceAdd,Nat.reduceLT,true_and,Nat.zero_lt_succ]
     rw [put_nil]
     refine bsl_agg (d := tokc ⟨0,[],((i + k : Nat) : Int)⟩) rfl rfl fun b w8 hb hz8 hbb hx8 => ?_
     refine append_own3 el_tk (hO.ext hx8) (slat_new' (n := 1) hbb) rfl (fun u hu => by simp only [tokc,List.mem_cons,List.not_mem_nil,or_false] at hu; rcases hu with rfl | rfl | rfl <;> rfl) (by omega) (by omega) (by have := hx8.size; omega) fun v' w9 hO9 hc9 hv9 => ?_
     have e : toks acc ++ tokc ⟨0,[],((i + k : Nat) : Int)⟩ = toks (acc ++ [⟨0,[],((i + k : Nat) : Int)⟩]) := (toks_app _ _).symm
     rw [e] at hO9
     have hx9 : Ext w w9 := (hx7.trans hx8).then hc9 fun q hq e => by have := (own_lt hO e).2; omega
     refine hok (acc ++ [⟨0,[],((i + k : Nat) : Int)⟩]) (by rw [← hr]; rfl) v' w9 hx9 (by rw [List.length_append]; exact hO9.sl) fun q hq => ⟨(own_lt hO9 hq).2,(own_lt hO9 hq).1⟩
   · have hgo : ¬ (kc = 0 ∧ i + k = s.length) := by
       rintro ⟨h1,h2⟩
       rw [h1,h2] at hgo
       simp at hgo
     refine alloc_new fun a w8 ha hz8 hab8 hx8 => ?_
     have hx78 := hx7.trans hx8
     -- the token
     refine JoinW.cut (fun st w9 => Ext w w9 ∧ Own w9 w.heap.size TkT 3 v acc.length (toks acc) ∧ w8.heap.size ≤ w9.heap.size ∧ v.ownBlock ≠ some a ∧ ∃ (t : Tok) (n : Nat) (e : Int),st = [i64 e,i64 (n : Nat)] ∧ w9.heap[a]? = some (.cells (tokc t).toArray TkT (0,0)) ∧
       ((e ≠ 0 ∧ R0 = .bad e ((i + k : Nat) : Int)) ∨ (e = 0 ∧ 1 ≤ n ∧ i + k + n ≤ s.length ∧ Utf (s.drop (i + k + n)) ∧ sfin acc (if acc.length = 4096 then .bad 3 ((i + k : Nat) : Int) else match scanF m2 (s.drop (i + k + n)) (i + k + n) (acc.length + 1) with | .ok l => .ok (⟨t.k,t.t,((i + k : Nat) : Int)⟩ :: l) | x => x) = R0))) ?_ ?_
     · have hva : v.ownBlock ≠ some a := fun e => by have := (own_lt hO e).1; omega
       rw [bin_eql,condW_dec]
       refine ⟨fun h0 => ?_,fun h0 => ?_⟩
       · rw [if_neg (by rw [h0]; simp)] at hr
         have hlt : i + k < s.length := by
           rcases Nat.lt_or_ge (i + k) s.length with h | h
           · exact h
           · exact absurd ⟨h0,by omega⟩ hgo
         have hd := drop_len hlt
         rw [if_neg (fun e => by rw [hd] at e; cases e)] at hr
         rw [sls_str,bd_none,bd_some]
         refine ⟨by omega,by omega,?_⟩
         rw [List.take_length,Int.toNat_natCast]
         have hrl : (s.drop (i + k + 1)).length = s.length - (i + k + 1) := List.length_drop
         rw [hd] at hr hku ⊢
         generalize s[i + k] = c at *
         generalize hrr : s.drop (i + k + 1) = r at *
         refine one_p (hT.ext hx78) hku (by omega) fun w9 hx9 => ?_
         rw [ext_tuple]; refine ⟨_,rfl,?_⟩
         rw [ext_tuple]; refine ⟨_,rfl,?_⟩
         rw [ext_tuple]; refine ⟨_,rfl,?_⟩
         have hou := one_utf hku
         have hok1 := @one_ok (c :: r)
         generalize oneM (c :: r) = o at *
         obtain ⟨t,n,e⟩ := o
         simp only at hou hr ⊢
         refine st_agg_at (l := tokc t) (hx9.at hab8 id) rfl rfl rfl fun w10 hz10 ha10 hc10 => ?_
         have hO9 := (hO.ext hx8).ext hx9
         refine ⟨(hx78.trans hx9).new hc10 (by omega),own_at hO9 hc10 fun q hq e => hva (e ▸ hq),by have := hx9.size; omega,hva,?_⟩
         by_cases he : e = 0
         · subst he
           rw [if_neg (by simp)] at hr
           obtain ⟨n1,n2,_⟩ := hok1 (t := t) (k := n) (by simp) rfl
           simp only [List.length_cons] at n2
           refine ⟨t,n,0,rfl,ha10,.inr ⟨rfl,n1,by omega,?_,?_⟩⟩
           · rw [← drop_drop',hd]; exact hou rfl
           · rw [← drop_drop',hd]; exact hr
         · rw [if_pos he] at hr
           exact ⟨t,n,e,rfl,ha10,.inl ⟨he,hr.symm⟩⟩
       · rw [if_pos h0] at hr
         exact ⟨hx78,hO.ext hx8,Nat.le_refl _,hva,⟨0,[],0⟩,0,kc,rfl,hab8,.inl ⟨h0,hr.symm⟩⟩
     rintro st g4 w9 ⟨hx9,hO9,hz9,hva,t,n,e,rfl,ha9,hcase⟩
     simp only [List.getD_cons_zero,List.getD_cons_succ]
     refine JoinW.cut (fun st w' => w' = w9 ∧ ∃ e' : Int,st = [i64 e'] ∧ ((e' ≠ 0 ∧ R0 = .bad e' ((i + k : Nat) : Int)) ∨ (e' = 0 ∧ 1 ≤ n ∧ i + k + n ≤ s.length ∧ Utf (s.drop (i + k + n)) ∧ acc.length < 4096 ∧ sfin acc (match scanF m2 (s.drop (i + k + n)) (i + k + n) (acc.length + 1) with | .ok l => .ok (⟨t.k,t.t,((i + k : Nat) : Int)⟩ :: l) | x => x) = R0))) ?_ ?_
     · rw [bin_eql]
       simp only [isB_t]
       refine GdW.look (decide (acc.length = 4096)) (fun _ J hJ => ?_) fun g5 => ?_
       · obtain ⟨q,cap,ev,_⟩ := hO9.sl.shape
         rw [ev,lenl_sl,bin_eql,show decide (((acc.length : Nat) : Int) = 4096) = decide (acc.length = 4096) by rw [decide_eq_decide]; omega]
         exact hJ
       simp only [List.getD_cons_zero]
       rw [pick_gd_and,condW_b]
       refine ⟨fun hb => ?_,fun hb => ?_⟩
       · simp only [Bool.and_eq_true,decide_eq_true_iff] at hb
         refine ⟨trivial,3,rfl,.inl ⟨by decide,?_⟩⟩
         rcases hcase with ⟨h1,h2⟩ | ⟨h1,h2,h3,h4,h5⟩
         · exact absurd hb.1 h1
         · rw [if_pos hb.2] at h5; exact h5.symm
       · refine ⟨trivial,e,rfl,?_⟩
         rcases hcase with h | ⟨h1,h2,h3,h4,h5⟩
         · exact .inl h
         · have : acc.length ≠ 4096 := fun h => by rw [h1,h] at hb; simp at hb
           rw [if_neg this] at h5
           exact .inr ⟨h1,h2,h3,h4,by omega,h5⟩
     rintro st g5 w10 ⟨rfl,e',rfl,hcase⟩
     simp only [List.getD_cons_zero]
     rw [bin_neq,condW_dec]
     refine ⟨fun hne => ?_,fun heq => ?_⟩
     · rcases hcase with ⟨h1,h2⟩ | ⟨h1,_⟩
       · simp only [put_int,put_str,List.length_cons,List.length_nil,List.set_cons_zero,List.set_cons_succ,Nat.reduceAdd,Nat.reduceLT,true_and,Nat.zero_lt_succ]
         exact bad (K' := K) e' (i + k) (fun d w' => hbad e' _ h2 d w') hx9
       · exact absurd h1 hne
     · rcases hcase with ⟨h1,_⟩ | ⟨h1,n1,n2,hu2,hc4,hr⟩
       · exact absurd (by simpa using heq) h1
       rw [fld_ptr,add_mk,Nat.zero_add]
       refine st_at ha9 rfl (by simp [tokc]) fun w11 hz11 ha11 hc11 => ?_
       have ha11 : w11.heap[a]? = some (.cells (tokc ⟨t.k,t.t,((i + k : Nat) : Int)⟩).toArray TkT (0,0)) := by rw [ha11]; simp [tokc]
       have hO11 := own_at hO9 hc11 fun q hq e => hva (e ▸ hq)
       have hx11 := hx9.new hc11 (by omega)
       refine ld_all ha11 rfl ?_
       refine bsl_agg (d := tokc ⟨t.k,t.t,((i + k : Nat) : Int)⟩) rfl rfl fun b w12 hb hz12 hbb hx12 => ?_
       refine append_own3 el_tk (hO11.ext hx12) (slat_new' (n := 1) hbb) rfl (fun u hu => by simp only [tokc,List.mem_cons,List.not_mem_nil,or_false] at hu; rcases hu with rfl | rfl | rfl <;> rfl) (by omega) (by omega) (by have := hx11.size; have := hx12.size; omega) fun v' w13 hO13 hc13 hv13 => ?_
       rw [← toks_app] at hO13
       rw [bin_add,wrap_id (by omega) (by omega)]
       refine ⟨⟨i + k + n,m2,acc ++ [⟨t.k,t.t,((i + k : Nat) : Int)⟩],v',by simp only [List.cons.injEq,Value.int.injEq,true_and,and_true]; omega,by omega,hu2,(hx11.trans hx12).then hc13 fun q hq e => ?_,by rw [List.length_append]; exact hO13,?_,by omega,by rw [List.length_append,List.length_cons,List.length_nil]; omega⟩,?_⟩
       · have := (own_lt hO11 e).2; omega
       · rw [List.length_append,← sfin_sfin]; exact hr
       · simp only [Int.toNat_natCast]; omega
 · -- the next rune
   have hge : ¬ s.length ≤ p := by omega
   rw [if_neg hge] at hbf
   have hx6 : Ext w w6 := hx5.then hc6 fun q hq e => by have e : q = w.heap.size := e; omega
   rw [ext_tuple]
   refine ⟨.bool true,rfl,?_⟩
   rw [condW_true,ext_tuple]
   refine ⟨i64 (p : Nat),rfl,?_⟩
   rw [ext_tuple]
   refine ⟨_,rfl,?_⟩
   have hdc : (Utf8.decode (ofL s) p).1 = 65533 ∧ Lib.hasPrefix (s.drop p) [239,191,189] = false ↔ runeM s p = 0 := by
     constructor
     · rintro ⟨h1,h2⟩
       by_cases h0 : runeM s p = 0
       · exact h0
       · obtain ⟨c,hc⟩ := rune_good hpl h0
         have hd := hc.dec
         rw [hd] at h1
         have h1 : c = 65533 := h1
         subst h1
         rw [good_pref hc] at h2
         cases h2
     · intro h0
       rw [rune_bad hpl h0]
       exact ⟨rfl,bad_pref h0⟩
   rw [dec_step hpl] at hit6
   generalize (Utf8.decode (ofL s) p).1 = c at *
   rw [bin_eql,show decide (((c : Nat) : Int) = 65533) = decide (c = 65533) by rw [decide_eq_decide]; omega]
   simp only [isB_t]
   refine GdW.look (!Lib.hasPrefix (s.drop p) [239,191,189]) (fun _ J hJ => ?_) fun g3 => ?_
   · rw [sls_str,bd_none,bd_some]
     refine ⟨by omega,by omega,?_⟩
     rw [List.take_length,Int.toNat_natCast]
     refine hasp_p ?_
     rw [un_not]
     exact hJ
   simp only [List.getD_cons_zero]
   rw [pick_gd_and,condW_b]
   refine ⟨fun hb => ?_,fun hb => ?_⟩
   · have h0 : runeM s p = 0 := hdc.1 (by simpa using hb)
     rw [if_pos h0] at hbf
     subst hbf
     simp only [put_int,put_str,List.length_cons,List.length_nil,List.set_cons_zero,List.set_cons_succ,Nat.reduceAdd,Nat.reduceLT,true_and,Nat.zero_lt_succ]
     exact bad (K' := K) 31 p (fun d w' => hbad 31 _ rfl d w') hx6
   · have h0 : runeM s p ≠ 0 := fun h => by
       have := hdc.2 h
       rw [decide_eq_true this.1,this.2] at hb
       cases hb
     rw [if_neg h0] at hbf
     have hfit := step_fits hpl
     have hpos := step_pos s p
     refine ⟨⟨p + stepM s p,m,hfit,trivial,hit6,hx6,hbf,by omega⟩,?_⟩
     rw [hit6,hit]
     show s.length - (p + stepM s p) < s.length - p
     omega
end
end Go.Proofs.YtofhaneggcpdaaaGreatDoor
namespace Go.Proofs.YtofhaneggcpdaaaGreatDoor
open Go Go.Eng Go.RowKit Go.Syn Go.Lex
set_option maxRecDepth 100000
abbrev DgT : TypeId := 48
def flOf : Syn.PR → Fl
 | .ok f => f
 | .bad _ _ => ⟨[],[],[]⟩
def okP : Syn.PR → Bool
 | .ok _ => true
 | .bad _ _ => false
def PRep (w : World) (d : Value) : Syn.PR → Prop
 | .ok _ => d = .pointer none
 | .bad c a => ∃ b,d = .pointer (some ⟨b,0,none⟩) ∧ w.heap[b]? = some (.cells [i64 c,str [],i64 a].toArray DgT (0,0))
theorem PRep.ext {w w' : World} {d : Value} {r : Syn.PR} (h : PRep w d r) (hx : Ext w w') : PRep w' d r := by
 cases r with
 | ok f => exact h
 | bad c a => obtain ⟨b,h1,h2⟩ := h; exact ⟨b,h1,hx.at h2 id⟩
theorem PRep.eq {w : World} {d : Value} {r : Syn.PR} (h : PRep w d r) (n : Bool) (K : Value → Prop) : eqW .ptr n d (.pointer none) K ↔ K (.bool (n ^^ okP r)) := by
 cases r with
 | ok f => have h : d = .pointer none := h; rw [h]; cases n <;> exact Iff.rfl
 | bad c a => obtain ⟨b,rfl,_⟩ := h; cases n <;> exact Iff.rfl
theorem FO.ext {w w' : World} {B : Nat} {M : Lay} {fl : Fl} (h : FO w B M fl) (hx : Ext w w') : FO w' B M fl := h.keep hx fun _ _ _ _ e => e
theorem fo_nil (w : World) (B : Nat) : FO w B ⟨.slice none 0 0,.slice none 0 0,.slice none 0 0,[],[]⟩ ⟨[],[],[]⟩ :=
 ⟨⟨by simp,.inl ⟨rfl,rfl⟩⟩,⟨by simp,.inl ⟨rfl,rfl⟩⟩,⟨by simp [ints],.inl ⟨rfl,rfl⟩⟩,RowsR.nil _ _,RowsR.nil _ _,List.nodup_nil,fun k hk => by simp [ub,Value.ownBlock] at hk,fun k hk => by simp [ub,Value.ownBlock] at hk⟩
section
variable [HX]
theorem parse_r {t : Str} {w : World} {K : Value → World → Prop} (hT : TabI w) (hl : t.length ≤ 1000000)
   (hK : ∀ M d w',Ext w w' → FO w' w.heap.size M (flOf (parseM t)) → PRep w' d (parseM t) → ((flOf (parseM t)).ex.length ≤ 100000 ∧ (flOf (parseM t)).bl.length ≤ 100000 ∧ (flOf (parseM t)).top.length ≤ 100000) → K (.tuple #[.agg [M.vE,M.vB,M.vT].toArray,d]) w') : callF Tryz.prog 9 [str t] w K := by
 refine parse_p (fun {_} => scan_p) hT hl (fun fl h M w' hx hF hfew => ?_) (fun c a h d w' hx hd hdb => ?_)
 · rw [h] at hK
   exact hK M _ w' hx hF rfl hfew
 · rw [h] at hK
   exact hK ⟨.slice none 0 0,.slice none 0 0,.slice none 0 0,[],[]⟩ _ w' hx (fo_nil _ _) ⟨d,rfl,hdb⟩ (by simp [flOf])
end
def ex1 : Str := [114,32,34,116,34,32,34,110,34,32,123,32,120,32,61,32,49,32,43,32,121,46,122,32,125]
section
variable [HX]
end
end Go.Proofs.YtofhaneggcpdaaaGreatDoor
namespace Go.Proofs.YtofhaneggcpdaaaGreatDoor
open Go Go.Eng Go.RowKit Go.Syn Go.Lex
set_option maxRecDepth 100000
def cnt (n : Nat) (l : List Nat) : List Nat := (List.range n).map fun j => l.count j
section
variable [HX]
end
variable {w0 w w' : World} {B a ea eb : Nat} {M : Lay} {fl : Fl} {lE lB : List Nat}
end Go.Proofs.YtofhaneggcpdaaaGreatDoor
namespace Go.Proofs.YtofhaneggcpdaaaGreatDoor
open Go Go.Eng Go.RowKit Go.Syn Go.Lex
set_option maxRecDepth 100000
theorem cells_row {w : World} {b o : Nat} {c : Array Value} {T : TypeId} {fr : Nat × Nat} {d : List Value} (hb : w.heap[b]? = some (.cells c T fr)) (hd : ∀ j,j < d.length → c[o + j]? = d[j]?) : ∀ (n i : Nat),i + n = d.length → cellsAt w ⟨b,o,none⟩ i n = some (d.drop i)
 | 0,i,h => by simp only [cellsAt]; rw [List.drop_of_length_le (by omega)]
 | n + 1,i,h => by
   have hi : i < d.length := by omega
   simp only [cellsAt,add_mk,cell_eq,hb,cellO_some,hd i hi,List.getElem?_eq_getElem hi]
   rw [cells_row hb hd n (i + 1) (by omega)]
   simp
theorem ixa_row {w : World} {T : TypeId} {v : Value} {n size : Nat} {cs d : List Value} {k : IntKind} {i : Nat} {K : Value → Prop} (h : SlAt w T v n cs) (hl : cs.length = n * size) (hs : 0 < size) (hi : i < n) (hd : (cs.drop (i * size)).take size = d) (hK : K (.agg d.toArray)) :
   ixaW none size v (.int k i) fun t => ldW true size t w K := by
 have hlt : i * size + size ≤ n * size := by rw [← Nat.succ_mul]; exact Nat.mul_le_mul_right _ hi
 have hdl : d.length = size := by rw [← hd,List.length_take,List.length_drop]; omega
 refine ixa_at h hl hs hi fun b o c fr hb hc => ?_
 rw [ld_agg]
 refine ⟨d,?_,hK⟩
 have := cells_row (d := d) hb (fun j hj => by rw [hc j (by omega),← hd,List.getElem?_take_of_lt (by omega),List.getElem?_drop]) size 0 (by omega)
 simpa using this
theorem atr_row {l : List Atr} {i : Nat} {a : Atr} (h : l[i]? = some a) : ((atrs l).drop (i * 3)).take 3 = [str a.n,i64 (a.e : Nat),i64 a.a] := by
 have g : ∀ j,j < 3 → (atrs l)[i * 3 + j]? = [str a.n,i64 (a.e : Nat),i64 a.a][j]? := fun j hj => flat3_get _ (fun _ => rfl) l i j a h hj
 apply List.ext_getElem?
 intro j
 by_cases hj : j < 3
 · rw [List.getElem?_take_of_lt hj,List.getElem?_drop,g j hj]
 · rw [List.getElem?_eq_none (by rw [List.length_take]; omega),List.getElem?_eq_none (by simp; omega)]
theorem int_get {l : List Nat} {i x : Nat} (h : l[i]? = some x) : (ints l)[i]? = some (i64 (x : Nat)) := by simp [ints,h]
variable [HX]
end Go.Proofs.YtofhaneggcpdaaaGreatDoor
namespace Go.Proofs.YtofhaneggcpdaaaGreatDoor
open Go Go.Eng Go.RowKit Go.Syn Go.Lex
set_option maxRecDepth 100000
theorem ixg_m {len k : Nat} {l : List Value} {x : Value} {K : Value → Prop} (hk : k < len) (hx : l[k]? = some x) (h : K x) : ixgW len false 1 (.agg l.toArray) (i64 (k : Nat)) K := by
 refine ⟨by omega,by omega,?_⟩
 show ∃ c,l.toArray[((k : Nat) : Int).toNat * 1]? = some c ∧ K c
 exact ⟨x,by rw [Int.toNat_natCast,Nat.mul_one,List.getElem?_toArray]; exact hx,h⟩
theorem strs_get {l : List Str} {k : Nat} (h : k < l.length) : (strs l)[k]? = some (str (l.getD k [])) := by
 rw [strs,List.getElem?_map,List.getElem?_eq_getElem h,List.getD_eq_getElem?_getD,List.getElem?_eq_getElem h]; rfl
theorem gq_fld (off : Nat) (ad : Addr) (B : Value → Prop) : GqW true (fun k => fldW off (.pointer (some ad)) k) B ↔ B (.pointer (some (ad.add off))) := by
 rw [GqW_t]
 constructor
 · rintro ⟨v,h,hb⟩
   have h : Value.pointer (some (ad.add off)) = v := h
   rw [h]; exact hb
 · intro h; exact ⟨_,rfl,h⟩
theorem gq_of {A : (Value → Prop) → Prop} {B : Value → Prop} {v : Value} (h1 : A (fun x => x = v)) (h2 : B v) : GqW true A B := (GqW_t A B).2 ⟨v,h1,h2⟩
theorem ixa_split {s : Nat} {v i : Value} {F : Value → Prop} (h : ixaW none s v i F) : ∃ p,ixaW none s v i (fun x => x = p) ∧ F p := by
 unfold ixaW at h ⊢
 split at h
 all_goals first
   | exact h.elim
   | exact ⟨_,⟨h.1,h.2.1,rfl⟩,h.2.2⟩
theorem fld_split {off : Nat} {v : Value} {F : Value → Prop} (h : fldW off v F) : ∃ p,fldW off v (fun x => x = p) ∧ F p := by
 unfold fldW at h ⊢
 split at h
 · exact ⟨_,rfl,h⟩
 · exact h.elim
section
variable [HX]
end
end Go.Proofs.YtofhaneggcpdaaaGreatDoor
namespace Go.Proofs.YtofhaneggcpdaaaGreatDoor
open Go Go.Eng Go.RowKit Go.Syn Go.Lex
set_option maxRecDepth 100000
def ExV (w : World) (e : Ex) (c : List Value) : Prop :=
 ∃ va vk,c = [i64 e.k,str e.t,va,vk,i64 e.a] ∧ SlAt w IntT va e.args.length (ints e.args) ∧ SlAt w StT vk e.keys.length (strs e.keys)
def BkV (w : World) (b : Blk) (c : List Value) : Prop :=
 ∃ vl va vb,c = [str b.typ,vl,va,vb,i64 b.a] ∧ SlAt w StT vl b.labels.length (strs b.labels) ∧ SlAt w AtT va b.attrs.length (atrs b.attrs) ∧ SlAt w IntT vb b.blocks.length (ints b.blocks)
structure FV (w : World) (M : Lay) (fl : Fl) : Prop where
 oE : SlAt w ExT M.vE fl.ex.length M.cE
 oB : SlAt w BkT M.vB fl.bl.length M.cB
 oT : SlAt w IntT M.vT fl.top.length (ints fl.top)
 ee : RowsR (ExV w) 5 fl.ex M.cE
 bb : RowsR (BkV w) 5 fl.bl M.cB
theorem FO.fv {w : World} {B : Nat} {M : Lay} {fl : Fl} (h : FO w B M fl) : FV w M fl :=
 ⟨h.oE.sl,h.oB.sl,h.oT.sl,h.ee.imp fun _ _ _ ⟨va,vk,e,h1,h2⟩ => ⟨va,vk,e,h1.sl,h2.sl⟩,h.bb.imp fun _ _ _ ⟨vl,va,vb,e,h0,h1,h2⟩ => ⟨vl,va,vb,e,h0.sl,h1.sl,h2.sl⟩⟩
theorem FV.ext {w w' : World} {M : Lay} {fl : Fl} (h : FV w M fl) (hx : Ext w w') : FV w' M fl :=
 ⟨h.oE.ext hx,h.oB.ext hx,h.oT.ext hx,h.ee.imp fun _ _ _ ⟨va,vk,e,h1,h2⟩ => ⟨va,vk,e,h1.ext hx,h2.ext hx⟩,h.bb.imp fun _ _ _ ⟨vl,va,vb,e,h0,h1,h2⟩ => ⟨vl,va,vb,e,h0.ext hx,h1.ext hx,h2.ext hx⟩⟩
theorem FV.exI {w : World} {M : Lay} {fl : Fl} {i : Nat} {e : Ex} {k : IntKind} (h : FV w M fl) (hi : fl.ex[i]? = some e) : ∃ va vk,SlAt w IntT va e.args.length (ints e.args) ∧ SlAt w StT vk e.keys.length (strs e.keys) ∧ ∃ p,ixaW none 5 M.vE (.int k i) (fun x => x = p) ∧ ldW true 5 p w fun x => x = .agg [i64 e.k,str e.t,va,vk,i64 e.a].toArray := by
 obtain ⟨va,vk,ec,h1,h2⟩ := h.ee.2 i e hi
 exact ⟨va,vk,h1,h2,ixa_split (ixa_row (K := fun x => x = _) h.oE h.ee.1 (by omega) (List.getElem?_eq_some_iff.1 hi).1 ec rfl)⟩
theorem ld_to {n : Nat} {agg : Bool} {p v : Value} {w : World} {K : Value → Prop} (h : ldW agg n p w fun x => x = v) (hK : K v) : ldW agg n p w K := by
 unfold ldW at h ⊢
 split at h
 · cases agg with
   | true => obtain ⟨l,h1,rfl⟩ := h; exact ⟨l,h1,hK⟩
   | false => obtain ⟨x,h1,rfl⟩ := h; exact ⟨x,h1,hK⟩
 · exact h.elim
theorem ixa_to {s : Nat} {v i p : Value} {K : Value → Prop} (h : ixaW none s v i fun x => x = p) (hK : K p) : ixaW none s v i K := by
 unfold ixaW at h ⊢
 split at h
 all_goals first
   | exact h.elim
   | exact ⟨h.1,h.2.1,by have e := h.2.2; rw [e]; exact hK⟩
section
variable [HX]
end
end Go.Proofs.YtofhaneggcpdaaaGreatDoor
namespace Go.Proofs.YtofhaneggcpdaaaGreatDoor
open Go Go.Eng Go.RowKit Go.Syn Go.Lex
set_option maxRecDepth 100000
theorem fld5 {b : Nat} {T : TypeId} {c : List Value} {off : Nat} {v : Value} {w : World} {K : Value → Prop} (hw : w.heap[b]? = some (.cells c.toArray T (0,0))) (hv : c[off]? = some v) (hk : K v) : fldW off (.pointer (some ⟨b,0,none⟩)) fun t => ldW false 1 t w K := by
 rw [fld_ptr,ld_one]
 refine ⟨v,?_,hk⟩
 rw [add_mk,cell_eq,hw,cellO_some,Nat.zero_add,List.getElem?_toArray]
 exact hv
theorem ld5 {b : Nat} {T : TypeId} {c : List Value} {off : Nat} {v : Value} {w : World} (hw : w.heap[b]? = some (.cells c.toArray T (0,0))) (hv : c[off]? = some v) : ldW false 1 (.pointer (some ((⟨b,0,none⟩ : Addr).add off))) w fun x => x = v := by
 have := fld5 (K := fun x => x = v) hw hv rfl
 rwa [fld_ptr] at this
section
variable [HX]
end
end Go.Proofs.YtofhaneggcpdaaaGreatDoor
namespace Go.Proofs.YtofhaneggcpdaaaGreatDoor
open Go Go.Eng Go.RowKit Go.Syn Go.Lex
set_option maxRecDepth 100000
section
variable {w w' : World} {B g r p : Nat} {M : Lay} {fl : Fl} {v : Value}
theorem ld_row {a n : Nat} {T : TypeId} {d : List Value} {K : Value → Prop} (h : w.heap[a]? = some (.cells d.toArray T (0,0))) (hn : d.length = n) (hK : K (.agg d.toArray)) : ldW true n (.pointer (some ⟨a,0,none⟩)) w K := by
 rw [ld_agg]
 refine ⟨d,?_,hK⟩
 have := cells_row (o := 0) (d := d) h (fun j hj => by rw [Nat.zero_add]; simp) n 0 (by omega)
 simpa using this
end
end Go.Proofs.YtofhaneggcpdaaaGreatDoor

namespace Go.Proofs.YtofhaneggcpdaaaGreatDoor
open Go Go.Eng Go.RowKit Go.Syn Go.Lex
set_option maxRecDepth 100000
structure JV (w0 w : World) (B a9 a12 n m : Nat) (M : Lay) (fl : Fl) (vE vB vT : Value) (i j : Nat) (t : List Nat) : Prop where
 F : FO w B M fl
 h9 : w.heap[a9]? = some (.cells [M.vE,M.vB,M.vT].toArray FlT (0,0))
 h12 : w.heap[a12]? = some (.cells [vE,vB,vT].toArray FlT (0,0))
 oE : Own w (a12 + 1) ExT 5 vE i ((M.cE.drop (n * 5)).take (i * 5))
 oB : Own w (a12 + 1) BkT 5 vB j ((M.cB.drop (m * 5)).take (j * 5))
 oT : Own w (a12 + 1) IntT 1 vT t.length (ints t)
 ch : Ext w0 w
 lo : w0.heap.size ≤ B ∧ B ≤ a9 ∧ a9 < a12
 lt : ∀ k ∈ ub ([M.vE,M.vB,M.vT] ++ (M.cE ++ M.cB)),k < a9
 dEB : ∀ k,vE.ownBlock = some k → vB.ownBlock ≠ some k
 dET : ∀ k,vE.ownBlock = some k → vT.ownBlock ≠ some k
 dBT : ∀ k,vB.ownBlock = some k → vT.ownBlock ≠ some k
section
variable {w0 w w' w1 w2 : World} {B a9 a12 n m g : Nat} {M : Lay} {fl fl' : Fl} {vE vB vT v' : Value} {i j : Nat} {t : List Nat}
end
end Go.Proofs.YtofhaneggcpdaaaGreatDoor










namespace Go.Proofs.YtofhaneggcpdaaaGreatDoor
open Go Go.Eng Go.RowKit Go.Syn Go.Lex
set_option maxRecDepth 100000
theorem scan_step (n : Nat) (s : Str) (at_ cnt : Nat) : scanF (n + 1) s at_ cnt = (if (skipF (s.length + 1) s).2 ≠ 0 then .bad (skipF (s.length + 1) s).2 ((at_ + (skipF (s.length + 1) s).1 : Nat) : Int)
   else if s.drop (skipF (s.length + 1) s).1 = [] then .ok [⟨0,[],((at_ + (skipF (s.length + 1) s).1 : Nat) : Int)⟩]
   else if (oneM (s.drop (skipF (s.length + 1) s).1)).2.2 ≠ 0 then .bad (oneM (s.drop (skipF (s.length + 1) s).1)).2.2 ((at_ + (skipF (s.length + 1) s).1 : Nat) : Int)
   else if cnt = 4096 then .bad 3 ((at_ + (skipF (s.length + 1) s).1 : Nat) : Int)
   else match scanF n ((s.drop (skipF (s.length + 1) s).1).drop (oneM (s.drop (skipF (s.length + 1) s).1)).2.1) (at_ + (skipF (s.length + 1) s).1 + (oneM (s.drop (skipF (s.length + 1) s).1)).2.1) (cnt + 1) with
       | .ok l => .ok (⟨(oneM (s.drop (skipF (s.length + 1) s).1)).1.k,(oneM (s.drop (skipF (s.length + 1) s).1)).1.t,((at_ + (skipF (s.length + 1) s).1 : Nat) : Int)⟩ :: l)
       | x => x) := rfl
theorem badF_of : ∀ {t : Str},Utf t → ∀ {s : Str} {n i : Nat},s.drop i = t → badF n s i = none := by
 intro t h
 induction h with
 | nil =>
   intro s n i hs
   have hl := List.drop_eq_nil_iff.1 hs
   cases n with
   | zero => rfl
   | succ n => rw [badF,if_pos hl]
 | @cons u r hu hr ih =>
   intro s n i hs
   have hat := hu.at hs
   have hp := hu.pos
   cases n with
   | zero => rfl
   | succ n =>
     rw [badF]
     split
     · rfl
     · rw [if_neg (by omega)]
       refine ih ?_
       rw [show stepM s i = u.length by unfold stepM; omega]
       exact drop_app hs
end Go.Proofs.YtofhaneggcpdaaaGreatDoor

namespace Go.Proofs.YtofhaneggcpdaaaGreatDoor
open Go Go.Eng Go.RowKit Go.Syn Go.Lex
set_option maxRecDepth 100000
theorem FO.one {w : World} {B : Nat} {M : Lay} {fl : Fl} (h : FO w B M fl) : [M.vE,M.vB,M.vT].all one1 = true := by
 obtain ⟨p1,c1,e1,_⟩ := h.oE.sl.shape
 obtain ⟨p2,c2,e2,_⟩ := h.oB.sl.shape
 obtain ⟨p3,c3,e3,_⟩ := h.oT.sl.shape
 rw [e1,e2,e3]; rfl
end Go.Proofs.YtofhaneggcpdaaaGreatDoor
namespace Go.Proofs.YtofhaneggcpdaaaGreatDoor
open Go Go.Eng Go.RowKit Go.Syn Go.Lex
set_option maxRecDepth 100000
variable [HX]
def tplP (f : Fl) (e : Ex) (l : List Str) (k : Nat) : Str := if e.keys.getD k [] = [116] then plainM (f.ex.getD (e.args.getD k 0) ⟨0,[],[],[],0⟩).t else [36,123] ++ l.getD k [] ++ [125]
theorem tpl_next (f : Fl) (e : Ex) (l : List Str) (k : Nat) : tplM f e l (k + 1) = tplM f e l k ++ tplP f e l k := by
 unfold tplM
 rw [List.range_succ,List.map_append,List.flatten_append]
 simp [tplP]
theorem tpl_le (f : Fl) (e : Ex) (l : List Str) : ∀ (n k : Nat), k ≤ n → (tplM f e l k).length ≤ (tplM f e l n).length
  | 0, k, h => by obtain rfl : k = 0 := by omega
                  exact Nat.le_refl _
  | n + 1, k, h => by
    by_cases e1 : k = n + 1
    · rw [e1]; exact Nat.le_refl _
    · have := tpl_le f e l n k (by omega)
      rw [tpl_next, List.length_append]; omega
theorem sign_s {k : Int} {w : World} {K : Value → World → Prop} (h1 : 15 ≤ k) (h2 : k ≤ 27) (hK : K (str (sigT.getD (k - 15).toNat [])) w) : callF Tryz.prog 63 [i64 k] w K := by
 refine W63_ok ?_
 unfold W63
 simp only [List.replicate_succ,List.replicate_zero,put_str,put_nil,List.length_cons,List.length_nil,List.set_cons_zero,List.set_cons_succ,Nat.reduceAdd,Nat.reduceLT,true_and,Nat.zero_lt_succ]
 rw [bin_sub,wrap_id (by omega) (by omega)]
 obtain ⟨n,hn⟩ : ∃ n : Nat,k - 15 = (n : Nat) := ⟨(k - 15).toNat,by omega⟩
 rw [hn]
 rw [hn,Int.toNat_natCast] at hK
 show ixgW 13 false 1 (.agg (strs sigT).toArray) (i64 (n : Nat)) fun t6 => K t6 w
 refine ixg_m (len := 13) (l := strs sigT) (k := n) (x := str (sigT.getD n [])) ?_ ?_ ?_
 · omega
 · exact strs_get (by show n < 13; omega)
 · exact hK
theorem template_p {f : Fl} {e : Ex} {M : Lay} {va vk vl : Value} {l : List Str} {w : World} {K : Value → World → Prop} (hf : FV w M f) (ha : SlAt w IntT va e.args.length (ints e.args)) (hk : SlAt w StT vk e.keys.length (strs e.keys)) (hl : SlAt w StT vl l.length (strs l))
   (h1 : l.length = e.args.length) (h2 : e.keys.length = e.args.length) (hin : ∀ a ∈ e.args,a < f.ex.length) (hut : ∀ x ∈ f.ex,Utf x.t ∧ x.t.length ≤ 1000000000) (hfew : l.length ≤ 1000000) (hL : (tplM f e l l.length).length ≤ 100000000)
   (hK : ∀ w',Ext w w' → K (str ([34] ++ tplM f e l l.length ++ [34])) w') : callF Tryz.prog 62 [.agg [M.vE,M.vB,M.vT].toArray,.agg [i64 e.k,str e.t,va,vk,i64 e.a].toArray,vl] w K := by
 refine W62_ok ?_
 unfold W62
 have emax : IntKind.i64.max = 9223372036854775807 := by decide
 refine box_new (z := [M.vE,M.vB,M.vT]) fun p w1 hp hz1 hb1 hx1 => ?_
 refine box_new (z := [i64 e.k,str e.t,va,vk,i64 e.a]) fun p2 w2 hp2 hz2 hb2 hx2 => ?_
 have hb1 := hx2.at hb1 id
 have hx12 := hx1.trans hx2
 have hf := hf.ext hx12
 have ha := ha.ext hx12
 have hk := hk.ext hx12
 have hl := hl.ext hx12
 refine bnew (B := w2.heap.size) (Nat.le_refl _) fun b w3 hbb h3 hx3 => ?_
 have hz3 := hx3.size
 have hb3 := h3.lt
 refine wbyte_p (n := 34) h3 (by omega) (by simp) (by omega) fun w4 h4 hc4 => ?_
 rw [lenl_at hl]
 refine LoopW.go (fun st w' => ∃ k : Nat,st = [i64 (k : Nat)] ∧ k ≤ l.length ∧ Bld w' w2.heap.size b ([34] ++ tplM f e l k) ∧ Chg (BCh w3 w2.heap.size b) w3 w') (fun st _ => match st with | [.int _ k] => l.length - k.toNat | _ => 0) ⟨0,rfl,by omega,h4,hc4⟩ ?_
 rintro st g w6 ⟨k,rfl,hkl,h6,hc6⟩
 have hx6 : Ext w2 w6 := BCh.new hx3 (Nat.le_refl _) h3.base hc6
 have hz6 := hx6.size
 simp only [List.getD_cons_zero]
 rw [bin_lss,condW_dec]
 have hle := tpl_le f e l l.length k hkl
 refine ⟨fun hlt => ?_,fun hge => ?_⟩
 · have hlt : k < l.length := by omega
   have hnx := tpl_next f e l k
   have hle2 := tpl_le f e l l.length (k + 1) (by omega)
   rw [hnx,List.length_append] at hle2
   refine JoinW.cut (fun st w' => st = [] ∧ Bld w' w2.heap.size b ([34] ++ tplM f e l (k + 1)) ∧ Chg (BCh w3 w2.heap.size b) w3 w') ?_ ?_
   · refine ixa_ld (hl.ext hx6) (by simp [strs]) (strs_get hlt) ?_
     refine fld5 (off := 3) (hx6.at hb2 id) rfl ?_
     refine ixa_ld (hk.ext hx6) (by simp [strs]) (strs_get (show k < e.keys.length by omega)) ?_
     rw [bin_seq,condW_dec]
     refine ⟨fun ht => ?_,fun ht => ?_⟩
     · have hp : tplP f e l k = plainM (f.ex.getD (e.args.getD k 0) ⟨0,[],[],[],0⟩).t := by unfold tplP; rw [if_pos ht]
       have hx6d := hx6.trans (ext_drew w6)
       refine fld5 (off := 0) (hx6d.at hb1 id) rfl ?_
       refine fld5 (off := 2) (hx6d.at hb2 id) rfl ?_
       have hk2 : k < e.args.length := by omega
       have ge := List.getElem?_eq_getElem hk2
       have hd : e.args.getD k 0 = e.args[k] := by rw [List.getD_eq_getElem?_getD,ge]; rfl
       rw [hd] at hp
       have hai := hin e.args[k] (List.getElem_mem hk2)
       generalize e.args[k] = a at ge hp hai
       refine ixa_ld (ha.ext hx6d) (by simp [ints]) (int_get ge) ?_
       have gx := List.getElem?_eq_getElem hai
       have hdx : f.ex.getD a ⟨0,[],[],[],0⟩ = f.ex[a] := by rw [List.getD_eq_getElem?_getD,gx]; rfl
       rw [hdx] at hp
       have hu := hut f.ex[a] (List.getElem_mem hai)
       generalize f.ex[a] = x at gx hp hu
       obtain ⟨va',vk',_,_,pp,q1,q2⟩ := (hf.ext hx6d).exI (k := .i64) gx
       have ld : ∀ {K' : Value → Prop},K' (str x.t) → ixaW none 5 M.vE (i64 (a : Nat)) fun t => fldW 1 t fun t => ldW false 1 t w6.drew K' := fun {K'} hk' => by
         obtain ⟨va2,vk2,ec,_,_⟩ := (hf.ext hx6d).ee.2 a x gx
         refine ixa_at (hf.ext hx6d).oE (hf.ext hx6d).ee.1 (by omega) hai fun bb o c fr hbb hcs => ?_
         rw [fld_ptr,ld_one]
         have h0 := hcs 1 (by omega)
         have h1 := congrArg (fun l => l[1]?) ec
         simp only [List.getElem?_take_of_lt (show 1 < 5 by omega),List.getElem?_drop,List.getElem?_cons_zero,List.getElem?_cons_succ] at h1
         exact ⟨_,by rw [add_mk,cell_eq,hbb,cellO_some,h0]; exact h1,hk'⟩
       refine ld ?_
       refine splain_p hu.1 hu.2 fun w8 hx8 => ?_
       have h8 := (h6.ext (ext_drew w6)).ext hx8
       have hz8 := hx8.size
       have hzd : w6.drew.heap.size = w6.heap.size := rfl
       rw [hp] at hnx hle2
       refine wstr_p h8 (by omega) (by simp only [List.length_append,List.length_cons,List.length_nil]; omega) fun v w9 h9 hc9 => ?_
       refine ⟨rfl,?_,BCh.trans (BCh.ext (BCh.ext hc6 (ext_drew w6)) hx8) hc9⟩
       rw [hnx,← List.append_assoc]; exact h9
     · have hp : tplP f e l k = [36,123] ++ l.getD k [] ++ [125] := by unfold tplP; rw [if_neg ht]
       rw [hp] at hnx hle2
       simp only [List.length_append,List.length_cons,List.length_nil] at hle2
       rw [bin_sadd]
       refine ⟨by rw [emax]; simp only [List.length_append,List.length_cons,List.length_nil]; omega,?_⟩
       rw [bin_sadd]
       refine ⟨by rw [emax]; simp only [List.length_append,List.length_cons,List.length_nil]; omega,?_⟩
       refine wstr_p h6 (by omega) (by simp only [List.length_append,List.length_cons,List.length_nil]; omega) fun v w9 h9 hc9 => ?_
       refine ⟨rfl,?_,BCh.trans hc6 hc9⟩
       rw [hnx,← List.append_assoc]; exact h9
   · rintro st g7 w11 ⟨rfl,h11,hc11⟩
     rw [bin_add,upi (by omega)]
     refine ⟨⟨k + 1,rfl,by omega,h11,hc11⟩,?_⟩
     simp only [Int.toNat_natCast]; omega
 · obtain rfl : k = l.length := by omega
   refine wbyte_p (n := 34) h6 (by omega) (by simp only [List.length_append,List.length_cons,List.length_nil]; omega) (by omega) fun w12 h12 hc12 => ?_
   have hz12 := hc12.size
   refine bstring_p h12 (by omega) fun w13 hc13 => ?_
   exact hK w13 (hx12.trans ((BCh.new hx3 (Nat.le_refl _) h3.base (BCh.trans hc6 hc12)).then hc13 fun k hk e => by omega))
end Go.Proofs.YtofhaneggcpdaaaGreatDoor
namespace Go.Proofs.YtofhaneggcpdaaaGreatDoor
open Go Go.Eng Go.RowKit Go.Syn Go.Lex
set_option maxRecDepth 100000
set_option maxHeartbeats 1000000
structure XOk (e : Ex) : Prop where
 lo : 1 ≤ e.k
 hi : e.k ≤ 30
 ut : Utf e.t ∧ e.t.length ≤ 1000000000
 uk : ∀ s ∈ e.keys,Utf s ∧ s.length ≤ 1000000000
 few : e.args.length ≤ 100000
 a6 : e.k = 6 → e.keys.length = e.args.length
 a8 : e.k = 8 → e.keys.length = e.args.length
 a1 : e.k = 10 ∨ e.k = 30 → 1 ≤ e.args.length
 a2 : e.k = 11 ∨ e.k = 29 ∨ 15 ≤ e.k ∧ e.k ≤ 27 → 2 ≤ e.args.length
 a3 : e.k = 28 → 3 ≤ e.args.length
structure FOk (f : Fl) : Prop where
 ahead : ∀ (i : Nat) (e : Ex),f.ex[i]? = some e → ∀ a ∈ e.args,a < i
 xs : ∀ e ∈ f.ex,XOk e
 few : f.ex.length ≤ 100000
 len : ∀ i,(exprM f i).length ≤ 100000000
 keyl : ∀ e ∈ f.ex,e.k = 8 → ∀ s ∈ e.keys,s.length ≤ 10000000
theorem join_le (sep : Str) : ∀ (l : List Str) (B : Nat),(∀ x ∈ l,x.length ≤ B) → (joinL l sep).length ≤ l.length * (B + sep.length)
 | [],B,_ => by simp [joinL]
 | [x],B,h => by have := h x (by simp); simp [joinL,List.intercalate]; omega
 | x :: y :: r,B,h => by
   have ih := join_le sep (y :: r) B fun z hz => h z (List.mem_cons_of_mem _ hz)
   have := h x (by simp)
   have e : joinL (x :: y :: r) sep = x ++ sep ++ joinL (y :: r) sep := by simp [joinL,List.intercalate]
   rw [e,List.length_append,List.length_append,List.length_cons,Nat.succ_mul]
   omega
variable [HX]
theorem sjoin_p {l : List Str} {T : TypeId} {v : Value} {sep : Str} {w : World} {K : Value → World → Prop} (h : SlAt w T v l.length (l.map str)) (hl : l.length ≤ 1000000) (hs : (joinL l sep).length ≤ 140737488355328) (hK : ∀ w',Ext w w' → K (str (joinL l sep)) w') :
   callF Tryz.prog 61 [v,str sep] w K := by
 obtain ⟨p,cap,rfl,hc,hp,hcells⟩ := h
 have hm : (l.map ofL).map (fun x => x.data.toList) = l := by rw [List.map_map]; exact (List.map_congr_left (fun x _ => by simp [ofL])).trans (List.map_id l)
 by_cases hne : l = []
 · subst hne
   refine of_calls (args := #[.slice p 0 cap,str sep]) Tryz.call61 ((Tryz.strings_Join_none p cap (ofL sep) w).mono ?_)
   rintro e w' ⟨rfl,rfl⟩
   exact ⟨_,rfl,hK _ (Chg.refl _ _)⟩
 · obtain ⟨b,off,c,fr,rfl,hb,hcs⟩ := hcells (by simpa using hne)
   have hll : (l.map ofL).length = l.length := List.length_map _
   refine of_calls (args := #[.slice (some ⟨b,off,none⟩) l.length cap,str sep]) Tryz.call61 ?_
   have := Tryz.strings_Join b off cap (l.map ofL) (ofL sep) w (fun j x hx => ?_) (at_lt hb) (by rw [hll]; omega) (by rw [hll]; exact hc) (by rw [hm,ofL_data]; exact hs)
   · rw [hll,hm,ofL_data] at this
     refine this.mono ?_
     rintro e w' ⟨rfl,hbl⟩
     exact ⟨_,rfl,hK _ (Chg.of_below hbl)⟩
   · rw [List.getElem?_map,Option.map_eq_some_iff] at hx
     obtain ⟨y,hy,rfl⟩ := hx
     have hj := (List.getElem?_eq_some_iff.1 hy).1
     rw [cell_eq,hb,cellO_some,hcs j (by simpa using hj),List.getElem?_map,hy]
     rfl
theorem showX_p {f : Fl} {M : Lay} (hO : FOk f) : ∀ (i : Nat) (w : World) (K : Value → World → Prop),i ≤ 1000000 → FV w M f → (∀ w',Ext w w' → K (str (exprM f i)) w') → callF Tryz.prog 32 [.agg [M.vE,M.vB,M.vT].toArray,i64 (i : Nat)] w K := by
 intro i
 induction i using Nat.strongRecOn with
 | ind i ih =>
 intro w K hi hf hK
 refine W32_ok ?_
 unfold W32
 have emax : IntKind.i64.max = 9223372036854775807 := by decide
 refine box_new (z := [M.vE,M.vB,M.vT]) fun p w1 hp hz1 hb1 hx1 => ?_
 have hf1 := hf.ext hx1
 rw [bin_lss,decide_eq_false (by omega)]
 refine GdW.look (decide (f.ex.length ≤ i)) (fun _ J hJ => ?_) fun g => ?_
 · refine fld5 (off := 0) hb1 rfl ?_
   rw [lenl_at hf1.oE,bin_geq]
   have : decide ((f.ex.length : Int) ≤ (i : Int)) = decide (f.ex.length ≤ i) := by rw [decide_eq_decide]; omega
   rw [this]; exact hJ
 rw [isB_f,Bool.not_false,cond_true,List.getD_cons_zero,pick_f,condW_dec]
 refine ⟨fun hge => ?_,fun hlt => ?_⟩
 · have : exprM f i = [] := by
     unfold exprM
     rw [exprF,List.getElem?_eq_none hge]
   rw [this] at hK
   exact hK _ hx1
 have hlt : i < f.ex.length := by omega
 have ge := List.getElem?_eq_getElem hlt
 generalize f.ex[i] = e at ge
 have hm := List.mem_of_getElem? ge
 have hX := hO.xs e hm
 have hah := hO.ahead i e ge
 have hL := hO.len i
 have heq := expr_eq hO.ahead ge
 rw [heq] at hK hL
 obtain ⟨va,vk,oA,oK,pp,q1,q2⟩ := hf1.exI (k := .i64) ge
 refine fld5 (off := 0) hb1 rfl ?_
 refine ixa_to q1 ?_
 refine ld_to q2 ?_
 have one5 : [i64 e.k,str e.t,va,vk,i64 e.a].all one1 = true := by
   obtain ⟨p1,c1,e1,_⟩ := oA.shape
   obtain ⟨p2,c2,e2,_⟩ := oK.shape
   rw [e1,e2]; rfl
 refine alloc_new fun a5 w4 ha5 hz4 hb4 hx4 => ?_
 refine st_agg_at (l := [i64 e.k,str e.t,va,vk,i64 e.a]) hb4 rfl rfl one5 fun w5 hz5 hb5 hc5 => ?_
 have hx15 : Ext w1 w5 := hx4.new hc5 (by omega)
 have hb1 := hx15.at hb1 id
 have hf := hf1.ext hx15
 have oA := oA.ext hx15
 have oK := oK.ext hx15
 have hx5 := hx1.trans hx15
 clear hf1 hx15 hc5 hb4 hx4 q1 q2
 refine fld5 (off := 2) hb5 rfl ?_
 rw [lenl_at oA]
 have hal : (argsT e (exprM f)).length = e.args.length := by unfold argsT; rw [List.length_map,List.length_range]
 have hag : ∀ k,k < e.args.length → (argsT e (exprM f))[k]? = some (argT e (exprM f) k) := fun k hk => by
   unfold argsT
   rw [List.getElem?_map,List.getElem?_range hk]; rfl
 have harg : ∀ k,k < e.args.length → (argT e (exprM f) k).length ≤ 200000000 := fun k hk => by
   unfold argT
   have h1 := hO.len (e.args.getD k 0)
   rw [List.length_append]
   split
   · rename_i h8
     have h2 := hX.a8 h8
     have h3 := hO.keyl e hm h8 (e.keys.getD k []) (by rw [List.getD_eq_getElem?_getD,List.getElem?_eq_getElem (show k < e.keys.length by omega)]; exact List.getElem_mem _)
     have h4 := plain_len (e.keys.getD k [])
     simp only [List.length_append,List.length_cons,List.length_nil]
     omega
   · simp only [List.length_nil]; omega
 have hfewA := hX.few
 refine LoopW.go (fun st w' => ∃ (k : Nat) (v : Value),st = [v,i64 (k : Nat)] ∧ k ≤ e.args.length ∧ Own w' w5.heap.size StT 1 v k (strs ((argsT e (exprM f)).take k)) ∧ Ext w5 w') (fun st _ => match st with | [_,.int _ k] => e.args.length - k.toNat | _ => 0) ⟨0,.slice none 0 0,rfl,by omega,⟨by simp [strs],.inl ⟨rfl,rfl⟩⟩,Chg.refl _ _⟩ ?_
 rintro st g w7 ⟨k,v,rfl,hk,hO7,hx7⟩
 simp only [List.getD_cons_zero,List.getD_cons_succ]
 rw [bin_lss,condW_dec]
 refine ⟨fun hlt2 => ?_,fun hge2 => ?_⟩
 · have hlt2 : k < e.args.length := by omega
   have gk := List.getElem?_eq_getElem hlt2
   have hgd : e.args.getD k 0 = e.args[k] := by rw [List.getD_eq_getElem?_getD,gk]; rfl
   have hai := hah e.args[k] (List.getElem_mem hlt2)
   have hak := hag k hlt2
   have hargk := harg k hlt2
   unfold argT at hak hargk
   rw [hgd] at hak hargk
   generalize e.args[k] = q at gk hai hak hargk
   refine ixa_ld (oA.ext hx7) (by simp [ints]) (int_get gk) ?_
   refine ld_row (hx7.at hb1 id) rfl ?_
   refine ih q hai w7 _ (by omega) (hf.ext hx7) fun w8 hx8 => ?_
   have hx58 := hx7.trans hx8
   refine JoinW.cut (fun st w' => st = [str ((if e.k = 8 then [34] ++ plainM (e.keys.getD k []) ++ [34,32,61,32] else []) ++ exprM f q)] ∧ Ext w8 w') ?_ ?_
   · refine fld5 (off := 0) (hx58.at hb5 id) rfl ?_
     rw [bin_eql,condW_dec]
     refine ⟨fun h8 => ?_,fun h8 => ?_⟩
     · rw [if_pos h8] at hargk ⊢
       have hkl : k < e.keys.length := by have := hX.a8 h8; omega
       refine fld5 (off := 3) (hx58.at hb5 id) rfl ?_
       refine ixa_ld (oK.ext hx58) (by simp [strs]) (strs_get hkl) ?_
       have hu := hX.uk (e.keys.getD k []) (by rw [List.getD_eq_getElem?_getD,List.getElem?_eq_getElem hkl]; exact List.getElem_mem _)
       refine splain_p hu.1 hu.2 fun w10 hx10 => ?_
       simp only [List.length_append,List.length_cons,List.length_nil] at hargk
       rw [bin_sadd]
       refine ⟨by rw [emax,List.length_cons,List.length_nil]; omega,?_⟩
       rw [bin_sadd]
       refine ⟨by rw [emax]; simp only [List.length_append,List.length_cons,List.length_nil]; omega,?_⟩
       rw [bin_sadd]
       refine ⟨by rw [emax]; simp only [List.length_append,List.length_cons,List.length_nil]; omega,?_⟩
       exact ⟨rfl,hx10⟩
     · rw [if_neg h8]
       exact ⟨rfl,Chg.refl _ _⟩
   · rintro st g9 w11 ⟨rfl,hx11⟩
     simp only [List.getD_cons_zero]
     refine bsl_str fun r w12 hr hz12 hrb hx12 => ?_
     have hx712 := (hx8.trans hx11).trans hx12
     have hz712 := hx712.size
     have hz57 := hx7.size
     refine append_own3 el_st (hO7.ext hx712) (slat_new' (n := 1) (T := StT) hrb) rfl (fun u hu => by simp only [List.mem_singleton] at hu; subst hu; rfl) (by omega) (by omega) (by omega) fun v' w13 hO13 hc13 hv13 => ?_
     rw [bin_add,upi (by omega)]
     refine ⟨⟨k + 1,v',rfl,by omega,?_,(hx7.trans hx712).then hc13 fun b hb hv => by have := (own_lt hO7 hv).2; omega⟩,?_⟩
     · have e1 : strs ((argsT e (exprM f)).take (k + 1)) = strs ((argsT e (exprM f)).take k) ++ [str ((if e.k = 8 then [34] ++ plainM (e.keys.getD k []) ++ [34,32,61,32] else []) ++ exprM f q)] := by
         rw [List.take_add_one,hak]; simp [strs]
       rw [e1]; exact hO13
     · simp only [Int.toNat_natCast]; omega
 obtain rfl : k = e.args.length := by omega
 rw [← hal,List.take_length] at hO7
 have hsl := hO7.sl
 have hgl : ∀ k,k < e.args.length → (strs (argsT e (exprM f)))[k]? = some (str ((argsT e (exprM f)).getD k [])) := fun k hk => strs_get (by omega)
 have hLL : ∀ x ∈ argsT e (exprM f),x.length ≤ 200000000 := fun x hx => by
   obtain ⟨j,hj⟩ := List.mem_iff_getElem?.1 hx
   have hj2 : j < e.args.length := by have := (List.getElem?_eq_some_iff.1 hj).1; omega
   rw [hag j hj2] at hj
   injection hj with hj
   rw [← hj]; exact harg j hj2
 have hjl := join_le [44,32] _ 200000000 hLL
 rw [hal] at hjl
 have hjb : (joinL (argsT e (exprM f)) [44,32]).length ≤ 140737488355328 := by
   refine Nat.le_trans hjl (Nat.le_trans (Nat.mul_le_mul_right _ hfewA) ?_)
   decide
 clear hjl harg hag hLL
 generalize argsT e (exprM f) = l at *
 refine sjoin_p (l := l) (T := StT) hsl (by omega) hjb fun w14 hx14 => ?_
 have hx514 := hx7.trans hx14
 have hxT := hx5.trans hx514
 have hxD := hxT.trans (ext_drew w14)
 have hb5d := (hx514.trans (ext_drew w14)).at hb5 id
 have hb1 := hx514.at hb1 id
 have hb5 := hx514.at hb5 id
 have hsl := hsl.ext hx14
 have hsd := hsl.ext (ext_drew w14)
 have gl : ∀ {k : Nat} {K' : Value → Prop},k < e.args.length → K' (str (l.getD k [])) → ixaW none 1 v (i64 (k : Nat)) fun t => ldW false 1 t w14.drew K' := fun {k} {K'} hk h => ixa_ld hsd (by simp [strs]) (hgl k hk) h
 have gp : ∀ {k : Nat},k < e.args.length → ∃ q,ixaW none 1 v (i64 (k : Nat)) (fun x => x = q) ∧ ldW false 1 q w14.drew fun x => x = str (l.getD k []) := fun {k} hk => ixa_split (ixa_ld (K := fun x => x = str (l.getD k [])) hsd (by simp [strs]) (hgl k hk) rfl)
 clear hgl ih hO7 hx7 hx14
 refine fld5 (off := 0) hb5 rfl ?_
 rw [bin_eql,condW_dec]
 refine ⟨fun h1 => ?_,fun n1 => ?_⟩
 · rw [show showK f e l = [110,117,108,108] by unfold showK; rw [h1]; rfl] at hK
   exact hK _ hxT
 rw [bin_eql,condW_dec]
 refine ⟨fun h1 => ?_,fun n2 => ?_⟩
 · rw [show showK f e l = [116,114,117,101] by unfold showK; rw [h1]; rfl] at hK
   exact hK _ hxT
 rw [bin_eql,condW_dec]
 refine ⟨fun h1 => ?_,fun n3 => ?_⟩
 · rw [show showK f e l = [102,97,108,115,101] by unfold showK; rw [h1]; rfl] at hK
   exact hK _ hxT
 refine JoinW.cut (fun st w' => st = [.bool (decide (e.k = 4 ∨ e.k = 9))] ∧ w' = w14) ?_ ?_
 · rw [bin_eql,condW_dec]
   refine ⟨fun h => ?_,fun h => ?_⟩
   · rw [decide_eq_true h,decide_eq_true (.inl h)]; exact ⟨rfl,rfl⟩
   · rw [bin_eql,show decide (e.k = 9) = decide (e.k = 4 ∨ e.k = 9) by rw [decide_eq_decide]; omega]
     exact ⟨rfl,rfl⟩
 rintro st g15 w16 ⟨rfl,rfl⟩
 simp only [List.getD_cons_zero]
 rw [condW_dec]
 refine ⟨fun h1 => ?_,fun n4 => ?_⟩
 · rw [show showK f e l = e.t by unfold showK; rw [if_neg n1,if_neg n2,if_neg n3,if_pos h1]] at hK
   refine fld5 (off := 1) hb5 rfl ?_
   exact hK _ hxT
 rw [bin_eql,condW_dec]
 refine ⟨fun h1 => ?_,fun n5 => ?_⟩
 · have hs : showK f e l = [34] ++ plainM e.t ++ [34] := by unfold showK; rw [h1]; rfl
   rw [hs] at hK hL
   refine fld5 (off := 1) hb5 rfl ?_
   refine splain_p hX.ut.1 hX.ut.2 fun w17 hx17 => ?_
   rw [bin_sadd]; refine ⟨by rw [emax]; simp only [List.length_append,List.length_cons,List.length_nil] at hL ⊢; omega,?_⟩
   rw [bin_sadd]; refine ⟨by rw [emax]; simp only [List.length_append,List.length_cons,List.length_nil] at hL ⊢; omega,?_⟩
   exact hK _ (hxT.trans hx17)
 rw [bin_eql,condW_dec]
 refine ⟨fun h1 => ?_,fun n6 => ?_⟩
 · have hs : showK f e l = [34] ++ tplM f e l l.length ++ [34] := by unfold showK; rw [h1]; rfl
   rw [hs] at hK hL
   simp only [List.length_append,List.length_cons,List.length_nil] at hL
   refine ld_row hb1 rfl ?_
   refine ld_row hb5 rfl ?_
   refine template_p (hf.ext hx514) (oA.ext hx514) (oK.ext hx514) hsl hal (hX.a6 h1) (fun a ha => by have := hah a ha; omega) (fun x hx => (hO.xs x hx).ut) (by omega) (by omega) fun w18 hx18 => ?_
   exact hK _ (hxT.trans hx18)
 rw [bin_eql,condW_dec]
 refine ⟨fun h1 => ?_,fun n7 => ?_⟩
 · have hs : showK f e l = [91] ++ joinL l [44,32] ++ [93] := by unfold showK; rw [h1]; rfl
   rw [hs] at hK hL
   rw [bin_sadd]; refine ⟨by rw [emax]; simp only [List.length_append,List.length_cons,List.length_nil] at hL ⊢; omega,?_⟩
   rw [bin_sadd]; refine ⟨by rw [emax]; simp only [List.length_append,List.length_cons,List.length_nil] at hL ⊢; omega,?_⟩
   exact hK _ hxT
 rw [bin_eql,condW_dec]
 refine ⟨fun h1 => ?_,fun n8 => ?_⟩
 · have hs : showK f e l = [123] ++ joinL l [44,32] ++ [125] := by unfold showK; rw [h1]; rfl
   rw [hs] at hK hL
   rw [bin_sadd]; refine ⟨by rw [emax]; simp only [List.length_append,List.length_cons,List.length_nil] at hL ⊢; omega,?_⟩
   rw [bin_sadd]; refine ⟨by rw [emax]; simp only [List.length_append,List.length_cons,List.length_nil] at hL ⊢; omega,?_⟩
   exact hK _ hxT
 rw [bin_eql,condW_dec]
 refine ⟨fun h1 => ?_,fun n10 => ?_⟩
 · have hs : showK f e l = [40] ++ l.getD 0 [] ++ [41,46] ++ e.t := by unfold showK; rw [h1]; rfl
   rw [hs] at hK hL
   have ha := hX.a1 (.inl h1)
   refine gl (k := 0) (by omega) ?_
   rw [bin_sadd]; refine ⟨by rw [emax]; simp only [List.length_append,List.length_cons,List.length_nil] at hL ⊢; omega,?_⟩
   rw [bin_sadd]; refine ⟨by rw [emax]; simp only [List.length_append,List.length_cons,List.length_nil] at hL ⊢; omega,?_⟩
   refine fld5 (off := 1) hb5d rfl ?_
   rw [bin_sadd]; refine ⟨by rw [emax]; simp only [List.length_append,List.length_cons,List.length_nil] at hL ⊢; omega,?_⟩
   exact hK _ hxD
 rw [bin_eql,condW_dec]
 refine ⟨fun h1 => ?_,fun n30 => ?_⟩
 · have hs : showK f e l = [40] ++ l.getD 0 [] ++ [41,91,42,93,46] ++ e.t := by unfold showK; rw [h1]; rfl
   rw [hs] at hK hL
   have ha := hX.a1 (.inr h1)
   refine gl (k := 0) (by omega) ?_
   rw [bin_sadd]; refine ⟨by rw [emax]; simp only [List.length_append,List.length_cons,List.length_nil] at hL ⊢; omega,?_⟩
   rw [bin_sadd]; refine ⟨by rw [emax]; simp only [List.length_append,List.length_cons,List.length_nil] at hL ⊢; omega,?_⟩
   refine fld5 (off := 1) hb5d rfl ?_
   rw [bin_sadd]; refine ⟨by rw [emax]; simp only [List.length_append,List.length_cons,List.length_nil] at hL ⊢; omega,?_⟩
   exact hK _ hxD
 rw [bin_eql,condW_dec]
 refine ⟨fun h1 => ?_,fun n11 => ?_⟩
 · have hs : showK f e l = [40] ++ l.getD 0 [] ++ [41,91] ++ l.getD 1 [] ++ [93] := by unfold showK; rw [h1]; rfl
   rw [hs] at hK hL
   have ha := hX.a2 (.inl h1)
   refine gl (k := 0) (by omega) ?_
   rw [bin_sadd]; refine ⟨by rw [emax]; simp only [List.length_append,List.length_cons,List.length_nil] at hL ⊢; omega,?_⟩
   rw [bin_sadd]; refine ⟨by rw [emax]; simp only [List.length_append,List.length_cons,List.length_nil] at hL ⊢; omega,?_⟩
   refine gl (k := 1) (by omega) ?_
   rw [bin_sadd]; refine ⟨by rw [emax]; simp only [List.length_append,List.length_cons,List.length_nil] at hL ⊢; omega,?_⟩
   rw [bin_sadd]; refine ⟨by rw [emax]; simp only [List.length_append,List.length_cons,List.length_nil] at hL ⊢; omega,?_⟩
   exact hK _ hxD
 rw [bin_eql,condW_dec]
 refine ⟨fun h1 => ?_,fun n12 => ?_⟩
 · have hs : showK f e l = e.t ++ [40] ++ joinL l [44,32] ++ [41] := by unfold showK; rw [h1]; rfl
   rw [hs] at hK hL
   refine fld5 (off := 1) hb5 rfl ?_
   rw [bin_sadd]; refine ⟨by rw [emax]; simp only [List.length_append,List.length_cons,List.length_nil] at hL ⊢; omega,?_⟩
   rw [bin_sadd]; refine ⟨by rw [emax]; simp only [List.length_append,List.length_cons,List.length_nil] at hL ⊢; omega,?_⟩
   rw [bin_sadd]; refine ⟨by rw [emax]; simp only [List.length_append,List.length_cons,List.length_nil] at hL ⊢; omega,?_⟩
   exact hK _ hxT
 rw [bin_eql,condW_dec]
 refine ⟨fun h1 => ?_,fun n13 => ?_⟩
 · have hs : showK f e l = [40,45] ++ joinL l [44,32] ++ [41] := by unfold showK; rw [h1]; rfl
   rw [hs] at hK hL
   rw [bin_sadd]; refine ⟨by rw [emax]; simp only [List.length_append,List.length_cons,List.length_nil] at hL ⊢; omega,?_⟩
   rw [bin_sadd]; refine ⟨by rw [emax]; simp only [List.length_append,List.length_cons,List.length_nil] at hL ⊢; omega,?_⟩
   exact hK _ hxT
 rw [bin_eql,condW_dec]
 refine ⟨fun h1 => ?_,fun n14 => ?_⟩
 · have hs : showK f e l = [40,33] ++ joinL l [44,32] ++ [41] := by unfold showK; rw [h1]; rfl
   rw [hs] at hK hL
   rw [bin_sadd]; refine ⟨by rw [emax]; simp only [List.length_append,List.length_cons,List.length_nil] at hL ⊢; omega,?_⟩
   rw [bin_sadd]; refine ⟨by rw [emax]; simp only [List.length_append,List.length_cons,List.length_nil] at hL ⊢; omega,?_⟩
   exact hK _ hxT
 rw [bin_eql,condW_dec]
 refine ⟨fun h1 => ?_,fun n28 => ?_⟩
 · have hs : showK f e l = [40] ++ l.getD 0 [] ++ [32,63,32] ++ l.getD 1 [] ++ [32,58,32] ++ l.getD 2 [] ++ [41] := by unfold showK; rw [h1]; rfl
   rw [hs] at hK hL
   have ha := hX.a3 h1
   refine gl (k := 0) (by omega) ?_
   rw [bin_sadd]; refine ⟨by rw [emax]; simp only [List.length_append,List.length_cons,List.length_nil] at hL ⊢; omega,?_⟩
   rw [bin_sadd]; refine ⟨by rw [emax]; simp only [List.length_append,List.length_cons,List.length_nil] at hL ⊢; omega,?_⟩
   refine gl (k := 1) (by omega) ?_
   rw [bin_sadd]; refine ⟨by rw [emax]; simp only [List.length_append,List.length_cons,List.length_nil] at hL ⊢; omega,?_⟩
   rw [bin_sadd]; refine ⟨by rw [emax]; simp only [List.length_append,List.length_cons,List.length_nil] at hL ⊢; omega,?_⟩
   refine gl (k := 2) (by omega) ?_
   rw [bin_sadd]; refine ⟨by rw [emax]; simp only [List.length_append,List.length_cons,List.length_nil] at hL ⊢; omega,?_⟩
   rw [bin_sadd]; refine ⟨by rw [emax]; simp only [List.length_append,List.length_cons,List.length_nil] at hL ⊢; omega,?_⟩
   exact hK _ hxD
 rw [bin_eql,condW_dec]
 refine ⟨fun h1 => ?_,fun n29 => ?_⟩
 · have hs : showK f e l = [91,102,111,114,32] ++ e.t ++ [32,105,110,32] ++ l.getD 0 [] ++ [32,58,32] ++ l.getD 1 [] ++ [93] := by unfold showK; rw [h1]; rfl
   rw [hs] at hK hL
   have ha := hX.a2 (.inr (.inl h1))
   refine fld5 (off := 1) hb5d rfl ?_
   rw [bin_sadd]; refine ⟨by rw [emax]; simp only [List.length_append,List.length_cons,List.length_nil] at hL ⊢; omega,?_⟩
   rw [bin_sadd]; refine ⟨by rw [emax]; simp only [List.length_append,List.length_cons,List.length_nil] at hL ⊢; omega,?_⟩
   refine gl (k := 0) (by omega) ?_
   rw [bin_sadd]; refine ⟨by rw [emax]; simp only [List.length_append,List.length_cons,List.length_nil] at hL ⊢; omega,?_⟩
   rw [bin_sadd]; refine ⟨by rw [emax]; simp only [List.length_append,List.length_cons,List.length_nil] at hL ⊢; omega,?_⟩
   refine gl (k := 1) (by omega) ?_
   rw [bin_sadd]; refine ⟨by rw [emax]; simp only [List.length_append,List.length_cons,List.length_nil] at hL ⊢; omega,?_⟩
   rw [bin_sadd]; refine ⟨by rw [emax]; simp only [List.length_append,List.length_cons,List.length_nil] at hL ⊢; omega,?_⟩
   exact hK _ hxD
 have hlo := hX.lo
 have hhi := hX.hi
 have hrange : 15 ≤ e.k ∧ e.k ≤ 27 := by omega
 have ha := hX.a2 (.inr (.inr hrange))
 have hs : showK f e l = [40] ++ l.getD 0 [] ++ [32] ++ sigT.getD (e.k - 15).toNat [] ++ [32] ++ l.getD 1 [] ++ [41] := by
   unfold showK
   rw [if_neg n1,if_neg n2,if_neg n3,if_neg n4,if_neg n5,if_neg n6,if_neg n7,if_neg n8,if_neg n10,if_neg n30,if_neg n11,if_neg n12,if_neg n13,if_neg n14,if_neg n28,if_neg n29]
 rw [hs] at hK hL
 obtain ⟨p0,i0,l0⟩ := gp (k := 0) (by omega)
 obtain ⟨p1,i1,l1⟩ := gp (k := 1) (by omega)
 refine ixa_to i0 ?_
 refine ld_to l0 ?_
 rw [bin_sadd]; refine ⟨by rw [emax]; simp only [List.length_append,List.length_cons,List.length_nil] at hL ⊢; omega,?_⟩
 rw [bin_sadd]; refine ⟨by rw [emax]; simp only [List.length_append,List.length_cons,List.length_nil] at hL ⊢; omega,?_⟩
 refine fld5 (off := 0) hb5d rfl ?_
 refine ixa_to i1 ?_
 refine ld_to l1 ?_
 refine sign_s hrange.1 hrange.2 ?_
 refine ⟨l1,l0,?_⟩
 rw [bin_sadd]; refine ⟨by rw [emax]; simp only [List.length_append,List.length_cons,List.length_nil] at hL ⊢; omega,?_⟩
 rw [bin_sadd]; refine ⟨by rw [emax]; simp only [List.length_append,List.length_cons,List.length_nil] at hL ⊢; omega,?_⟩
 rw [bin_sadd]; refine ⟨by rw [emax]; simp only [List.length_append,List.length_cons,List.length_nil] at hL ⊢; omega,?_⟩
 rw [bin_sadd]; refine ⟨by rw [emax]; simp only [List.length_append,List.length_cons,List.length_nil] at hL ⊢; omega,?_⟩
 exact hK _ hxD
end Go.Proofs.YtofhaneggcpdaaaGreatDoor
namespace Go.Proofs.YtofhaneggcpdaaaGreatDoor
open Go Go.Eng Go.RowKit Go.Syn Go.Lex
set_option maxRecDepth 100000
set_option maxHeartbeats 1000000
structure BOk (f : Fl) : Prop where
 ahead : ∀ (i : Nat) (b : Blk),f.bl[i]? = some b → ∀ a ∈ b.blocks,a < i
 few : f.bl.length ≤ 100000 ∧ f.top.length ≤ 100000 ∧ ∀ b ∈ f.bl,b.labels.length ≤ 1000000 ∧ b.attrs.length ≤ 1000000 ∧ b.blocks.length ≤ 1000000
 ut : ∀ b ∈ f.bl,∀ s ∈ b.labels,Utf s ∧ s.length ≤ 1000000000
 at_ : ∀ b ∈ f.bl,∀ a ∈ b.attrs,a.e ≤ 1000000
theorem labs_next {l : List Str} {k : Nat} {s : Str} (h : l[k]? = some s) : labsM (l.take (k + 1)) = labsM (l.take k) ++ ([32,34] ++ plainM s ++ [34]) := by
 unfold labsM
 rw [List.take_add_one,h,List.map_append,List.flatten_append]
 simp
theorem flat_next {α : Type} (F : α → Str) {l : List α} {k : Nat} {s : α} (h : l[k]? = some s) : ((l.take (k + 1)).map F).flatten = ((l.take k).map F).flatten ++ F s := by
 rw [List.take_add_one,h,List.map_append,List.flatten_append]
 simp
theorem flat_take_le {α : Type} (F : α → Str) (l : List α) (k : Nat) : ((l.take k).map F).flatten.length ≤ (l.map F).flatten.length := by
 have : l.map F = (l.take k).map F ++ (l.drop k).map F := by rw [← List.map_append,List.take_append_drop]
 rw [this,List.flatten_append,List.length_append]; omega
theorem labs_take_le (l : List Str) (k : Nat) : (labsM (l.take k)).length ≤ (labsM l).length := flat_take_le _ l k
theorem in_len (n : Nat) : (inM n).length = 2 * n := by
 unfold inM
 induction n with
 | zero => rfl
 | succ n ih => rw [List.replicate_succ,List.flatten_cons,List.length_append,ih]; simp; omega
theorem srepL (l : Str) : ∀ n,Lib.repeatL l n = (List.replicate n l).flatten
 | 0 => rfl
 | n + 1 => by rw [Lib.repeatL,srepL l n,List.replicate_succ,List.flatten_cons]
variable [HX]
theorem srepeat_p {s : Str} {n : Nat} {w : World} {K : Value → World → Prop} (hs : s.length ≤ 1000) (hn : n ≤ 1000000) (hK : ∀ w',Ext w w' → K (str (List.replicate n s).flatten) w') : callF Tryz.prog 64 [str s,i64 (n : Nat)] w K := by
 refine of_calls (args := #[str s,i64 (n : Nat)]) Tryz.call64 ((Tryz.strings_Repeat (ofL s) n w (by omega) (by rw [ofL_size]; exact Nat.le_trans (Nat.mul_le_mul hs hn) (by decide))).mono ?_)
 rintro e w' ⟨rfl,hb⟩
 rw [ofL_data,srepL]
 exact ⟨_,rfl,hK _ (Chg.of_below hb)⟩
theorem showB_p {f : Fl} {M : Lay} (hO : FOk f) (hB : BOk f) {w0 : World} (hf : FV w0 M f) : ∀ (i : Nat) (w : World) (K : Value → World → Prop) (B b : Nat) (l : Str) (n : Nat),i < f.bl.length → n + i ≤ 1000000 → Bld w B b l → Ext w0 w → w0.heap.size ≤ B → B ≤ w.heap.size → l.length + (blockM f i n).length ≤ 1000000000 →
   (∀ w',Bld w' B b (l ++ blockM f i n) → Chg (BCh w B b) w w' → K (.tuple #[]) w') → callF Tryz.prog 33 [.pointer (some ⟨b,0,none⟩),.agg [M.vE,M.vB,M.vT].toArray,i64 (i : Nat),i64 (n : Nat)] w K := by
 intro i
 induction i using Nat.strongRecOn with
 | ind i ih =>
 intro w K B b l n hi hn hbl h0 hB0 hBw hL hK
 refine W33_ok ?_
 unfold W33
 have emax : IntKind.i64.max = 9223372036854775807 := by decide
 have hbB := hbl.base
 refine box_new (z := [M.vE,M.vB,M.vT]) fun p w1 hp hz1 hb1 hx1 => ?_
 have hbw := hbl.lt
 have hbl1 := hbl.ext hx1
 have hf1 := hf.ext (h0.trans hx1)
 have ge := List.getElem?_eq_getElem hi
 generalize f.bl[i] = x at ge
 have hm := List.mem_of_getElem? ge
 have hah := hB.ahead i x ge
 have heq := block_eq hB.ahead ge n
 rw [heq] at hK hL
 obtain ⟨few1,few2,few3⟩ := hB.few.2.2 x hm
 have hut := hB.ut x hm
 have hat := hB.at_ x hm
 have hin := in_len n
 obtain ⟨vl,va,vb,erow,oL,oA,oB⟩ := hf.bb.2 i x ge
 refine fld5 (off := 1) hb1 rfl ?_
 refine ixa_row (d := [str x.typ,vl,va,vb,i64 x.a]) hf1.oB hf1.bb.1 (by omega) hi erow ?_
 have one5 : [str x.typ,vl,va,vb,i64 x.a].all one1 = true := by
   obtain ⟨p0,c0,e0,_⟩ := oL.shape
   obtain ⟨p1,c1,e1,_⟩ := oA.shape
   obtain ⟨p2,c2,e2,_⟩ := oB.shape
   rw [e0,e1,e2]; rfl
 refine alloc_new fun a8 w2 ha8 hz2 hb2 hx2 => ?_
 refine st_agg_at (l := [str x.typ,vl,va,vb,i64 x.a]) hb2 rfl rfl one5 fun w3 hz3 hb3 hc3 => ?_
 have hx13 : Ext w1 w3 := hx2.new hc3 (by omega)
 have hz13 := hx13.size
 refine srepeat_p (by simp) (by omega) fun w4 hx4 => ?_
 rw [show (List.replicate n ([32,32] : Str)).flatten = inM n from rfl]
 have hx14 := hx13.trans hx4
 have hx04 := (h0.trans hx1).trans hx14
 have hbl4 := hbl1.ext hx14
 have hb14 := hx14.at hb1 id
 have hb84 := hx4.at hb3 id
 have hz4 := hx14.size
 have hpb : p ≠ b := by omega
 have h8b : a8 ≠ b := by omega
 have hxw4 : Ext w w4 := hx1.trans hx14
 simp only [List.length_append,List.length_cons,List.length_nil] at hL
 have hKc : ∀ w',Bld w' B b (l ++ (inM n ++ x.typ ++ labsM x.labels ++ [32,123,10] ++ (x.attrs.map (atrM f n)).flatten ++ (x.blocks.map fun k => blockM f k (n + 1)).flatten ++ inM n ++ [125,10])) → Chg (BCh w4 B b) w4 w' → K (.tuple #[]) w' := fun w' h1 h2 => hK w' h1 (BCh.from hxw4 h2)
 clear hK hb1 hb2 hb3 hc3 hx2 hx13 hbl1 hf1 hx1 hx14 hx4 hz13
 -- what stays
 have st : ∀ {w'},Chg (BCh w4 B b) w4 w' → w'.heap[p]? = some (.cells [M.vE,M.vB,M.vT].toArray FlT (0,0)) ∧ w'.heap[a8]? = some (.cells [str x.typ,vl,va,vb,i64 x.a].toArray BkT (0,0)) ∧ Ext w0 w' ∧ w4.heap.size ≤ w'.heap.size := fun {w'} hc =>
   ⟨BCh.keep hc hb14 hpb (by decide),BCh.keep hc hb84 h8b (by decide),BCh.new hx04 hB0 hbB hc,hc.size⟩
 have far : ∀ {v : Value} {T : TypeId} {c : Nat} {cs : List Value} {w'},SlAt w0 T v c cs → Chg (BCh w4 B b) w4 w' → SlAt w' T v c cs := fun hs hc => hs.ext (BCh.new hx04 hB0 hbB hc)
 -- the first line
 refine fld5 (off := 0) hb84 rfl ?_
 rw [bin_sadd]
 refine ⟨by rw [emax]; omega,?_⟩
 refine wstr_p hbl4 (by omega) (by rw [List.length_append]; omega) fun v5 w5 h5 hc5 => ?_
 obtain ⟨s5p,s5a,s5x,s5z⟩ := st hc5
 refine fld5 (off := 1) s5a rfl ?_
 rw [lenl_at (far oL hc5)]
 refine LoopW.go (fun st w' => ∃ k : Nat,st = [i64 (k : Nat)] ∧ k ≤ x.labels.length ∧ Bld w' B b (l ++ (inM n ++ x.typ) ++ labsM (x.labels.take k)) ∧ Chg (BCh w4 B b) w4 w') (fun st _ => match st with | [.int _ k] => x.labels.length - k.toNat | _ => 0) ⟨0,rfl,by omega,by rw [List.take_zero]; simpa [labsM] using h5,hc5⟩ ?_
 clear h5 hc5 s5p s5a s5x s5z
 rintro st' g w7 ⟨k,rfl,hk,h7,hc7⟩
 obtain ⟨s7p,s7a,s7x,s7z⟩ := st hc7
 simp only [List.getD_cons_zero]
 rw [bin_lss,condW_dec]
 have hlk := labs_take_le x.labels k
 refine ⟨fun hlt => ?_,fun hge => ?_⟩
 · have hlt : k < x.labels.length := by omega
   have gk := List.getElem?_eq_getElem hlt
   have hgd : x.labels.getD k [] = x.labels[k] := by rw [List.getD_eq_getElem?_getD,gk]; rfl
   have hu := hut x.labels[k] (List.getElem_mem hlt)
   have hsg := strs_get hlt
   rw [hgd] at hsg
   have hnx := labs_next gk
   have hle := labs_take_le x.labels (k + 1)
   generalize x.labels[k] = s at gk hu hsg hnx
   rw [hnx] at hle
   simp only [List.length_append,List.length_cons,List.length_nil] at hle
   refine ixa_ld (far oL hc7) (by simp [strs]) hsg ?_
   refine splain_p hu.1 hu.2 fun w8 hx8 => ?_
   rw [bin_sadd]; refine ⟨by rw [emax]; simp only [List.length_append,List.length_cons,List.length_nil]; omega,?_⟩
   rw [bin_sadd]; refine ⟨by rw [emax]; simp only [List.length_append,List.length_cons,List.length_nil]; omega,?_⟩
   have hz8 := hx8.size
   refine wstr_p (h7.ext hx8) (by omega) (by simp only [List.length_append,List.length_cons,List.length_nil]; omega) fun v9 w9 h9 hc9 => ?_
   rw [bin_add,upi (by omega)]
   refine ⟨⟨k + 1,rfl,by omega,by rw [hnx,← List.append_assoc]; exact h9,BCh.trans (BCh.ext hc7 hx8) hc9⟩,?_⟩
   simp only [Int.toNat_natCast]; omega
 obtain rfl : k = x.labels.length := by omega
 rw [List.take_length] at h7
 refine wstr_p h7 (by omega) (by simp only [List.length_append,List.length_cons,List.length_nil]; omega) fun v10 w10 h10 hc10 => ?_
 have hc10 := BCh.trans hc7 hc10
 clear h7 hc7 s7p s7a s7x s7z hlk hge
 obtain ⟨s5p,s5a,s5x,s5z⟩ := st hc10
 -- the attributes
 refine fld5 (off := 2) s5a rfl ?_
 rw [lenl_at (far oA hc10)]
 refine LoopW.go (fun st w' => ∃ k : Nat,st = [i64 (k : Nat)] ∧ k ≤ x.attrs.length ∧ Bld w' B b (l ++ (inM n ++ x.typ) ++ labsM x.labels ++ [32,123,10] ++ ((x.attrs.take k).map (atrM f n)).flatten) ∧ Chg (BCh w4 B b) w4 w') (fun st _ => match st with | [.int _ k] => x.attrs.length - k.toNat | _ => 0) ⟨0,rfl,by omega,by rw [List.take_zero]; simpa using h10,hc10⟩ ?_
 clear h10 hc10 s5p s5a s5x s5z
 rintro st' g w12 ⟨k,rfl,hk,h12,hc12⟩
 obtain ⟨s7p,s7a,s7x,s7z⟩ := st hc12
 simp only [List.getD_cons_zero]
 rw [bin_lss,condW_dec]
 have hlk := flat_take_le (atrM f n) x.attrs k
 refine ⟨fun hlt => ?_,fun hge => ?_⟩
 · have hlt : k < x.attrs.length := by omega
   have gk := List.getElem?_eq_getElem hlt
   have hae := hat x.attrs[k] (List.getElem_mem hlt)
   have hnx := flat_next (atrM f n) gk
   have hle := flat_take_le (atrM f n) x.attrs (k + 1)
   generalize x.attrs[k] = a at gk hae hnx
   rw [hnx] at hle
   have heA : atrM f n a = inM n ++ [32,32] ++ a.n ++ [32,61,32] ++ exprM f a.e ++ [10] := rfl
   rw [heA] at hle
   simp only [List.length_append,List.length_cons,List.length_nil] at hle
   refine ixa_row (d := [str a.n,i64 (a.e : Nat),i64 a.a]) (far oA hc12) (atrs_len _) (by omega) hlt (atr_row gk) ?_
   refine alloc_new fun a13 w13 ha13 hz13 hb13 hx13 => ?_
   refine st_agg_at (l := [str a.n,i64 (a.e : Nat),i64 a.a]) hb13 rfl rfl rfl fun w14 hz14 hb14' hc14 => ?_
   have hx14 : Ext w12 w14 := hx13.new hc14 (by omega)
   have hx14d := hx14.trans (ext_drew w14)
   have hb14d := (ext_drew w14).at hb14' id
   rw [bin_sadd]; refine ⟨by rw [emax]; simp only [List.length_append,List.length_cons,List.length_nil]; omega,?_⟩
   rw [fld_ptr]
   refine ld_to (ld5 (off := 0) hb14d rfl) ?_
   rw [bin_sadd]; refine ⟨by rw [emax]; simp only [List.length_append,List.length_cons,List.length_nil]; omega,?_⟩
   rw [bin_sadd]; refine ⟨by rw [emax]; simp only [List.length_append,List.length_cons,List.length_nil]; omega,?_⟩
   refine ld_row (hx14d.at s7p id) rfl ?_
   refine fld5 (off := 1) hb14d rfl ?_
   refine showX_p hO a.e _ _ hae (hf.ext (s7x.trans hx14d)) fun w15 hx15 => ?_
   refine ⟨ld5 (off := 0) (hx15.at hb14d id) rfl,?_⟩
   rw [bin_sadd]; refine ⟨by rw [emax]; simp only [List.length_append,List.length_cons,List.length_nil]; omega,?_⟩
   rw [bin_sadd]; refine ⟨by rw [emax]; simp only [List.length_append,List.length_cons,List.length_nil]; omega,?_⟩
   have hx1215 := hx14d.trans hx15
   have hz15 := hx1215.size
   refine wstr_p (h12.ext hx1215) (by omega) (by simp only [List.length_append,List.length_cons,List.length_nil]; omega) fun v16 w16 h16 hc16 => ?_
   rw [bin_add,upi (by omega)]
   refine ⟨⟨k + 1,rfl,by omega,by rw [hnx,← List.append_assoc]; exact h16,BCh.trans (BCh.ext hc12 hx1215) hc16⟩,?_⟩
   simp only [Int.toNat_natCast]; omega
 obtain rfl : k = x.attrs.length := by omega
 rw [List.take_length] at h12
 -- the blocks
 refine fld5 (off := 3) s7a rfl ?_
 rw [lenl_at (far oB hc12)]
 refine LoopW.go (fun st w' => ∃ k : Nat,st = [i64 (k : Nat)] ∧ k ≤ x.blocks.length ∧ Bld w' B b (l ++ (inM n ++ x.typ) ++ labsM x.labels ++ [32,123,10] ++ (x.attrs.map (atrM f n)).flatten ++ ((x.blocks.take k).map fun k => blockM f k (n + 1)).flatten) ∧ Chg (BCh w4 B b) w4 w') (fun st _ => match st with | [.int _ k] => x.blocks.length - k.toNat | _ => 0) ⟨0,rfl,by omega,by rw [List.take_zero]; simpa using h12,hc12⟩ ?_
 clear h12 hc12 s7p s7a s7x s7z hlk hge
 rintro st' g w18 ⟨k,rfl,hk,h18,hc18⟩
 obtain ⟨s7p,s7a,s7x,s7z⟩ := st hc18
 simp only [List.getD_cons_zero]
 rw [bin_lss,condW_dec]
 have hlk := flat_take_le (fun k => blockM f k (n + 1)) x.blocks k
 refine ⟨fun hlt => ?_,fun hge => ?_⟩
 · have hlt : k < x.blocks.length := by omega
   have gk := List.getElem?_eq_getElem hlt
   have hai := hah x.blocks[k] (List.getElem_mem hlt)
   have hnx := flat_next (fun k => blockM f k (n + 1)) gk
   have hle := flat_take_le (fun k => blockM f k (n + 1)) x.blocks (k + 1)
   generalize x.blocks[k] = q at gk hai hnx
   rw [hnx] at hle
   simp only [List.length_append] at hle
   refine ixa_ld (far oB hc18) (by simp [ints]) (int_get gk) ?_
   refine ld_row s7p rfl ?_
   rw [bin_add,upi (by omega)]
   refine ih q hai w18 _ B b _ (n + 1) (by omega) (by omega) h18 s7x hB0 (by omega) (by simp only [List.length_append,List.length_cons,List.length_nil]; omega) fun w19 h19 hc19 => ?_
   rw [bin_add,upi (by omega)]
   refine ⟨⟨k + 1,rfl,by omega,by rw [hnx,← List.append_assoc]; exact h19,BCh.trans hc18 hc19⟩,?_⟩
   simp only [Int.toNat_natCast]; omega
 obtain rfl : k = x.blocks.length := by omega
 rw [List.take_length] at h18
 rw [bin_sadd]; refine ⟨by rw [emax]; simp only [List.length_append,List.length_cons,List.length_nil]; omega,?_⟩
 refine wstr_p h18 (by omega) (by simp only [List.length_append,List.length_cons,List.length_nil]; omega) fun v20 w20 h20 hc20 => ?_
 refine hKc w20 ?_ (BCh.trans hc18 hc20)
 simpa only [List.append_assoc] using h20
theorem showF_p {f : Fl} {M : Lay} (hO : FOk f) (hB : BOk f) {w : World} {K : Value → World → Prop} (hf : FV w M f) (hin : ∀ i ∈ f.top,i < f.bl.length) (hL : (fileM f).length ≤ 1000000000) (hK : ∀ w',Ext w w' → K (str (fileM f)) w') : callF Tryz.prog 13 [.agg [M.vE,M.vB,M.vT].toArray] w K := by
 refine W13_ok ?_
 unfold W13
 refine box_new (z := [M.vE,M.vB,M.vT]) fun p w1 hp hz1 hb1 hx1 => ?_
 refine bnew (B := w1.heap.size) (Nat.le_refl _) fun b w2 hbb h2 hx2 => ?_
 have hz2 := hx2.size
 have hb2 := h2.lt
 have hf1 := hf.ext hx1
 have few := hB.few
 refine fld5 (off := 2) (hx2.at hb1 id) rfl ?_
 rw [lenl_at (hf1.ext hx2).oT]
 refine LoopW.go (fun st w' => ∃ k : Nat,st = [i64 (k : Nat)] ∧ k ≤ f.top.length ∧ Bld w' w1.heap.size b ((f.top.take k).map fun i => blockM f i 0).flatten ∧ Chg (BCh w2 w1.heap.size b) w2 w') (fun st _ => match st with | [.int _ k] => f.top.length - k.toNat | _ => 0) ⟨0,rfl,by omega,h2,Chg.refl _ _⟩ ?_
 rintro st g w4 ⟨k,rfl,hk,h4,hc4⟩
 have hx4 : Ext w1 w4 := BCh.new hx2 (Nat.le_refl _) h2.base hc4
 have hz4 := hx4.size
 simp only [List.getD_cons_zero]
 rw [bin_lss,condW_dec]
 refine ⟨fun hlt => ?_,fun hge => ?_⟩
 · have hlt : k < f.top.length := by omega
   have gk := List.getElem?_eq_getElem hlt
   have hai := hin f.top[k] (List.getElem_mem hlt)
   have hnx := flat_next (fun i => blockM f i 0) gk
   have hle := flat_take_le (fun i => blockM f i 0) f.top (k + 1)
   generalize f.top[k] = q at gk hai hnx
   rw [hnx] at hle
   unfold fileM at hL
   simp only [List.length_append] at hle
   refine ixa_ld (hf1.ext hx4).oT (by simp [ints]) (int_get gk) ?_
   refine ld_row (hx4.at hb1 id) rfl ?_
   refine showB_p hO hB hf1 q w4 _ w1.heap.size b _ 0 hai (by omega) h4 hx4 (Nat.le_refl _) (by omega) (by omega) fun w5 h5 hc5 => ?_
   rw [bin_add,upi (by omega)]
   refine ⟨⟨k + 1,rfl,by omega,by rw [hnx]; exact h5,BCh.trans hc4 hc5⟩,?_⟩
   simp only [Int.toNat_natCast]; omega
 · obtain rfl : k = f.top.length := by omega
   rw [List.take_length] at h4
   refine bstring_p h4 (by omega) fun w6 hc6 => ?_
   exact hK w6 (hx1.trans (hx4.then hc6 fun k hk e => by omega))
end Go.Proofs.YtofhaneggcpdaaaGreatDoor
namespace Go.Proofs.YtofhaneggcpdaaaGreatDoor
open Go Go.Eng Go.Lex
def WL : List Str := [[32],[10],[40],[41],[91],[93],[123],[125],[61],[44],[45],[46],[97],[120],[49],[50],[98],[99],[100],[101],[102],[103],[122],
 [124,124],[38,38],[61,61],[33,61],[60],[62],[60,61],[62,61],[43],[42],[47],[37]]
def kW (w : Str) : Int := (oneM w).1.k
theorem scan_blank (n : Nat) (s : Str) (at_ cnt : Nat) : scanF n (32 :: s) at_ cnt = scanF n s (at_ + 1) cnt := by
 cases n with
 | zero => rfl
 | succ n =>
   rw [scan_step,scan_step]
   have e : skipF ((32 :: s).length + 1) (32 :: s) = ((skipF (s.length + 1) s).1 + 1,(skipF (s.length + 1) s).2) := rfl
   rw [e]
   generalize skipF (s.length + 1) s = k
   simp only [List.drop_succ_cons]
   rw [show at_ + (k.1 + 1) = at_ + 1 + k.1 by omega]
theorem word_sep (w : Str) (hw : w ∈ WL) (h0 : w ≠ [32]) (c : UInt8) (hc : c = 32 ∨ c = 10) (r : Str) : oneM (w ++ c :: r) = (⟨kW w,w,0⟩,w.length,0) ∧ ∀ m,skipF (m + 1) (w ++ c :: r) = (0,0) := by
 simp only [WL,List.mem_cons,List.not_mem_nil,or_false] at hw
 rcases hc with rfl | rfl <;> rcases hw with rfl | rfl | rfl | rfl | rfl | rfl | rfl | rfl | rfl | rfl | rfl | rfl | rfl | rfl | rfl | rfl | rfl | rfl | rfl | rfl | rfl | rfl | rfl | rfl | rfl | rfl | rfl | rfl | rfl | rfl | rfl | rfl | rfl | rfl | rfl <;> first
   | exact absurd rfl h0
   | exact ⟨rfl,fun _ => rfl⟩
theorem word_any (w : Str) (hw : w = [10] ∨ w = [40]) (r : Str) : oneM (w ++ r) = (⟨kW w,w,0⟩,w.length,0) ∧ ∀ m,skipF (m + 1) (w ++ r) = (0,0) := by
 rcases hw with rfl | rfl
 · exact ⟨rfl,fun _ => rfl⟩
 · cases r with
   | nil => exact ⟨rfl,fun _ => rfl⟩
   | cons c r => exact ⟨rfl,fun _ => rfl⟩
end Go.Proofs.YtofhaneggcpdaaaGreatDoor

namespace Go.Proofs.YtofhaneggcpdaaaGreatDoor
open Go Go.Eng Go.Lex Go.Syn
set_option maxRecDepth 100000
def sgL : List Str := [[124,124],[38,38],[61,61],[33,61],[60],[62],[60,61],[62,61],[43],[45],[42],[47],[37]]
def sg (s : Nat) : Str := sgL.getD s [41]
end Go.Proofs.YtofhaneggcpdaaaGreatDoor


namespace Go.Proofs.YtofhaneggcpdaaaGreatDoor
open Go Go.Eng Go.Lex Go.Syn
set_option maxRecDepth 100000
def Sq (L : List Tok) (i d : Nat) (q : Bool) (ex : List Ex) (bl : List Blk) : PS := ⟨L,i,0,d,q,ex,bl⟩
section
variable {L : List Tok} {i d : Nat} {q : Bool} {ex : List Ex} {bl : List Blk} {t n : Tok} {r : List Tok}
theorem tok_at (h : L.drop i = t :: r) : tokI (Sq L i d q ex bl) = t ∧ L.drop (i + 1) = r := by
 have h0 := congrArg (fun l => l[0]?) h
 simp only [List.getElem?_drop,Nat.add_zero,List.getElem?_cons_zero] at h0
 refine ⟨?_,by rw [← List.drop_drop,h]; rfl⟩
 unfold tokI
 show L.getD i _ = _
 rw [List.getD_eq_getElem?_getD,h0]; rfl
theorem run_at (h : L.drop i = t :: r) (ht : t.k ≠ 5) : lineRun (L.drop i) = 0 := by
 rw [h]
 simp only [lineRun]
 rw [if_neg ht]
theorem run_nl (h : L.drop i = n :: t :: r) (hn : n.k = 5) (ht : t.k ≠ 5) : lineRun (L.drop i) = 1 := by
 rw [h]
 simp only [lineRun]
 rw [if_pos hn,if_neg ht]
theorem now_at (h : L.drop i = t :: r) (hq : q = false ∨ t.k ≠ 5) : nowS (Sq L i d q ex bl) = Sq L i d q ex bl ∧ cur (Sq L i d q ex bl) = t := by
 have e : nowS (Sq L i d q ex bl) = Sq L i d q ex bl := by
   unfold nowS
   by_cases hh : q = true
   · rw [if_pos (show (Sq L i d q ex bl).quiet = true from hh)]
     have : lineRun ((Sq L i d q ex bl).toks.drop (Sq L i d q ex bl).i) = 0 := run_at h (hq.resolve_left (by rw [hh]; decide))
     rw [this]; rfl
   · rw [if_neg (show ¬ (Sq L i d q ex bl).quiet = true from hh)]
 refine ⟨e,?_⟩
 unfold cur
 rw [e,(tok_at h).1]
 show (⟨t.k,t.t,t.a + 0⟩ : Tok) = t
 rw [Int.add_zero]
theorem is_of {s : PS} (h : cur s = t) (w : Str) : isS s w = (decide (t.k = 4) && decide (t.t = w)) := by unfold isS; rw [h]
theorem take_no {s : PS} {w : Str} (h : isS s w = false) : takeS s w = (false,nowS s) := by unfold takeS; rw [h,if_neg (by decide)]
theorem take_yes {s : PS} {w : Str} (h : isS s w = true) : takeS s w = (true,step1 (nowS s)) := by unfold takeS; rw [if_pos h]
theorem expr_plain {E S : PS → R Nat} {s s1 : PS} {a : Nat} (h : signR E S s = .ok a s1) (hn : nowS s1 = s1) (hl : ∀ n,n < 6 → levelK (cur s1) n = 0) (hq : isS s1 [63] = false) : exprR E S s = .ok a s1 := by
 have hU : ∀ m,m ≤ 6 → joinU E S m s = .ok a s1 := by
   intro m
   induction m with
   | zero => exact fun _ => h
   | succ m ih =>
     intro hm
     show (joinU E S m s).bind _ = _
     rw [ih (by omega)]
     show joinF (joinU E S m) (5 - m) (s.toks.length + 1) s1 a = _
     simp only [joinF]
     rw [hl _ (by omega),if_pos rfl,hn]
 unfold exprR
 rw [hU 6 (Nat.le_refl _)]
 simp only [R.bind,take_no hq,hn]
 rw [if_neg (by decide)]
theorem post_plain {E : PS → R Nat} {s s1 : PS} {x : Nat} (h : atomR E s = .ok x s1) (h1 : isS (nowS s1) [46] = false) (h2 : isS (nowS s1) [91] = false) : postR E s = .ok x (nowS s1) := by
 unfold postR
 rw [h]
 simp only [R.bind,postF,take_no h1,h2]
 rw [if_neg (by decide),if_neg (by decide)]
theorem lev_none {t : Tok} (h : t.k ≠ 4 ∨ t.t = [93]) : ∀ n,n < 6 → levelK t n = 0 := by
 intro n hn
 unfold levelK
 by_cases hk : t.k = 4
 · rw [if_pos hk,h.resolve_left (fun e => e hk)]
   exact (show ∀ n,n < 6 → joinK n [93] = 0 by decide) n hn
 · rw [if_neg hk]
theorem sign_post {E S : PS → R Nat} {s : PS} (h1 : isS (nowS s) [33] = false) (h2 : isS (nowS s) [45] = false) : signR E S s = postR E (nowS s) := by
 unfold signR
 simp only
 rw [h1,h2,if_neg (by decide),if_neg (by decide)]
end
theorem lines_nl {L : List Tok} {i d : Nat} {ex : List Ex} {bl : List Blk} {t n : Tok} {r : List Tok} (h : L.drop i = n :: t :: r) (hn : n.k = 5) (ht : t.k ≠ 5) : linesS (Sq L i d false ex bl) = Sq L (i + 1) d false ex bl := by
 have e : nowS (Sq L i d false ex bl) = Sq L i d false ex bl := (now_at h (.inl rfl)).1
 unfold linesS
 rw [e]
 have : lineRun ((Sq L i d false ex bl).toks.drop (Sq L i d false ex bl).i) = 1 := run_nl h hn ht
 rw [this]; rfl
theorem lines_at {L : List Tok} {i d : Nat} {ex : List Ex} {bl : List Blk} {t : Tok} {r : List Tok} (h : L.drop i = t :: r) (ht : t.k ≠ 5) : linesS (Sq L i d false ex bl) = Sq L i d false ex bl := by
 have e : nowS (Sq L i d false ex bl) = Sq L i d false ex bl := (now_at h (.inl rfl)).1
 unfold linesS
 rw [e]
 have : lineRun ((Sq L i d false ex bl).toks.drop (Sq L i d false ex bl).i) = 0 := run_at h ht
 rw [this]; rfl
theorem kind_at {L : List Tok} {i d : Nat} {ex : List Ex} {bl : List Blk} {t : Tok} {r : List Tok} (h : L.drop i = t :: r) (ht : t.k ≠ 0) : kindR (Sq L i d false ex bl) t.k = .ok t (Sq L (i + 1) d false ex bl) := by
 obtain ⟨a1,a2⟩ := now_at (d := d) (q := false) (ex := ex) (bl := bl) h (.inl rfl)
 unfold kindR nextS
 rw [a2,if_pos rfl,if_pos ht,a1]; rfl
theorem drop_next {L : List Tok} {i : Nat} {t : Tok} {r : List Tok} (h : L.drop i = t :: r) : L.drop (i + 1) = r := by rw [← List.drop_drop,h]; rfl
end Go.Proofs.YtofhaneggcpdaaaGreatDoor
namespace Go.Proofs.YtofhaneggcpdaaaGreatDoor
open Go Go.Eng Go.Lex Go.Syn
set_option maxRecDepth 100000
theorem scan_one {s : Str} {t : Tok} {n m at_ cnt : Nat} {l : List Tok} (hsk : ∀ m,skipF (m + 1) s = (0,0)) (hs : s ≠ []) (ho : oneM s = (t,n,0)) (hc : cnt < 4096) (h : scanF m (s.drop n) (at_ + n) (cnt + 1) = .ok l) : scanF (m + 1) s at_ cnt = .ok (⟨t.k,t.t,(at_ : Nat)⟩ :: l) := by
 rw [scan_step,hsk,List.drop_zero,ho,if_neg (by decide),if_neg hs,if_neg (fun e => e rfl),if_neg (by omega),Nat.add_zero,h]
theorem step_word {w : Str} {c : UInt8} {r : Str} {m at_ cnt : Nat} {l : List Tok} (hw : w ∈ WL) (h0 : w ≠ [32]) (hc : c = 32 ∨ c = 10) (hn : cnt < 4096) (h : scanF m (c :: r) (at_ + w.length) (cnt + 1) = .ok l) : scanF (m + 1) (w ++ c :: r) at_ cnt = .ok (⟨kW w,w,(at_ : Nat)⟩ :: l) := by
 obtain ⟨h1,h2⟩ := word_sep w hw h0 c hc r
 refine scan_one h2 (by simp) h1 hn ?_
 rw [List.drop_left]; exact h
theorem step_nl {r : Str} {m at_ cnt : Nat} {l : List Tok} (hn : cnt < 4096) (h : scanF m r (at_ + 1) (cnt + 1) = .ok l) : scanF (m + 1) (10 :: r) at_ cnt = .ok (⟨5,[10],(at_ : Nat)⟩ :: l) := by
 obtain ⟨h1,h2⟩ := word_any [10] (.inl rfl) r
 exact scan_one h2 (by simp) h1 hn h
theorem step_text {s r : Str} {m at_ cnt : Nat} {l : List Tok} (hn : cnt < 4096) (h : scanF m r (at_ + ((plainM s).length + 2)) (cnt + 1) = .ok l) : scanF (m + 1) (34 :: (plainM s ++ 34 :: r)) at_ cnt = .ok (⟨3,plainM s,(at_ : Nat)⟩ :: l) := by
 refine scan_one (fun _ => rfl) (by simp) (one_text s r) hn ?_
 have e : (34 :: (plainM s ++ 34 :: r)).drop ((plainM s).length + 2) = r := by
   rw [List.drop_succ_cons,List.drop_append,List.drop_eq_nil_of_le (by omega),List.nil_append,show (plainM s).length + 1 - (plainM s).length = 0 + 1 by omega,List.drop_succ_cons,List.drop_zero]
 rw [e]; exact h
theorem step_end (m at_ cnt : Nat) : scanF (m + 1) [] at_ cnt = .ok [⟨0,[],(at_ : Nat)⟩] := rfl
def plF (b : Str) (label : Bool) : Fl := ⟨[⟨5,b,[],[],0⟩],[⟨[97],if label = true then [b] else [],[⟨[120],0,0⟩],[],0⟩],[0]⟩
def plBody (b : Str) : Str := 32 :: ([123] ++ 10 :: 32 :: 32 :: ([120] ++ 32 :: ([61] ++ 32 :: (34 :: (plainM b ++ 34 :: 10 :: ([125] ++ 10 :: []))))))
def plText (b : Str) (label : Bool) : Str := [97] ++ (if label = true then 32 :: (34 :: (plainM b ++ 34 :: plBody b)) else plBody b)
theorem pl_file (b : Str) (label : Bool) : fileM (plF b label) = plText b label := by
 unfold fileM plF plText plBody
 cases label
 · simp [blockM,blockF,labsM,atrM,inM,exprM,exprF,showK,Syn.quotM]
 · simp [blockM,blockF,labsM,atrM,inM,exprM,exprF,showK,Syn.quotM]
def plToks (b : Str) (p : Nat) : List Tok := [⟨4,[123],((p + 1 : Nat) : Int)⟩,⟨5,[10],((p + 2 : Nat) : Int)⟩,⟨1,[120],((p + 5 : Nat) : Int)⟩,⟨4,[61],((p + 7 : Nat) : Int)⟩,⟨3,plainM b,((p + 9 : Nat) : Int)⟩,⟨5,[10],((p + 9 + ((plainM b).length + 2) : Nat) : Int)⟩,⟨4,[125],((p + 9 + ((plainM b).length + 2) + 1 : Nat) : Int)⟩,⟨5,[10],((p + 9 + ((plainM b).length + 2) + 2 : Nat) : Int)⟩,⟨0,[],((p + 9 + ((plainM b).length + 2) + 3 : Nat) : Int)⟩]
theorem pl_body (b : Str) (p cnt m : Nat) (hc : cnt < 100) : scanF (m + 9) (plBody b) p cnt = .ok (plToks b p) := by
 unfold plBody
 rw [scan_blank]
 refine step_word (w := [123]) (by decide) (by decide) (.inr rfl) (by omega) ?_
 refine step_nl (by omega) ?_
 rw [scan_blank,scan_blank]
 refine step_word (w := [120]) (by decide) (by decide) (.inl rfl) (by omega) ?_
 rw [scan_blank]
 refine step_word (w := [61]) (by decide) (by decide) (.inl rfl) (by omega) ?_
 rw [scan_blank]
 refine step_text (by omega) ?_
 refine step_nl (by omega) ?_
 refine step_word (w := [125]) (by decide) (by decide) (.inr rfl) (by omega) ?_
 exact step_nl (by omega) (step_end _ _ _)
def plAll (b : Str) (label : Bool) : List Tok := ⟨1,[97],0⟩ :: (if label = true then ⟨3,plainM b,((2 : Nat) : Int)⟩ :: plToks b (2 + ((plainM b).length + 2)) else plToks b 1)
theorem pl_scanF (b : Str) (label : Bool) (m : Nat) : scanF (m + 11) (plText b label) 0 0 = .ok (plAll b label) := by
 unfold plText plAll
 cases label
 · rw [if_neg (by decide),if_neg (by decide)]
   unfold plBody
   refine step_word (w := [97]) (by decide) (by decide) (.inl rfl) (by omega) ?_
   exact pl_body b 1 1 (m + 1) (by omega)
 · rw [if_pos rfl,if_pos rfl]
   refine step_word (w := [97]) (by decide) (by decide) (.inl rfl) (by omega) ?_
   rw [scan_blank]
   refine step_text (by omega) ?_
   exact pl_body b _ 2 m (by omega)
theorem ascii_utf {s : Str} (h : ∀ c ∈ s,c.toNat < 128) : Utf s := by
 induction s with
 | nil => exact .nil
 | cons c s ih =>
   have h1 : Rn [c] := by
     refine ⟨by simp,?_⟩
     have := h c (by simp)
     have hall : ∀ c : Fin 256,c.val < 128 → runeM [UInt8.ofNat c.val] 0 = 1 := by decide +kernel
     have := hall ⟨c.toNat,UInt8.toNat_lt c⟩ this
     rw [UInt8.ofNat_toNat] at this
     exact this
   exact Utf.cons h1 (ih fun d hd => h d (List.mem_cons_of_mem _ hd))
theorem plain_ascii {s : Str} (h : ∀ c ∈ s,c.toNat < 128) : ∀ c ∈ plainM s,c.toNat < 128 := by
 intro c hc
 obtain ⟨d,hd,hcd⟩ := List.mem_flatMap.1 hc
 have h1 := h d hd
 have hp := plain_b d
 generalize plainB d = q at hp hcd
 cases hp with
 | esc e h2 _ =>
   simp only [List.mem_cons,List.not_mem_nil,or_false] at hcd
   rcases hcd with rfl | rfl
   · decide
   · unfold Lex.escOk at h2
     simp only [Bool.or_eq_true,beq_iff_eq] at h2
     rcases h2 with ((((rfl | rfl) | rfl) | rfl) | rfl) | rfl <;> decide
 | lit _ _ _ _ =>
   rw [List.mem_singleton] at hcd
   subst hcd; exact h1
theorem plain_len2 (s : Str) : (plainM s).length ≤ 2 * s.length := by
 induction s with
 | nil => exact Nat.le_refl _
 | cons c s ih =>
   rw [plain_cons,List.length_append,List.length_cons]
   have : (plainB c).length ≤ 2 := by
     have := plain_b c
     generalize plainB c = p at this
     cases this <;> simp
   omega
theorem pl_len (b : Str) (label : Bool) : (plText b label).length = (if label = true then (plainM b).length + 3 else 0) + (plainM b).length + 15 := by
 unfold plText plBody
 cases label
 · simp
 · simp; omega
theorem pl_scan {b : Str} {label : Bool} (hb : ∀ c ∈ b,c.toNat < 128) (hl : b.length ≤ 500) : scanM (plText b label) = .ok (plAll b label) := by
 have hpl := plain_len2 b
 have hlen := pl_len b label
 have hle : (if label = true then (plainM b).length + 3 else 0) ≤ 1003 := by split <;> omega
 have hpm := plain_ascii hb
 have hall : ∀ c ∈ plText b label,c.toNat < 128 := by
   have : (plText b label).all (fun c => decide (c.toNat < 128)) = true := by
     unfold plText plBody
     cases label
     · simp; exact hpm
     · simp; exact hpm
   intro c hc
   have := List.all_eq_true.1 this c hc
   simpa using this
 unfold scanM
 rw [if_neg (by omega),badF_of (ascii_utf hall) (i := 0) (by rw [List.drop_zero])]
 simp only
 obtain ⟨m,hm⟩ : ∃ m,(plText b label).length + 1 = m + 11 := ⟨(plText b label).length - 10,by omega⟩
 rw [hm]
 exact pl_scanF b label m
theorem labels_none {L : List Tok} {i d n : Nat} {ex : List Ex} {bl : List Blk} {t : Tok} {r : List Tok} {ls : List Str} (h : L.drop i = t :: r) (ht : t.k ≠ 3) : labelsF (n + 1) (Sq L i d false ex bl) ls = .ok ls (Sq L i d false ex bl) := by
 obtain ⟨a1,a2⟩ := now_at (d := d) (q := false) (ex := ex) (bl := bl) h (.inl rfl)
 simp only [labelsF]
 rw [a2,if_neg ht,a1]
theorem labels_one {L : List Tok} {i d n : Nat} {ex : List Ex} {bl : List Blk} {s : Str} {p : Int} {r : List Tok} {ls : List Str} (h : L.drop i = ⟨3,plainM s,p⟩ :: r) : labelsF (n + 1) (Sq L i d false ex bl) ls = labelsF n (Sq L (i + 1) d false ex bl) (ls ++ [s]) := by
 obtain ⟨a1,a2⟩ := now_at (d := d) (q := false) (ex := ex) (bl := bl) h (.inl rfl)
 have e : nextS (Sq L i d false ex bl) = Sq L (i + 1) d false ex bl := by
   unfold nextS
   rw [a2,if_pos (show (3 : Int) ≠ 0 by decide),a1]; rfl
 simp only [labelsF]
 rw [a2,if_pos rfl,e]
 unfold plainR
 simp only [ins_plain,says_plain,R.bind]
 rfl
theorem atom_text {E : PS → R Nat} {L : List Tok} {i d : Nat} {ex : List Ex} {bl : List Blk} {s : Str} {p : Int} {r : List Tok} (h : L.drop i = ⟨3,plainM s,p⟩ :: r) : atomR E (Sq L i d false ex bl) = .ok ex.length (Sq L (i + 1) d false (ex ++ [⟨5,s,[],[],p⟩]) bl) := by
 obtain ⟨a1,a2⟩ := now_at (d := d) (q := false) (ex := ex) (bl := bl) h (.inl rfl)
 unfold atomR
 simp only
 rw [a2,a1]
 simp only
 rw [if_neg (by decide),if_pos trivial]
 unfold textR
 simp only [ins_plain,says_plain]
 rfl
theorem pl_run {L : List Tok} {b : Str} {ls : List Str} {c : Nat} {p p2 : Int} {k : Nat → Int} {j : Nat} (h0 : L.drop 0 = ⟨1,[97],0⟩ :: L.drop 1) (hlab : ∀ n,labelsF (n + 3) (Sq L 1 0 false [] []) [] = .ok ls (Sq L j 0 false [] []))
   (hj : L.drop j = [⟨4,[123],k 0⟩,⟨5,[10],k 1⟩,⟨1,[120],k 2⟩,⟨4,[61],k 3⟩,⟨3,plainM b,k 4⟩,⟨5,[10],k 5⟩,⟨4,[125],k 6⟩,⟨5,[10],k 7⟩,⟨0,[],k 8⟩]) :
   ∃ s',topF (L.length + 1) (linesS ⟨L,0,0,0,false,[],[]⟩) [] = .ok [0] s' ∧ s'.ex = [⟨5,b,[],[],k 4⟩] ∧ s'.bl = [⟨[97],ls,[⟨[120],0,k 2⟩],[],0⟩] := by
 have h1 := drop_next hj
 have h2 := drop_next h1
 have h3 := drop_next h2
 have h4 := drop_next h3
 have h5 := drop_next h4
 have h6 := drop_next h5
 have h7 := drop_next h6
 have h8 := drop_next h7
 obtain ⟨l,hl⟩ : ∃ l,L.length = l + 2 := ⟨L.length - 2,by
   have := congrArg List.length hj
   rw [List.length_drop] at this
   simp only [List.length_cons,List.length_nil] at this
   omega⟩
 have n45 : (4 : Int) ≠ 5 := by decide
 have n15 : (1 : Int) ≠ 5 := by decide
 have n10 : (1 : Int) ≠ 0 := by decide
 have C : (exprD 23).1 (Sq L (j + 4) 1 false [] []) = .ok 0 (Sq L (j + 5) 1 false [⟨5,b,[],[],k 4⟩] []) := by
   obtain ⟨a1,a2⟩ := now_at (d := 1) (q := false) (ex := []) (bl := []) h4 (.inl rfl)
   obtain ⟨d1,d2⟩ := now_at (d := 1) (q := false) (ex := [⟨5,b,[],[],k 4⟩]) (bl := []) h5 (.inl rfl)
   refine expr_plain (E := (exprD 22).1) (S := (exprD 22).2) ?_ d1 (by rw [d2]; exact lev_none (.inl (show (5 : Int) ≠ 4 by decide))) (by rw [is_of d2]; rfl)
   rw [sign_post (by rw [a1,is_of a2]; rfl) (by rw [a1,is_of a2]; rfl),a1]
   have := post_plain (E := (exprD 22).1) (s := Sq L (j + 4) 1 false [] []) (s1 := Sq L (j + 5) 1 false [⟨5,b,[],[],k 4⟩] []) (x := 0) (atom_text (d := 1) (ex := []) (bl := []) h4) (by rw [d1,is_of d2]; rfl) (by rw [d1,is_of d2]; rfl)
   rw [d1] at this; exact this
 have D : blockD 24 (Sq L 0 0 false [] []) = .ok 0 (Sq L (j + 7) 0 false [⟨5,b,[],[],k 4⟩] [⟨[97],ls,[⟨[120],0,k 2⟩],[],0⟩]) := by
   show blockR (exprD 23).1 (blockD 23) (Sq L 0 0 false [] []) = _
   obtain ⟨a1,a2⟩ := now_at (d := 0) (q := false) (ex := []) (bl := []) hj (.inl rfl)
   obtain ⟨b1,b2⟩ := now_at (d := 1) (q := false) (ex := []) (bl := []) h2 (.inl rfl)
   obtain ⟨f1,f2⟩ := now_at (d := 1) (q := false) (ex := []) (bl := []) h3 (.inl rfl)
   obtain ⟨g1,g2⟩ := now_at (d := 1) (q := false) (ex := [⟨5,b,[],[],k 4⟩]) (bl := []) h5 (.inl rfl)
   obtain ⟨m1,m2⟩ := now_at (d := 1) (q := false) (ex := [⟨5,b,[],[],k 4⟩]) (bl := []) h6 (.inl rfl)
   have s1 : kindR (Sq L 0 0 false [] []) 1 = .ok ⟨1,[97],0⟩ (Sq L 1 0 false [] []) := kind_at (d := 0) (ex := []) (bl := []) h0 n10
   have s3 : isS (Sq L j 0 false [] []) [123] = true := by rw [is_of a2]; rfl
   have t1 : takeS (Sq L (j + 2) 1 false [] []) [125] = (false,Sq L (j + 2) 1 false [] []) := by rw [take_no (by rw [is_of b2]; rfl),b1]
   have s4 : kindR (Sq L (j + 2) 1 false [] []) 1 = .ok ⟨1,[120],k 2⟩ (Sq L (j + 3) 1 false [] []) := kind_at (d := 1) (ex := []) (bl := []) h2 n10
   have t2 : takeS (Sq L (j + 3) 1 false [] []) [61] = (true,Sq L (j + 4) 1 false [] []) := by rw [take_yes (by rw [is_of f2]; rfl),f1]; rfl
   have t3 : takeS (Sq L (j + 6) 1 false [⟨5,b,[],[],k 4⟩] []) [125] = (true,Sq L (j + 7) 1 false [⟨5,b,[],[],k 4⟩] []) := by rw [take_yes (by rw [is_of m2]; rfl),m1]; rfl
   have l1 : linesS (Sq L (j + 1) 1 false [] []) = Sq L (j + 2) 1 false [] [] := lines_nl h1 rfl n15
   have l2 : linesS (Sq L (j + 5) 1 false [⟨5,b,[],[],k 4⟩] []) = Sq L (j + 6) 1 false [⟨5,b,[],[],k 4⟩] [] := lines_nl h5 rfl n45
   have I2 : ∀ n us,itemsF (exprD 23).1 (blockD 23) (n + 1) (Sq L (j + 6) 1 false [⟨5,b,[],[],k 4⟩] []) us [] = .ok (us,[]) (Sq L (j + 7) 1 false [⟨5,b,[],[],k 4⟩] []) := fun n us => by
     simp only [itemsF,t3]
     rfl
   have I1 : itemsF (exprD 23).1 (blockD 23) (l + 2 + 1) (Sq L (j + 2) 1 false [] []) [] [] = .ok ([⟨[120],0,k 2⟩],[]) (Sq L (j + 7) 1 false [⟨5,b,[],[],k 4⟩] []) := by
     have hi : itemR (exprD 23).1 (blockD 23) (Sq L (j + 2) 1 false [] []) [] [] = .ok ([⟨[120],0,k 2⟩],[]) (Sq L (j + 5) 1 false [⟨5,b,[],[],k 4⟩] []) := by
       unfold itemR
       rw [s4]
       simp only [R.bind,t2,C]
       rfl
     rw [itemsF,t1]
     simp only [hi,R.bind]
     rw [if_neg (by decide),if_neg (by rw [g2]; exact fun e => e.1 rfl),g1,l2]
     exact I2 (l + 1) _
   unfold blockR
   rw [s1]
   simp only [R.bind]
   have e0 : (Sq L 0 0 false [] []).toks.length + 1 = l + 2 + 1 := by show L.length + 1 = _; rw [hl]
   rw [e0,show l + 2 + 1 = l + 3 from rfl,hlab]
   simp only [s3,a1]
   rw [if_neg (by decide)]
   unfold within
   rw [if_neg (show ¬ (Sq L j 0 false [] []).deep = 24 from (show ¬ (0 : Nat) = 24 by decide))]
   have e1 : step1 { Sq L j 0 false [] [] with deep := (Sq L j 0 false [] []).deep + 1,quiet := false } = Sq L (j + 1) 1 false [] [] := rfl
   simp only [e1,l1,I1,R.bind]
   rfl
 have E0 : linesS ⟨L,0,0,0,false,[],[]⟩ = Sq L 0 0 false [] [] := lines_at (d := 0) (ex := []) (bl := []) h0 n15
 obtain ⟨a1,a2⟩ := now_at (d := 0) (q := false) (ex := []) (bl := []) h0 (.inl rfl)
 obtain ⟨b1,b2⟩ := now_at (d := 0) (q := false) (ex := [⟨5,b,[],[],k 4⟩]) (bl := [⟨[97],ls,[⟨[120],0,k 2⟩],[],0⟩]) h7 (.inl rfl)
 obtain ⟨c1,c2⟩ := now_at (d := 0) (q := false) (ex := [⟨5,b,[],[],k 4⟩]) (bl := [⟨[97],ls,[⟨[120],0,k 2⟩],[],0⟩]) h8 (.inl rfl)
 have l3 : linesS (Sq L (j + 7) 0 false [⟨5,b,[],[],k 4⟩] [⟨[97],ls,[⟨[120],0,k 2⟩],[],0⟩]) = Sq L (j + 8) 0 false [⟨5,b,[],[],k 4⟩] [⟨[97],ls,[⟨[120],0,k 2⟩],[],0⟩] := lines_nl h7 rfl (show (0 : Int) ≠ 5 by decide)
 refine ⟨Sq L (j + 8) 0 false [⟨5,b,[],[],k 4⟩] [⟨[97],ls,[⟨[120],0,k 2⟩],[],0⟩],?_,rfl,rfl⟩
 rw [E0,hl]
 have T2 : topF (l + 2) (Sq L (j + 8) 0 false [⟨5,b,[],[],k 4⟩] [⟨[97],ls,[⟨[120],0,k 2⟩],[],0⟩]) [0] = .ok [0] (Sq L (j + 8) 0 false [⟨5,b,[],[],k 4⟩] [⟨[97],ls,[⟨[120],0,k 2⟩],[],0⟩]) := by
   rw [topF,c2,if_pos rfl,c1]
 rw [topF,a2,if_neg (show ¬ (1 : Int) = 0 by decide),a1,D]
 simp only [R.bind]
 rw [b2,if_neg (fun e => e.1 rfl),b1,l3]
 exact T2
theorem pl_parse {b : Str} {label : Bool} (hb : ∀ c ∈ b,c.toNat < 128) (hl : b.length ≤ 500) : ∃ p q : Int,parseM (plText b label) = .ok ⟨[⟨5,b,[],[],p⟩],[⟨[97],if label = true then [b] else [],[⟨[120],0,q⟩],[],0⟩],[0]⟩ := by
 have hs := pl_scan (label := label) hb hl
 have key : ∀ (ls : List Str) (j : Nat) (k : Nat → Int),(plAll b label).drop 0 = ⟨1,[97],0⟩ :: (plAll b label).drop 1 → (∀ n,labelsF (n + 3) (Sq (plAll b label) 1 0 false [] []) [] = .ok ls (Sq (plAll b label) j 0 false [] [])) → (plAll b label).drop j = [⟨4,[123],k 0⟩,⟨5,[10],k 1⟩,⟨1,[120],k 2⟩,⟨4,[61],k 3⟩,⟨3,plainM b,k 4⟩,⟨5,[10],k 5⟩,⟨4,[125],k 6⟩,⟨5,[10],k 7⟩,⟨0,[],k 8⟩] →
     ∃ p q : Int,parseM (plText b label) = .ok ⟨[⟨5,b,[],[],p⟩],[⟨[97],ls,[⟨[120],0,q⟩],[],0⟩],[0]⟩ := fun ls j k h1 h2 h3 => by
   obtain ⟨s',e1,e2,e3⟩ := pl_run (c := 0) (p := 0) (p2 := 0) h1 h2 h3
   refine ⟨k 4,k 2,?_⟩
   unfold parseM
   rw [hs]
   simp only
   rw [e1]
   simp only
   rw [e2,e3]
 cases label
 · have hd : (plAll b false).drop 1 = plToks b 1 := rfl
   refine key [] 1 (fun i => ((plToks b 1).getD i ⟨0,[],0⟩).a) rfl (fun n => ?_) hd
   exact labels_none (d := 0) (ex := []) (bl := []) (n := n + 2) hd (show (4 : Int) ≠ 3 by decide)
 · have hd : (plAll b true).drop 1 = ⟨3,plainM b,((2 : Nat) : Int)⟩ :: plToks b (2 + ((plainM b).length + 2)) := rfl
   refine key [b] 2 (fun i => ((plToks b (2 + ((plainM b).length + 2))).getD i ⟨0,[],0⟩).a) rfl (fun n => ?_) rfl
   rw [labels_one (d := 0) (ex := []) (bl := []) (n := n + 2) hd]
   exact labels_none (d := 0) (ex := []) (bl := []) (n := n + 1) (drop_next hd) (show (4 : Int) ≠ 3 by decide)
end Go.Proofs.YtofhaneggcpdaaaGreatDoor
namespace Go.Proofs.YtofhaneggcpdaaaGreatDoor
open Go Go.Eng Go.RowKit Go.Syn Go.Lex
set_option maxRecDepth 100000
def xokB (e : Ex) : Bool := decide (1 ≤ e.k) && decide (e.k ≤ 30) && utfM e.t && decide (e.t.length ≤ 1000000000) && e.keys.all (fun s => utfM s && decide (s.length ≤ 10000000)) && decide (e.args.length ≤ 100000) &&
 (decide (e.k ≠ 6) || decide (e.keys.length = e.args.length)) && (decide (e.k ≠ 8) || decide (e.keys.length = e.args.length)) && (!(decide (e.k = 10) || decide (e.k = 30)) || decide (1 ≤ e.args.length)) &&
 (!(decide (e.k = 11) || decide (e.k = 29) || (decide (15 ≤ e.k) && decide (e.k ≤ 27))) || decide (2 ≤ e.args.length)) && (decide (e.k ≠ 28) || decide (3 ≤ e.args.length))
theorem utf_ofM {s : Str} (h : utfM s = true) : Utf s := by have := utf_of h; rwa [List.drop_zero] at this
theorem xok_of {e : Ex} (h : xokB e = true) : XOk e ∧ ∀ s ∈ e.keys,s.length ≤ 10000000 := by
 unfold xokB at h
 simp only [Bool.and_eq_true,decide_eq_true_iff,Bool.or_eq_true,Bool.not_eq_true',Bool.or_eq_false_iff,Bool.and_eq_false_iff,decide_eq_false_iff_not,List.all_eq_true] at h
 obtain ⟨⟨⟨⟨⟨⟨⟨⟨⟨⟨h1,h2⟩,h3⟩,h4⟩,h5⟩,h6⟩,h7⟩,h8⟩,h9⟩,h10⟩,h11⟩ := h
 exact ⟨⟨h1,h2,⟨utf_ofM h3,h4⟩,fun s hs => ⟨utf_ofM (h5 s hs).1,by have := (h5 s hs).2; omega⟩,h6,fun e => h7.resolve_left (fun n => n e),fun e => h8.resolve_left (fun n => n e),fun e => h9.resolve_left (by omega),fun e => h10.resolve_left (by omega),fun e => h11.resolve_left (fun n => n e)⟩,fun s hs => (h5 s hs).2⟩
theorem fok_of {f : Fl} (h1 : ∀ i,i < f.ex.length → ∀ a ∈ (f.ex.getD i ⟨0,[],[],[],0⟩).args,a < i) (h2 : ∀ e ∈ f.ex,xokB e = true) (h3 : f.ex.length ≤ 100000) (h4 : ∀ i,i < f.ex.length → (exprM f i).length ≤ 100000000) : FOk f := by
 refine ⟨fun i e he => ?_,fun e he => (xok_of (h2 e he)).1,h3,fun i => ?_,fun e he _ => (xok_of (h2 e he)).2⟩
 · have := h1 i (List.getElem?_eq_some_iff.1 he).1
   rw [List.getD_eq_getElem?_getD,he] at this
   exact this
 · by_cases hi : i < f.ex.length
   · exact h4 i hi
   · unfold exprM
     rw [exprF,List.getElem?_eq_none (by omega)]
     exact Nat.zero_le _
def ex6 : Str := [97,32,123,120,61,49,43,121,46,122,42,50,125]
def f6 : Fl := ⟨[⟨4,[49],[],[],5⟩,⟨9,[121],[],[],7⟩,⟨10,[122],[1],[],8⟩,⟨4,[50],[],[],11⟩,⟨17,[],[2,3],[],10⟩,⟨15,[],[0,4],[],6⟩],[⟨[97],[],[⟨[120],5,3⟩],[],0⟩],[0]⟩
theorem ex6_ok : parseM ex6 = .ok f6 := by decide +kernel
def t6 : Str := [97,32,123,10,32,32,120,32,61,32,40,49,32,43,32,40,40,121,41,46,122,32,42,32,50,41,41,10,125,10]
theorem f6_file : fileM f6 = t6 ∧ exprM f6 0 = [49] ∧ exprM f6 99 = [] := by decide +kernel
theorem f6_ok : FOk f6 := fok_of (by decide) (by decide +kernel) (by decide) (by decide +kernel)
theorem b6_ok : BOk f6 := by
 refine ⟨fun i b hb a ha => ?_,by decide,fun b hb s hs => ?_,by decide⟩
 rotate_left
 · have : ∀ b ∈ f6.bl,b.labels = [] := by decide
   rw [this b hb] at hs; cases hs
 have : i = 0 := by
   have := (List.getElem?_eq_some_iff.1 hb).1
   have e : f6.bl.length = 1 := rfl
   omega
 subst this
 injection hb with hb
 rw [← hb] at ha
 cases ha
variable [HX]
theorem awake6_p {w : World} {K : Value → World → Prop} (hT : TabI w) (hK : ∀ w',Ext w w' → K (.bool true) w') : callF Tryz.prog 12 [] w K := by
 refine W12_ok ?_
 unfold W12
 refine parse_r (t := ex6) hT (by decide) fun M d w1 hx1 hF1 hd1 _ => ?_
 rw [ex6_ok] at hF1 hd1
 simp only [flOf] at hF1
 rw [ext_tuple]; refine ⟨_,rfl,?_⟩
 rw [ext_tuple]; refine ⟨_,rfl,?_⟩
 refine alloc_new fun a w2 ha hz2 hb2 hx2 => ?_
 refine st_agg_at (l := [M.vE,M.vB,M.vT]) hb2 rfl rfl hF1.one fun w3 hz3 hb3 hc3 => ?_
 have hx13 : Ext w1 w3 := hx2.new hc3 (by omega)
 have hd3 := hd1.ext hx13
 have hfv := (hF1.ext hx13).fv
 have hx3 := hx1.trans hx13
 obtain ⟨e1,e2,e3⟩ := f6_file
 rw [hd3.eq,show (false ^^ okP (PR.ok f6)) = true from rfl]
 refine GdW.act true (fun w' => Ext w3 w') (fun e => by cases e) ?_ ?_
 · intro _ J hJ
   refine ld_row hb3 rfl ?_
   refine showF_p f6_ok b6_ok hfv (by decide) (by rw [e1]; decide) fun w5 hx5 => ?_
   rw [e1,bin_seq]
   exact hJ _ hx5
 rintro g4 w6 hx6
 rw [isB_t,cond_true,List.getD_cons_zero,pick_t,isB_t]
 refine GdW.act true (fun w' => Ext w6 w') (fun e => by cases e) ?_ ?_
 · intro _ J hJ
   refine ld_row (hx6.at hb3 id) rfl ?_
   refine showX_p f6_ok 0 _ _ (by omega) (hfv.ext hx6) fun w8 hx8 => ?_
   rw [e2,bin_seq]
   exact hJ _ hx8
 rintro g7 w9 hx9
 rw [cond_true,List.getD_cons_zero,pick_t,isB_t]
 have hx69 := hx6.trans hx9
 refine GdW.act true (fun w' => Ext w9 w') (fun e => by cases e) ?_ ?_
 · intro _ J hJ
   refine ld_row (hx69.at hb3 id) rfl ?_
   refine showX_p f6_ok 99 _ _ (by omega) (hfv.ext hx69) fun w11 hx11 => ?_
   rw [e3,bin_seq]
   exact hJ _ hx11
 rintro g10 w12 hx12
 rw [cond_true,List.getD_cons_zero,pick_t]
 exact hK _ (hx3.trans (hx69.trans hx12))
end Go.Proofs.YtofhaneggcpdaaaGreatDoor
namespace Go.Proofs.YtofhaneggcpdaaaGreatDoor
open Go Go.Eng Go.RowKit Go.Syn Go.Lex
set_option maxRecDepth 100000
set_option maxHeartbeats 1000000
def lowB (c : UInt8) : UInt8 := if 128 ≤ c.toNat then 36 else c
theorem BytB.pre {w : World} {b cap : Nat} {c : Array Value} {l : Str} (h : BytB w b cap c l) (n : Nat) (hn : n ≤ l.length) : BytB w b cap c (l.take n) := by
 refine ⟨h.hb,by rw [List.length_take]; have := h.le; omega,by rw [List.length_take]; have := h.fits; omega,fun i hi => ?_⟩
 rw [List.length_take] at hi
 rw [h.get i (by omega)]
 simp only [u8s,List.getElem?_map]
 rw [List.getElem?_take_of_lt (by omega)]
theorem low_all (t : Str) : ∀ c ∈ t.map lowB,c.toNat < 128 := by
 intro c hc
 obtain ⟨d,_,rfl⟩ := List.mem_map.1 hc
 unfold lowB
 split
 · decide
 · omega
theorem pl_fok {b : Str} {label : Bool} (hb : ∀ c ∈ b,c.toNat < 128) (hl : b.length ≤ 500) : FOk (plF b label) ∧ BOk (plF b label) := by
 have hu := ascii_utf hb
 have hp := plain_len2 b
 have he : ∀ e ∈ (plF b label).ex,e = ⟨5,b,[],[],0⟩ := fun e he => by simpa [plF] using he
 have hbl : ∀ x ∈ (plF b label).bl,x = ⟨[97],if label = true then [b] else [],[⟨[120],0,0⟩],[],0⟩ := fun x hx => by simpa [plF] using hx
 refine ⟨⟨fun i e h a ha => ?_,fun e h => ?_,by simp [plF],fun i => ?_,fun e h h8 => ?_⟩,⟨fun i x h a ha => ?_,⟨by simp [plF],by simp [plF],fun x hx => ?_⟩,fun x hx s hs => ?_,fun x hx a ha => ?_⟩⟩
 · rw [he e (List.mem_of_getElem? h)] at ha; cases ha
 · rw [he e h]
   exact ⟨(show (1 : Int) ≤ 5 by decide),(show (5 : Int) ≤ 30 by decide),⟨hu,by show b.length ≤ _; omega⟩,(fun s hs => by cases hs),by show 0 ≤ _; omega,(fun h => absurd h (show ¬ (5 : Int) = 6 by decide)),(fun h => absurd h (show ¬ (5 : Int) = 8 by decide)),
     (fun h => absurd h (show ¬ ((5 : Int) = 10 ∨ (5 : Int) = 30) by decide)),(fun h => absurd h (show ¬ ((5 : Int) = 11 ∨ (5 : Int) = 29 ∨ 15 ≤ (5 : Int) ∧ (5 : Int) ≤ 27) by decide)),(fun h => absurd h (show ¬ (5 : Int) = 28 by decide))⟩
 · cases i with
   | zero =>
     have : exprM (plF b label) 0 = Syn.quotM b := rfl
     rw [this]
     unfold Syn.quotM
     simp only [List.length_append,List.length_cons,List.length_nil]
     omega
   | succ i =>
     unfold exprM
     rw [exprF,List.getElem?_eq_none (by simp [plF])]
     exact Nat.zero_le _
 · rw [he e h] at h8; exact absurd h8 (show ¬ (5 : Int) = 8 by decide)
 · rw [hbl x (List.mem_of_getElem? h)] at ha; cases ha
 · rw [hbl x hx]
   refine ⟨?_,by simp,by simp⟩
   cases label <;> simp
 · rw [hbl x hx] at hs
   cases label
   · simp at hs
   · simp only [if_true,List.mem_singleton] at hs
     rw [hs]; exact ⟨hu,by omega⟩
 · rw [hbl x hx] at ha
   simp only [List.mem_singleton] at ha
   rw [ha]; exact Nat.zero_le _
variable [HX]
theorem pl_fv {b : Str} {label : Bool} {w : World} {rE rA rB rT rL : Nat} (hE : w.heap[rE]? = some (.cells [i64 5,str b,.slice none 0 0,.slice none 0 0,i64 0].toArray ExT (0,0)))
   (hA : w.heap[rA]? = some (.cells [str [120],i64 0,i64 0].toArray AtT (0,0))) (hT : w.heap[rT]? = some (.cells [i64 0].toArray IntT (0,0)))
   (hB : w.heap[rB]? = some (.cells [str [97],if label = true then .slice (some ⟨rL,0,none⟩) 1 1 else .slice none 0 0,.slice (some ⟨rA,0,none⟩) 1 1,.slice none 0 0,i64 0].toArray BkT (0,0))) (hL : label = true → w.heap[rL]? = some (.cells [str b].toArray StT (0,0))) :
   FV w ⟨.slice (some ⟨rE,0,none⟩) 1 1,.slice (some ⟨rB,0,none⟩) 1 1,.slice (some ⟨rT,0,none⟩) 1 1,[i64 5,str b,.slice none 0 0,.slice none 0 0,i64 0],[str [97],if label = true then .slice (some ⟨rL,0,none⟩) 1 1 else .slice none 0 0,.slice (some ⟨rA,0,none⟩) 1 1,.slice none 0 0,i64 0]⟩ (plF b label) := by
 refine ⟨slat_new' (n := 1) hE,slat_new' (n := 1) hB,slat_new' (n := 1) hT,⟨rfl,fun i e hi => ?_⟩,⟨rfl,fun i x hi => ?_⟩⟩
 · have : i = 0 := by have := (List.getElem?_eq_some_iff.1 hi).1; simp [plF] at this; exact this
   subst this
   injection hi with hi
   rw [← hi]
   exact ⟨_,_,rfl,SlAt.nil _ _,SlAt.nil _ _⟩
 · have : i = 0 := by have := (List.getElem?_eq_some_iff.1 hi).1; simp [plF] at this; exact this
   subst this
   injection hi with hi
   rw [← hi]
   refine ⟨_,_,_,rfl,?_,slat_new' (n := 1) hA,SlAt.nil _ _⟩
   cases label
   · exact SlAt.nil _ _
   · exact slat_new' (n := 1) (hL rfl)
theorem splain_true {s : Str} {label : Bool} {w : World} {K : Value → World → Prop} (hT : TabI w) (hl : s.length ≤ 9223372036854775807) (hK : ∀ w',Ext w w' → K (.bool true) w') : callF Tryz.prog 5 [str s,.bool label] w K := by
 refine W5_ok ?_
 unfold W5
 refine awake6_p hT fun w1 hx1 => ?_
 rw [un_not,Bool.not_true,condW_false]
 refine to_bytes_o (by kernel_rfl) (by kernel_rfl) (by kernel_rfl) fun bb cap cc w2 hbb hB hx2 => ?_
 have hx12 := hx1.trans hx2
 rw [lens_str,min_int]
 -- the first 500 bytes
 obtain ⟨n,hn1,hn2,hn3⟩ : ∃ n : Nat,n ≤ s.length ∧ n ≤ 500 ∧ (if (500 : Int) < (s.length : Int) then (500 : Int) else (s.length : Int)) = (n : Nat) := by
   by_cases h : (500 : Int) < (s.length : Int)
   · exact ⟨500,by omega,by omega,by rw [if_pos h]; rfl⟩
   · exact ⟨s.length,by omega,by omega,by rw [if_neg h]⟩
 rw [hn3,sll_sl,bd_none,bd_some]
 have hcap := hB.le
 refine ⟨by omega,by omega,?_⟩
 rw [bd_none,Int.toNat_natCast]
 have hB := hB.pre n hn1
 have htl : (s.take n).length = n := by rw [List.length_take]; omega
 generalize s.take n = t at hB htl
 subst htl
 have esl : (Value.slice (if cap = 0 then some (⟨bb,0,none⟩ : Addr) else (some (⟨bb,0,none⟩ : Addr)).map (·.add (0 * 1))) (t.length - 0) (cap - 0)) = .slice (some ⟨bb,0,none⟩) t.length cap := by
   split <;> rfl
 rw [esl]
 rw [lenl_at hB.byt]
 refine LoopW.go (fun st w' => ∃ (i : Nat) (c' : Array Value) (l : Str),st = [i64 (i : Nat)] ∧ i ≤ t.length ∧ l.length = t.length ∧ (∀ j,l[j]? = (t[j]?).map fun c => if j < i then lowB c else c) ∧ BytB w' bb cap c' l ∧ Ext w1 w') (fun st _ => match st with | [.int _ i] => t.length - i.toNat | _ => 0) ⟨0,cc,t,rfl,by omega,rfl,fun j => by simp,hB,hx2⟩ ?_
 clear hB esl
 rintro st g w4 ⟨i,c4,l,rfl,hi,hll,hlj,hB,hx4⟩
 simp only [List.getD_cons_zero]
 rw [bin_lss,condW_dec]
 have hsl4 : t.length = l.length := hll.symm
 refine ⟨fun hlt => ?_,fun hge => ?_⟩
 · have hlt : i < t.length := by omega
   have gt := List.getElem?_eq_getElem hlt
   have gl := hlj i
   rw [gt] at gl
   generalize t[i] = d at gt gl
   have gl : l[i]? = some d := by rw [gl]; simp
   have key : ∀ (c' : Array Value) (l' : Str) (w' : World),l' = l.set i (lowB d) → BytB w' bb cap c' l' → Ext w1 w' → (∃ (i' : Nat) (c' : Array Value) (l : Str),[i64 ((i + 1 : Nat) : Int)] = [i64 (i' : Nat)] ∧ i' ≤ t.length ∧ l.length = t.length ∧ (∀ j,l[j]? = (t[j]?).map fun c => if j < i' then lowB c else c) ∧ BytB w' bb cap c' l ∧ Ext w1 w') := fun c' l' w' he hB' hx' => by
     subst he
     refine ⟨i + 1,c',_,rfl,by omega,by rw [List.length_set]; exact hll,fun j => ?_,hB',hx'⟩
     rw [List.getElem?_set]
     by_cases e : i = j
     · subst e
       rw [if_pos rfl,if_pos (by omega),gt]
       simp
     · rw [if_neg e,hlj j]
       congr 1
       funext c
       by_cases h1 : j < i
       · rw [if_pos h1,if_pos (by omega)]
       · rw [if_neg h1,if_neg (by omega)]
   refine JoinW.cut (fun st w' => ∃ (c' : Array Value) (l' : Str),l' = l.set i (lowB d) ∧ BytB w' bb cap c' l' ∧ Ext w1 w') ?_ ?_
   · rw [hsl4]
     refine ixa_ld hB.byt (by simp [u8s_length]) (by rw [u8s_get,gl]; rfl) ?_
     rw [bin_geq,condW_dec]
     refine ⟨fun h => ?_,fun h => ?_⟩
     · refine set_byte (y := 36) hB (by omega) fun c' w6 hB6 hc6 hz6 => ?_
       refine ⟨c',_,?_,hB6,hx4.new hc6 (by have := hx2.size; omega)⟩
       unfold lowB
       rw [if_pos (by omega)]
     · refine ⟨c4,l,?_,hB,hx4⟩
       unfold lowB
       rw [if_neg (by omega)]
       obtain ⟨h1,h2⟩ := List.getElem?_eq_some_iff.1 gl
       rw [← h2,List.set_getElem_self]
   · rintro st g5 w7 ⟨c',l',he,hB7,hx7⟩
     rw [bin_add,upi (by omega)]
     refine ⟨key c' l' w7 he hB7 hx7,?_⟩
     simp only [Int.toNat_natCast]; omega
 obtain rfl : i = t.length := by omega
 obtain rfl : l = t.map lowB := by
   apply List.ext_getElem?
   intro j
   rw [hlj j,List.getElem?_map]
   by_cases hj : j < t.length
   · rw [List.getElem?_eq_getElem hj]
     simp [hj]
   · rw [List.getElem?_eq_none (by omega)]; rfl
 have hlow := low_all t
 have hbl : (t.map lowB).length ≤ 500 := by omega
 rw [hsl4]
 generalize t.map lowB = b at *
 clear hlj hll hi hge
 have cv : ∀ {w' : World} {K' : Value → Prop},Ext w4 w' → K' (str b) → semQ Tryz.prog (convert 50 9 (.slice (some ⟨bb,0,none⟩) b.length cap)) w' K' := fun {w'} {K'} hx hk => (conv_bytes (e := U8) (T := U8) (by kernel_rfl) (by kernel_rfl) (by kernel_rfl) (hB.ext hx).byt).2 hk
 refine cv (Chg.refl _ _) ?_
 simp only [put_str,put_int,put_slice,put_nil,List.length_cons,List.length_nil,List.set_cons_zero,List.set_cons_succ,Nat.reduceAdd,Nat.reduceLT,true_and,Nat.zero_lt_succ]
 refine bsl_agg rfl rfl fun rE w9 hrE hz9 hbE hx9 => ?_
 refine bsl_agg rfl rfl fun rA w11 hrA hz11 hbA hx11 => ?_
 rw [put_slice,put_nil]
 refine ⟨by simp,?_⟩
 simp only [List.set_cons_zero,List.set_cons_succ]
 refine bsl_agg rfl rfl fun rB w13 hrB hz13 hbB hx13 => ?_
 refine bsl_int1 fun rT w14 hrT hz14 hbT hx14 => ?_
 rw [put_slice,put_slice,put_slice,put_nil]
 refine ⟨by simp,by simp,by simp,?_⟩
 simp only [List.set_cons_zero,List.set_cons_succ]
 refine alloc_new fun a7 w16 ha7 hz16 hb16 hx16 => ?_
 refine st_agg_at (l := [.slice (some ⟨rE,0,none⟩) 1 1,.slice (some ⟨rB,0,none⟩) 1 1,.slice (some ⟨rT,0,none⟩) 1 1]) hb16 rfl rfl rfl fun w17 hz17 hb17 hc17 => ?_
 have hx1317 : Ext w14 w17 := hx16.new hc17 (by omega)
 have hxE := ((hx11.trans hx13).trans hx14).trans hx1317
 have hxA := (hx13.trans hx14).trans hx1317
 have hxB := hx14.trans hx1317
 have hbE := hxE.at hbE id
 have hbA := hxA.at hbA id
 have hbB := hxB.at hbB id
 have hbT := hx1317.at hbT id
 have hx417 := hx9.trans hxE
 have hsz := hx417.size
 refine JoinW.cut (fun st w' => ∃ rL : Nat,w'.heap[rE]? = some (.cells [i64 5,str b,.slice none 0 0,.slice none 0 0,i64 0].toArray ExT (0,0)) ∧ w'.heap[rA]? = some (.cells [str [120],i64 0,i64 0].toArray AtT (0,0)) ∧ w'.heap[rT]? = some (.cells [i64 0].toArray IntT (0,0)) ∧
   w'.heap[rB]? = some (.cells [str [97],if label = true then .slice (some ⟨rL,0,none⟩) 1 1 else .slice none 0 0,.slice (some ⟨rA,0,none⟩) 1 1,.slice none 0 0,i64 0].toArray BkT (0,0)) ∧ (label = true → w'.heap[rL]? = some (.cells [str b].toArray StT (0,0))) ∧
   w'.heap[a7]? = some (.cells [.slice (some ⟨rE,0,none⟩) 1 1,.slice (some ⟨rB,0,none⟩) 1 1,.slice (some ⟨rT,0,none⟩) 1 1].toArray FlT (0,0)) ∧ Ext w4 w') ?_ ?_
 · cases label with
   | false =>
     rw [condW_false]
     exact ⟨0,hbE,hbA,hbT,hbB,(fun e => by cases e),hb17,hx417⟩
   | true =>
     rw [condW_true]
     refine fld5 (off := 1) hb17 rfl ?_
     refine cv hx417 ?_
     refine bsl_str fun rL w19 hrL hz19 hbL hx19 => ?_
     rw [ixa_slice]
     refine ⟨by omega,by omega,?_⟩
     rw [add_mk,fld_ptr,add_mk]
     refine st_at (hx19.at hbB id) rfl (by simp) fun w20 hz20 hb20 hc20 => ?_
     refine ⟨rL,hc20.at (hx19.at hbE id) (by omega),hc20.at (hx19.at hbA id) (by omega),hc20.at (hx19.at hbT id) (by omega),by rw [hb20]; simp,fun _ => hc20.at hbL (by omega),hc20.at (hx19.at hb17 id) (by omega),(hx417.trans hx19).new hc20 (by omega)⟩
 rintro st g18 w21 ⟨rL,hbE,hbA,hbT,hbB,hbL,hb7,hx421⟩
 have hfv := pl_fv hbE hbA hbT hbB hbL
 obtain ⟨fo,bo⟩ := pl_fok (label := label) hlow hbl
 have hfile := pl_file b label
 have hpl := pl_len b label
 have hple := plain_len2 b
 have hif : (if label = true then (plainM b).length + 3 else 0) ≤ 1003 := by split <;> omega
 refine ld_row hb7 rfl ?_
 have hs1 : ∀ K' : Value → World → Prop,(∀ w',Ext w21 w' → K' (str (fileM (plF b label))) w') → callF Tryz.prog 13 [_] w21 K' := fun K' h => showF_p fo bo hfv (by intro i hi; simp [plF] at hi ⊢; omega) (by rw [hfile]; omega) h
 refine hs1 _ fun w22 hx22 => ?_
 rw [hfile]
 obtain ⟨pp,qq,hpar⟩ := pl_parse (label := label) hlow hbl
 have hx022 := (hx1.trans hx4).trans (hx421.trans hx22)
 refine parse_r (hT.ext hx022) (by omega) fun M d w23 hx23 hF hd _ => ?_
 rw [hpar] at hF hd
 simp only [flOf] at hF
 rw [ext_tuple]; refine ⟨_,rfl,?_⟩
 rw [ext_tuple]; refine ⟨_,rfl,?_⟩
 refine alloc_new fun a8 w24 ha8 hz24 hb24 hx24 => ?_
 refine st_agg_at (l := [M.vE,M.vB,M.vT]) hb24 rfl rfl hF.one fun w25 hz25 hb25 hc25 => ?_
 have hx2325 : Ext w23 w25 := hx24.new hc25 (by omega)
 have hF := hF.ext hx2325
 have hd := hd.ext hx2325
 rw [hd.eq,show ∀ f,(true ^^ okP (PR.ok f)) = false from fun _ => rfl]
 refine GdW.look false (fun _ J hJ => ?_) fun g => ?_
 · refine fld5 (off := 0) hb25 rfl ?_
   rw [lenl_at hF.oE.sl,bin_neq]
   exact hJ
 rw [isB_f,Bool.not_false,cond_true,List.getD_cons_zero,pick_f]
 refine GdW.look false (fun _ J hJ => ?_) fun g => ?_
 · refine fld5 (off := 1) hb25 rfl ?_
   rw [lenl_at hF.oB.sl,bin_neq]
   exact hJ
 rw [isB_f,Bool.not_false,cond_true,List.getD_cons_zero,pick_f,condW_false]
 have hxd := ext_drew w25
 have hF := hF.ext hxd
 have hb25 := hxd.at hb25 id
 have hx425 : Ext w4 w25.drew := ((hx421.trans hx22).trans (hx23.trans hx2325)).trans hxd
 have hfin := hK w25.drew (hx022.trans ((hx23.trans hx2325).trans hxd))
 refine fld5 (off := 0) hb25 rfl ?_
 have rowE := hF.ee.2 0 _ rfl
 obtain ⟨va,vk,ec,_,_⟩ := rowE
 have rowB := hF.bb.2 0 _ rfl
 obtain ⟨vl,va2,vb2,eb,oL,_,_⟩ := rowB
 have cellE : ∀ {K' : Value → Prop},K' (str b) → ixaW none 5 M.vE (i64 0) fun t => fldW 1 t fun t => ldW false 1 t w25.drew K' := fun {K'} hk' => by
   refine ixa_at (i := 0) hF.oE.sl hF.ee.1 (by omega) (by show 0 < 1; omega) fun bb o c fr hbb hcs => ?_
   rw [fld_ptr,ld_one]
   have h0 := hcs 1 (by omega)
   have h1 := congrArg (fun l => l[1]?) ec
   simp only [List.getElem?_take_of_lt (show 1 < 5 by omega),List.getElem?_drop,List.getElem?_cons_zero,List.getElem?_cons_succ] at h1
   exact ⟨_,by rw [add_mk,cell_eq,hbb,cellO_some,h0]; exact h1,hk'⟩
 refine cellE ?_
 refine cv hx425 ?_
 rw [bin_seq,decide_eq_true rfl,isB_t]
 refine gq_of (v := .bool label) rfl ?_
 refine gq_of (v := .bool (!label)) (by rw [un_not]) ?_
 refine gq_of (v := .bool (!label)) rfl ?_
 rw [isB_f,Bool.not_not]
 cases label with
 | false =>
   simp only [GqW_f,show isB undef true = false from rfl]
   refine gq_of (v := .bool true) (by rw [Bool.not_false,pick_t]) ?_
   rw [pick_t]
   exact hfin
 | true =>
   have cellB : ixaW none 5 M.vB (i64 0) fun t => fldW 1 t fun t => ldW false 1 t w25.drew fun x => x = vl := by
     refine ixa_at (i := 0) hF.oB.sl hF.bb.1 (by omega) (by show 0 < 1; omega) fun bb o c fr hbb hcs => ?_
     rw [fld_ptr,ld_one]
     have h0 := hcs 1 (by omega)
     have h1 := congrArg (fun l => l[1]?) eb
     simp only [List.getElem?_take_of_lt (show 1 < 5 by omega),List.getElem?_drop,List.getElem?_cons_zero,List.getElem?_cons_succ] at h1
     exact ⟨_,by rw [add_mk,cell_eq,hbb,cellO_some,h0]; exact h1,rfl⟩
   obtain ⟨pB,i1,i2⟩ := ixa_split cellB
   obtain ⟨p2,j1,j2⟩ := fld_split i2
   obtain ⟨p3,k1,k2⟩ := ixa_split (ixa_ld (k := .i64) (i := 0) (x := str b) (K := fun x => x = str b) oL.sl rfl rfl rfl)
   rw [gq_fld]
   refine gq_of (ld5 (off := 1) hb25 rfl) ?_
   refine gq_of i1 ?_
   refine gq_of j1 ?_
   refine gq_of j2 ?_
   refine gq_of (v := i64 1) (by rw [lenl_at oL.sl]; rfl) ?_
   refine gq_of (v := .bool true) (by rw [bin_eql]; rfl) ?_
   refine gq_of (v := .bool true) rfl ?_
   rw [isB_t,gq_fld]
   refine gq_of (ld5 (off := 1) hb25 rfl) ?_
   refine gq_of i1 ?_
   refine gq_of j1 ?_
   refine gq_of j2 ?_
   refine gq_of k1 ?_
   refine gq_of k2 ?_
   refine gq_of rfl ?_
   refine gq_of (v := str b) (cv hx425 rfl) ?_
   refine gq_of (v := .bool true) (by rw [bin_seq,decide_eq_true rfl]) ?_
   refine gq_of (v := .bool true) (by rw [pick_t]) ?_
   refine gq_of (v := .bool true) (by rw [Bool.not_true,pick_f]) ?_
   rw [pick_t]
   exact hfin
end Go.Proofs.YtofhaneggcpdaaaGreatDoor
namespace Go.Proofs.YtofhaneggcpdaaaGreatDoor
open Go Go.RowKit Go.Eng
set_option maxRecDepth 100000
theorem tabi_of {w : World} (hsh : w.ShapedOpen Tryz.prog) : TabI w :=
 Go.Proofs.cell_of_shapedOpen_int (t := 3) (zero := #[.int .i64 0]) hsh (of_decide_eq_true (by kernel_rfl)) (by kernel_rfl) rfl (by kernel_rfl) (by kernel_rfl) Tryz.underlying3
theorem handed_and_shaped {H : Type} {enc : TypeId × Value → H} {a : Assume} {C : Checked} {os : Os} {f : FuncId} {fn : Func} {s : ChangeSpec} {conds : List PathCond} {apart fresh handsOn again : Bool} {X : World → Array Value → Prop}
   (hX : ∀ (w w' : World) (args : Array Value),w.heap = w'.heap → X w args → X w' args)
   (own : ownKnob C.prog.godebug = none) (started : os.Started) (noInit : C.prog.inits.idxOf? f = none) (hfn : C.prog.funcs[f]? = some fn)
   (witness : ∃ (w : World) (tape : Tape) (i : Input),w.os = os ∧ (w.forCall tape i).Shaped C.prog ∧ i.vars = [] ∧ Input.okWide C.prog (w.forCall tape i) .any w.heap.size f i ∧
     ((s.pre enc C.prog fn conds apart (w.forCall tape i).memory i.args ∧ X (w.forCall tape i).memory i.args) ∧ sizedMet enc C.prog fn (OpenSpec.ofChange s) apart (w.forCall tape i).memory i.args) ∧ a.holds C.prog (lone (Frame.enter C.prog f i.args .normal) [] (w.forCall tape i)))
   (contract : ∀ (W : World) (base : Nat) (args : Array Value) (ds gs : List (DataW H)) (before : List MemPlace),
     (∀ (j : Nat) t v,fn.params[j]? = some t → args[j]? = some v → Value.okWide C.prog W .any base t v) →
     DataW.Whole enc C.prog fn.params.toList s.vars apart W args.toList ds gs before →
     conds.all (PathCond.test C.prog ⟨fn.params.toList,ds,s.plain.varTypes C.prog,gs⟩) = true →
     (DataW.weightsEach C.prog (fn.params.toList ++ s.plain.varTypes C.prog) (ds ++ gs)).all (· ≤ reachBytes) = true → X W args → W.ShapedOpen C.prog →
     a.holds C.prog (lone (Frame.enter C.prog f args .normal) [] W) →
     Calls C.prog f args W fun e W' => ∃ v,e = .returned v ∧ s.post enc C.prog fn apart fresh handsOn again W args v W') :
   ReturnsInHanded a C os f .any (fun w args => (s.pre enc C.prog fn conds apart w args ∧ X w args) ∧ sizedMet enc C.prog fn (OpenSpec.ofChange s) apart w args) (s.post enc C.prog fn apart fresh handsOn again) := by
 refine returnsInHanded_of_calls own started noInit witness ?_
 intro w tape i _ hsh _ hok hpre hholds
 obtain ⟨_,_,_,fn',hfn',_,_,_,_,hval⟩ := hok
 have e : fn' = fn := Option.some.inj (hfn'.symm.trans hfn)
 subst e
 obtain ⟨⟨⟨ds,gs,before,hw,hc⟩,hx⟩,hz⟩ := hpre
 have hw' := DataW.Whole.of_heap (w' := w.forCall tape i) (by rfl) hw
 refine (contract (w.forCall tape i) w.heap.size i.args ds gs before hval hw' hc (hz.weights hw) (hX _ _ _ (by rfl) hx) hsh hholds).mono fun e W' ⟨v,he,hp⟩ => ?_
 subst he
 exact ChangeSpec.post_blind hp
section
variable {H : Type} {enc : TypeId × Value → H} {w : World} {base : Nat} {spare : Nat → Bool} {held : Bool}
theorem fopen_s {v : Value} {d : DataW H} {ps : List MemPlace} {r : Reach} {b0 : Nat} (hval : Value.okWide Tryz.prog w r b0 9 v) (h : DataW.Trod enc Tryz.prog w base spare held 9 v d ps) : ∃ s : Str,v = str s ∧ s.length ≤ 9223372036854775807 := by
 obtain ⟨s,rfl,_,_,hs⟩ := Go.ChangeMaps.open_string Tryz.underlying9 hval h
 exact ⟨s.data.toList,by simp [ofL],by unfold maxLen at hs; simpa using hs⟩
end
end Go.Proofs.YtofhaneggcpdaaaGreatDoor
namespace Go.Proofs.YtofhaneggcpdaaaGreatDoor
open Go.RowKit Go.Eng
set_option maxRecDepth 100000
section
variable {H : Type} {enc : TypeId × Value → H} {w : World} {base : Nat} {spare : Nat → Bool} {held : Bool}
theorem open_b {v : Value} {d : DataW H} {ps : List MemPlace} {r : Reach} {b0 : Nat} (hval : Value.okWide Tryz.prog w r b0 4 v) (h : DataW.Trod enc Tryz.prog w base spare held 4 v d ps) : ∃ b : Bool,v = .bool b := by
 obtain ⟨b,rfl,_⟩ := open_bool Tryz.underlying4 hval h
 exact ⟨b,rfl⟩
end
end Go.Proofs.YtofhaneggcpdaaaGreatDoor
