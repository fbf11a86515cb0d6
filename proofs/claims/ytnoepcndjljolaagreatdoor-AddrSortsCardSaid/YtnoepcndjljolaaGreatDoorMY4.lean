/- One plain sentence: weakest preconditions, contracts and plain laws that the claim rests on, text behind text. Conditions: those that each states. -/
import Derived.Test.YtnoepcndjljolaaGreatDoorMY3
import Derived.Test.YtnoepcndjljolaaGreatDoorMY2
import Derived.Lib.ItoaNum
set_option linter.all false
set_option linter.unusedSimpArgs false
set_option linter.unusedVariables false
set_option linter.unusedSectionVars false
namespace Go.Proofs.YtnoepcndjljolaaGreatDoor
open Go Go.Eng Go.RowKit
set_option maxRecDepth 100000
section
variable [HX]
theorem object_p {n deep i c p:Nat} {s:Str} {w:World} {K:Value → World → Prop} (ih:∀ m,m ≤ n → VP m) (h:Rdr w p s i c) (hT:TabU w) (hE:TabE w) (hi:i < s.length) (hs:s.length ≤ 65536) (hc:c ≤ 2000) (hdeep:deep ≤ 24) (hn:2 * (2000 - c) + 2 ≤ n)
   (hok:∀ v j c',(if byteM s (blankM s (i + 1)) = 125 then .ok (.mk 6 false [] [] []) (blankM s (i + 1) + 1) c else objM En s n deep (blankM s (i + 1)) c (.mk 6 false [] [] [])) = RR.ok v j c' → ∀ cs w',Rdr w' p s j c' → Chg (Cr p) w w' → VRepP (From w.heap.size) w' v cs → K (.agg cs.toArray) w')
   (hbad:∀ e j,(if byteM s (blankM s (i + 1)) = 125 then .ok (.mk 6 false [] [] []) (blankM s (i + 1) + 1) c else objM En s n deep (blankM s (i + 1)) c (.mk 6 false [] [] [])) = RR.bad e j → Thr w p e j) :
   callF Tryz.prog 119 [.pointer (some ⟨p,0,none⟩),i64 (deep:Nat)] w K:=by
 refine W119_ok ?_
 unfold W119
 have hp:=h.lt
 refine alloc_new fun a4 w1 ha4 hz1 hb4 hx1=>?_
 rw [put_int]
 refine ⟨by simp,?_⟩
 rw [put_nil]
 simp only [List.set_cons_zero]
 refine alloc_new fun a5 w2 ha5 hz2 hb5 hx2=>?_
 refine st_agg_at (l:=[i64 6,.bool false,str [],.slice none 0 0,.slice none 0 0]) hb5 rfl rfl rfl fun w3 hz3 hb5 hc3=>?_
 have hx3:Ext w w3:=(hx1.trans hx2).new hc3 (by omega)
 have h3:=h.ext hx3
 have hb4:=hc3.at (hx2.at hb4 id) (by omega)
 refine h3.go (k:=1) (by omega) fun w4 h4 hc4 hz4=>?_
 refine blanks_p h4 (by omega) (by omega) fun w5 h5 hc5=>?_
 have hc35:=hc4.trans hc5
 have hcw5:=(Chg.of_ext hx3).trans hc35
 have hble:blankM s (i + 1) ≤ s.length:=blank_le (by omega)
 have hbge:=blank_ge s (i + 1)
 generalize hj0:blankM s (i + 1) = j0 at *
 have keep5:∀ {w' w'':World} {a:Nat} {o:Obj},Chg (Cr p) w' w'' → w'.heap[a]? = some o → w.heap.size ≤ a → w''.heap[a]? = some o:=fun hc hb hle=>hc.at hb fun e=>by
   have e:_ = p:=e
   omega
 have fin:∀ {w6:World} {es:List Value} {l:List (Str × JV)} {j c':Nat},Rdr w6 p s j c' → Chg (Cr p) w w6 → w6.heap[a4]? = some (.cells [i64 0,.bool false,str [],.slice none 0 0,.slice none 0 0].toArray VT (0,0)) → w6.heap[a5]? = some (.cells es.toArray VT (0,0)) →
     VRepP (From w3.heap.size) w6 (mkO l) es → (∀ cs w',Rdr w' p s j c' → Chg (Cr p) w w' → VRepP (From w.heap.size) w' (mkO l) cs → K (.agg cs.toArray) w') →
     ldW true 5 (.pointer (some ⟨a5,0,none⟩)) w6 fun t18=>stW 5 (.pointer (some ⟨a4,0,none⟩)) t18 w6 fun w8=>ldW true 5 (.pointer (some ⟨a4,0,none⟩)) w8 fun r9=>K r9 w8:=fun {w6 es l j c'} h6 hc6 hb4 hb5 hR hk=>by
   refine ld_all hb5 hR.rep.len ?_
   refine ret_leaf hb4 rfl hR.rep.len hR.rep.all_one fun w7 hc7=>?_
   refine hk _ w7 (hc7.at h6 fun e=>by have e:p = a4:=e; omega) (hc6.then hc7 fun k hk e=>by have e:k = a4:=e; omega) ?_
   exact (VRepP.chg hc7 (fun q hq _ e=>by have:w3.heap.size ≤ q:=hq; have e:q = a4:=e; omega) hR).mono fun q _ hq=>by have:w3.heap.size ≤ q:=hq; show w.heap.size ≤ q; omega
 have hemp:∀ w':World,VRepP (From w3.heap.size) w' (mkO []) [i64 6,.bool false,str [],.slice none 0 0,.slice none 0 0]:=fun w'=>leaf_rep (by simp)
 refine take_p (n:=125) h5 hble (by omega) (fun e w6 h6 hc6=>?_) (fun e w6 h6 hc6=>?_)
 · have e:byteM s j0 = 125:=e
   rw [if_pos e] at hok
   rw [condW_true]
   have hc36:=hc35.trans hc6
   exact fin (l:=[]) h6 (hcw5.trans hc6) (keep5 hc36 hb4 (by omega)) (keep5 hc36 hb5 (by omega)) (hemp _) fun cs w' h' hc' hr'=>hok _ _ _ rfl cs w' h' hc' hr'
 have e:byteM s j0 ≠ 125:=e
 rw [if_neg e] at hok hbad
 rw [condW_false]
 have hc36:=hc35.trans hc6
 have e0:(.mk 6 false [] [] []:JV) = mkO []:=rfl
 rw [e0] at hok hbad
 refine LoopW.go (fun st w'=>st = [] ∧ ∃ m j c' l es,Rdr w' p s j c' ∧ Chg (Cr p) w w' ∧ w'.heap[a4]? = some (.cells [i64 0,.bool false,str [],.slice none 0 0,.slice none 0 0].toArray VT (0,0)) ∧ w'.heap[a5]? = some (.cells es.toArray VT (0,0)) ∧
     VRepP (From w3.heap.size) w' (mkO l) es ∧ Rise (l.map (·.1)) ∧ (∀ q ∈ l,ItemP (24 - deep) q) ∧ cntP l ≤ c' ∧ l.length ≤ c' ∧ m ≤ n ∧ 2 * (2000 - c') + 2 ≤ m ∧ c' ≤ 2000 ∧ j ≤ s.length ∧ objM En s m deep j c' (mkO l) = objM En s n deep j0 c (mkO [])) (fun _ w'=>s.length + 1 - rdAt w' p)
   ⟨rfl,n,j0,c,[],[i64 6,.bool false,str [],.slice none 0 0,.slice none 0 0],h6,hcw5.trans hc6,keep5 hc36 hb4 (by omega),keep5 hc36 hb5 (by omega),hemp _,List.Pairwise.nil,(fun q hq=>by cases hq),Nat.zero_le _,Nat.zero_le _,Nat.le_refl _,hn,hc,hble,rfl⟩ ?_
 rintro st g w7 ⟨rfl,m,j,c',l,es,h7,hc7,hb4,hb5,hR,hrise,hitems,hcl,hll,hmn,hm,hc2,hj,heq⟩
 obtain ⟨m,rfl⟩:∃ m',m = m' + 1:=⟨m - 1,by omega⟩
 rw [objM] at heq
 rw [← heq] at hok hbad
 have hjb:=blank_le hj
 have hjg:=blank_ge s j
 refine blanks_p h7 hj (by omega) fun w8 h8 hc8=>?_
 generalize hj8:blankM s j = j8 at *
 have s7:w3.heap.size ≤ w7.heap.size:=by have:=at_lt hb5; have:=at_lt hb4; have:=hc7.size; omega
 have keepR:∀ {w' w'':World},Chg (Cr p) w' w'' → VRepP (From w3.heap.size) w' (mkO l) es → VRepP (From w3.heap.size) w'' (mkO l) es:=fun hc hr=>VRepP.chg hc (fun q hq _ e=>by have:w3.heap.size ≤ q:=hq; have e:q = p:=e; omega) hr
 have hc78:=hc7.trans hc8
 refine h8.ld rfl ?_
 refine JoinW.cut (fun st w'=>∃ (_:byteM s j8 = 34),Ext w8 w') ?_ ?_
 · refine peek_p h8 hjb fun w9 hx9=>?_
   rw [bin_neq,condW_dec]
   have hpk:pkM s j8 = 34 ↔ byteM s j8 = 34:=pk_eq (k:=34) (by omega)
   refine ⟨fun e=>?_,fun e=>?_⟩
   · have e:byteM s j8 ≠ 34:=fun h=>e (hpk.2 h)
     rw [if_pos e] at hbad
     refine (h8.ext hx9).ld rfl ?_
     exact fail_p ((hbad _ _ rfl).from (hc78.then hx9 fun _ _ e=>e.elim))
   · have e:pkM s j8 = 34:=Classical.byContradiction fun h=>e h
     exact ⟨hpk.1 e,hx9⟩
 rintro st g9 w9 ⟨h34,hx9⟩
 rw [if_neg (fun e=>e h34)] at hok hbad heq
 have h9:=h8.ext hx9
 have hc79:Chg (Cr p) w7 w9:=hc8.then hx9 fun _ _ e=>e.elim
 have hlt8:=byte_lt (s:=s) (i:=j8) (by omega)
 refine quoted_p h9 (hT.rd h (hc7.trans hc79)) (hE.rd h (hc7.trans hc79)) hlt8 (by omega) (fun key jq cq hq w10 h10 hc10=>?_) (fun e1 j1 hq=>?_)
 · rw [hq] at hok hbad heq
   simp only at hok hbad heq
   have hq':=hq
   unfold quotM at hq'
   obtain ⟨a1,a2,a3,a4',a5',a6⟩:=quot_back hq' .nil
   subst a1
   have hc710:=hc79.trans hc10
   have hR10:=keepR hc710 hR
   have hb510:=keep5 hc710 hb5 (by omega)
   have hIO:=item_obj hrise hitems
   have hfew:fewM (mkO l) = true:=few_cnt _ hIO.plain (by show 1 + cntL (l.map (·.2)) ≤ _; rw [cntL_map]; omega)
   have hg1:=blank_ge s jq
   have hg2:=blank_le a5'
   refine JoinW.cut (fun st w'=>∃ (_:(getM (mkO l) key).isSome = false),Ext w10 w') ?_ ?_
   · refine ld_all hb510 hR10.rep.len ?_
     refine get_p hR10.rep rfl (by show (l.map (·.1)).length = (l.map (·.2)).length; rw [List.length_map,List.length_map]) hfew hrise fun cs' w11 hx11 hr11=>?_
     simp only [ext_tuple]
     refine ⟨_,rfl,_,rfl,?_⟩
     refine alloc_new fun a8 w12 ha8 hz12 hb12 hx12=>?_
     refine st_agg_at hb12 (hr11.len) rfl hr11.all_one fun w13 hz13 hb13 hc13=>?_
     have hx13:Ext w10 w13:=(hx11.trans hx12).new hc13 (by have:=hx11.size; omega)
     rw [condW_b]
     refine ⟨fun e=>?_,fun e=>⟨e,hx13⟩⟩
     rw [if_pos e] at hbad
     exact fail_p ((hbad _ _ rfl).from ((hc7.trans hc710).then hx13 fun _ _ e=>e.elim))
   rintro st g11 w11 ⟨hget,hx11⟩
   rw [if_neg (by rw [hget]; simp)] at hok hbad heq
   have hnk:=get_none hget
   have h11:=h10.ext hx11
   have hc711:=hc710.then hx11 fun _ _ e=>e.elim
   refine want_p (n:=58) h11 a5' (by omega) (fun e58 w12 h12 hc12=>?_) (fun e58=>?_)
   · have e58:byteM s (blankM s jq) = 58:=e58
     rw [if_neg (fun e=>e e58)] at hok hbad heq
     have hlt58:=byte_lt (s:=s) (i:=blankM s jq) (by omega)
     have hc712:=hc711.trans hc12
     have hxd:Ext w12 w12.drew:=Chg.drew (Chg.refl (fun _=>False) w12)
     have hc712d:=hc712.then hxd fun _ _ e=>e.elim
     have hb512:=keep5 hc712d hb5 (by omega)
     have hR12:=keepR hc712d hR
     refine ld_all hb512 hR12.rep.len ?_
     rw [bin_add,up1 (by omega)]
     have hcw:=hc7.trans hc712d
     refine ih m (by omega) (h12.ext hxd) (hT.rd h hcw) (hE.rd h hcw) (by omega) hs hc2 (by omega) (by omega) (fun x j2 c2 hv ds w13 h13 hc13 hr13=>?_) (fun e1 j2 hv=>?_)
     · rw [hv] at hok hbad heq
       simp only at hok hbad heq
       have hbk:=val_back (by omega) hc2 hv
       have hcp:=cnt_pos x
       have hcnt:=hbk.cnt
       have hmax:=hbk.max
       have hlen:=hbk.len
       have hfit:=hbk.fits
       have hit:=hbk.item
       rw [show 25 - (deep + 1) = 24 - deep by omega] at hit
       have hb513:=keep5 hc13 hb512 (by omega)
       have hR13:=keepR hc13 hR12
       have hcw13:=hcw.trans hc13
       refine ⟨ld_all hb513 hR13.rep.len rfl,?_⟩
       have s13:=hcw13.size
       have s713:=(hc712d.trans hc13).size
       refine put_n hR13.rep hr13.rep hfew (few_cnt x hit.plain (by omega)) hrise hnk (by omega) (by omega) fun es' w14 hx14 hr14=>?_
       have hb514:=hx14.at hb513 id
       refine st_agg_at hb514 hr14.rep.len hR13.rep.len hr14.rep.all_one fun w15 hz15 hb515 hc15=>?_
       have h15:=hc15.at (h13.ext hx14) (by omega)
       have hr15:VRepP (From w3.heap.size) w15 (mkO (insP l key x)) es':=(VRepP.chg hc15 (fun q hq _ e=>by have:w13.heap.size ≤ q:=hq; have:=at_lt hb513; omega) hr14).mono fun q _ hq=>by have:w13.heap.size ≤ q:=hq; show w3.heap.size ≤ q; omega
       have hb415:=hc15.at (hx14.at (keep5 (hc712d.trans hc13) hb4 (by omega)) id) (by omega)
       have hcw15:Chg (Cr p) w w15:=(hcw13.then hx14 fun _ _ e=>e.elim).then hc15 fun q hq e=>by omega
       have hr':=rise_ins (x:=x) hrise hnk
       have hp':∀ q ∈ insP l key x,ItemP (24 - deep) q:=fun q hq=>by
         rcases (ins_mem q).1 hq with rfl | hq
         · exact ⟨a3,(utf_iff key).2 a2,hit⟩
         · exact hitems q hq
       rw [put_mkO hnk] at hok hbad heq
       refine blanks_p h15 hfit (by omega) fun w16 h16 hc16=>?_
       have hge1:=blank_ge s j2
       have hle1:=blank_le hfit
       have hidem:=blank_idem s j2
       have step:∀ {w':World},Chg (Cr p) w15 w' → Chg (Cr p) w w' ∧ w'.heap[a4]? = some (.cells [i64 0,.bool false,str [],.slice none 0 0,.slice none 0 0].toArray VT (0,0)) ∧ w'.heap[a5]? = some (.cells es'.toArray VT (0,0)) ∧ VRepP (From w3.heap.size) w' (mkO (insP l key x)) es':=fun {w'} hc'=>
         ⟨hcw15.trans hc',keep5 hc' hb415 (by omega),keep5 hc' hb515 (by omega),VRepP.chg hc' (fun q hq _ e=>by have:w3.heap.size ≤ q:=hq; have e:q = p:=e; omega) hr15⟩
       refine take_p (n:=125) h16 hle1 (by omega) (fun e w17 h17 hc17=>?_) (fun e w17 h17 hc17=>?_)
       · have e:byteM s (blankM s j2) = 125:=e
         rw [if_pos e] at hok
         rw [condW_true]
         obtain ⟨q1,q2,q3,q4⟩:=step (hc16.trans hc17)
         exact fin h17 q1 q2 q3 q4 fun cs w' h' hc' hr'=>hok _ _ _ rfl cs w' h' hc' hr'
       · have e:byteM s (blankM s j2) ≠ 125:=e
         rw [if_neg e] at hok hbad heq
         rw [condW_false]
         refine want_p (n:=44) h17 hle1 (by omega) (fun e2 w18 h18 hc18=>?_) (fun e2=>?_)
         · rw [hidem] at e2 h18
           have e2:byteM s (blankM s j2) = 44:=e2
           rw [if_pos e2] at heq
           obtain ⟨q1,q2,q3,q4⟩:=step ((hc16.trans hc17).trans hc18)
           have hlt44:=byte_lt (s:=s) (i:=blankM s j2) (by omega)
           refine ⟨⟨rfl,m,blankM s j2 + 1,c2,insP l key x,es',h18,q1,q2,q3,q4,hr',hp',by rw [ins_cnt]; omega,by rw [ins_len]; omega,by omega,by omega,hmax,by omega,heq⟩,?_⟩
           rw [h18.at_,h7.at_]; omega
         · rw [hidem] at e2 ⊢
           have e2:byteM s (blankM s j2) ≠ 44:=e2
           rw [if_neg e2] at hbad
           exact (hbad _ _ rfl).from (step (hc16.trans hc17)).1
     · rw [hv] at hbad
       exact (hbad _ _ rfl).from hcw
   · have e58:byteM s (blankM s jq) ≠ 58:=e58
     rw [if_pos e58] at hbad
     exact (hbad _ _ rfl).from (hc7.trans hc711)
 · rw [hq] at hbad
   exact (hbad _ _ rfl).from (hc7.trans hc79)
end
end Go.Proofs.YtnoepcndjljolaaGreatDoor
namespace Go.Proofs.YtnoepcndjljolaaGreatDoor
open Go Go.Eng Go.RowKit
set_option maxRecDepth 100000
section
variable [HX]
theorem bool_p {b:Bool} {w:World} {K:Value → World → Prop} (hK:∀ w',Ext w w' → K (.agg [i64 2,.bool b,str [],.slice none 0 0,.slice none 0 0].toArray) w'):callF Tryz.prog 115 [.bool b] w K:=by
 refine W115_ok ?_
 unfold W115
 refine alloc_new fun a w1 ha hz hb hx=>?_
 simp only [put_int,put_bool,put_nil,List.length_cons,List.length_nil,List.set_cons_zero,List.set_cons_succ]
 refine ⟨by omega,by omega,?_⟩
 exact ret_leaf (l:=[i64 2,.bool b,str [],.slice none 0 0,.slice none 0 0]) hb rfl rfl rfl fun w2 hc2=>hK w2 (hx.new hc2 (by omega))
theorem null_p {w:World} {K:Value → World → Prop} (hK:∀ w',Ext w w' → K (.agg [i64 0,.bool false,str [],.slice none 0 0,.slice none 0 0].toArray) w'):callF Tryz.prog 114 [] w K:=by
 refine W114_ok ?_
 unfold W114
 refine alloc_new fun a w1 ha hz hb hx=>?_
 rw [put_nil]
 exact ret_leaf (l:=[i64 0,.bool false,str [],.slice none 0 0,.slice none 0 0]) hb rfl rfl rfl fun w2 hc2=>hK w2 (hx.new hc2 (by omega))
theorem textv_p {t:Str} {w:World} {K:Value → World → Prop} (hK:∀ w',Ext w w' → K (.agg [i64 4,.bool false,str t,.slice none 0 0,.slice none 0 0].toArray) w'):callF Tryz.prog 23 [str t] w K:=by
 refine W23_ok ?_
 unfold W23
 refine alloc_new fun b w1 hb hz hbb hx=>?_
 simp only [put_int,put_str,put_nil,List.length_cons,List.length_nil,List.set_cons_zero,List.set_cons_succ]
 refine ⟨by omega,by omega,?_⟩
 exact ret_leaf (l:=[i64 4,.bool false,str t,.slice none 0 0,.slice none 0 0]) hbb rfl rfl rfl fun w2 hc2=>hK w2 (hx.new hc2 (by omega))
theorem value_p:∀ n,VP n:=by
 intro n
 induction n using Nat.strongRecOn with
 | ind n ihs=>
 intro deep i c p s w K h hT hE hi hs hc hdeep hn hok hbad
 obtain ⟨n,rfl⟩:∃ m,n = m + 1:=⟨n - 1,by omega⟩
 have ih:∀ m,m ≤ n → VP m:=fun m hm=>ihs m (by omega)
 refine W58_ok ?_
 unfold W58
 have hp:=h.lt
 rw [valM] at hok hbad
 refine alloc_new fun a4 w1 ha4 hz1 hb4 hx1=>?_
 refine blanks_p (h.ext hx1) hi (by omega) fun w2 h2 hc2=>?_
 have hj:=blank_le hi
 generalize hjj:blankM s i = j at *
 have hcw2:=(Chg.of_ext hx1).trans hc2
 have hpa:p ≠ a4:=by omega
 have hb42:=hc2.at hb4 (fun e=>hpa e.symm)
 refine JoinW.cut (fun st w'=>w' = w2 ∧ ¬ 24 < deep ∧ ¬ 2000 ≤ c) ?_ ?_
 · rw [bin_gtr,condW_dec]
   refine ⟨fun e=>?_,fun e=>?_⟩
   · rw [if_pos (by omega)] at hbad
     refine h2.ld rfl ?_
     exact fail_p ((hbad _ _ rfl).from hcw2)
   · rw [if_neg (by omega)] at hbad
     refine h2.ld rfl ?_
     rw [bin_eql,condW_dec]
     refine ⟨fun e2=>?_,fun e2=>⟨rfl,by omega,by omega⟩⟩
     rw [if_pos (by omega)] at hbad
     refine h2.ld rfl ?_
     exact fail_p ((hbad _ _ rfl).from hcw2)
 rintro st g w3 ⟨rfl,hd,hcnt⟩
 rw [if_neg hd,if_neg hcnt] at hok hbad
 refine h2.ld rfl ?_
 rw [bin_add,up1 (by omega)]
 refine h2.st2 fun w4 h4 hc4 hz4=>?_
 have hxd:Ext w4 w4.drew:=Chg.drew (Chg.refl (fun _=>False) w4)
 have h4d:=h4.ext hxd
 refine h4d.ld rfl ?_
 refine h4d.ld rfl ?_
 rw [sls_str,bd_none,bd_some]
 refine ⟨by omega,by omega,?_⟩
 simp only [Int.toNat_natCast,List.take_length]
 refine peek_p h4d hj fun w5 hx5=>?_
 have h5:=h4d.ext hx5
 have hc5:Chg (Cr p) w w5:=((hcw2.trans hc4).then hxd fun _ _ e=>e.elim).then hx5 fun _ _ e=>e.elim
 have hb45:=hx5.at (hxd.at (hc4.at hb42 (fun e=>hpa e.symm)) id) id
 -- what is handed back
 have ret:∀ {w6 w7:World} {j' c':Nat} {v:JV} {cs:List Value},Rdr w6 p s j' c' → Chg (Cr p) w5 w6 → VRepP (From w5.heap.size) w6 v cs → (∀ cs w',Rdr w' p s j' c' → Chg (Cr p) w w' → VRepP (From w.heap.size) w' v cs → K (.agg cs.toArray) w') →
     stW 5 (.pointer (some ⟨a4,0,none⟩)) (.agg cs.toArray) w6 fun w8=>ldW true 5 (.pointer (some ⟨a4,0,none⟩)) w8 fun r9=>K r9 w8:=fun {w6 _ j' c' v cs} h6 hc6 hr hk=>by
   refine ret_leaf (hc6.at hb45 (fun e=>hpa e.symm)) rfl hr.rep.len hr.rep.all_one fun w7 hc7=>?_
   have s5:=hc5.size
   have:=at_lt hb45
   refine hk _ w7 (hc7.at h6 hpa) ((hc5.trans hc6).then hc7 fun k hk e=>by have e:k = a4:=e; omega) ?_
   exact (VRepP.chg hc7 (fun q hq _ e=>by have:w5.heap.size ≤ q:=hq; have e:q = a4:=e; omega) hr).mono fun q _ hq=>by have:w5.heap.size ≤ q:=hq; show w.heap.size ≤ q; omega
 have wlen:∀ {p:Str},wordM s j p = true → j + p.length ≤ s.length:=fun {p} hw=>by
   unfold wordM at hw
   have:=congrArg List.length (of_decide_eq_true hw)
   rw [List.length_take,List.length_drop] at this
   omega
 refine word_p ?_
 rw [condW_b]
 refine ⟨fun e=>?_,fun e=>?_⟩
 · rw [if_pos e] at hok
   have hw:=wlen e
   refine h5.go (k:=4) (by omega) fun w6 h6 hc6 hz6=>?_
   refine null_p fun w7 hx7=>?_
   exact ret (w7:=w7) (v:=JV.null) (h6.ext hx7) (hc6.then hx7 fun _ _ e=>e.elim) (leaf_rep (by simp)) fun cs w' h' hc' hr'=>hok _ _ _ rfl cs w' h' hc' hr'
 rw [if_neg (by rw [e]; simp)] at hok hbad
 refine word_p ?_
 rw [condW_b]
 refine ⟨fun e=>?_,fun e=>?_⟩
 · rw [if_pos e] at hok
   have hw:=wlen e
   refine h5.go (k:=4) (by omega) fun w6 h6 hc6 hz6=>?_
   refine bool_p fun w7 hx7=>?_
   exact ret (w7:=w7) (h6.ext hx7) (hc6.then hx7 fun _ _ e=>e.elim) (leaf_rep (by simp)) fun cs w' h' hc' hr'=>hok _ _ _ rfl cs w' h' hc' hr'
 rw [if_neg (by rw [e]; simp)] at hok hbad
 refine word_p ?_
 rw [condW_b]
 refine ⟨fun e=>?_,fun e=>?_⟩
 · rw [if_pos e] at hok
   have hw:=wlen e
   refine h5.go (k:=5) (by omega) fun w6 h6 hc6 hz6=>?_
   refine bool_p fun w7 hx7=>?_
   exact ret (w7:=w7) (h6.ext hx7) (hc6.then hx7 fun _ _ e=>e.elim) (leaf_rep (by simp)) fun cs w' h' hc' hr'=>hok _ _ _ rfl cs w' h' hc' hr'
 rw [if_neg (by rw [e]; simp)] at hok hbad
 have q45:pkM s j = 45 ↔ byteM s j = 45:=pk_eq (k:=45) (by omega)
 have q34:pkM s j = 34 ↔ byteM s j = 34:=pk_eq (k:=34) (by omega)
 have q91:pkM s j = 91 ↔ byteM s j = 91:=pk_eq (k:=91) (by omega)
 have q123:pkM s j = 123 ↔ byteM s j = 123:=pk_eq (k:=123) (by omega)
 rw [bin_eql]
 simp only [isB_f,isB_t,isB_gd_t,bin_geq,bin_leq,GdW_pure,GdW_nest_and,List.getD_cons_zero,pick_gd_or]
 intros
 rw [pk_dig,condW_b]
 have hthr:∀ {w':World} {e:Int} {j':Nat},Chg (Cr p) w5 w' → Thr w p e j' → Thr w' p e j':=fun hc ht=>ht.from (hc5.trans hc)
 refine ⟨fun e=>?_,fun e=>?_⟩
 · have e:byteM s j = 45 ∨ isDig (byteM s j) = true:=by
     rw [Bool.or_eq_true,decide_eq_true_iff] at e
     exact e.imp q45.1 id
   rw [if_pos e] at hok hbad
   refine number_p h5 hj (by omega) (fun v j' c' hv cs w6 h6 hc6 hr6=>?_) (fun e1 j' hv=>(hbad _ _ hv).from hc5)
   exact ret (w7:=w6) h6 hc6 hr6 fun cs w' h' hc' hr'=>hok _ _ _ hv cs w' h' hc' hr'
 have e:¬ (byteM s j = 45 ∨ isDig (byteM s j) = true):=by
   rw [Bool.or_eq_false_iff,decide_eq_false_iff_not] at e
   rintro (h | h)
   · exact e.1 (q45.2 h)
   · rw [e.2] at h; cases h
 rw [if_neg e] at hok hbad
 rw [bin_eql,condW_dec]
 refine ⟨fun e=>?_,fun e=>?_⟩
 · have e:=q34.1 e
   rw [if_pos e] at hok hbad
   have hlt:=byte_lt (s:=s) (i:=j) (by omega)
   refine quoted_p h5 (hT.rd h hc5) (hE.rd h hc5) hlt (by omega) (fun t j' c' hq w6 h6 hc6=>?_) (fun e1 j' hq=>?_)
   · rw [hq] at hok
     refine textv_p fun w7 hx7=>?_
     unfold quotM at hq
     obtain ⟨_,_,a3,_⟩:=quot_back hq .nil
     exact ret (w7:=w7) (h6.ext hx7) (hc6.then hx7 fun _ _ e=>e.elim) (leaf_rep (by omega)) fun cs w' h' hc' hr'=>hok _ _ _ rfl cs w' h' hc' hr'
   · rw [hq] at hbad
     exact (hbad _ _ rfl).from hc5
 rw [if_neg (fun h=>e (q34.2 h))] at hok hbad
 rw [bin_eql,condW_dec]
 refine ⟨fun e=>?_,fun e=>?_⟩
 · have e:=q91.1 e
   rw [if_pos e] at hok hbad
   have hlt:=byte_lt (s:=s) (i:=j) (by omega)
   refine list_p ih h5 (hT.rd h hc5) (hE.rd h hc5) hlt hs (by omega) (by omega) (by omega) (fun v j' c' hv cs w6 h6 hc6 hr6=>?_) (fun e1 j' hv=>(hbad _ _ hv).from hc5)
   exact ret (w7:=w6) h6 hc6 hr6 fun cs w' h' hc' hr'=>hok _ _ _ hv cs w' h' hc' hr'
 rw [if_neg (fun h=>e (q91.2 h))] at hok hbad
 rw [bin_eql,condW_dec]
 refine ⟨fun e=>?_,fun e=>?_⟩
 · have e:=q123.1 e
   rw [if_pos e] at hok hbad
   have hlt:=byte_lt (s:=s) (i:=j) (by omega)
   refine object_p ih h5 (hT.rd h hc5) (hE.rd h hc5) hlt hs (by omega) (by omega) (by omega) (fun v j' c' hv cs w6 h6 hc6 hr6=>?_) (fun e1 j' hv=>(hbad _ _ hv).from hc5)
   exact ret (w7:=w6) h6 hc6 hr6 fun cs w' h' hc' hr'=>hok _ _ _ hv cs w' h' hc' hr'
 rw [if_neg (fun h=>e (q123.2 h))] at hbad
 refine h5.ld rfl ?_
 exact fail_p ((hbad _ _ rfl).from hc5)
end
theorem as_diag (v:Value) (w:World):(Instr.typeAssert (.iface DT v) 20 DT false).run Tryz.prog w = .ok v w:=by kernel_rfl
theorem nil_idle (w:World) (K:Value → Prop):eqQ Tryz.prog .neq 20 false true .nilIface .nilIface w K ↔ K (.bool false):=by
 have h:(do eqGuard .neq 20 (stand false) (stand true) .nilIface .nilIface; binOp .neq 20 .nilIface .nilIface:Sem Value).run Tryz.prog w = .ok (.bool false) w:=by kernel_rfl
 unfold eqQ semQ
 rw [h]
 exact ⟨fun ⟨v,h1,h2⟩=>by cases h1; exact h2,fun h2=>⟨_,rfl,h2⟩⟩
theorem nil_thrown (v:Value) (w:World) (K:Value → Prop):eqQ Tryz.prog .neq 20 false true (.iface DT v) .nilIface w K ↔ K (.bool true):=by
 have h:(do eqGuard .neq 20 (stand false) (stand true) (.iface DT v) .nilIface; binOp .neq 20 (.iface DT v) .nilIface:Sem Value).run Tryz.prog w = .ok (.bool true) w:=by kernel_rfl
 unfold eqQ semQ
 rw [h]
 exact ⟨fun ⟨v,h1,h2⟩=>by cases h1; exact h2,fun h2=>⟨_,rfl,h2⟩⟩
theorem rec_idle {a b:Value} {w:World} {K:World → Prop} (hK:K w):DefC Tryz.prog 56 [a,b] .returning w K:=by
 letI:=noX
 refine R56_ok .idle ?_
 unfold R56
 rw [nil_idle,condW_false]
 exact hK
abbrev zv5:List Value:=[.int .i64 0,.bool false,.string (ofL []),.slice none 0 0,.slice none 0 0]
theorem rec_thrown {a b d:Nat} {cs ds:List Value} {w:World} {K:World → Prop} (ha:w.heap[a]? = some (.cells cs.toArray VT (0,0))) (hl:cs.length = 5) (hb:w.heap[b]? = some (.cells ds.toArray DT (0,0))) (hd:ds.length = 1) (hab:a ≠ b)
   (hK:∀ w',Chg (fun k=>k = a ∨ k = b) w w' → w'.heap[a]? = some (.cells zv5.toArray VT (0,0)) → w'.heap[b]? = some (.cells [.pointer (some ⟨d,0,none⟩)].toArray DT (0,0)) → K w') :
   DefC Tryz.prog 56 [.pointer (some ⟨a,0,none⟩),.pointer (some ⟨b,0,none⟩)] (.panicking [{ v:=.iface DT (.pointer (some ⟨d,0,none⟩)),recovered:=false }]) w K:=by
 letI:=noX
 refine R56_ok (.thrown _) ?_
 unfold R56
 rw [nil_thrown,condW_true,put_nil]
 refine ⟨_,as_diag _ _,?_⟩
 refine st_agg_at (l:=zv5) (w:=w.drew) ha rfl hl rfl fun w2 hz2 ha2 hc2=>?_
 refine ⟨⟨_,as_diag _ _,rfl⟩,?_⟩
 have hb2:=hc2.at (w:=w.drew) hb (fun e=>hab e.symm)
 refine st_at hb2 rfl (by rw [List.size_toArray]; omega) fun w3 hz3 hb3 hc3=>?_
 refine hK w3 ?_ (hc3.at ha2 hab) (by
   rw [hb3]
   match ds,hd with
   | [x],_=>simp)
 exact ((Chg.drew (Chg.refl _ w)).trans (hc2.mono fun k _ e=>.inl e)).trans (hc3.mono fun k _ e=>.inr e)
end Go.Proofs.YtnoepcndjljolaaGreatDoor
namespace Go.Proofs.YtnoepcndjljolaaGreatDoor
open Go Go.Eng Go.RowKit
set_option maxRecDepth 100000
abbrev DgT:TypeId:=150
section
variable [HX]
theorem decode_p {s:Str} {w:World} {K:Value → World → Prop} (hT:TabU w) (hE:TabE w) (hs:s.length ≤ 9223372036854775807)
   (hok:∀ v j c,decM En s = .ok v j c → ∀ cs w',Ext w w' → VRepP (From w.heap.size) w' v cs → K (.tuple #[.agg cs.toArray,.pointer none]) w')
   (hbad:∀ e i,decM En s = .bad e i → ∀ d w',Ext w w' → w.heap.size ≤ d → w'.heap[d]? = some (.cells [i64 e,str [],i64 (i:Nat)].toArray DgT (0,0)) → K (.tuple #[.agg zv5.toArray,.pointer (some ⟨d,0,none⟩)]) w') :
   callF Tryz.prog 27 [str s] w K:=by
 refine W27_ok ?_
 unfold W27
 refine alloc_new fun a w1 ha hz1 hba hx1=>?_
 refine alloc_new fun b w2 hb hz2 hbb hx2=>?_
 have hba:=hx2.at hba id
 have hx02:=hx1.trans hx2
 letI H:HX:=⟨fun ch x3=>DefC Tryz.prog 56 [.pointer (some ⟨a,0,none⟩),.pointer (some ⟨b,0,none⟩)] (.panicking ch) x3 fun w3=>ldW true 5 (.pointer (some ⟨a,0,none⟩)) w3 fun r4=>ldW false 1 (.pointer (some ⟨b,0,none⟩)) w3 fun r5=>K (.tuple #[r4,r5]) w3⟩
 have hab:a ≠ b:=by omega
 unfold decM at hok hbad
 -- what is thrown is handed back
 have thr:∀ {w3:World} {p:Nat} {cs ds:List Value} {e:Int} {i:Nat},(∀ d w',Ext w w' → w.heap.size ≤ d → w'.heap[d]? = some (.cells [i64 e,str [],i64 (i:Nat)].toArray DgT (0,0)) → K (.tuple #[.agg zv5.toArray,.pointer (some ⟨d,0,none⟩)]) w') →
     Ext w w3 → w3.heap[a]? = some (.cells cs.toArray VT (0,0)) → cs.length = 5 → w3.heap[b]? = some (.cells ds.toArray DT (0,0)) → ds.length = 1 → w2.heap.size ≤ p → Thr w3 p e i:=fun {w3 p cs ds e i} hbad hx h1 h2 h3 h4 hp d w' hd hc hbd=>by
   show DefC _ _ _ _ _ _
   have s3:=at_lt h3
   refine rec_thrown (hc.at h1 fun e=>by have e:a = p:=e; omega) h2 (hc.at h3 fun e=>by have e:b = p:=e; omega) h4 hab fun w'' hc'' h1'' h3''=>?_
   refine ld_all h1'' rfl ?_
   rw [ld_one]
   refine ⟨_,by rw [cell_eq,h3'']; rfl,?_⟩
   have hlt:=at_lt hbd
   refine hbad d w'' ?_ (by have:=hx.size; omega) (hc''.at hbd (by rintro (e | e) <;> omega))
   exact (hx.then hc fun k hk e=>by have e:k = p:=e; omega).then hc'' fun k hk e=>by rcases e with e | e <;> omega
 refine JoinW.cut (fun st w'=>w' = w2 ∧ ¬ 65536 < s.length) ?_ ?_
 · rw [lens_str,bin_gtr,condW_dec]
   refine ⟨fun e=>?_,fun e=>⟨rfl,by omega⟩⟩
   rw [if_pos (by omega)] at hbad
   exact fail_p (p:=w2.heap.size) (i:=0) (thr (hbad _ _ rfl) hx02 hba rfl hbb rfl (Nat.le_refl _))
 rintro st g w3 ⟨rfl,hlen⟩
 rw [if_neg hlen] at hok hbad
 simp only [put_int,put_str,put_nil,List.length_cons,List.length_nil,List.set_cons_zero,List.set_cons_succ]
 refine ⟨by omega,?_⟩
 refine box_new (z:=[str s,i64 0,i64 0]) fun p w4 hp hz4 hb4 hx4=>?_
 have hx04:=hx02.trans hx4
 have hR:Rdr w4 p s 0 0:=hb4
 have hba4:=hx4.at hba id
 have hbb4:=hx4.at hbb id
 have hT4:=hT.ext hx04
 have hE4:=hE.ext hx04
 refine value_p 5000 (deep:=1) hR hT4 hE4 (Nat.zero_le _) (by omega) (by omega) (by omega) (by omega) (fun v j c hv cs w5 h5 hc5 hr5=>?_) (fun e i hv=>?_)
 · rw [hv] at hok hbad
   simp only at hok hbad
   have hbk:=val_back (Nat.zero_le _) (Nat.zero_le _) hv
   have hba5:=hc5.at hba4 fun e=>by have e:a = p:=e; omega
   have hbb5:=hc5.at hbb4 fun e=>by have e:b = p:=e; omega
   refine st_agg_at hba5 hr5.rep.len rfl hr5.rep.all_one fun w6 hz6 hba6 hc6=>?_
   have hbb6:=hc6.at hbb5 (by omega)
   have h6:=hc6.at h5 (by omega)
   have hr6:VRepP (From w4.heap.size) w6 v cs:=VRepP.chg hc6 (fun q hq _ e=>by have:w4.heap.size ≤ q:=hq; omega) hr5
   have hx06:Ext w w6:=(hx04.then hc5 fun k hk e=>by have e:k = p:=e; omega).then hc6 fun k hk e=>by omega
   refine blanks_p h6 hbk.fits (by omega) fun w7 h7 hc7=>?_
   have hx07:Ext w w7:=hx06.then hc7 fun k hk e=>by have e:k = p:=e; omega
   have hba7:=hc7.at hba6 fun e=>by have e:a = p:=e; omega
   have hbb7:=hc7.at hbb6 fun e=>by have e:b = p:=e; omega
   refine JoinW.cut (fun st w'=>w' = w7 ∧ ¬ blankM s j < s.length) ?_ ?_
   · refine h7.ld rfl ?_
     rw [lens_str,bin_lss,condW_dec]
     refine ⟨fun e=>?_,fun e=>⟨rfl,by omega⟩⟩
     rw [if_pos (by omega)] at hbad
     refine h7.ld rfl ?_
     exact fail_p (p:=p) (thr (hbad _ _ rfl) hx07 hba7 hr5.rep.len hbb7 rfl (by omega))
   rintro st g2 w8 ⟨rfl,hend⟩
   rw [if_neg hend] at hok
   refine ld_all hba7 hr5.rep.len ?_
   refine st_agg_at hba7 hr5.rep.len hr5.rep.len hr5.rep.all_one fun w9 hz9 hba9 hc9=>?_
   have hbb9:=hc9.at hbb7 (by omega)
   refine st_at hbb9 rfl (by simp) fun w10 hz10 hbb10 hc10=>?_
   have hba10:=hc10.at hba9 hab
   refine rec_idle ?_
   refine ld_all hba10 hr5.rep.len ?_
   rw [ld_one]
   refine ⟨.pointer none,by rw [cell_eq,hbb10]; simp [cellO_some],?_⟩
   have hx10:Ext w w10:=(hx07.then hc9 fun k hk e=>by omega).then hc10 fun k hk e=>by omega
   refine hok _ _ _ rfl cs w10 hx10 ?_
   have hr7:VRepP (From w4.heap.size) w8 v cs:=VRepP.chg hc7 (fun q hq _ e=>by have:w4.heap.size ≤ q:=hq; have e:q = p:=e; omega) hr6
   refine VRepP.mono (fun q _ hq=>?_) (VRepP.chg hc10 (fun q hq _ e=>?_) (VRepP.chg hc9 (fun q hq _ e=>?_) hr7))
   · have:w4.heap.size ≤ q:=hq
     show w.heap.size ≤ q
     omega
   · have:w4.heap.size ≤ q:=hq; omega
   · have:w4.heap.size ≤ q:=hq; omega
 · rw [hv] at hbad
   exact thr (hbad _ _ rfl) hx04 hba4 rfl hbb4 rfl (by omega)
end
end Go.Proofs.YtnoepcndjljolaaGreatDoor
namespace Go.Proofs.YtnoepcndjljolaaGreatDoor
open Go Go.Eng Go.RowKit
set_option maxRecDepth 100000
structure TabJ (w:World):Prop where
 utf:TabU w
 bru:TabB w
 err:TabE w
section
variable [HX]
theorem eqp_nn (n:Bool) (K:Value → Prop):eqW .ptr n (.pointer none) (.pointer none) K ↔ K (.bool (!n)):=by cases n <;> exact Iff.rfl
theorem eqp_sn (n:Bool) (a:Addr) (K:Value → Prop):eqW .ptr n (.pointer (some a)) (.pointer none) K ↔ K (.bool n):=Iff.rfl
theorem keep_val {w:World} {v:JV} {cs:List Value} {K:Value → World → Prop} (h:VRep w v cs) (hK:∀ a w' sv kv,ValB w' a v sv kv → Ext w w' → K (.pointer (some ⟨a,0,none⟩)) w') :
   allocW VT [(.int .i64 0),(.bool false),(.string (ofL [])),(.slice none 0 0),(.slice none 0 0)] w fun t1 w2=>stW 5 t1 (.agg cs.toArray) w2 fun w3=>K t1 w3:=copy_new h hK
end
end Go.Proofs.YtnoepcndjljolaaGreatDoor


namespace Go.Proofs.YtnoepcndjljolaaGreatDoor
open Go Go.Eng
set_option maxRecDepth 100000
variable [HX]
def plan93:Plan:={ js:=[(14,⟨[],[],7⟩)],ds:=[(25,⟨[0,1,2,3,4,6,7],[[],[],[1],[],[3],[0],[0,1,2,5],[0,1,2,3,4,5,6]]⟩)] }
def W93 (v0:Value) (w:World) (K:Value → World → Prop):Prop:=
 allocW 40 [(.int .i64 0),(.bool false),(.string (ofL [])),(.slice none 0 0),(.slice none 0 0)] w fun t2 w1=>
 lensW v0 fun t8=>
 binW .gtr t8 (.int .i64 65536) fun t9=>
 condW t9 (
 putW [(.int .i64 0),(.bool false),(.string (ofL [])),(.slice none 0 0),(.slice none 0 0)] [] fun c2=>
 stW 5 t2 (.agg c2.toArray) w1 fun w3=>
 ldW true 5 t2 w3 fun r4=>
 K (.tuple #[r4,(.int .i64 3),(.int .i64 0)]) w3) (
 putW [(.string (ofL [])),(.int .i64 0),(.int .i64 0),(.int .i64 0),(.int .i64 0)] [(0,1,v0)] fun c5=>
 callF Tryz.prog 150 [(.agg c5.toArray),(.int .i64 1)] w1 fun t14 w6=>
 extW 0 t14 fun t15=>
 extW 1 t14 fun t16=>
 allocW 178 [(.string (ofL [])),(.int .i64 0),(.int .i64 0),(.int .i64 0),(.int .i64 0)] w6 fun t5 w7=>
 allocW 40 [(.int .i64 0),(.bool false),(.string (ofL [])),(.slice none 0 0),(.slice none 0 0)] w7 fun t6 w8=>
 stW 5 t5 t15 w8 fun w9=>
 stW 5 t6 t16 w9 fun w10=>
 ldW true 5 t5 w10 fun t17=>
 callF Tryz.prog 151 [t17] w10 fun t18 w11=>
 stW 5 t5 t18 w11 fun w12=>
 JoinW (fun J13=>
 fldW 1 t5 fun t19=>
 ldW false 1 t19 w12 fun t20=>
 lensW v0 fun t22=>
 binW .lss t20 t22 fun t23=>
 condW t23 (
 ldW true 5 t5 w12 fun t24=>
 fldW 1 t5 fun t25=>
 ldW false 1 t25 w12 fun t26=>
 callF Tryz.prog 152 [t24,(.int .i64 30),t26] w12 fun t27 w14=>
 stW 5 t5 t27 w14 fun w15=>
 J13 [] w15) (
 J13 [] w12))
 fun s13 _ w16=>
 fldW 3 t5 fun t28=>
 ldW false 1 t28 w16 fun t29=>
 binW .neq t29 (.int .i64 0) fun t30=>
 condW t30 (
 putW [(.int .i64 0),(.bool false),(.string (ofL [])),(.slice none 0 0),(.slice none 0 0)] [] fun c17=>
 fldW 3 t5 fun t32=>
 ldW false 1 t32 w16.drew fun t33=>
 fldW 4 t5 fun t34=>
 ldW false 1 t34 w16.drew fun t35=>
 stW 5 t2 (.agg c17.toArray) w16.drew fun w18=>
 (ldW false 1 t34 w18 fun x=>x = t35) ∧
 (ldW false 1 t32 w18 fun x=>x = t33) ∧
 ldW true 5 t2 w18 fun r19=>
 K (.tuple #[r19,t33,t35]) w18) (
 ldW true 5 t6 w16 fun t36=>
 stW 5 t2 t36 w16 fun w20=>
 ldW true 5 t2 w20 fun r21=>
 K (.tuple #[r21,(.int .i64 0),(.int .i64 0)]) w20))
theorem W93_ok {v0:Value} {w:World} {K:Value → World → Prop} (h:W93 v0 w K):callF Tryz.prog 93 [v0] w K:=
 tie _ 93 Tryz.f93 plan93 _ w K 1 _ rfl mixed Tryz.func93 (by kernel_rfl) (by kernel_rfl) Tryz.call93 h
def plan150:Plan:={ js:=[(83004,⟨[87],[],85⟩),(65004,⟨[64],[],62⟩),(34,⟨[37],[7],37⟩)],ds:=[(86,⟨[0,1,2,4,6,7],[[],[],[],[2],[2,3],[0,1,2,3,4],[0,1,2,3,4,5],[0,1,2,3,4,5],[0,1,2,3,4,5,6,7],[0,1,2,3,4,5,6,7,8]]⟩),(78,⟨[0,1],[[],[],[1],[0,1,2],[0,1,2,3]]⟩),(59,⟨[0,1,2],[[],[],[1],[1,2],[0,1,2,3],[0,1,2,3,4]]⟩)] }
def W150 (v0 v1:Value) (w:World) (K:Value → World → Prop):Prop:=
 boxW 178 v0 w fun t2 w1=>
 allocW 178 [(.string (ofL [])),(.int .i64 0),(.int .i64 0),(.int .i64 0),(.int .i64 0)] w1 fun t4 w2=>
 allocW 40 [(.int .i64 0),(.bool false),(.string (ofL [])),(.slice none 0 0),(.slice none 0 0)] w2 fun t5 w3=>
 ldW true 5 t2 w3 fun t10=>
 callF Tryz.prog 151 [t10] w3 fun t11 w4=>
 stW 5 t2 t11 w4 fun w5=>
 fldW 3 t2 fun t12=>
 ldW false 1 t12 w5 fun t13=>
 binW .neq t13 (.int .i64 0) fun t14=>
 condW t14 (
 ldW true 5 t2 w5 fun t15=>
 putW [(.int .i64 0),(.bool false),(.string (ofL [])),(.slice none 0 0),(.slice none 0 0)] [] fun c6=>
 stW 5 t4 t15 w5 fun w7=>
 stW 5 t5 (.agg c6.toArray) w7 fun w8=>
 ldW true 5 t4 w8 fun r9=>
 ldW true 5 t5 w8 fun r10=>
 K (.tuple #[r9,r10]) w8) (
 binW .gtr v1 (.int .i64 24) fun t18=>
 condW t18 (
 ldW true 5 t2 w5 fun t19=>
 fldW 1 t2 fun t20=>
 ldW false 1 t20 w5 fun t21=>
 callF Tryz.prog 152 [t19,(.int .i64 7),t21] w5 fun t22 w11=>
 putW [(.int .i64 0),(.bool false),(.string (ofL [])),(.slice none 0 0),(.slice none 0 0)] [] fun c12=>
 stW 5 t4 t22 w11 fun w13=>
 stW 5 t5 (.agg c12.toArray) w13 fun w14=>
 ldW true 5 t4 w14 fun r15=>
 ldW true 5 t5 w14 fun r16=>
 K (.tuple #[r15,r16]) w14) (
 fldW 2 t2 fun t24=>
 ldW false 1 t24 w5 fun t25=>
 binW .geq t25 (.int .i64 2000) fun t26=>
 condW t26 (
 ldW true 5 t2 w5 fun t27=>
 fldW 1 t2 fun t28=>
 ldW false 1 t28 w5 fun t29=>
 callF Tryz.prog 152 [t27,(.int .i64 3),t29] w5 fun t30 w17=>
 putW [(.int .i64 0),(.bool false),(.string (ofL [])),(.slice none 0 0),(.slice none 0 0)] [] fun c18=>
 stW 5 t4 t30 w17 fun w19=>
 stW 5 t5 (.agg c18.toArray) w19 fun w20=>
 ldW true 5 t4 w20 fun r21=>
 ldW true 5 t5 w20 fun r22=>
 K (.tuple #[r21,r22]) w20) (
 fldW 2 t2 fun t32=>
 ldW false 1 t32 w5 fun t33=>
 binW .add t33 (.int .i64 1) fun t34=>
 fldW 2 t2 fun t35=>
 stW 1 t35 t34 w5 fun w23=>
 putW [(.string (ofL [])),(.string (ofL [])),(.string (ofL []))] [(0,1,(.string (ofL [110,117,108,108]))),(1,1,(.string (ofL [116,114,117,101]))),(2,1,(.string (ofL [102,97,108,115,101])))] fun c24=>
 LoopW [(.int .i64 0)] w23 fun s25 _ w26 L25=>
 binW .lss (s25.getD 0 undef) (.int .i64 3) fun t38=>
 condW t38 (
 ixgW 3 false 1 (.agg c24.toArray) (s25.getD 0 undef) fun t39=>
 ldW true 5 t2 w26 fun t40=>
 callF Tryz.prog 197 [t40,t39] w26 fun t42 w27=>
 condW t42 (
 fldW 1 t2 fun t43=>
 ldW false 1 t43 w27 fun t44=>
 lensW t39 fun t46=>
 binW .add t44 t46 fun t47=>
 fldW 1 t2 fun t48=>
 stW 1 t48 t47 w27 fun w28=>
 binW .eql t39 (.string (ofL [110,117,108,108])) fun t50=>
 condW t50 (
 ldW true 5 t2 w28 fun t51=>
 putW [(.int .i64 0),(.bool false),(.string (ofL [])),(.slice none 0 0),(.slice none 0 0)] [] fun c29=>
 stW 5 t4 t51 w28 fun w30=>
 stW 5 t5 (.agg c29.toArray) w30 fun w31=>
 ldW true 5 t4 w31 fun r32=>
 ldW true 5 t5 w31 fun r33=>
 K (.tuple #[r32,r33]) w31) (
 ldW true 5 t2 w28.drew fun t53=>
 binW .eql t39 (.string (ofL [116,114,117,101])) fun t55=>
 callF Tryz.prog 198 [t55] w28.drew fun t56 w34=>
 (ldW true 5 t2 w34 fun x=>x = t53) ∧
 stW 5 t4 t53 w34 fun w35=>
 stW 5 t5 t56 w35 fun w36=>
 ldW true 5 t4 w36 fun r37=>
 ldW true 5 t5 w36 fun r38=>
 K (.tuple #[r37,r38]) w36)) (
 binW .add (s25.getD 0 undef) (.int .i64 1) fun t57=>
 L25 [t57] w27)) (
 ldW true 5 t2 w26 fun t58=>
 callF Tryz.prog 199 [t58] w26 fun t59 w39=>
 binW .eql t59 (.int .i64 45) fun t60=>
 GdW (isB t60 false) [undef] w39 (fun J40=>
 ldW true 5 t2 w39 fun t62=>
 callF Tryz.prog 199 [t62] w39 fun t63 w41=>
 callF Tryz.prog 200 [t63] w41 fun t64 w42=>
 J40 [t64] w42)
 fun s40 _ w43=>
 pickW t60 (.bool true) (s40.getD 0 undef) fun t65=>
 condW t65 (
 ldW true 5 t2 w43 fun t66=>
 callF Tryz.prog 201 [t66] w43 fun t67 w44=>
 extW 0 t67 fun t68=>
 extW 1 t67 fun t69=>
 stW 5 t4 t68 w44 fun w45=>
 stW 5 t5 t69 w45 fun w46=>
 ldW true 5 t4 w46 fun r47=>
 ldW true 5 t5 w46 fun r48=>
 K (.tuple #[r47,r48]) w46) (
 ldW true 5 t2 w43 fun t70=>
 callF Tryz.prog 199 [t70] w43 fun t71 w49=>
 binW .eql t71 (.int .i64 34) fun t72=>
 condW t72 (
 ldW true 5 t2 w49 fun t74=>
 callF Tryz.prog 202 [t74] w49 fun t75 w50=>
 extW 0 t75 fun t76=>
 extW 1 t75 fun t77=>
 allocW 178 [(.string (ofL [])),(.int .i64 0),(.int .i64 0),(.int .i64 0),(.int .i64 0)] w50 fun t8 w51=>
 stW 5 t8 t76 w51 fun w52=>
 ldW true 5 t8 w52.drew fun t78=>
 callF Tryz.prog 203 [t77] w52.drew fun t80 w53=>
 (ldW true 5 t8 w53 fun x=>x = t78) ∧
 stW 5 t4 t78 w53 fun w54=>
 stW 5 t5 t80 w54 fun w55=>
 ldW true 5 t4 w55 fun r56=>
 ldW true 5 t5 w55 fun r57=>
 K (.tuple #[r56,r57]) w55) (
 ldW true 5 t2 w49 fun t81=>
 callF Tryz.prog 199 [t81] w49 fun t82 w58=>
 binW .eql t82 (.int .i64 91) fun t83=>
 GdW (isB t83 false) [undef] w58 (fun J59=>
 ldW true 5 t2 w58 fun t85=>
 callF Tryz.prog 199 [t85] w58 fun t86 w60=>
 binW .eql t86 (.int .i64 123) fun t87=>
 J59 [t87] w60)
 fun s59 _ w61=>
 pickW t83 (.bool true) (s59.getD 0 undef) fun t88=>
 condW t88 (
 ldW true 5 t2 w61.drew fun t89=>
 ldW true 5 t2 w61.drew fun t91=>
 callF Tryz.prog 199 [t91] w61.drew fun t92 w62=>
 (ldW true 5 t2 w62 fun x=>x = t89) ∧
 binW .eql t92 (.int .i64 123) fun t93=>
 callF Tryz.prog 204 [t89,v1,t93] w62 fun t94 w63=>
 extW 0 t94 fun t95=>
 extW 1 t94 fun t96=>
 stW 5 t4 t95 w63 fun w64=>
 stW 5 t5 t96 w64 fun w65=>
 ldW true 5 t4 w65 fun r66=>
 ldW true 5 t5 w65 fun r67=>
 K (.tuple #[r66,r67]) w65) (
 ldW true 5 t2 w61 fun t97=>
 fldW 1 t2 fun t98=>
 ldW false 1 t98 w61 fun t99=>
 callF Tryz.prog 152 [t97,(.int .i64 30),t99] w61 fun t100 w68=>
 putW [(.int .i64 0),(.bool false),(.string (ofL [])),(.slice none 0 0),(.slice none 0 0)] [] fun c69=>
 stW 5 t4 t100 w68 fun w70=>
 stW 5 t5 (.agg c69.toArray) w70 fun w71=>
 ldW true 5 t4 w71 fun r72=>
 ldW true 5 t5 w71 fun r73=>
 K (.tuple #[r72,r73]) w71)))))))
theorem W150_ok {v0 v1:Value} {w:World} {K:Value → World → Prop} (h:W150 v0 v1 w K):callF Tryz.prog 150 [v0,v1] w K:=
 tie _ 150 Tryz.f150 plan150 _ w K 2 _ rfl mixed Tryz.func150 (by kernel_rfl) (by kernel_rfl) Tryz.call150 h
def plan151:Plan:={ js:=[(7004,⟨[19],[],17⟩),(7009,⟨[14],[],12⟩),(7014,⟨[9],[],7⟩),(4,⟨[],[],3⟩)],ds:=[] }
def W151 (v0:Value) (w:World) (K:Value → World → Prop):Prop:=
 boxW 178 v0 w fun t1 w1=>
 allocW 178 [(.string (ofL [])),(.int .i64 0),(.int .i64 0),(.int .i64 0),(.int .i64 0)] w1 fun t2 w2=>
 LoopW [] w2 fun s3 _ w4 L3=>
 ldW true 5 t1 w4 fun t3=>
 callF Tryz.prog 199 [t3] w4 fun t4 w5=>
 binW .eql t4 (.int .i64 32) fun t5=>
 GdW (isB t5 false) [undef] w5 (fun J6=>
 ldW true 5 t1 w5 fun t7=>
 callF Tryz.prog 199 [t7] w5 fun t8 w7=>
 binW .eql t8 (.int .i64 9) fun t9=>
 J6 [t9] w7)
 fun s6 _ w8=>
 pickW t5 (.bool true) (s6.getD 0 undef) fun t10=>
 GdW (isB t10 false) [undef] w8 (fun J9=>
 ldW true 5 t1 w8 fun t12=>
 callF Tryz.prog 199 [t12] w8 fun t13 w10=>
 binW .eql t13 (.int .i64 10) fun t14=>
 J9 [t14] w10)
 fun s9 _ w11=>
 pickW t10 (.bool true) (s9.getD 0 undef) fun t15=>
 GdW (isB t15 false) [undef] w11 (fun J12=>
 ldW true 5 t1 w11 fun t17=>
 callF Tryz.prog 199 [t17] w11 fun t18 w13=>
 binW .eql t18 (.int .i64 13) fun t19=>
 J12 [t19] w13)
 fun s12 _ w14=>
 pickW t15 (.bool true) (s12.getD 0 undef) fun t20=>
 condW t20 (
 fldW 1 t1 fun t21=>
 ldW false 1 t21 w14 fun t22=>
 binW .add t22 (.int .i64 1) fun t23=>
 fldW 1 t1 fun t24=>
 stW 1 t24 t23 w14 fun w15=>
 L3 [] w15) (
 ldW true 5 t1 w14 fun t25=>
 stW 5 t2 t25 w14 fun w16=>
 ldW true 5 t2 w16 fun r17=>
 K r17 w16)
theorem W151_ok {v0:Value} {w:World} {K:Value → World → Prop} (h:W151 v0 w K):callF Tryz.prog 151 [v0] w K:=
 tie _ 151 Tryz.f151 plan151 _ w K 1 _ rfl mixed Tryz.func151 (by kernel_rfl) (by kernel_rfl) Tryz.call151 h
def plan152:Plan:={ js:=[(2,⟨[],[],7⟩)],ds:=[] }
def W152 (v0 v1 v2:Value) (w:World) (K:Value → World → Prop):Prop:=
 boxW 178 v0 w fun t3 w1=>
 allocW 178 [(.string (ofL [])),(.int .i64 0),(.int .i64 0),(.int .i64 0),(.int .i64 0)] w1 fun t6 w2=>
 JoinW (fun J3=>
 fldW 3 t3 fun t7=>
 ldW false 1 t7 w2 fun t8=>
 binW .eql t8 (.int .i64 0) fun t9=>
 condW t9 (
 fldW 3 t3 fun t11=>
 stW 1 t11 v1 w2 fun w4=>
 fldW 4 t3 fun t13=>
 stW 1 t13 v2 w4 fun w5=>
 J3 [] w5) (
 J3 [] w2))
 fun s3 _ w6=>
 ldW true 5 t3 w6 fun t14=>
 stW 5 t6 t14 w6 fun w7=>
 ldW true 5 t6 w7 fun r8=>
 K r8 w7
theorem W152_ok {v0 v1 v2:Value} {w:World} {K:Value → World → Prop} (h:W152 v0 v1 v2 w K):callF Tryz.prog 152 [v0,v1,v2] w K:=
 tie _ 152 Tryz.f152 plan152 _ w K 3 _ rfl mixed Tryz.func152 (by kernel_rfl) (by kernel_rfl) Tryz.call152 h
def plan197:Plan:={ js:=[(3014,⟨[26],[],15⟩)],ds:=[] }
def W197 (v0 v1:Value) (w:World) (K:Value → World → Prop):Prop:=
 boxW 178 v0 w fun t2 w1=>
 fldW 0 t2 fun t5=>
 ldW false 1 t5 w1 fun t6=>
 lensW t6 fun t7=>
 fldW 1 t2 fun t8=>
 ldW false 1 t8 w1 fun t9=>
 binW .sub t7 t9 fun t10=>
 lensW v1 fun t12=>
 binW .geq t10 t12 fun t13=>
 GdW (isB t13 true) [undef] w1 (fun J2=>
 fldW 0 t2 fun t15=>
 ldW false 1 t15 w1 fun t16=>
 fldW 1 t2 fun t17=>
 ldW false 1 t17 w1 fun t18=>
 fldW 1 t2 fun t19=>
 ldW false 1 t19 w1 fun t20=>
 lensW v1 fun t22=>
 binW .add t20 t22 fun t23=>
 slsW t16 (some t18) (some t23) fun t24=>
 binW .eql t24 v1 fun t26=>
 J2 [t26] w1)
 fun s2 _ w3=>
 pickW t13 (s2.getD 0 undef) (.bool false) fun t27=>
 K t27 w3
theorem W197_ok {v0 v1:Value} {w:World} {K:Value → World → Prop} (h:W197 v0 v1 w K):callF Tryz.prog 197 [v0,v1] w K:=
 tie _ 197 Tryz.f197 plan197 _ w K 2 _ rfl mixed Tryz.func197 (by kernel_rfl) (by kernel_rfl) Tryz.call197 h
def plan199:Plan:={ js:=[],ds:=[] }
def W199 (v0:Value) (w:World) (K:Value → World → Prop):Prop:=
 boxW 178 v0 w fun t1 w1=>
 fldW 1 t1 fun t3=>
 ldW false 1 t3 w1 fun t4=>
 fldW 0 t1 fun t5=>
 ldW false 1 t5 w1 fun t6=>
 lensW t6 fun t7=>
 binW .geq t4 t7 fun t8=>
 condW t8 (
 K (.int .i64 (-1)) w1) (
 fldW 0 t1 fun t9=>
 ldW false 1 t9 w1 fun t10=>
 fldW 1 t1 fun t11=>
 ldW false 1 t11 w1 fun t12=>
 ixsW t10 t12 fun t13=>
 cvtW .i64 t13 fun t14=>
 K t14 w1)
theorem W199_ok {v0:Value} {w:World} {K:Value → World → Prop} (h:W199 v0 w K):callF Tryz.prog 199 [v0] w K:=
 tie _ 199 Tryz.f199 plan199 _ w K 1 _ rfl mixed Tryz.func199 (by kernel_rfl) (by kernel_rfl) Tryz.call199 h
def plan200:Plan:={ js:=[(3004,⟨[7],[],6⟩)],ds:=[] }
def W200 (v0:Value) (w:World) (K:Value → World → Prop):Prop:=
 binW .geq v0 (.int .i64 48) fun t4=>
 GdW (isB t4 true) [undef] w (fun J1=>
 binW .leq v0 (.int .i64 57) fun t7=>
 J1 [t7] w)
 fun s1 _ w2=>
 pickW t4 (s1.getD 0 undef) (.bool false) fun t8=>
 K t8 w2
theorem W200_ok {v0:Value} {w:World} {K:Value → World → Prop} (h:W200 v0 w K):callF Tryz.prog 200 [v0] w K:=
 tie _ 200 Tryz.f200 plan200 _ w K 1 _ rfl mixed Tryz.func200 (by kernel_rfl) (by kernel_rfl) Tryz.call200 h
def plan201:Plan:={ js:=[(53,⟨[6],[],4⟩),(45004,⟨[66],[],64⟩),(45009,⟨[61],[],59⟩),(45014,⟨[56],[],54⟩),(12,⟨[],[],6⟩),(18,⟨[],[],6⟩),(4,⟨[],[],5⟩)],ds:=[] }
def W201 (v0:Value) (w:World) (K:Value → World → Prop):Prop:=
 boxW 178 v0 w fun t1 w1=>
 allocW 178 [(.string (ofL [])),(.int .i64 0),(.int .i64 0),(.int .i64 0),(.int .i64 0)] w1 fun t2 w2=>
 allocW 40 [(.int .i64 0),(.bool false),(.string (ofL [])),(.slice none 0 0),(.slice none 0 0)] w2 fun t3 w3=>
 fldW 1 t1 fun t7=>
 ldW false 1 t7 w3 fun t8=>
 JoinW (fun J4=>
 ldW true 5 t1 w3 fun t9=>
 callF Tryz.prog 199 [t9] w3 fun t10 w5=>
 binW .eql t10 (.int .i64 45) fun t11=>
 condW t11 (
 fldW 1 t1 fun t12=>
 ldW false 1 t12 w5 fun t13=>
 binW .add t13 (.int .i64 1) fun t14=>
 fldW 1 t1 fun t15=>
 stW 1 t15 t14 w5 fun w6=>
 J4 [] w6) (
 J4 [] w5))
 fun s4 _ w7=>
 fldW 1 t1 fun t16=>
 ldW false 1 t16 w7 fun t17=>
 JoinW (fun J8=>
 ldW true 5 t1 w7 fun t18=>
 callF Tryz.prog 199 [t18] w7 fun t19 w9=>
 binW .eql t19 (.int .i64 48) fun t20=>
 condW t20 (
 fldW 1 t1 fun t21=>
 ldW false 1 t21 w9 fun t22=>
 binW .add t22 (.int .i64 1) fun t23=>
 fldW 1 t1 fun t24=>
 stW 1 t24 t23 w9 fun w10=>
 J8 [] w10) (
 LoopW [] w9 fun s11 _ w12 L11=>
 ldW true 5 t1 w12 fun t25=>
 callF Tryz.prog 199 [t25] w12 fun t26 w13=>
 callF Tryz.prog 200 [t26] w13 fun t27 w14=>
 condW t27 (
 fldW 1 t1 fun t28=>
 ldW false 1 t28 w14 fun t29=>
 binW .add t29 (.int .i64 1) fun t30=>
 fldW 1 t1 fun t31=>
 stW 1 t31 t30 w14 fun w15=>
 L11 [] w15) (
 J8 [] w14)))
 fun s8 _ w16=>
 fldW 1 t1 fun t32=>
 ldW false 1 t32 w16 fun t33=>
 binW .eql t33 t17 fun t35=>
 condW t35 (
 ldW true 5 t1 w16 fun t36=>
 fldW 1 t1 fun t37=>
 ldW false 1 t37 w16 fun t38=>
 callF Tryz.prog 152 [t36,(.int .i64 30),t38] w16 fun t39 w17=>
 putW [(.int .i64 0),(.bool false),(.string (ofL [])),(.slice none 0 0),(.slice none 0 0)] [] fun c18=>
 stW 5 t2 t39 w17 fun w19=>
 stW 5 t3 (.agg c18.toArray) w19 fun w20=>
 ldW true 5 t2 w20 fun r21=>
 ldW true 5 t3 w20 fun r22=>
 K (.tuple #[r21,r22]) w20) (
 fldW 1 t1 fun t41=>
 ldW false 1 t41 w16 fun t42=>
 binW .sub t42 t17 fun t44=>
 binW .gtr t44 (.int .i64 100) fun t45=>
 condW t45 (
 ldW true 5 t1 w16 fun t46=>
 callF Tryz.prog 152 [t46,(.int .i64 3),t8] w16 fun t48 w23=>
 putW [(.int .i64 0),(.bool false),(.string (ofL [])),(.slice none 0 0),(.slice none 0 0)] [] fun c24=>
 stW 5 t2 t48 w23 fun w25=>
 stW 5 t3 (.agg c24.toArray) w25 fun w26=>
 ldW true 5 t2 w26 fun r27=>
 ldW true 5 t3 w26 fun r28=>
 K (.tuple #[r27,r28]) w26) (
 ldW true 5 t1 w16 fun t50=>
 callF Tryz.prog 199 [t50] w16 fun t51 w29=>
 callF Tryz.prog 200 [t51] w29 fun t52 w30=>
 GdW (isB t52 false) [undef] w30 (fun J31=>
 ldW true 5 t1 w30 fun t54=>
 callF Tryz.prog 199 [t54] w30 fun t55 w32=>
 binW .eql t55 (.int .i64 46) fun t56=>
 J31 [t56] w32)
 fun s31 _ w33=>
 pickW t52 (.bool true) (s31.getD 0 undef) fun t57=>
 GdW (isB t57 false) [undef] w33 (fun J34=>
 ldW true 5 t1 w33 fun t59=>
 callF Tryz.prog 199 [t59] w33 fun t60 w35=>
 binW .eql t60 (.int .i64 101) fun t61=>
 J34 [t61] w35)
 fun s34 _ w36=>
 pickW t57 (.bool true) (s34.getD 0 undef) fun t62=>
 GdW (isB t62 false) [undef] w36 (fun J37=>
 ldW true 5 t1 w36 fun t64=>
 callF Tryz.prog 199 [t64] w36 fun t65 w38=>
 binW .eql t65 (.int .i64 69) fun t66=>
 J37 [t66] w38)
 fun s37 _ w39=>
 pickW t62 (.bool true) (s37.getD 0 undef) fun t67=>
 condW t67 (
 ldW true 5 t1 w39 fun t68=>
 fldW 1 t1 fun t69=>
 ldW false 1 t69 w39 fun t70=>
 callF Tryz.prog 152 [t68,(.int .i64 30),t70] w39 fun t71 w40=>
 putW [(.int .i64 0),(.bool false),(.string (ofL [])),(.slice none 0 0),(.slice none 0 0)] [] fun c41=>
 stW 5 t2 t71 w40 fun w42=>
 stW 5 t3 (.agg c41.toArray) w42 fun w43=>
 ldW true 5 t2 w43 fun r44=>
 ldW true 5 t3 w43 fun r45=>
 K (.tuple #[r44,r45]) w43) (
 fldW 0 t1 fun t73=>
 ldW false 1 t73 w39 fun t74=>
 fldW 1 t1 fun t76=>
 ldW false 1 t76 w39 fun t77=>
 slsW t74 (some t8) (some t77) fun t78=>
 JoinW (fun J46=>
 binW .eql t78 (.string (ofL [45,48])) fun t80=>
 condW t80 (
 J46 [(.string (ofL [48]))] w39) (
 J46 [t78] w39))
 fun s46 _ w47=>
 ldW true 5 t1 w47 fun t81=>
 putW [(.int .i64 0),(.bool false),(.string (ofL [])),(.slice none 0 0),(.slice none 0 0)] [(0,1,(.int .i64 3)),(2,1,(s46.getD 0 undef))] fun c48=>
 stW 5 t2 t81 w47 fun w49=>
 stW 5 t3 (.agg c48.toArray) w49 fun w50=>
 ldW true 5 t2 w50 fun r51=>
 ldW true 5 t3 w50 fun r52=>
 K (.tuple #[r51,r52]) w50)))
theorem W201_ok {v0:Value} {w:World} {K:Value → World → Prop} (h:W201 v0 w K):callF Tryz.prog 201 [v0] w K:=
 tie _ 201 Tryz.f201 plan201 _ w K 1 _ rfl mixed Tryz.func201 (by kernel_rfl) (by kernel_rfl) Tryz.call201 h
def plan202:Plan:={ js:=[(10,⟨[5],[3],5⟩)],ds:=[(73,⟨[0,1,2,4],[[],[],[1],[0],[0,1,2,3]]⟩)] }
def W202 (v0:Value) (w:World) (K:Value → World → Prop):Prop:=
 boxW 178 v0 w fun t1 w1=>
 allocW 178 [(.string (ofL [])),(.int .i64 0),(.int .i64 0),(.int .i64 0),(.int .i64 0)] w1 fun t2 w2=>
 fldW 1 t1 fun t9=>
 ldW false 1 t9 w2 fun t10=>
 fldW 1 t1 fun t11=>
 ldW false 1 t11 w2 fun t12=>
 binW .add t12 (.int .i64 1) fun t13=>
 fldW 1 t1 fun t14=>
 stW 1 t14 t13 w2 fun w3=>
 LoopW [(.slice none 0 0)] w3 fun s4 _ w5 L4=>
 ldW true 5 t1 w5 fun t15=>
 callF Tryz.prog 199 [t15] w5 fun t16 w6=>
 binW .neq t16 (.int .i64 34) fun t17=>
 condW t17 (
 fldW 0 t1 fun t18=>
 ldW false 1 t18 w6 fun t19=>
 fldW 1 t1 fun t20=>
 ldW false 1 t20 w6 fun t21=>
 callF Tryz.prog 123 [t19,t21] w6 fun t22 w7=>
 ldW true 5 t1 w7 fun t24=>
 callF Tryz.prog 199 [t24] w7 fun t25 w8=>
 binW .lss t25 (.int .i64 0) fun t26=>
 condW t26 (
 ldW true 5 t1 w8 fun t27=>
 fldW 0 t1 fun t28=>
 ldW false 1 t28 w8 fun t29=>
 lensW t29 fun t30=>
 callF Tryz.prog 152 [t27,(.int .i64 30),t30] w8 fun t31 w9=>
 stW 5 t2 t31 w9 fun w10=>
 ldW true 5 t2 w10 fun r11=>
 K (.tuple #[r11,(.string (ofL []))]) w10) (
 ldW true 5 t1 w8 fun t33=>
 callF Tryz.prog 199 [t33] w8 fun t34 w12=>
 binW .eql t34 (.int .i64 92) fun t35=>
 condW t35 (
 fldW 0 t1 fun t37=>
 ldW false 1 t37 w12 fun t38=>
 fldW 1 t1 fun t39=>
 ldW false 1 t39 w12 fun t40=>
 callF Tryz.prog 231 [t38,t40] w12 fun t41 w13=>
 extW 0 t41 fun t42=>
 extW 1 t41 fun t43=>
 binW .eql t43 (.int .i64 0) fun t45=>
 condW t45 (
 ldW true 5 t1 w13 fun t46=>
 fldW 1 t1 fun t47=>
 ldW false 1 t47 w13 fun t48=>
 callF Tryz.prog 152 [t46,(.int .i64 30),t48] w13 fun t49 w14=>
 stW 5 t2 t49 w14 fun w15=>
 ldW true 5 t2 w15 fun r16=>
 K (.tuple #[r16,(.string (ofL []))]) w15) (
 semE Tryz.prog (Builtin.append_ #[27,9] 27 #[(s4.getD 0 undef),t42]) w13 fun t52 w17=>
 fldW 1 t1 fun t53=>
 ldW false 1 t53 w17 fun t54=>
 binW .add t54 t43 fun t56=>
 fldW 1 t1 fun t57=>
 stW 1 t57 t56 w17 fun w18=>
 L4 [t52] w18)) (
 ldW true 5 t1 w12 fun t59=>
 callF Tryz.prog 199 [t59] w12 fun t60 w19=>
 binW .lss t60 (.int .i64 32) fun t61=>
 condW t61 (
 ldW true 5 t1 w19 fun t62=>
 fldW 1 t1 fun t63=>
 ldW false 1 t63 w19 fun t64=>
 callF Tryz.prog 152 [t62,(.int .i64 30),t64] w19 fun t65 w20=>
 stW 5 t2 t65 w20 fun w21=>
 ldW true 5 t2 w21 fun r22=>
 K (.tuple #[r22,(.string (ofL []))]) w21) (
 binW .eql t22 (.int .i64 0) fun t68=>
 condW t68 (
 ldW true 5 t1 w19 fun t69=>
 fldW 1 t1 fun t70=>
 ldW false 1 t70 w19 fun t71=>
 callF Tryz.prog 152 [t69,(.int .i64 31),t71] w19 fun t72 w23=>
 stW 5 t2 t72 w23 fun w24=>
 ldW true 5 t2 w24 fun r25=>
 K (.tuple #[r25,(.string (ofL []))]) w24) (
 fldW 0 t1 fun t74=>
 ldW false 1 t74 w19 fun t75=>
 fldW 1 t1 fun t76=>
 ldW false 1 t76 w19 fun t77=>
 fldW 1 t1 fun t78=>
 ldW false 1 t78 w19 fun t79=>
 binW .add t79 t22 fun t81=>
 slsW t75 (some t77) (some t81) fun t82=>
 semE Tryz.prog (Builtin.append_ #[27,9] 27 #[(s4.getD 0 undef),t82]) w19 fun t83 w26=>
 fldW 1 t1 fun t84=>
 ldW false 1 t84 w26 fun t85=>
 binW .add t85 t22 fun t87=>
 fldW 1 t1 fun t88=>
 stW 1 t88 t87 w26 fun w27=>
 L4 [t83] w27))))) (
 fldW 1 t1 fun t89=>
 ldW false 1 t89 w6 fun t90=>
 binW .add t90 (.int .i64 1) fun t91=>
 fldW 1 t1 fun t92=>
 stW 1 t92 t91 w6 fun w28=>
 lenlW (s4.getD 0 undef) fun t94=>
 binW .gtr t94 (.int .i64 16384) fun t95=>
 condW t95 (
 ldW true 5 t1 w28 fun t96=>
 callF Tryz.prog 152 [t96,(.int .i64 3),t10] w28 fun t98 w29=>
 stW 5 t2 t98 w29 fun w30=>
 ldW true 5 t2 w30 fun r31=>
 K (.tuple #[r31,(.string (ofL []))]) w30) (
 ldW true 5 t1 w28.drew fun t99=>
 semQ Tryz.prog (convert 27 9 (s4.getD 0 undef)) w28.drew fun t101=>
 stW 5 t2 t99 w28.drew fun w32=>
 (semQ Tryz.prog (convert 27 9 (s4.getD 0 undef)) w32 fun x=>x = t101) ∧
 ldW true 5 t2 w32 fun r33=>
 K (.tuple #[r33,t101]) w32))
theorem W202_ok {v0:Value} {w:World} {K:Value → World → Prop} (h:W202 v0 w K):callF Tryz.prog 202 [v0] w K:=
 tie _ 202 Tryz.f202 plan202 _ w K 1 _ rfl mixed Tryz.func202 (by kernel_rfl) (by kernel_rfl) Tryz.call202 h
def plan204:Plan:={ js:=[(82,⟨[],[],10⟩),(40,⟨[10],[],10⟩),(60005,⟨[60],[],57⟩),(30,⟨[],[],10⟩),(6,⟨[9],[],9⟩)],ds:=[(97,⟨[0,1],[[],[],[0],[0,1,2]]⟩),(25,⟨[0,1],[[],[],[0],[0,1,2]]⟩)] }
def W204 (v0 v1 v2:Value) (w:World) (K:Value → World → Prop):Prop:=
 boxW 178 v0 w fun t3 w1=>
 allocW 178 [(.string (ofL [])),(.int .i64 0),(.int .i64 0),(.int .i64 0),(.int .i64 0)] w1 fun t6 w2=>
 allocW 40 [(.int .i64 0),(.bool false),(.string (ofL [])),(.slice none 0 0),(.slice none 0 0)] w2 fun t7 w3=>
 putW [(.int .i64 0),(.bool false),(.string (ofL [])),(.slice none 0 0),(.slice none 0 0)] [(0,1,(.int .i64 5))] fun c4=>
 allocW 40 [(.int .i64 0),(.bool false),(.string (ofL [])),(.slice none 0 0),(.slice none 0 0)] w3 fun t8 w5=>
 stW 5 t8 (.agg c4.toArray) w5 fun w6=>
 JoinW (fun J7=>
 condW v2 (
 fldW 0 t8 fun t15=>
 stW 1 t15 (.int .i64 6) w6 fun w8=>
 J7 [(.int .i64 125)] w8) (
 J7 [(.int .i64 93)] w6))
 fun s7 _ w9=>
 fldW 1 t3 fun t16=>
 ldW false 1 t16 w9 fun t17=>
 binW .add t17 (.int .i64 1) fun t18=>
 fldW 1 t3 fun t19=>
 stW 1 t19 t18 w9 fun w10=>
 ldW true 5 t3 w10 fun t20=>
 callF Tryz.prog 151 [t20] w10 fun t21 w11=>
 stW 5 t3 t21 w11 fun w12=>
 ldW true 5 t3 w12 fun t22=>
 callF Tryz.prog 199 [t22] w12 fun t23 w13=>
 binW .eql t23 (s7.getD 0 undef) fun t25=>
 condW t25 (
 fldW 1 t3 fun t26=>
 ldW false 1 t26 w13 fun t27=>
 binW .add t27 (.int .i64 1) fun t28=>
 fldW 1 t3 fun t29=>
 stW 1 t29 t28 w13 fun w14=>
 ldW true 5 t3 w14.drew fun t30=>
 ldW true 5 t8 w14.drew fun t31=>
 stW 5 t6 t30 w14.drew fun w15=>
 (ldW true 5 t8 w15 fun x=>x = t31) ∧
 stW 5 t7 t31 w15 fun w16=>
 ldW true 5 t6 w16 fun r17=>
 ldW true 5 t7 w16 fun r18=>
 K (.tuple #[r17,r18]) w16) (
 LoopW [] w13 fun s19 _ w20 L19=>
 fldW 3 t3 fun t32=>
 ldW false 1 t32 w20 fun t33=>
 binW .eql t33 (.int .i64 0) fun t34=>
 condW t34 (
 JoinW (fun J21=>
 condW v2 (
 ldW true 5 t3 w20 fun t36=>
 callF Tryz.prog 151 [t36] w20 fun t37 w22=>
 stW 5 t3 t37 w22 fun w23=>
 fldW 1 t3 fun t38=>
 ldW false 1 t38 w23 fun t39=>
 ldW true 5 t3 w23 fun t40=>
 callF Tryz.prog 199 [t40] w23 fun t41 w24=>
 binW .neq t41 (.int .i64 34) fun t42=>
 condW t42 (
 ldW true 5 t3 w24 fun t43=>
 fldW 1 t3 fun t44=>
 ldW false 1 t44 w24 fun t45=>
 callF Tryz.prog 152 [t43,(.int .i64 30),t45] w24 fun t46 w25=>
 putW [(.int .i64 0),(.bool false),(.string (ofL [])),(.slice none 0 0),(.slice none 0 0)] [] fun c26=>
 stW 5 t6 t46 w25 fun w27=>
 stW 5 t7 (.agg c26.toArray) w27 fun w28=>
 ldW true 5 t6 w28 fun r29=>
 ldW true 5 t7 w28 fun r30=>
 K (.tuple #[r29,r30]) w28) (
 ldW true 5 t3 w24 fun t49=>
 callF Tryz.prog 202 [t49] w24 fun t50 w31=>
 extW 0 t50 fun t51=>
 extW 1 t50 fun t52=>
 stW 5 t3 t51 w31 fun w32=>
 fldW 3 t3 fun t53=>
 ldW false 1 t53 w32 fun t54=>
 binW .eql t54 (.int .i64 0) fun t55=>
 GdW (isB t55 true) [undef] w32 (fun J33=>
 ldW true 5 t8 w32 fun t57=>
 callF Tryz.prog 232 [t57,t52] w32 fun t59 w34=>
 binW .geq t59 (.int .i64 0) fun t60=>
 J33 [t60] w34)
 fun s33 _ w35=>
 pickW t55 (s33.getD 0 undef) (.bool false) fun t61=>
 condW t61 (
 ldW true 5 t3 w35 fun t62=>
 callF Tryz.prog 152 [t62,(.int .i64 2),t39] w35 fun t64 w36=>
 putW [(.int .i64 0),(.bool false),(.string (ofL [])),(.slice none 0 0),(.slice none 0 0)] [] fun c37=>
 stW 5 t6 t64 w36 fun w38=>
 stW 5 t7 (.agg c37.toArray) w38 fun w39=>
 ldW true 5 t6 w39 fun r40=>
 ldW true 5 t7 w39 fun r41=>
 K (.tuple #[r40,r41]) w39) (
 ldW true 5 t3 w35 fun t66=>
 callF Tryz.prog 151 [t66] w35 fun t67 w42=>
 stW 5 t3 t67 w42 fun w43=>
 ldW true 5 t3 w43 fun t68=>
 callF Tryz.prog 199 [t68] w43 fun t69 w44=>
 binW .neq t69 (.int .i64 58) fun t70=>
 condW t70 (
 ldW true 5 t3 w44 fun t71=>
 fldW 1 t3 fun t72=>
 ldW false 1 t72 w44 fun t73=>
 callF Tryz.prog 152 [t71,(.int .i64 30),t73] w44 fun t74 w45=>
 putW [(.int .i64 0),(.bool false),(.string (ofL [])),(.slice none 0 0),(.slice none 0 0)] [] fun c46=>
 stW 5 t6 t74 w45 fun w47=>
 stW 5 t7 (.agg c46.toArray) w47 fun w48=>
 ldW true 5 t6 w48 fun r49=>
 ldW true 5 t7 w48 fun r50=>
 K (.tuple #[r49,r50]) w48) (
 fldW 1 t3 fun t76=>
 ldW false 1 t76 w44 fun t77=>
 binW .add t77 (.int .i64 1) fun t78=>
 fldW 1 t3 fun t79=>
 stW 1 t79 t78 w44 fun w51=>
 J21 [t52] w51)))) (
 J21 [(.string (ofL []))] w20))
 fun s21 _ w52=>
 putW [(.int .i64 0),(.bool false),(.string (ofL [])),(.slice none 0 0),(.slice none 0 0)] [] fun c53=>
 allocW 40 [(.int .i64 0),(.bool false),(.string (ofL [])),(.slice none 0 0),(.slice none 0 0)] w52 fun t12 w54=>
 stW 5 t12 (.agg c53.toArray) w54 fun w55=>
 ldW true 5 t3 w55 fun t82=>
 binW .add v1 (.int .i64 1) fun t84=>
 callF Tryz.prog 150 [t82,t84] w55 fun t85 w56=>
 extW 0 t85 fun t86=>
 extW 1 t85 fun t87=>
 stW 5 t3 t86 w56 fun w57=>
 stW 5 t12 t87 w57 fun w58=>
 JoinW (fun J59=>
 condW v2 (
 ldW true 5 t8 w58 fun t89=>
 ldW true 5 t12 w58 fun t91=>
 callF Tryz.prog 233 [t89,(s21.getD 0 undef),t91] w58 fun t92 w60=>
 stW 5 t8 t92 w60 fun w61=>
 J59 [] w61) (
 fldW 3 t8 fun t93=>
 ldW false 1 t93 w58 fun t94=>
 ldW true 5 t12 w58 fun t95=>
 bslW 40 1 [(.int .i64 0),(.bool false),(.string (ofL [])),(.slice none 0 0),(.slice none 0 0)] [(0,5,t95)] w58 fun t96 w62=>
 semE Tryz.prog (Builtin.append_ #[37,37] 37 #[t94,t96]) w62 fun t97 w63=>
 fldW 3 t8 fun t98=>
 stW 1 t98 t97 w63 fun w64=>
 J59 [] w64))
 fun s59 _ w65=>
 ldW true 5 t3 w65 fun t99=>
 callF Tryz.prog 151 [t99] w65 fun t100 w66=>
 stW 5 t3 t100 w66 fun w67=>
 ldW true 5 t3 w67 fun t101=>
 callF Tryz.prog 199 [t101] w67 fun t102 w68=>
 binW .eql t102 (s7.getD 0 undef) fun t104=>
 condW t104 (
 fldW 1 t3 fun t105=>
 ldW false 1 t105 w68 fun t106=>
 binW .add t106 (.int .i64 1) fun t107=>
 fldW 1 t3 fun t108=>
 stW 1 t108 t107 w68 fun w69=>
 ldW true 5 t3 w69.drew fun t109=>
 ldW true 5 t8 w69.drew fun t110=>
 stW 5 t6 t109 w69.drew fun w70=>
 (ldW true 5 t8 w70 fun x=>x = t110) ∧
 stW 5 t7 t110 w70 fun w71=>
 ldW true 5 t6 w71 fun r72=>
 ldW true 5 t7 w71 fun r73=>
 K (.tuple #[r72,r73]) w71) (
 ldW true 5 t3 w68 fun t111=>
 callF Tryz.prog 199 [t111] w68 fun t112 w74=>
 binW .neq t112 (.int .i64 44) fun t113=>
 condW t113 (
 ldW true 5 t3 w74 fun t114=>
 fldW 1 t3 fun t115=>
 ldW false 1 t115 w74 fun t116=>
 callF Tryz.prog 152 [t114,(.int .i64 30),t116] w74 fun t117 w75=>
 putW [(.int .i64 0),(.bool false),(.string (ofL [])),(.slice none 0 0),(.slice none 0 0)] [] fun c76=>
 stW 5 t6 t117 w75 fun w77=>
 stW 5 t7 (.agg c76.toArray) w77 fun w78=>
 ldW true 5 t6 w78 fun r79=>
 ldW true 5 t7 w78 fun r80=>
 K (.tuple #[r79,r80]) w78) (
 fldW 1 t3 fun t119=>
 ldW false 1 t119 w74 fun t120=>
 binW .add t120 (.int .i64 1) fun t121=>
 fldW 1 t3 fun t122=>
 stW 1 t122 t121 w74 fun w81=>
 L19 [] w81))) (
 ldW true 5 t3 w20 fun t123=>
 putW [(.int .i64 0),(.bool false),(.string (ofL [])),(.slice none 0 0),(.slice none 0 0)] [] fun c82=>
 stW 5 t6 t123 w20 fun w83=>
 stW 5 t7 (.agg c82.toArray) w83 fun w84=>
 ldW true 5 t6 w84 fun r85=>
 ldW true 5 t7 w84 fun r86=>
 K (.tuple #[r85,r86]) w84))
theorem W204_ok {v0 v1 v2:Value} {w:World} {K:Value → World → Prop} (h:W204 v0 v1 v2 w K):callF Tryz.prog 204 [v0,v1,v2] w K:=
 tie _ 204 Tryz.f204 plan204 _ w K 3 _ rfl mixed Tryz.func204 (by kernel_rfl) (by kernel_rfl) Tryz.call204 h
def plan231:Plan:={ js:=[(45003,⟨[62],[],61⟩),(41003,⟨[56],[],55⟩),(33002,⟨[50],[],45⟩),(33004,⟨[49],[],48⟩),(33007,⟨[47],[],45⟩),(2,⟨[],[],2⟩),(11,⟨[8],[4,5],8⟩)],ds:=[(21,⟨[0,1,2,3,4,5,6,7],[[],[],[1],[0,1,2],[],[],[4,5],[0,1,2,3,4,5,6]]⟩)] }
def W231 (v0 v1:Value) (w:World) (K:Value → World → Prop):Prop:=
 JoinW (fun J1=>
 binW .add v1 (.int .i64 1) fun t12=>
 lensW v0 fun t14=>
 binW .lss t12 t14 fun t15=>
 condW t15 (
 LoopW [(.int .i64 0)] w fun s2 _ w3 L2=>
 lensW (.string (ofL [34,92,47,98,102,110,114,116])) fun t18=>
 binW .lss (s2.getD 0 undef) t18 fun t19=>
 condW t19 (
 binW .add v1 (.int .i64 1) fun t24=>
 ixsW v0 t24 fun t25=>
 ixsW (.string (ofL [34,92,47,98,102,110,114,116])) (s2.getD 0 undef) fun t28=>
 binW .eql t25 t28 fun t29=>
 condW t29 (
 binW .add (s2.getD 0 undef) (.int .i64 1) fun t33=>
 slsW (.string (ofL [34,92,47,8,12,10,13,9])) (some (s2.getD 0 undef)) (some t33) fun t34=>
 K (.tuple #[t34,(.int .i64 2)]) w3.drew) (
 binW .add (s2.getD 0 undef) (.int .i64 1) fun t21=>
 L2 [t21] w3.drew)) (
 J1 [] w3)) (
 J1 [] w))
 fun s1 _ w4=>
 callF Tryz.prog 250 [v0,v1] w4 fun t37 w5=>
 binW .add v1 (.int .i64 6) fun t40=>
 callF Tryz.prog 250 [v0,t40] w5 fun t41 w6=>
 binW .lss t37 (.int .i64 0) fun t43=>
 GdW (isB t43 false) [undef] w6 (fun J7=>
 binW .geq t37 (.int .i64 56320) fun t46=>
 J7 [t46] w6)
 fun s7 _ w8=>
 GdW (isB (s7.getD 0 undef) true) [undef] w8 (fun J9=>
 binW .leq t37 (.int .i64 57343) fun t49=>
 J9 [t49] w8)
 fun s9 _ w10=>
 GdW (isB t43 false) [undef] w10 (fun J11=>
 pickW (s7.getD 0 undef) (s9.getD 0 undef) (.bool false) fun t50=>
 J11 [t50] w10)
 fun s11 _ w12=>
 pickW t43 (.bool true) (s11.getD 0 undef) fun t51=>
 condW t51 (
 K (.tuple #[(.string (ofL [])),(.int .i64 0)]) w12) (
 binW .geq t37 (.int .i64 55296) fun t53=>
 GdW (isB t53 true) [undef] w12 (fun J13=>
 binW .leq t37 (.int .i64 56319) fun t56=>
 J13 [t56] w12)
 fun s13 _ w14=>
 pickW t53 (s13.getD 0 undef) (.bool false) fun t57=>
 condW t57 (
 binW .lss t41 (.int .i64 56320) fun t59=>
 GdW (isB t59 false) [undef] w14 (fun J15=>
 binW .gtr t41 (.int .i64 57343) fun t62=>
 J15 [t62] w14)
 fun s15 _ w16=>
 pickW t59 (.bool true) (s15.getD 0 undef) fun t63=>
 condW t63 (
 K (.tuple #[(.string (ofL [])),(.int .i64 0)]) w16) (
 binW .sub t37 (.int .i64 55296) fun t65=>
 binW .mul t65 (.int .i64 1024) fun t66=>
 binW .add (.int .i64 65536) t66 fun t67=>
 binW .add t67 t41 fun t69=>
 binW .sub t69 (.int .i64 56320) fun t70=>
 callF Tryz.prog 251 [t70] w16 fun t71 w17=>
 K (.tuple #[t71,(.int .i64 12)]) w17)) (
 callF Tryz.prog 251 [t37] w14 fun t73 w18=>
 K (.tuple #[t73,(.int .i64 6)]) w18))
theorem W231_ok {v0 v1:Value} {w:World} {K:Value → World → Prop} (h:W231 v0 v1 w K):callF Tryz.prog 231 [v0,v1] w K:=
 tie _ 231 Tryz.f231 plan231 _ w K 2 _ rfl mixed Tryz.func231 (by kernel_rfl) (by kernel_rfl) Tryz.call231 h
def plan250:Plan:={ js:=[(27,⟨[7],[4],7⟩),(37003,⟨[59],[],58⟩),(33003,⟨[50],[],49⟩),(29003,⟨[42],[],41⟩),(16,⟨[5,6],[],2⟩),(4006,⟨[24],[],20⟩),(4012,⟨[17],[],14⟩)],ds:=[] }
def W250 (v0 v1:Value) (w:World) (K:Value → World → Prop):Prop:=
 binW .add v1 (.int .i64 6) fun t9=>
 lensW v0 fun t11=>
 binW .gtr t9 t11 fun t12=>
 GdW (isB t12 false) [undef] w (fun J1=>
 ixsW v0 v1 fun t16=>
 binW .neq t16 (.int .u8 92) fun t17=>
 J1 [t17] w)
 fun s1 _ w2=>
 pickW t12 (.bool true) (s1.getD 0 undef) fun t18=>
 GdW (isB t18 false) [undef] w2 (fun J3=>
 binW .add v1 (.int .i64 1) fun t22=>
 ixsW v0 t22 fun t23=>
 binW .neq t23 (.int .u8 117) fun t24=>
 J3 [t24] w2)
 fun s3 _ w4=>
 pickW t18 (.bool true) (s3.getD 0 undef) fun t25=>
 condW t25 (
 K (.int .i64 (-1)) w4) (
 binW .add v1 (.int .i64 2) fun t27=>
 LoopW [(.int .i64 0),t27] w4 fun s5 _ w6 L5=>
 binW .add v1 (.int .i64 6) fun t30=>
 binW .lss (s5.getD 1 undef) t30 fun t31=>
 condW t31 (
 ixsW v0 (s5.getD 1 undef) fun t36=>
 cvtW .i64 t36 fun t37=>
 JoinW (fun J7=>
 binW .geq t37 (.int .i64 48) fun t39=>
 GdW (isB t39 true) [undef] w6 (fun J8=>
 binW .leq t37 (.int .i64 57) fun t42=>
 J8 [t42] w6)
 fun s8 _ w9=>
 pickW t39 (s8.getD 0 undef) (.bool false) fun t43=>
 condW t43 (
 binW .sub t37 (.int .i64 48) fun t45=>
 J7 [t45] w9) (
 binW .geq t37 (.int .i64 97) fun t47=>
 GdW (isB t47 true) [undef] w9 (fun J10=>
 binW .leq t37 (.int .i64 102) fun t50=>
 J10 [t50] w9)
 fun s10 _ w11=>
 pickW t47 (s10.getD 0 undef) (.bool false) fun t51=>
 condW t51 (
 binW .sub t37 (.int .i64 97) fun t53=>
 binW .add t53 (.int .i64 10) fun t54=>
 J7 [t54] w11) (
 binW .geq t37 (.int .i64 65) fun t56=>
 GdW (isB t56 true) [undef] w11 (fun J12=>
 binW .leq t37 (.int .i64 70) fun t59=>
 J12 [t59] w11)
 fun s12 _ w13=>
 pickW t56 (s12.getD 0 undef) (.bool false) fun t60=>
 condW t60 (
 binW .sub t37 (.int .i64 65) fun t62=>
 binW .add t62 (.int .i64 10) fun t63=>
 J7 [t63] w13) (
 K (.int .i64 (-1)) w13))))
 fun s7 _ w14=>
 binW .mul (s5.getD 0 undef) (.int .i64 16) fun t65=>
 binW .add t65 (s7.getD 0 undef) fun t67=>
 binW .add (s5.getD 1 undef) (.int .i64 1) fun t33=>
 L5 [t67,t33] w14) (
 K (s5.getD 0 undef) w6))
theorem W250_ok {v0 v1:Value} {w:World} {K:Value → World → Prop} (h:W250 v0 v1 w K):callF Tryz.prog 250 [v0,v1] w K:=
 tie _ 250 Tryz.f250 plan250 _ w K 2 _ rfl mixed Tryz.func250 (by kernel_rfl) (by kernel_rfl) Tryz.call250 h
def plan251:Plan:={ js:=[],ds:=[] }
def W251 (v0:Value) (w:World) (K:Value → World → Prop):Prop:=
 binW .lss v0 (.int .i64 128) fun t4=>
 condW t4 (
 cvtW .u8 v0 fun t6=>
 bslW 5 1 [(.int .u8 0)] [(0,1,t6)] w fun t7 w1=>
 semQ Tryz.prog (convert 27 9 t7) w1 fun t8=>
 K t8 w1) (
 binW .lss v0 (.int .i64 2048) fun t10=>
 condW t10 (
 binW .quo v0 (.int .i64 64) fun t12=>
 binW .add (.int .i64 192) t12 fun t13=>
 cvtW .u8 t13 fun t14=>
 binW .rem v0 (.int .i64 64) fun t16=>
 binW .add (.int .i64 128) t16 fun t17=>
 cvtW .u8 t17 fun t18=>
 bslW 5 2 [(.int .u8 0),(.int .u8 0)] [(0,1,t14),(1,1,t18)] w fun t19 w2=>
 semQ Tryz.prog (convert 27 9 t19) w2 fun t20=>
 K t20 w2) (
 binW .lss v0 (.int .i64 65536) fun t22=>
 condW t22 (
 binW .quo v0 (.int .i64 4096) fun t24=>
 binW .add (.int .i64 224) t24 fun t25=>
 cvtW .u8 t25 fun t26=>
 binW .quo v0 (.int .i64 64) fun t28=>
 binW .rem t28 (.int .i64 64) fun t29=>
 binW .add (.int .i64 128) t29 fun t30=>
 cvtW .u8 t30 fun t31=>
 binW .rem v0 (.int .i64 64) fun t33=>
 binW .add (.int .i64 128) t33 fun t34=>
 cvtW .u8 t34 fun t35=>
 bslW 5 3 [(.int .u8 0),(.int .u8 0),(.int .u8 0)] [(0,1,t26),(1,1,t31),(2,1,t35)] w fun t36 w3=>
 semQ Tryz.prog (convert 27 9 t36) w3 fun t37=>
 K t37 w3) (
 binW .quo v0 (.int .i64 262144) fun t39=>
 binW .add (.int .i64 240) t39 fun t40=>
 cvtW .u8 t40 fun t41=>
 binW .quo v0 (.int .i64 4096) fun t43=>
 binW .rem t43 (.int .i64 64) fun t44=>
 binW .add (.int .i64 128) t44 fun t45=>
 cvtW .u8 t45 fun t46=>
 binW .quo v0 (.int .i64 64) fun t48=>
 binW .rem t48 (.int .i64 64) fun t49=>
 binW .add (.int .i64 128) t49 fun t50=>
 cvtW .u8 t50 fun t51=>
 binW .rem v0 (.int .i64 64) fun t53=>
 binW .add (.int .i64 128) t53 fun t54=>
 cvtW .u8 t54 fun t55=>
 bslW 5 4 [(.int .u8 0),(.int .u8 0),(.int .u8 0),(.int .u8 0)] [(0,1,t41),(1,1,t46),(2,1,t51),(3,1,t55)] w fun t56 w4=>
 semQ Tryz.prog (convert 27 9 t56) w4 fun t57=>
 K t57 w4)))
theorem W251_ok {v0:Value} {w:World} {K:Value → World → Prop} (h:W251 v0 w K):callF Tryz.prog 251 [v0] w K:=
 tie _ 251 Tryz.f251 plan251 _ w K 1 _ rfl mixed Tryz.func251 (by kernel_rfl) (by kernel_rfl) Tryz.call251 h
end Go.Proofs.YtnoepcndjljolaaGreatDoor
namespace Go.Proofs.YtnoepcndjljolaaGreatDoor
open Go Go.Eng Go.RowKit
set_option maxRecDepth 100000
def valR:RR JV → JV
 | .ok v _ _=>v
 | .bad _ _=>JV.null
def okR:RR JV → Bool
 | .ok _ _ _=>true
 | .bad _ _=>false
def DRep (w:World) (d:Value):RR JV → Prop
 | .ok _ _ _=>d = .pointer none
 | .bad e i=>∃ b,d = .pointer (some ⟨b,0,none⟩) ∧ w.heap[b]? = some (.cells [i64 e,str [],i64 (i:Nat)].toArray DgT (0,0))
theorem DRep.ext {w w':World} {d:Value} {r:RR JV} (h:DRep w d r) (hx:Ext w w'):DRep w' d r:=by
 cases r with
 | ok v j c=>exact h
 | bad e i=>obtain ⟨b,h1,h2⟩:=h; exact ⟨b,h1,hx.at h2 id⟩
section
variable [HX]
theorem DRep.eq {w:World} {d:Value} {r:RR JV} (h:DRep w d r) (n:Bool) (K:Value → Prop):eqW .ptr n d (.pointer none) K ↔ K (.bool (n ^^ okR r)):=by
 cases r with
 | ok v j c=>have h:d = .pointer none:=h; rw [h,eqp_nn]; cases n <;> exact Iff.rfl
 | bad e i=>obtain ⟨b,rfl,_⟩:=h; rw [eqp_sn]; cases n <;> exact Iff.rfl
theorem decode_r {s:Str} {w:World} {K:Value → World → Prop} (hT:TabJ w) (hs:s.length ≤ 9223372036854775807) (hK:∀ cs d w',Ext w w' → VRep w' (valR (decM En s)) cs → DRep w' d (decM En s) → K (.tuple #[.agg cs.toArray,d]) w') :
   callF Tryz.prog 27 [str s] w K:=by
 refine decode_p hT.utf hT.err hs (fun v j c hv cs w' hx hr=>?_) (fun e i hv d w' hx _ hb=>?_)
 · rw [hv] at hK
   exact hK _ _ w' hx hr.rep rfl
 · rw [hv] at hK
   exact hK _ _ w' hx (vrep_null w') ⟨d,rfl,hb⟩
end
end Go.Proofs.YtnoepcndjljolaaGreatDoor
namespace Go.Proofs.YtnoepcndjljolaaGreatDoor
open Go Go.Eng Go.RowKit
set_option maxRecDepth 100000
section
variable [HX]
theorem bad_ref {s:Str} {w:World} {K:Value → World → Prop} (hl:s.length ≤ 4611686018427387904) (hK:∀ r:Int,decide (0 ≤ r) = !utfM s → K (i64 r) w):callF Tryz.prog 64 [str s] w K:=by
 refine W64_ok ?_
 unfold W64
 refine LoopW.go (fun st w'=>w' = w ∧ ∃ i n:Nat,st = [i64 (i:Nat)] ∧ i ≤ s.length ∧ s.length ≤ n + i ∧ utfGo s n i = utfM s) (fun st _=>match st with | [.int _ i]=>s.length - i.toNat | _=>0) ⟨rfl,0,s.length,rfl,Nat.zero_le _,by omega,rfl⟩ ?_
 rintro st g w2 ⟨rfl,i,n,rfl,hi,hn,hu⟩
 simp only [List.getD_cons_zero]
 rw [lens_str,bin_lss,condW_dec]
 refine ⟨fun hlt=>?_,fun hge=>?_⟩
 · have hlt:i < s.length:=by omega
   obtain ⟨n,rfl⟩:∃ m,n = m + 1:=⟨n - 1,by omega⟩
   rw [utfGo,if_neg (by omega)] at hu
   refine rune_ref hl (by omega) ?_
   rw [bin_eql,condW_dec]
   refine ⟨fun e=>?_,fun e=>?_⟩
   · rw [if_pos (by omega)] at hu
     refine hK _ ?_
     rw [← hu,decide_eq_true (by omega)]; rfl
   · have hr:runeM s i ≠ 0:=by omega
     rw [if_neg hr] at hu
     have hf:=rune_fits hr
     rw [bin_add,upk (by omega)]
     refine ⟨⟨rfl,i + runeM s i,n,rfl,hf,by omega,hu⟩,?_⟩
     simp only [Int.toNat_natCast]
     omega
 · have e:utfGo s n i = true:=by
     cases n with
     | zero=>rw [utfGo]; exact decide_eq_true (by omega)
     | succ n=>rw [utfGo,if_pos (by omega)]
   rw [e] at hu
   exact hK _ (by rw [← hu]; rfl)
end
end Go.Proofs.YtnoepcndjljolaaGreatDoor
namespace Go.Proofs.YtnoepcndjljolaaGreatDoor
open Go Go.Eng Go.RowKit
set_option maxRecDepth 100000
section
variable [HX]
theorem row_b {c:UInt8} {w:World} {K:Value → World → Prop} (hK:∀ t w',SlAt w' U8 t 1 (u8s [c]) → Ext w w' → K t w'):bslW U8 1 [(.int .u8 0)] [(0,1,.int .u8 (c.toNat:Nat))] w K:=by
 rw [bslW]
 simp only [put_int,put_nil,List.length_cons,List.length_nil,List.set_cons_zero]
 refine ⟨by omega,?_⟩
 refine hK _ _ ⟨_,_,rfl,Nat.le_refl _,fun e=>(by cases e),fun _=>⟨_,_,_,_,rfl,heap_anew _ _ _ rfl,fun i _=>by rw [Nat.zero_add]; simp [u8s]⟩⟩ (Chg.alloc (Chg.refl _ _) _)
end
end Go.Proofs.YtnoepcndjljolaaGreatDoor
namespace Go.Proofs.YtnoepcndjljolaaGreatDoor
open Go Go.Eng Go.RowKit
set_option maxRecDepth 100000
section
variable [HX]
theorem row_b2 {c d:UInt8} {w:World} {K:Value → World → Prop} (hK:∀ t w',SlAt w' U8 t 2 (u8s [c,d]) → Ext w w' → K t w'):bslW U8 2 [(.int .u8 0),(.int .u8 0)] [(0,1,.int .u8 (c.toNat:Nat)),(1,1,.int .u8 (d.toNat:Nat))] w K:=by
 rw [bslW]
 simp only [put_int,put_nil,List.length_cons,List.length_nil,List.set_cons_zero,List.set_cons_succ]
 refine ⟨by omega,by omega,?_⟩
 refine hK _ _ ⟨_,_,rfl,Nat.le_refl _,fun e=>(by cases e),fun _=>⟨_,_,_,_,rfl,heap_anew _ _ _ rfl,fun i _=>by rw [Nat.zero_add]; simp [u8s]⟩⟩ (Chg.alloc (Chg.refl _ _) _)
theorem row_b6 {a b c d e f:UInt8} {w:World} {K:Value → World → Prop} (hK:∀ t w',SlAt w' U8 t 6 (u8s [a,b,c,d,e,f]) → Ext w w' → K t w') :
   bslW U8 6 [(.int .u8 0),(.int .u8 0),(.int .u8 0),(.int .u8 0),(.int .u8 0),(.int .u8 0)] [(0,1,.int .u8 (a.toNat:Nat)),(1,1,.int .u8 (b.toNat:Nat)),(2,1,.int .u8 (c.toNat:Nat)),(3,1,.int .u8 (d.toNat:Nat)),(4,1,.int .u8 (e.toNat:Nat)),(5,1,.int .u8 (f.toNat:Nat))] w K:=by
 rw [bslW]
 simp only [put_int,put_nil,List.length_cons,List.length_nil,List.set_cons_zero,List.set_cons_succ]
 refine ⟨by omega,by omega,by omega,by omega,by omega,by omega,?_⟩
 refine hK _ _ ⟨_,_,rfl,Nat.le_refl _,fun e=>(by cases e),fun _=>⟨_,_,_,_,rfl,heap_anew _ _ _ rfl,fun i _=>by rw [Nat.zero_add]; simp [u8s]⟩⟩ (Chg.alloc (Chg.refl _ _) _)
theorem app_l {w w1:World} {B:Nat} {v t:Value} {l m:Str} {K:Value → World → Prop} (h:Own w B U8 1 v l.length (u8s l)) (hx:Ext w w1) (ht:SlAt w1 U8 t m.length (u8s m)) (hl:l.length + m.length ≤ 100000000000) (hB:B ≤ w.heap.size) (hK:∀ v' w',Own w' B U8 1 v' (l ++ m).length (u8s (l ++ m)) → Chg (fun q=>B ≤ q) w w' → K v' w') :
   semE Tryz.prog (Builtin.append_ #[27,27] 27 #[v,t]) w1 K:=by
 refine append_own3 elem_u8 (own_chg h hx fun _ _ e=>e) ht (by rw [u8s_length,Nat.mul_one]) (u8s_one _) (by omega) (by omega) (by have:=hx.size; omega) fun v' w2 hO hc _=>?_
 refine hK v' w2 (by rw [u8s_app,List.length_append]; exact hO) ((Chg.of_ext hx).trans (hc.mono fun q _ e=>(own_in h e).1))
theorem quote_ref {s:Str} {w:World} {K:Value → World → Prop} (hl:s.length ≤ 1000000000) (hK:∀ w',Ext w w' → K (str (quoteM s)) w'):callF Tryz.prog 99 [str s] w K:=by
 refine W99_ok ?_
 unfold W99
 have e34:(.int .u8 34:Value) = .int .u8 (((34:UInt8).toNat:Nat):Int):=rfl
 have first:∀ {K:Value → World → Prop},(∀ v w',Own w' w.heap.size U8 1 v ([34]:Str).length (u8s [34]) → Ext w w' → K v w') → bslW U8 1 [(.int .u8 0)] [(0,1,.int .u8 34)] w K:=fun {K} hK=>by
   rw [bslW]
   simp only [put_int,put_nil,List.length_cons,List.length_nil,List.set_cons_zero]
   refine ⟨by omega,?_⟩
   refine hK _ _ ⟨rfl,.inr ⟨w.heap.size,1,_,rfl,Nat.le_refl _,heap_anew _ _ _ rfl,Nat.le_refl _,by decide,rfl,by simp [u8s]⟩⟩ (Chg.alloc (Chg.refl _ _) _)
 refine first fun v0 w1 hO1 hx1=>?_
 refine LoopW.go (fun st w'=>∃ (i:Nat) (v:Value),i ≤ s.length ∧ st = [v,i64 (i:Nat)] ∧ Ext w w' ∧ Own w' w.heap.size U8 1 v ([34] ++ (s.take i).flatMap escB).length (u8s ([34] ++ (s.take i).flatMap escB))) (fun st _=>match st with | [_,.int _ i]=>s.length - i.toNat | _=>0)
   ⟨0,v0,Nat.zero_le _,rfl,hx1,by simpa using hO1⟩ ?_
 rintro st g w3 ⟨i,v,hi,rfl,hx3,hO3⟩
 simp only [List.getD_cons_zero,List.getD_cons_succ]
 have hfl:=flat_len (s.take i)
 have htl:(s.take i).length = i:=by rw [List.length_take]; omega
 have hol:([34] ++ (s.take i).flatMap escB).length ≤ 6 * i + 1:=by rw [List.length_append,List.length_singleton]; omega
 have hup:∀ {w1 w2:World},Ext w w1 → Chg (fun q=>w.heap.size ≤ q) w1 w2 → Ext w w2:=fun hx hc=>hx.then hc fun q hq e=>by omega
 rw [lens_str,bin_lss,condW_dec]
 refine ⟨fun hlt=>?_,fun hge=>?_⟩
 · obtain ⟨c,hc⟩:∃ c,s[i]? = some c:=⟨_,List.getElem?_eq_getElem (by omega)⟩
   have etake:s.take (i + 1) = s.take i ++ [c]:=by rw [List.take_add_one,hc]; rfl
   have eflat:(s.take (i + 1)).flatMap escB = (s.take i).flatMap escB ++ escB c:=by rw [etake,List.flatMap_append]; simp
   have hn:=UInt8.toNat_lt c
   refine JoinW.cut (fun st w'=>∃ v',st = [v'] ∧ Ext w w' ∧ Own w' w.heap.size U8 1 v' ([34] ++ (s.take i).flatMap escB ++ escB c).length (u8s ([34] ++ (s.take i).flatMap escB ++ escB c))) ?_ ?_
   · rw [ixs_str]
     refine ⟨by omega,c,by simpa using hc,?_⟩
     have eqn:∀ d:UInt8,(((c.toNat:Nat):Int) = (d.toNat:Int)) ↔ c = d:=fun d=>⟨fun h=>UInt8.toNat_inj.1 (by omega),fun h=>by rw [h]⟩
     have q34:((c.toNat:Nat):Int) = 34 ↔ c = 34:=eqn 34
     have q92:((c.toNat:Nat):Int) = 92 ↔ c = 92:=eqn 92
     have q8:((c.toNat:Nat):Int) = 8 ↔ c = 8:=eqn 8
     have q12:((c.toNat:Nat):Int) = 12 ↔ c = 12:=eqn 12
     have q10:((c.toNat:Nat):Int) = 10 ↔ c = 10:=eqn 10
     have q13:((c.toNat:Nat):Int) = 13 ↔ c = 13:=eqn 13
     have q9:((c.toNat:Nat):Int) = 9 ↔ c = 9:=eqn 9
     refine JoinW.cut (fun st w'=>st = [.bool (decide (c = 34) || decide (c = 92))] ∧ w' = w3) ?_ ?_
     · rw [bin_eql,condW_dec]
       refine ⟨fun e=>?_,fun e=>?_⟩
       · rw [decide_eq_true (q34.1 e),decide_eq_true e]
         exact ⟨rfl,rfl⟩
       · rw [bin_eql,decide_eq_false (fun h=>e (q34.2 h))]
         refine ⟨?_,rfl⟩
         by_cases h:c = 92
         · rw [decide_eq_true h,decide_eq_true (q92.2 h)]; rfl
         · rw [decide_eq_false h,decide_eq_false (fun e=>h (q92.1 e))]; rfl
     rintro st g6 w6 ⟨rfl,rfl⟩
     simp only [List.getD_cons_zero]
     have done:∀ {v':Value} {w':World},Chg (fun q=>w.heap.size ≤ q) w6 w' → Own w' w.heap.size U8 1 v' ([34] ++ (s.take i).flatMap escB ++ escB c).length (u8s ([34] ++ (s.take i).flatMap escB ++ escB c)) →
         ∃ v'',[v'] = [v''] ∧ Ext w w' ∧ Own w' w.heap.size U8 1 v'' ([34] ++ (s.take i).flatMap escB ++ escB c).length (u8s ([34] ++ (s.take i).flatMap escB ++ escB c)):=fun {v' w'} hc hO=>⟨v',rfl,hup hx3 hc,hO⟩
     have two:∀ (d:UInt8),escB c = [92,d] → bslW U8 2 [(.int .u8 0),(.int .u8 0)] [(0,1,.int .u8 92),(1,1,.int .u8 (d.toNat:Nat))] w6 fun t w7=>semE Tryz.prog (Builtin.append_ #[27,27] 27 #[v,t]) w7 fun t38 w8=>
         ∃ v'',[t38] = [v''] ∧ Ext w w8 ∧ Own w8 w.heap.size U8 1 v'' ([34] ++ (s.take i).flatMap escB ++ escB c).length (u8s ([34] ++ (s.take i).flatMap escB ++ escB c)):=fun d he=>by
       refine row_b2 (c:=92) fun t w7 ht hx7=>?_
       rw [he]
       refine app_l (m:=[92,d]) hO3 hx7 ht (by simp; simp at hol; omega) hx3.size fun v' w8 hO8 hc8=>?_
       exact ⟨v',rfl,hup hx3 hc8,hO8⟩
     rw [condW_b]
     refine ⟨fun e=>?_,fun e=>?_⟩
     · refine two c ?_
       rw [Bool.or_eq_true,decide_eq_true_iff,decide_eq_true_iff] at e
       unfold escB
       rw [if_pos e]
     rw [Bool.or_eq_false_iff,decide_eq_false_iff_not,decide_eq_false_iff_not] at e
     have n0:¬ (c = 34 ∨ c = 92):=fun h=>h.elim e.1 e.2
     rw [bin_eql,condW_dec]
     refine ⟨fun e=>two 98 (by unfold escB; rw [if_neg n0,if_pos (q8.1 e)]),fun e8=>?_⟩
     rw [bin_eql,condW_dec]
     refine ⟨fun e=>two 102 (by unfold escB; rw [if_neg n0,if_neg (fun h=>e8 (q8.2 h)),if_pos (q12.1 e)]),fun e12=>?_⟩
     rw [bin_eql,condW_dec]
     refine ⟨fun e=>two 110 (by unfold escB; rw [if_neg n0,if_neg (fun h=>e8 (q8.2 h)),if_neg (fun h=>e12 (q12.2 h)),if_pos (q10.1 e)]),fun e10=>?_⟩
     rw [bin_eql,condW_dec]
     refine ⟨fun e=>two 114 (by unfold escB; rw [if_neg n0,if_neg (fun h=>e8 (q8.2 h)),if_neg (fun h=>e12 (q12.2 h)),if_neg (fun h=>e10 (q10.2 h)),if_pos (q13.1 e)]),fun e13=>?_⟩
     rw [bin_eql,condW_dec]
     refine ⟨fun e=>two 116 (by unfold escB; rw [if_neg n0,if_neg (fun h=>e8 (q8.2 h)),if_neg (fun h=>e12 (q12.2 h)),if_neg (fun h=>e10 (q10.2 h)),if_neg (fun h=>e13 (q13.2 h)),if_pos (q9.1 e)]),fun e9=>?_⟩
     have he0:escB c = if c < 32 then [92,117,48,48,b8 (48 + c.toNat / 16),hexD (c.toNat % 16)] else [c]:=by
       unfold escB
       rw [if_neg n0,if_neg (fun h=>e8 (q8.2 h)),if_neg (fun h=>e12 (q12.2 h)),if_neg (fun h=>e10 (q10.2 h)),if_neg (fun h=>e13 (q13.2 h)),if_neg (fun h=>e9 (q9.2 h))]
     rw [bin_lss,condW_dec]
     refine ⟨fun e=>?_,fun e=>?_⟩
     · have hlt32:c.toNat < 32:=by omega
       rw [if_pos (show c < 32 from hlt32)] at he0
       rw [bin_quo]
       refine ⟨by decide,?_⟩
       have ediv:((c.toNat:Nat):Int).tdiv 16 = ((c.toNat / 16:Nat):Int):=by rw [Int.tdiv_eq_ediv_of_nonneg (by omega)]; omega
       have erem:((c.toNat:Nat):Int).tmod 16 = ((c.toNat % 16:Nat):Int):=by rw [Int.tmod_eq_emod_of_nonneg (by omega)]; omega
       rw [ediv,wrap_u8 (by omega),bin_add,show (48:Int) + ((c.toNat / 16:Nat):Int) = ((48 + c.toNat / 16:Nat):Int) by omega,wrap_u8 (by omega),bin_rem]
       refine ⟨by decide,?_⟩
       rw [erem]
       have hh:∀ n:Fin 16,([48,49,50,51,52,53,54,55,56,57,97,98,99,100,101,102]:Str)[n.val]? = some (hexD n.val):=by decide +kernel
       rw [ixs_str]
       refine ⟨by omega,hexD (c.toNat % 16),(by rw [Int.toNat_natCast]; exact hh ⟨c.toNat % 16,by omega⟩),?_⟩
       have eb:((48 + c.toNat / 16:Nat):Int) = ((b8 (48 + c.toNat / 16)).toNat:Int):=by
         unfold b8
         rw [UInt8.toNat_ofNat']
         omega
       rw [eb]
       refine row_b6 (a:=92) (b:=117) (c:=48) (d:=48) fun t w7 ht hx7=>?_
       rw [he0]
       refine app_l (m:=[92,117,48,48,b8 (48 + c.toNat / 16),hexD (c.toNat % 16)]) hO3 hx7 ht (by simp; simp at hol; omega) hx3.size fun v' w8 hO8 hc8=>?_
       exact ⟨v',rfl,hup hx3 hc8,hO8⟩
     · rw [if_neg (show ¬ c < 32 from fun h=>e (by have h:c.toNat < 32:=h; omega))] at he0
       refine row_b fun t w7 ht hx7=>?_
       rw [he0]
       refine app_l (m:=[c]) hO3 hx7 ht (by simp; simp at hol; omega) hx3.size fun v' w8 hO8 hc8=>?_
       exact ⟨v',rfl,hup hx3 hc8,hO8⟩
   rintro st g23 w23 ⟨v',rfl,hx23,hO23⟩
   simp only [List.getD_cons_zero]
   rw [bin_add,up1 (by omega)]
   refine ⟨⟨i + 1,v',by omega,rfl,hx23,?_⟩,by simp only [Int.toNat_natCast]; omega⟩
   rw [eflat,← List.append_assoc]
   exact hO23
 · obtain rfl:i = s.length:=by omega
   rw [List.take_length] at hO3 hol
   refine row_b (c:=34) fun t w24 ht hx24=>?_
   refine app_l (m:=[34]) hO3 hx24 ht (by simp; simp at hol; omega) hx3.size fun v' w25 hO25 hc25=>?_
   refine (conv_bytes (e:=U8) (by kernel_rfl) (by kernel_rfl) (by kernel_rfl) hO25.sl).2 ?_
   exact hK w25 (hup hx3 hc25)
end
end Go.Proofs.YtnoepcndjljolaaGreatDoor
namespace Go.Proofs.YtnoepcndjljolaaGreatDoor
open Go Go.Eng Go.RowKit
set_option maxRecDepth 100000
abbrev StT:TypeId:=178
abbrev SS (s:Str) (i c:Nat) (e a:Int):List Value:=[str s,i64 (i:Nat),i64 (c:Nat),i64 e,i64 a]
def Cel (w:World) (p:Nat) (s:Str) (i c:Nat) (e a:Int):Prop:=w.heap[p]? = some (.cells (SS s i c e a).toArray StT (0,0))
theorem Cel.lt {w:World} {p i c:Nat} {e a:Int} {s:Str} (h:Cel w p s i c e a):p < w.heap.size:=at_lt h
theorem Cel.chg {w w':World} {p i c:Nat} {e a:Int} {s:Str} {S:Nat → Prop} (h:Cel w p s i c e a) (hc:Chg S w w') (hp:¬ S p):Cel w' p s i c e a:=hc.at h hp
theorem Cel.ext {w w':World} {p i c:Nat} {e a:Int} {s:Str} (h:Cel w p s i c e a) (hx:Ext w w'):Cel w' p s i c e a:=hx.at h id
theorem Cel.drew {w:World} {p i c:Nat} {e a:Int} {s:Str} (h:Cel w p s i c e a):Cel w.drew p s i c e a:=h
theorem Cel.ld {w:World} {p i c:Nat} {e a:Int} {s:Str} {off:Nat} {v:Value} {K:Value → Prop} (h:Cel w p s i c e a) (hv:(SS s i c e a)[off]? = some v) (hk:K v):fldW off (.pointer (some ⟨p,0,none⟩)) fun t=>ldW false 1 t w K:=by
 rw [fld_ptr,ld_one]
 refine ⟨v,?_,hk⟩
 rw [add_mk,cell_eq,h,cellO_some,Nat.zero_add]
 simpa using hv
theorem Cel.all {w:World} {p i c:Nat} {e a:Int} {s:Str} {K:Value → Prop} (h:Cel w p s i c e a) (hk:K (.agg (SS s i c e a).toArray)):ldW true 5 (.pointer (some ⟨p,0,none⟩)) w K:=ld_all h rfl hk
theorem Cel.st {w:World} {p i c i' c':Nat} {e a e' a':Int} {s:Str} {K:World → Prop} (h:Cel w p s i c e a) (hK:∀ w',Cel w' p s i' c' e' a' → Chg (Cr p) w w' → w'.heap.size = w.heap.size → K w'):stW 5 (.pointer (some ⟨p,0,none⟩)) (.agg (SS s i' c' e' a').toArray) w K:=
 st_agg_at h rfl rfl rfl fun w' hz hb hc=>hK w' hb hc hz
theorem Cel.st1 {w:World} {p i c i':Nat} {e a:Int} {s:Str} {K:World → Prop} (h:Cel w p s i c e a) (hK:∀ w',Cel w' p s i' c e a → Chg (Cr p) w w' → w'.heap.size = w.heap.size → K w'):fldW 1 (.pointer (some ⟨p,0,none⟩)) fun t=>stW 1 t (i64 (i':Nat)) w K:=by
 rw [fld_ptr,add_mk,Nat.zero_add]
 refine st_at h rfl (by simp) fun w' hz hb hc=>hK w' ?_ hc hz
 unfold Cel
 rw [hb]; simp
theorem Cel.st2 {w:World} {p i c c':Nat} {e a:Int} {s:Str} {K:World → Prop} (h:Cel w p s i c e a) (hK:∀ w',Cel w' p s i c' e a → Chg (Cr p) w w' → w'.heap.size = w.heap.size → K w'):fldW 2 (.pointer (some ⟨p,0,none⟩)) fun t=>stW 1 t (i64 (c':Nat)) w K:=by
 rw [fld_ptr,add_mk,Nat.zero_add]
 refine st_at h rfl (by simp) fun w' hz hb hc=>hK w' ?_ hc hz
 unfold Cel
 rw [hb]; simp
theorem Cel.st3 {w:World} {p i c:Nat} {e a e':Int} {s:Str} {K:World → Prop} (h:Cel w p s i c e a) (hK:∀ w',Cel w' p s i c e' a → Chg (Cr p) w w' → w'.heap.size = w.heap.size → K w'):fldW 3 (.pointer (some ⟨p,0,none⟩)) fun t=>stW 1 t (i64 e') w K:=by
 rw [fld_ptr,add_mk,Nat.zero_add]
 refine st_at h rfl (by simp) fun w' hz hb hc=>hK w' ?_ hc hz
 unfold Cel
 rw [hb]; simp
theorem Cel.st4 {w:World} {p i c:Nat} {e a a':Int} {s:Str} {K:World → Prop} (h:Cel w p s i c e a) (hK:∀ w',Cel w' p s i c e a' → Chg (Cr p) w w' → w'.heap.size = w.heap.size → K w'):fldW 4 (.pointer (some ⟨p,0,none⟩)) fun t=>stW 1 t (i64 a') w K:=by
 rw [fld_ptr,add_mk,Nat.zero_add]
 refine st_at h rfl (by simp) fun w' hz hb hc=>hK w' ?_ hc hz
 unfold Cel
 rw [hb]; simp
theorem Cel.go {w:World} {p i c k:Nat} {e a:Int} {s:Str} {K:World → Prop} (h:Cel w p s i c e a) (hi:i + k ≤ 9223372036854775807) (hK:∀ w',Cel w' p s (i + k) c e a → Chg (Cr p) w w' → w'.heap.size = w.heap.size → K w') :
   fldW 1 (.pointer (some ⟨p,0,none⟩)) fun t=>ldW false 1 t w fun t=>binW .add t (.int .i64 (k:Int)) fun t1=>fldW 1 (.pointer (some ⟨p,0,none⟩)) fun t=>stW 1 t t1 w K:=by
 refine h.ld rfl ?_
 rw [bin_add,upk hi]
 exact h.st1 hK
theorem cel_box {s:Str} {i c:Nat} {e a:Int} {w:World} {K:Value → World → Prop} (hK:∀ p w',p = w.heap.size → Cel w' p s i c e a → Ext w w' → K (.pointer (some ⟨p,0,none⟩)) w'):boxW StT (.agg (SS s i c e a).toArray) w K:=
 box_new fun p w' hp _ hb hx=>hK p w' hp hb hx
abbrev zs:List Value:=[str [],i64 0,i64 0,i64 0,i64 0]
theorem ret_two {w:World} {b2 b3:Nat} {z2 z3 l cs:List Value} {K:Value → World → Prop} (h2:w.heap[b2]? = some (.cells z2.toArray StT (0,0))) (hz2:z2.length = 5) (h3:w.heap[b3]? = some (.cells z3.toArray VT (0,0))) (hz3:z3.length = 5) (hne:b2 ≠ b3) (hl:l.length = 5) (hl1:l.all one1 = true) (hc:cs.length = 5) (hc1:cs.all one1 = true)
   (hK:∀ w',Chg (fun k=>k = b2 ∨ k = b3) w w' → K (.tuple #[.agg l.toArray,.agg cs.toArray]) w') :
   stW 5 (.pointer (some ⟨b2,0,none⟩)) (.agg l.toArray) w fun w1=>stW 5 (.pointer (some ⟨b3,0,none⟩)) (.agg cs.toArray) w1 fun w2=>ldW true 5 (.pointer (some ⟨b2,0,none⟩)) w2 fun r=>ldW true 5 (.pointer (some ⟨b3,0,none⟩)) w2 fun q=>K (.tuple #[r,q]) w2:=by
 refine st_agg_at h2 hl hz2 hl1 fun w1 _ hb1 hc1'=>?_
 have h3:=hc1'.at h3 (fun e=>hne e.symm)
 refine st_agg_at h3 hc hz3 hc1 fun w2 _ hb2 hc2=>?_
 refine ld_all (hc2.at hb1 hne) hl ?_
 refine ld_all hb2 hc ?_
 exact hK w2 ((hc1'.mono fun k _ e=>.inl e).trans (hc2.mono fun k _ e=>.inr e))
theorem quo_n {a b:Nat} {K:Value → Prop} (hb:b ≠ 0) (ha:a ≤ 4611686018427387904) (h:K (i64 ((a / b:Nat):Int))):binW .quo (i64 (a:Nat)) (i64 (b:Nat)) K:=by
 rw [bin_quo]
 refine ⟨by omega,?_⟩
 have e:((a:Nat):Int).tdiv (b:Int) = ((a / b:Nat):Int):=by rw [Int.tdiv_eq_ediv_of_nonneg (by omega)]; exact (Int.natCast_ediv a b).symm
 have:=Nat.div_le_self a b
 rw [e]
 generalize a / b = q at *
 rw [wrap_id (by omega) (by omega)]
 exact h
theorem rem_n {a b:Nat} {K:Value → Prop} (hb:b ≠ 0) (h:K (i64 ((a % b:Nat):Int))):binW .rem (i64 (a:Nat)) (i64 (b:Nat)) K:=by
 rw [bin_rem]
 refine ⟨by omega,?_⟩
 have e:((a:Nat):Int).tmod (b:Int) = ((a % b:Nat):Int):=by rw [Int.tmod_eq_emod_of_nonneg (by omega)]; exact (Int.natCast_emod a b).symm
 rw [e]
 exact h
theorem add_n {a b:Nat} {K:Value → Prop} (hb:a + b ≤ 4611686018427387904) (h:K (i64 ((a + b:Nat):Int))):binW .add (i64 (a:Nat)) (i64 (b:Nat)) K:=by
 rw [bin_add,wrap_id (by omega) (by omega)]
 rw [show ((a:Nat):Int) + ((b:Nat):Int) = ((a + b:Nat):Int) by omega]
 exact h
theorem row_b3 {a b c:UInt8} {w:World} {K:Value → World → Prop} (hK:∀ t w',SlAt w' U8 t 3 (u8s [a,b,c]) → Ext w w' → K t w') :
   bslW U8 3 [(.int .u8 0),(.int .u8 0),(.int .u8 0)] [(0,1,.int .u8 (a.toNat:Nat)),(1,1,.int .u8 (b.toNat:Nat)),(2,1,.int .u8 (c.toNat:Nat))] w K:=by
 rw [bslW]
 simp only [put_int,put_nil,List.length_cons,List.length_nil,List.set_cons_zero,List.set_cons_succ]
 refine ⟨by omega,by omega,by omega,?_⟩
 refine hK _ _ ⟨_,_,rfl,Nat.le_refl _,fun e=>(by cases e),fun _=>⟨_,_,_,_,rfl,heap_anew _ _ _ rfl,fun i _=>by rw [Nat.zero_add]; simp [u8s]⟩⟩ (Chg.alloc (Chg.refl _ _) _)
theorem row_b4 {a b c d:UInt8} {w:World} {K:Value → World → Prop} (hK:∀ t w',SlAt w' U8 t 4 (u8s [a,b,c,d]) → Ext w w' → K t w') :
   bslW U8 4 [(.int .u8 0),(.int .u8 0),(.int .u8 0),(.int .u8 0)] [(0,1,.int .u8 (a.toNat:Nat)),(1,1,.int .u8 (b.toNat:Nat)),(2,1,.int .u8 (c.toNat:Nat)),(3,1,.int .u8 (d.toNat:Nat))] w K:=by
 rw [bslW]
 simp only [put_int,put_nil,List.length_cons,List.length_nil,List.set_cons_zero,List.set_cons_succ]
 refine ⟨by omega,by omega,by omega,by omega,?_⟩
 refine hK _ _ ⟨_,_,rfl,Nat.le_refl _,fun e=>(by cases e),fun _=>⟨_,_,_,_,rfl,heap_anew _ _ _ rfl,fun i _=>by rw [Nat.zero_add]; simp [u8s]⟩⟩ (Chg.alloc (Chg.refl _ _) _)
section
variable [HX]
theorem cvt8_n {a:Nat} {K:Value → Prop} (ha:a < 256) (h:K (.int .u8 ((b8 a).toNat:Nat))):cvtW .u8 (i64 (a:Nat)) K:=by
 rw [cvt_int,wrap_u8 (by omega)]
 have:(b8 a).toNat = a:=by unfold b8; rw [UInt8.toNat_ofNat']; omega
 rw [this] at h
 exact h
theorem write_ref {n:Nat} {w:World} {K:Value → World → Prop} (hn:n ≤ 1114111) (hK:∀ w',Ext w w' → K (str (wrM n)) w'):callF Tryz.prog 251 [i64 (n:Nat)] w K:=by
 refine W251_ok ?_
 unfold W251
 unfold wrM at hK
 rw [bin_lss,condW_dec]
 refine ⟨fun h=>?_,fun h=>?_⟩
 · rw [if_pos (by omega)] at hK
   refine cvt8_n (by omega) ?_
   refine row_b fun t w1 ht hx=>?_
   exact (conv_bytes (e:=U8) (by kernel_rfl) (by kernel_rfl) (by kernel_rfl) ht).2 (hK w1 hx)
 rw [if_neg (by omega)] at hK
 rw [bin_lss,condW_dec]
 refine ⟨fun h2=>?_,fun h2=>?_⟩
 · rw [if_pos (by omega)] at hK
   refine quo_n (b:=64) (by decide) (by omega) ?_
   refine add_n (a:=192) (by omega) ?_
   refine cvt8_n (by omega) ?_
   refine rem_n (b:=64) (by decide) ?_
   refine add_n (a:=128) (by omega) ?_
   refine cvt8_n (by omega) ?_
   refine row_b2 fun t w1 ht hx=>?_
   exact (conv_bytes (e:=U8) (by kernel_rfl) (by kernel_rfl) (by kernel_rfl) ht).2 (hK w1 hx)
 rw [if_neg (by omega)] at hK
 rw [bin_lss,condW_dec]
 refine ⟨fun h3=>?_,fun h3=>?_⟩
 · rw [if_pos (by omega)] at hK
   refine quo_n (b:=4096) (by decide) (by omega) ?_
   refine add_n (a:=224) (by omega) ?_
   refine cvt8_n (by omega) ?_
   refine quo_n (b:=64) (by decide) (by omega) ?_
   refine rem_n (b:=64) (by decide) ?_
   refine add_n (a:=128) (by omega) ?_
   refine cvt8_n (by omega) ?_
   refine rem_n (b:=64) (by decide) ?_
   refine add_n (a:=128) (by omega) ?_
   refine cvt8_n (by omega) ?_
   refine row_b3 fun t w1 ht hx=>?_
   exact (conv_bytes (e:=U8) (by kernel_rfl) (by kernel_rfl) (by kernel_rfl) ht).2 (hK w1 hx)
 rw [if_neg (by omega)] at hK
 refine quo_n (b:=262144) (by decide) (by omega) ?_
 refine add_n (a:=240) (by omega) ?_
 refine cvt8_n (by omega) ?_
 refine quo_n (b:=4096) (by decide) (by omega) ?_
 refine rem_n (b:=64) (by decide) ?_
 refine add_n (a:=128) (by omega) ?_
 refine cvt8_n (by omega) ?_
 refine quo_n (b:=64) (by decide) (by omega) ?_
 refine rem_n (b:=64) (by decide) ?_
 refine add_n (a:=128) (by omega) ?_
 refine cvt8_n (by omega) ?_
 refine rem_n (b:=64) (by decide) ?_
 refine add_n (a:=128) (by omega) ?_
 refine cvt8_n (by omega) ?_
 refine row_b4 fun t w1 ht hx=>?_
 exact (conv_bytes (e:=U8) (by kernel_rfl) (by kernel_rfl) (by kernel_rfl) ht).2 (hK w1 hx)
theorem c_ref {s:Str} {i c:Nat} {e a:Int} {w:World} {K:Value → World → Prop} (hK:∀ w',Ext w w' → K (i64 (byteM s i)) w'):callF Tryz.prog 199 [.agg (SS s i c e a).toArray] w K:=by
 refine W199_ok ?_
 unfold W199
 refine cel_box fun p w1 hp h hx=>?_
 refine h.ld rfl ?_
 refine h.ld rfl ?_
 rw [lens_str,bin_geq]
 rcases Nat.lt_or_ge i s.length with hl | hl
 · rw [decide_eq_false (by omega),condW_false]
   refine h.ld rfl ?_
   refine h.ld rfl ?_
   obtain ⟨e1,e2⟩:=get_bt' hl
   rw [ixs_str]
   refine ⟨by omega,s[i],by simpa using e1,?_⟩
   have hb:=bt_lt s i
   rw [cvt_int,e2,wrap_id (by omega) (by omega)]
   have:=hK w1 hx
   rw [byteM_in hl] at this
   exact this
 · rw [decide_eq_true (by omega),condW_true]
   have:=hK w1 hx
   rw [byteM_out hl] at this
   exact this
theorem digit_ref {n:Int} {w:World} {K:Value → World → Prop} (hK:K (.bool (isDig n)) w):callF Tryz.prog 200 [i64 n] w K:=by
 refine W200_ok ?_
 unfold W200
 simp only [bin_geq,isB_t,bin_leq,GdW_pure,List.getD_cons_zero,pick_gd_and]
 intros
 exact hK
theorem fail_ref {s:Str} {i c:Nat} {e a code a2:Int} {w:World} {K:Value → World → Prop} (hK:∀ w',Ext w w' → K (.agg (SS s i c (if e = 0 then code else e) (if e = 0 then a2 else a)).toArray) w'):callF Tryz.prog 152 [.agg (SS s i c e a).toArray,i64 code,i64 a2] w K:=by
 refine W152_ok ?_
 unfold W152
 refine cel_box fun p w1 hp h hx=>?_
 refine alloc_new fun b w2 hb hz2 hbb hx2=>?_
 have h2:=h.ext hx2
 refine JoinW.cut (fun st w'=>st = [] ∧ Cel w' p s i c (if e = 0 then code else e) (if e = 0 then a2 else a) ∧ Chg (Cr p) w2 w') ?_ ?_
 · refine h2.ld rfl ?_
   rw [bin_eql,condW_dec]
   refine ⟨fun e0=>?_,fun e0=>?_⟩
   · rw [if_pos e0,if_pos e0]
     refine h2.st3 fun w3 h3 hc3 _=>?_
     refine h3.st4 fun w4 h4 hc4 _=>?_
     exact ⟨rfl,h4,hc3.trans hc4⟩
   · rw [if_neg e0,if_neg e0]
     exact ⟨rfl,h2,Chg.refl _ _⟩
 rintro st g w3 ⟨rfl,h3,hc3⟩
 refine h3.all ?_
 have hlt:=h.lt
 have hbb:=hc3.at hbb fun e=>by have e:b = p:=e; omega
 refine ret_agg hbb rfl rfl rfl fun w4 hc4=>?_
 exact hK w4 (((hx.trans hx2).new hc3 (by omega)).new hc4 (by have:=hx.size; omega))
theorem blanks_ref {s:Str} {i c:Nat} {e a:Int} {w:World} {K:Value → World → Prop} (hi:i ≤ s.length) (hs:s.length ≤ 1000000) (hK:∀ w',Ext w w' → K (.agg (SS s (blankM s i) c e a).toArray) w'):callF Tryz.prog 151 [.agg (SS s i c e a).toArray] w K:=by
 refine W151_ok ?_
 unfold W151
 refine cel_box fun p w1 hp h hx=>?_
 refine alloc_new fun b w2 hb hz2 hbb hx2=>?_
 have h2:=h.ext hx2
 have hlt:=h.lt
 refine LoopW.go (fun st w'=>st = [] ∧ ∃ j,Cel w' p s j c e a ∧ Chg (Cr p) w2 w' ∧ j ≤ s.length ∧ blankM s j = blankM s i) (fun _ w'=>match w'.heap[p]? with | some (.cells cc _ _)=>(match (cc[1]?:Option Value) with | some (Value.int _ i)=>s.length - i.toNat | _=>0) | _=>0) ⟨rfl,i,h2,Chg.refl _ _,hi,rfl⟩ ?_
 rintro st g w3 ⟨rfl,j,h3,hc3,hj,hbl⟩
 refine h3.all ?_
 refine c_ref fun w4 hx4=>?_
 rw [bin_eql]
 have look:∀ {w':World} {n:Int} {J:List Value → World → Prop} {Q:World},Ext w3 w' → (∀ w'',Ext w3 w'' → J [.bool (decide (byteM s j = n))] w'') →
     ldW true 5 (.pointer (some ⟨p,0,none⟩)) w' fun t=>callF Tryz.prog 199 [t] w' fun t8 w7=>binW .eql t8 (.int .i64 n) fun t9=>J [t9] w7:=fun {w' n J Q} hx' hJ=>by
   refine (h3.ext hx').all ?_
   refine c_ref fun w5 hx5=>?_
   rw [bin_eql]
   exact hJ w5 (hx'.trans hx5)
 refine GdW.act (decide (byteM s j = 9)) (fun w'=>Ext w3 w') (fun _=>hx4) (fun _ J hJ=>look (Q:=w4) hx4 hJ) ?_
 intro g2 w5 hx5
 simp only [List.getD_cons_zero,isB_f]
 rw [pick_gd_or]
 simp only [isB_f]
 refine GdW.act (decide (byteM s j = 10)) (fun w'=>Ext w3 w') (fun _=>hx5) (fun _ J hJ=>look (Q:=w4) hx5 hJ) ?_
 intro g3 w6 hx6
 simp only [List.getD_cons_zero,isB_f]
 rw [pick_gd_or]
 simp only [isB_f]
 refine GdW.act (decide (byteM s j = 13)) (fun w'=>Ext w3 w') (fun _=>hx6) (fun _ J hJ=>look (Q:=w4) hx6 hJ) ?_
 intro g4 w7 hx7
 simp only [List.getD_cons_zero,isB_f]
 rw [pick_gd_or,condW_b]
 have h7:=h3.ext hx7
 have hc7:Chg (Cr p) w2 w7:=hc3.then hx7 fun _ _ e=>e.elim
 have eb:isBlank (byteM s j) = (decide (byteM s j = 32) || decide (byteM s j = 9) || decide (byteM s j = 10) || decide (byteM s j = 13)):=rfl
 refine ⟨fun e=>?_,fun e=>?_⟩
 · rw [← eb] at e
   obtain ⟨g1,g2⟩:=blank_go e
   refine h7.go (k:=1) (by omega) fun w8 h8 hc8 hz8=>?_
   refine ⟨⟨trivial,j + 1,h8,hc7.trans hc8,by omega,by rw [← hbl,g2]⟩,?_⟩
   unfold Cel at h8 h3
   rw [h8,h3]
   simp
   omega
 · rw [← eb] at e
   rw [blank_stop e] at hbl
   subst hbl
   refine h7.all ?_
   have hbb:=hc7.at hbb fun e=>by have e:b = p:=e; omega
   refine ret_agg hbb rfl rfl rfl fun w8 hc8=>?_
   exact hK w8 (((hx.trans hx2).new hc7 (by omega)).new hc8 (by have:=hx.size; omega))
theorem word_ref {s q:Str} {i c:Nat} {e a:Int} {w:World} {K:Value → World → Prop} (hi:i ≤ s.length) (hs:s.length ≤ 1000000) (hq:q.length ≤ 1000000) (hK:∀ w',Ext w w' → K (.bool (wordM s i q)) w'):callF Tryz.prog 197 [.agg (SS s i c e a).toArray,str q] w K:=by
 refine W197_ok ?_
 unfold W197
 refine cel_box fun p w1 hp h hx=>?_
 refine h.ld rfl ?_
 rw [lens_str]
 refine h.ld rfl ?_
 rw [bin_sub,wrap_id (by omega) (by omega),lens_str,bin_geq]
 refine GdW.look (wordM s i q) (fun hc J hJ=>?_) fun g=>?_
 · simp only [isB_t,decide_eq_true_eq] at hc
   refine h.ld rfl ?_
   refine h.ld rfl ?_
   refine h.ld rfl ?_
   rw [lens_str]
   refine add_n (by omega) ?_
   rw [sls_str,bd_some]
   refine ⟨by omega,by omega,?_⟩
   rw [bd_some]
   refine ⟨by omega,by omega,?_⟩
   simp only [Int.toNat_natCast]
   rw [List.drop_take,Nat.add_sub_cancel_left,bin_seq]
   exact hJ
 · simp only [isB_t,List.getD_cons_zero]
   rw [pick_gd_and]
   have:(decide ((q.length:Int) ≤ (s.length:Int) - (i:Int)) && wordM s i q) = wordM s i q:=by
     by_cases hw:wordM s i q = true
     · rw [hw,Bool.and_true,decide_eq_true_iff]
       unfold wordM at hw
       have:=congrArg List.length (of_decide_eq_true hw)
       rw [List.length_take,List.length_drop] at this
       omega
     · rw [Bool.not_eq_true] at hw
       rw [hw,Bool.and_false]
   rw [this]
   exact hK w1 hx
end
end Go.Proofs.YtnoepcndjljolaaGreatDoor
namespace Go.Proofs.YtnoepcndjljolaaGreatDoor
open Go Go.Eng Go.RowKit
set_option maxRecDepth 100000
def accH (s:Str) (a:Nat):Nat → Int
 | 0=>0
 | j + 1=>accH s a j * 16 + hexV (byteM s (a + 2 + j))
theorem accH_small {s:Str} {a j:Nat} (hj:j ≤ 3) (h:∀ m,m < j → 0 ≤ hexV (byteM s (a + 2 + m))):0 ≤ accH s a j ∧ accH s a j ≤ 4095:=by
 have l0:=hexV_le (byteM s (a + 2 + 0))
 have l1:=hexV_le (byteM s (a + 2 + 1))
 have l2:=hexV_le (byteM s (a + 2 + 2))
 match j,hj with
 | 0,_=>simp only [accH]; omega
 | 1,_=>simp only [accH]; have:=h 0 (by omega); omega
 | 2,_=>simp only [accH]; have:=h 0 (by omega); have:=h 1 (by omega); omega
 | 3,_=>simp only [accH]; have:=h 0 (by omega); have:=h 1 (by omega); have:=h 2 (by omega); omega
section
variable [HX]
theorem hex_ref {s:Str} {a:Nat} {w:World} {K:Value → World → Prop} (ha:a ≤ 2000000) (hs:s.length ≤ 1000000) (hK:K (i64 (hexM s a)) w):callF Tryz.prog 250 [str s,i64 (a:Nat)] w K:=by
 refine W250_ok ?_
 unfold W250
 have e6:IntKind.i64.wrap ((a:Int) + 6) = ((a + 6:Nat):Int):=upk (k:=6) (by omega)
 have e2:IntKind.i64.wrap ((a:Int) + 2) = ((a + 2:Nat):Int):=upk (k:=2) (by omega)
 have e1:IntKind.i64.wrap ((a:Int) + 1) = ((a + 1:Nat):Int):=upk (k:=1) (by omega)
 rw [bin_add,e6,lens_str,bin_gtr]
 have at_b:∀ {i:Nat} {K:Value → Prop},i < s.length → (∀ n:Nat,(n:Int) = byteM s i → K (.int .u8 (n:Nat))) → ixsW (str s) (i64 (i:Nat)) K:=fun {i K} h hk=>by
   obtain ⟨e1,e2⟩:=get_bt' h
   rw [ixs_str]
   refine ⟨by omega,s[i],by simpa using e1,?_⟩
   exact hk _ (by rw [byteM_in h,← e2])
 refine GdW.look (!decide (byteM s a = 92)) (fun hc J hJ=>?_) fun g=>?_
 · simp only [isB_f,Bool.not_eq_true',decide_eq_false_iff_not] at hc
   refine at_b (by omega) fun n hn=>?_
   rw [bin_neq]
   have:decide ((n:Int) ≠ 92) = !decide (byteM s a = 92):=by rw [hn]; simp
   rw [this]
   exact hJ
 simp only [isB_f,List.getD_cons_zero]
 rw [pick_gd_or]
 simp only [isB_f]
 refine GdW.look (!decide (byteM s (a + 1) = 117)) (fun hc J hJ=>?_) fun g=>?_
 · simp only [Bool.not_eq_true',Bool.or_eq_false_iff,decide_eq_false_iff_not] at hc
   rw [bin_add,e1]
   refine at_b (by omega) fun n hn=>?_
   rw [bin_neq]
   have:decide ((n:Int) ≠ 117) = !decide (byteM s (a + 1) = 117):=by rw [hn]; simp
   rw [this]
   exact hJ
 simp only [List.getD_cons_zero]
 rw [pick_gd_or,condW_b]
 refine ⟨fun e=>?_,fun e=>?_⟩
 · have:hexM s a = -1:=by
     unfold hexM
     rw [if_neg]
     rintro ⟨h1,h2,h3,_⟩
     rw [decide_eq_false (by omega),decide_eq_true h2,decide_eq_true h3] at e
     cases e
   rw [this] at hK
   exact hK
 simp only [Bool.or_eq_false_iff,decide_eq_false_iff_not,Bool.not_eq_false',decide_eq_true_iff] at e
 obtain ⟨⟨hl,b0⟩,b1⟩:=e
 have hl:a + 6 ≤ s.length:=by omega
 rw [bin_add,e2]
 refine LoopW.go (fun st w'=>∃ j:Nat,j ≤ 4 ∧ st = [i64 (accH s a j),i64 ((a + 2 + j:Nat):Int)] ∧ w' = w ∧ ∀ m,m < j → 0 ≤ hexV (byteM s (a + 2 + m))) (fun st _=>match st with | [_,.int _ i]=>a + 6 - i.toNat | _=>0) ⟨0,by omega,rfl,rfl,fun m hm=>by omega⟩ ?_
 rintro st g2 w2 ⟨j,hj,rfl,rfl,hall⟩
 simp only [List.getD_cons_zero,List.getD_cons_succ]
 rw [bin_add,e6,bin_lss,condW_dec]
 refine ⟨fun hlt=>?_,fun hge=>?_⟩
 · have hj3:j ≤ 3:=by omega
   have hsm:=accH_small hj3 hall
   refine at_b (by omega) fun n hn=>?_
   have hbb:=byteM_in (s:=s) (i:=a + 2 + j) (by omega)
   have hlt256:=bt_lt s (a + 2 + j)
   rw [cvt_int,wrap_id (by omega) (by omega),hn]
   have hK1:0 ≤ hexV (byteM s (a + 2 + j)) ∨ hexV (byteM s (a + 2 + j)) < 0:=by omega
   have hno:hexV (byteM s (a + 2 + j)) < 0 → K (i64 (-1)) w2:=fun h=>by
     have:hexM s a = -1:=by
       unfold hexM
       rw [if_neg]
       rintro ⟨_,_,_,h2,h3,h4,h5⟩
       match j,hj3 with
       | 0,_=>exact absurd h2 (by simp only [Nat.add_zero] at h; omega)
       | 1,_=>exact absurd h3 (by have h:hexV (byteM s (a + 3)) < 0:=h; omega)
       | 2,_=>exact absurd h4 (by have h:hexV (byteM s (a + 4)) < 0:=h; omega)
       | 3,_=>exact absurd h5 (by have h:hexV (byteM s (a + 5)) < 0:=h; omega)
     rw [this] at hK
     exact hK
   have hv:hexV (byteM s (a + 2 + j)) = if 48 ≤ byteM s (a + 2 + j) ∧ byteM s (a + 2 + j) ≤ 57 then byteM s (a + 2 + j) - 48 else if 97 ≤ byteM s (a + 2 + j) ∧ byteM s (a + 2 + j) ≤ 102 then byteM s (a + 2 + j) - 87 else if 65 ≤ byteM s (a + 2 + j) ∧ byteM s (a + 2 + j) ≤ 70 then byteM s (a + 2 + j) - 55 else -1:=rfl
   have hx:=hexV_le (byteM s (a + 2 + j))
   have hmore:∀ m,m < j + 1 → 0 ≤ hexV (byteM s (a + 2 + j)) → 0 ≤ hexV (byteM s (a + 2 + m)):=fun m hm h=>by
     rcases Nat.lt_or_ge m j with h1 | h1
     · exact hall m h1
     · obtain rfl:m = j:=by omega
       exact h
   have hacc:accH s a (j + 1) = accH s a j * 16 + hexV (byteM s (a + 2 + j)):=rfl
   generalize hexV (byteM s (a + 2 + j)) = q at *
   generalize byteM s (a + 2 + j) = y at *
   refine JoinW.cut (fun st w'=>st = [i64 q] ∧ w' = w2 ∧ 0 ≤ q) ?_ ?_
   · simp only [bin_geq,isB_t,bin_leq,GdW_pure,List.getD_cons_zero,pick_gd_and]
     intro _
     rw [condW_b]
     refine ⟨fun e=>?_,fun e=>?_⟩
     · rw [Bool.and_eq_true,decide_eq_true_iff,decide_eq_true_iff] at e
       rw [if_pos e] at hv
       rw [bin_sub,wrap_id (by omega) (by omega)]
       exact ⟨by rw [hv],trivial,by omega⟩
     have e:¬ (48 ≤ y ∧ y ≤ 57):=fun h=>by rw [decide_eq_true h.1,decide_eq_true h.2] at e; cases e
     rw [if_neg e] at hv
     intro _
     rw [condW_b]
     refine ⟨fun e=>?_,fun e=>?_⟩
     · rw [Bool.and_eq_true,decide_eq_true_iff,decide_eq_true_iff] at e
       rw [if_pos e] at hv
       rw [bin_sub,wrap_id (by omega) (by omega),bin_add,wrap_id (by omega) (by omega)]
       exact ⟨by rw [hv,show y - 97 + 10 = y - 87 by omega],trivial,by omega⟩
     have e:¬ (97 ≤ y ∧ y ≤ 102):=fun h=>by rw [decide_eq_true h.1,decide_eq_true h.2] at e; cases e
     rw [if_neg e] at hv
     intro _
     rw [condW_b]
     refine ⟨fun e=>?_,fun e=>?_⟩
     · rw [Bool.and_eq_true,decide_eq_true_iff,decide_eq_true_iff] at e
       rw [if_pos e] at hv
       rw [bin_sub,wrap_id (by omega) (by omega),bin_add,wrap_id (by omega) (by omega)]
       exact ⟨by rw [hv,show y - 65 + 10 = y - 55 by omega],trivial,by omega⟩
     have e:¬ (65 ≤ y ∧ y ≤ 70):=fun h=>by rw [decide_eq_true h.1,decide_eq_true h.2] at e; cases e
     rw [if_neg e] at hv
     exact hno (by omega)
   rintro st g3 w3 ⟨rfl,rfl,h0⟩
   simp only [List.getD_cons_zero]
   rw [bin_mul,wrap_id (by omega) (by omega),bin_add,wrap_id (by omega) (by omega),← hacc,bin_add,up1 (by omega)]
   refine ⟨⟨j + 1,by omega,rfl,trivial,fun m hm=>hmore m hm h0⟩,?_⟩
   simp only [Int.toNat_natCast]
   omega
 · obtain rfl:j = 4:=by omega
   have:hexM s a = accH s a 4:=by
     unfold hexM
     rw [if_pos ⟨hl,b0,b1,hall 0 (by omega),hall 1 (by omega),hall 2 (by omega),hall 3 (by omega)⟩]
     have e0:accH s a 4 = (((0 * 16 + hexV (byteM s (a + 2))) * 16 + hexV (byteM s (a + 3))) * 16 + hexV (byteM s (a + 4))) * 16 + hexV (byteM s (a + 5)):=rfl
     omega
   rw [this] at hK
   exact hK
theorem escape_ref {s:Str} {i:Nat} {w:World} {K:Value → World → Prop} (hi:i < s.length) (hs:s.length ≤ 1000000) (hok:∀ t k,escM s i = some (t,k) → ∀ w',Ext w w' → K (.tuple #[str t,i64 (k:Nat)]) w') (hno:escM s i = none → ∀ w',Ext w w' → K (.tuple #[str [],i64 0]) w') :
   callF Tryz.prog 231 [str s,i64 (i:Nat)] w K:=by
 refine W231_ok ?_
 unfold W231
 have e1:IntKind.i64.wrap ((i:Int) + 1) = ((i + 1:Nat):Int):=upk (k:=1) (by omega)
 have e6:IntKind.i64.wrap ((i:Int) + 6) = ((i + 6:Nat):Int):=upk (k:=6) (by omega)
 refine JoinW.cut (fun st w'=>Ext w w' ∧ ∀ k:Fin 8,byteM s (i + 1) ≠ (((([34,92,47,98,102,110,114,116]:Str)[k.val]'k.isLt).toNat:Nat):Int)) ?_ ?_
 · rw [bin_add,e1,lens_str,bin_lss,condW_dec]
   refine ⟨fun hlt=>?_,fun hge=>?_⟩
   · have hlt:i + 1 < s.length:=by omega
     refine LoopW.go (fun st w'=>∃ k:Nat,k ≤ 8 ∧ st = [i64 (k:Nat)] ∧ Ext w w' ∧ ∀ m:Fin 8,m.val < k → byteM s (i + 1) ≠ (((([34,92,47,98,102,110,114,116]:Str)[m.val]'m.isLt).toNat:Nat):Int)) (fun st _=>match st with | [.int _ k]=>8 - k.toNat | _=>0) ⟨0,by omega,rfl,Chg.refl _ _,fun m hm=>by omega⟩ ?_
     rintro st g w3 ⟨k,hk,rfl,hx,hall⟩
     have hxd:Ext w3 w3.drew:=Chg.drew (Chg.refl (fun _=>False) w3)
     simp only [List.getD_cons_zero]
     rw [lens_str,bin_lss,condW_dec]
     refine ⟨fun hlt8=>?_,fun hge8=>?_⟩
     · have hlt8:k < 8:=by
         have e:(([34,92,47,98,102,110,114,116]:Str).length:Int) = 8:=rfl
         omega
       rw [bin_add,e1,ixs_str]
       obtain ⟨b1,b2⟩:=get_bt' hlt
       refine ⟨by omega,s[i + 1],by simpa using b1,?_⟩
       rw [ixs_str]
       refine ⟨by omega,([34,92,47,98,102,110,114,116]:Str)[k]'hlt8,(by rw [Int.toNat_natCast]; exact List.getElem?_eq_getElem _),?_⟩
       have hb:byteM s (i + 1) = (s[i + 1].toNat:Int):=by rw [byteM_in hlt,b2]
       rw [← hb,bin_eql,condW_dec]
       refine ⟨fun e=>?_,fun e=>?_⟩
       · rw [bin_add,up1 (by omega),sls_str,bd_some]
         refine ⟨by omega,?_⟩
         rw [Int.toNat_natCast]
         refine ⟨by show ((k + 1:Nat):Int) ≤ 8; omega,?_⟩
         rw [bd_some]
         refine ⟨by omega,by omega,?_⟩
         rw [Int.toNat_natCast]
         refine hok _ 2 ?_ _ (hx.trans hxd)
         have key:∀ m:Fin 8,byteM s (i + 1) = (((([34,92,47,98,102,110,114,116]:Str)[m.val]'m.isLt).toNat:Nat):Int) → escM s i = some ((([34,92,47,8,12,10,13,9]:Str).take (m.val + 1)).drop m.val,2):=fun m hm=>by
           rw [escM_def]
           match m with
           | ⟨0,_⟩=>have hm:byteM s (i + 1) = 34:=hm; rw [hm]; rfl
           | ⟨1,_⟩=>have hm:byteM s (i + 1) = 92:=hm; rw [hm]; rfl
           | ⟨2,_⟩=>have hm:byteM s (i + 1) = 47:=hm; rw [hm]; rfl
           | ⟨3,_⟩=>have hm:byteM s (i + 1) = 98:=hm; rw [hm]; rfl
           | ⟨4,_⟩=>have hm:byteM s (i + 1) = 102:=hm; rw [hm]; rfl
           | ⟨5,_⟩=>have hm:byteM s (i + 1) = 110:=hm; rw [hm]; rfl
           | ⟨6,_⟩=>have hm:byteM s (i + 1) = 114:=hm; rw [hm]; rfl
           | ⟨7,_⟩=>have hm:byteM s (i + 1) = 116:=hm; rw [hm]; rfl
         exact key ⟨k,hlt8⟩ e
       · rw [bin_add,up1 (by omega)]
         refine ⟨⟨k + 1,by omega,rfl,hx.trans hxd,fun m hm=>?_⟩,by simp only [Int.toNat_natCast]; omega⟩
         rcases Nat.lt_or_ge m.val k with h | h
         · exact hall m h
         · have:m = ⟨k,hlt8⟩:=Fin.ext (by show m.val = k; omega)
           rw [this]
           exact e
     · have e:(([34,92,47,98,102,110,114,116]:Str).length:Int) = 8:=rfl
       exact ⟨hx,fun m=>hall m (by have:=m.isLt; omega)⟩
   · refine ⟨Chg.refl _ _,fun m=>?_⟩
     rw [byteM_out (by omega)]
     omega
 rintro st g w4 ⟨hx4,hno8⟩
 have n34:byteM s (i + 1) ≠ 34:=hno8 ⟨0,by omega⟩
 have n92:byteM s (i + 1) ≠ 92:=hno8 ⟨1,by omega⟩
 have n47:byteM s (i + 1) ≠ 47:=hno8 ⟨2,by omega⟩
 have n98:byteM s (i + 1) ≠ 98:=hno8 ⟨3,by omega⟩
 have n102:byteM s (i + 1) ≠ 102:=hno8 ⟨4,by omega⟩
 have n110:byteM s (i + 1) ≠ 110:=hno8 ⟨5,by omega⟩
 have n114:byteM s (i + 1) ≠ 114:=hno8 ⟨6,by omega⟩
 have n116:byteM s (i + 1) ≠ 116:=hno8 ⟨7,by omega⟩
 rw [escM_def,if_neg n34,if_neg n92,if_neg n47,if_neg n98,if_neg n102,if_neg n110,if_neg n114,if_neg n116] at hok hno
 have hr1:=hexM_range s i
 have hr2:=hexM_range s (i + 6)
 refine hex_ref (by omega) hs ?_
 rw [bin_add,e6]
 refine hex_ref (by omega) hs ?_
 generalize hexM s i = x at *
 generalize hexM s (i + 6) = y at *
 rw [bin_lss]
 simp only [isB_f,isB_t,isB_gd_t,bin_geq,bin_leq,bin_lss,bin_gtr,GdW_pure,GdW_nest_and,List.getD_cons_zero,pick_gd_or]
 intros
 rw [condW_b]
 refine ⟨fun e=>?_,fun e=>?_⟩
 · rw [Bool.or_eq_true,Bool.and_eq_true,decide_eq_true_iff,decide_eq_true_iff,decide_eq_true_iff] at e
   rw [if_pos e] at hno
   exact hno rfl _ hx4
 have e:¬ (x < 0 ∨ 56320 ≤ x ∧ x ≤ 57343):=by
   intro h
   rw [Bool.or_eq_false_iff,Bool.and_eq_false_iff,decide_eq_false_iff_not,decide_eq_false_iff_not,decide_eq_false_iff_not] at e
   omega
 rw [if_neg e] at hok hno
 intros
 rw [pick_gd_and,condW_b]
 refine ⟨fun e2=>?_,fun e2=>?_⟩
 · rw [Bool.and_eq_true,decide_eq_true_iff,decide_eq_true_iff] at e2
   rw [if_pos e2] at hok hno
   intros
   rw [condW_b]
   refine ⟨fun e3=>?_,fun e3=>?_⟩
   · rw [Bool.or_eq_true,decide_eq_true_iff,decide_eq_true_iff] at e3
     rw [if_pos e3] at hno
     exact hno rfl _ hx4
   rw [Bool.or_eq_false_iff,decide_eq_false_iff_not,decide_eq_false_iff_not] at e3
   rw [if_neg (by omega)] at hok
   rw [bin_sub,wrap_id (by omega) (by omega),bin_mul,wrap_id (by omega) (by omega),bin_add,wrap_id (by omega) (by omega),bin_add,wrap_id (by omega) (by omega),bin_sub,wrap_id (by omega) (by omega)]
   have en:(65536 + (x - 55296) * 1024 + y - 56320) = (((65536 + (x - 55296) * 1024 + y - 56320).toNat:Nat):Int):=by omega
   rw [en]
   refine write_ref (by omega) fun w5 hx5=>?_
   exact hok _ _ rfl _ (hx4.trans hx5)
 · have e2:¬ (55296 ≤ x ∧ x ≤ 56319):=fun h=>by rw [decide_eq_true h.1,decide_eq_true h.2] at e2; cases e2
   rw [if_neg e2] at hok
   have en:x = ((x.toNat:Nat):Int):=by omega
   rw [en]
   refine write_ref (by omega) fun w5 hx5=>?_
   exact hok _ _ rfl _ (hx4.trans hx5)
end
end Go.Proofs.YtnoepcndjljolaaGreatDoor
namespace Go.Proofs.YtnoepcndjljolaaGreatDoor
open Go Go.Eng Go.RowKit
set_option maxRecDepth 100000
section
variable [HX]
theorem app_s {w:World} {B:Nat} {v:Value} {l m:Str} {K:Value → World → Prop} (h:Own w B U8 1 v l.length (u8s l)) (hl:l.length + m.length ≤ 100000000000) (hB:B ≤ w.heap.size) (hK:∀ v' w',Own w' B U8 1 v' (l ++ m).length (u8s (l ++ m)) → Chg (fun q=>B ≤ q) w w' → K v' w') :
   semE Tryz.prog (Builtin.append_ #[27,9] 27 #[v,str m]) w K:=by
 obtain ⟨i,z,hi,hzr,h2,h3,h4⟩:=elem_u8.get
 have hz0:i.zero = some (.int .u8 0):=by
   have:(Tryz.prog.info? U8).map (·.zero) = some (some (.int .u8 0)):=by kernel_rfl
   rw [hi] at this; simpa using this
 obtain ⟨v',w3,hr,hO',hg,_⟩:=Lib.run_append_own_string (P:=Tryz.prog) w B 27 9 27 U8 i elem_u8.und (by kernel_rfl) hi hz0 h2 h3 v l.length (u8s l) h (ofL m) (by rw [ofL_size]; unfold maxLen; omega) (by rw [ofL_size]; omega) (by omega)
 unfold semE
 rw [hr]
 dsimp only
 have hO2:Own w3 B U8 1 v' (l ++ m).length (u8s (l ++ m)):=by
   rw [u8s_app,List.length_append]
   have e1:Lib.strCells (ofL m) = u8s m:=by unfold Lib.strCells u8s; rw [ofL_data]
   rw [ofL_size,e1] at hO'
   exact hO'
 have hc:Chg (fun k=>v.ownBlock = some k) w w3:=Chg.of_grown hg fun k e=>e
 exact hK v' w3 hO2 (hc.mono fun k _ e=>(h.block k e).1)
def celAt (w:World) (p:Nat):Nat:=match w.heap[p]? with | some (.cells cc _ _)=>(match (cc[1]?:Option Value) with | some (Value.int _ i)=>i.toNat | _=>0) | _=>0
theorem Cel.at_ {w:World} {p i c:Nat} {e a:Int} {s:Str} (h:Cel w p s i c e a):celAt w p = i:=by
 unfold Cel at h
 unfold celAt
 rw [h]
 simp
theorem quoted_ref {s:Str} {i c:Nat} {w:World} {K:Value → World → Prop} (hi:i < s.length) (hs:s.length ≤ 1000000)
   (hok:∀ t j c',quotM En s i c = .ok t j c' → ∀ w',Ext w w' → K (.tuple #[.agg (SS s j c' 0 0).toArray,str t]) w')
   (hbad:∀ e j,quotM En s i c = .bad e j → ∀ i' w',e ≠ 0 → i' ≤ s.length → Ext w w' → K (.tuple #[.agg (SS s i' c e (j:Nat)).toArray,str []]) w') :
   callF Tryz.prog 202 [.agg (SS s i c 0 0).toArray] w K:=by
 refine W202_ok ?_
 unfold W202
 refine cel_box fun p w1 hp h1 hx1=>?_
 refine alloc_new fun b w2 hb hz2 hbb hx2=>?_
 have h2:=h1.ext hx2
 have hlt:=h1.lt
 have hxs:=hx1.size
 refine h2.ld rfl ?_
 refine h2.go (k:=1) (by omega) fun w3 h3 hc3 hz3=>?_
 have hx3:Ext w w3:=(hx1.trans hx2).new hc3 (by omega)
 have hbb3:=hc3.at hbb fun e=>by have e:b = p:=e; omega
 have hBz:w2.heap.size ≤ w3.heap.size:=by omega
 generalize hB:w2.heap.size = B at *
 have hpB:p < B:=by omega
 have hbB:b < B:=by omega
 have hwB:w.heap.size ≤ B:=by omega
 refine LoopW.go (fun st w'=>∃ v j out n,st = [v] ∧ Cel w' p s j c 0 0 ∧ Own w' B U8 1 v out.length (u8s out) ∧ w'.heap[b]? = some (.cells zs.toArray StT (0,0)) ∧ Ext w w' ∧ B ≤ w'.heap.size ∧ j ≤ s.length ∧ out.length ≤ 4 * j ∧ s.length + 1 ≤ n + j ∧ quotGo En s i n j out c = quotM En s i c) (fun _ w'=>s.length - celAt w' p)
   ⟨_,i + 1,[],s.length + 1,rfl,h3,⟨rfl,.inl ⟨rfl,rfl⟩⟩,hbb3,hx3,by omega,by omega,by simp,by omega,rfl⟩ ?_
 rintro st g w4 ⟨v,j,out,n,rfl,h4,hO,hbb,hx,hz,hj,hout,hn,hq⟩
 obtain ⟨n,rfl⟩:∃ m,n = m + 1:=⟨n - 1,by omega⟩
 rw [quotGo] at hq
 simp only [List.getD_cons_zero]
 -- an error
 have err:∀ {w':World} {e:Int},quotM En s i c = .bad e j → e ≠ 0 → Cel w' p s j c 0 0 → Ext w4 w' →
     ldW true 5 (.pointer (some ⟨p,0,none⟩)) w' fun t27=>fldW 1 (.pointer (some ⟨p,0,none⟩)) fun t47=>ldW false 1 t47 w' fun t48=>callF Tryz.prog 152 [t27,i64 e,t48] w' fun t31 w9=>stW 5 (.pointer (some ⟨b,0,none⟩)) t31 w9 fun w10=>ldW true 5 (.pointer (some ⟨b,0,none⟩)) w10 fun r11=>K (.tuple #[r11,str []]) w10:=fun {w' e} hqe he h' hx'=>by
   refine h'.all ?_
   refine h'.ld rfl ?_
   refine fail_ref fun w9 hx9=>?_
   rw [if_pos rfl,if_pos rfl]
   refine ret_agg ((hx'.trans hx9).at hbb id) rfl rfl rfl fun w10 hc10=>?_
   exact hbad e j hqe j w10 he hj (((hx.trans hx').trans hx9).new hc10 (by omega))
 have hxd:∀ w:World,Ext w w.drew:=fun w=>Chg.drew (Chg.refl (fun _=>False) w)
 refine h4.all ?_
 refine c_ref fun w5 hx5=>?_
 have h5:=h4.ext hx5
 rw [bin_neq,condW_dec]
 refine ⟨fun e34=>?_,fun e34=>?_⟩
 · have e34:byteM s j ≠ 34:=by simpa using e34
   rw [if_neg e34] at hq
   refine h5.ld rfl ?_
   refine h5.ld rfl ?_
   refine rune_ref (by omega) (by omega) ?_
   refine h5.all ?_
   refine c_ref fun w6 hx6=>?_
   have h6:=h5.ext hx6
   rw [bin_lss,condW_dec]
   refine ⟨fun e0=>?_,fun e0=>?_⟩
   · rw [if_pos e0] at hq
     refine h6.all ?_
     refine h6.ld rfl ?_
     rw [lens_str]
     refine fail_ref fun w9 hx9=>?_
     rw [if_pos rfl,if_pos rfl]
     refine ret_agg (((hx5.trans hx6).trans hx9).at hbb id) rfl rfl rfl fun w10 hc10=>?_
     exact hbad _ _ hq.symm j w10 (by decide) hj (((hx.trans (hx5.trans hx6)).trans hx9).new hc10 (by omega))
   rw [if_neg e0] at hq
   have hlt:=byte_lt (s:=s) (i:=j) (by omega)
   refine h6.all ?_
   refine c_ref fun w7 hx7=>?_
   have h7:=h6.ext hx7
   have hx47:=hx5.trans (hx6.trans hx7)
   rw [bin_eql,condW_dec]
   refine ⟨fun e92=>?_,fun e92=>?_⟩
   · rw [if_pos e92] at hq
     refine h7.ld rfl ?_
     refine h7.ld rfl ?_
     refine escape_ref hlt hs (fun t k hk w8 hx8=>?_) (fun hno w8 hx8=>?_)
     · rw [hk] at hq
       simp only at hq
       have hfit:=escM_fits hk
       have hk2:=(escM_rune hk).2.2
       have hrn:=rn_len (escM_rune hk).1
       simp only [ext_tuple]
       refine ⟨_,rfl,_,rfl,?_⟩
       rw [bin_eql,decide_eq_false (by omega),condW_false]
       have hx48:=hx47.trans hx8
       have h8:=h7.ext hx8
       refine app_s (own_chg hO hx48 fun _ _ e=>e) (by omega) (by have:=hx48.size; omega) fun v' w9 hO9 hc9=>?_
       have h9:Cel w9 p s j c 0 0:=h8.chg hc9 (by show ¬ B ≤ p; omega)
       refine h9.ld rfl ?_
       rw [bin_add,upk (by omega)]
       refine h9.st1 fun w10 h10 hc10 hz10=>?_
       refine ⟨⟨v',j + k,out ++ t,n,rfl,h10,own_chg hO9 hc10 fun q hq e=>by have:=(own_in hO9 hq).1; have e:q = p:=e; omega,hc10.at (hc9.at (hx48.at hbb id) (by show ¬ B ≤ b; omega)) (fun e=>by have e:b = p:=e; omega),?_,by have:=hx48.size; have:=hc9.size; omega,hfit,by rw [List.length_append]; omega,by omega,hq⟩,?_⟩
       · exact (((hx.trans hx48).then hc9 fun q hq e=>by omega)).new hc10 (by omega)
       · rw [h10.at_,h4.at_]; omega
     · rw [hno] at hq
       simp only [ext_tuple]
       refine ⟨_,rfl,_,rfl,?_⟩
       rw [bin_eql,decide_eq_true rfl,condW_true]
       have h8:=h7.ext hx8
       exact err hq.symm (by decide) h8 (hx47.trans hx8)
   rw [if_neg e92] at hq
   refine h7.all ?_
   refine c_ref fun w8 hx8=>?_
   have h8:=h7.ext hx8
   have hx48:=hx47.trans hx8
   rw [bin_lss,condW_dec]
   refine ⟨fun e32=>?_,fun e32=>?_⟩
   · rw [if_pos e32] at hq
     exact err hq.symm (by decide) h8 hx48
   rw [if_neg e32] at hq
   rw [bin_eql,condW_dec]
   refine ⟨fun er=>?_,fun er=>?_⟩
   · rw [if_pos (by omega)] at hq
     exact err hq.symm (by decide) h8 hx48
   have hr0:runeM s j ≠ 0:=by omega
   rw [if_neg hr0] at hq
   have hfit:=rune_fits hr0
   obtain ⟨r,hr⟩:=rune_good hlt hr0
   have hsm:=hr.small
   refine h8.ld rfl ?_
   refine h8.ld rfl ?_
   refine h8.ld rfl ?_
   rw [bin_add,upk (by omega),sls_str,bd_some]
   refine ⟨by omega,by omega,?_⟩
   rw [bd_some]
   refine ⟨by omega,by omega,?_⟩
   simp only [Int.toNat_natCast]
   rw [List.drop_take,Nat.add_sub_cancel_left]
   have htl:((s.drop j).take (runeM s j)).length = runeM s j:=by rw [List.length_take,List.length_drop]; omega
   refine app_s (own_chg hO hx48 fun _ _ e=>e) (by omega) (by have:=hx48.size; omega) fun v' w9 hO9 hc9=>?_
   have h9:Cel w9 p s j c 0 0:=h8.chg hc9 (by show ¬ B ≤ p; omega)
   refine h9.ld rfl ?_
   rw [bin_add,upk (by omega)]
   refine h9.st1 fun w10 h10 hc10 hz10=>?_
   refine ⟨⟨v',j + runeM s j,out ++ (s.drop j).take (runeM s j),n,rfl,h10,own_chg hO9 hc10 fun q hq e=>by have:=(own_in hO9 hq).1; have e:q = p:=e; omega,hc10.at (hc9.at (hx48.at hbb id) (by show ¬ B ≤ b; omega)) (fun e=>by have e:b = p:=e; omega),?_,by have:=hx48.size; have:=hc9.size; omega,hfit,by rw [List.length_append]; omega,by omega,hq⟩,?_⟩
   · exact (((hx.trans hx48).then hc9 fun q hq e=>by omega)).new hc10 (by omega)
   · rw [h10.at_,h4.at_]; omega
 · have e34:byteM s j = 34:=by simpa using e34
   rw [if_pos e34] at hq
   have hlt:=byte_lt (s:=s) (i:=j) (by omega)
   refine h5.go (k:=1) (by omega) fun w6 h6 hc6 hz6=>?_
   have hO6:Own w6 B U8 1 v out.length (u8s out):=own_chg (own_chg hO hx5 fun _ _ e=>e) hc6 fun q hq e=>by have:=(own_in hO hq).1; have e:q = p:=e; omega
   have hbb6:=hc6.at (hx5.at hbb id) (fun e=>by have e:b = p:=e; omega)
   have hx6:Ext w w6:=(hx.trans hx5).new hc6 (by omega)
   rw [lenl_at hO6.sl,bin_gtr,condW_dec]
   refine ⟨fun el=>?_,fun el=>?_⟩
   · rw [if_pos (by omega)] at hq
     refine h6.all ?_
     refine fail_ref fun w9 hx9=>?_
     rw [if_pos rfl,if_pos rfl]
     refine ret_agg (hx9.at hbb6 id) rfl rfl rfl fun w10 hc10=>?_
     exact hbad _ _ hq.symm (j + 1) w10 (by decide) (by omega) ((hx6.trans hx9).new hc10 (by omega))
   · rw [if_neg (by omega)] at hq
     refine h6.drew.all ?_
     have hO6d:Own w6.drew B U8 1 v out.length (u8s out):=own_chg hO6 (hxd w6) fun _ _ e=>e
     refine (conv_bytes (e:=U8) (by kernel_rfl) (by kernel_rfl) (by kernel_rfl) hO6d.sl).2 ?_
     have hbb6d:w6.drew.heap[b]? = some (.cells zs.toArray StT (0,0)):=hbb6
     refine st_agg_at hbb6d rfl rfl rfl fun w7 hz7 hb7 hc7=>?_
     have hO7:Own w7 B U8 1 v out.length (u8s out):=own_chg hO6d hc7 fun q hq e=>by have:=(own_in hO6 hq).1; have e:q = b:=e; omega
     refine ⟨(conv_bytes (e:=U8) (by kernel_rfl) (by kernel_rfl) (by kernel_rfl) hO7.sl).2 rfl,?_⟩
     refine ld_all hb7 rfl ?_
     exact hok _ _ _ hq.symm w7 (((hx6.trans (hxd w6)).new hc7 (by omega)))
end
end Go.Proofs.YtnoepcndjljolaaGreatDoor
namespace Go.Proofs.YtnoepcndjljolaaGreatDoor
open Go Go.Eng Go.RowKit
set_option maxRecDepth 100000
def BadR (s:Str) (e:Int) (j:Nat) (w:World) (K:Value → World → Prop):Prop:=
 ∀ i' c' v cs w',e ≠ 0 → i' ≤ s.length → Ext w w' → VRepP (From w.heap.size) w' v cs → K (.tuple #[.agg (SS s i' c' e (j:Nat)).toArray,.agg cs.toArray]) w'
section
variable [HX]
theorem null_rep (G:Nat → Prop) (w:World):VRepP G w JV.null [i64 0,.bool false,str [],.slice none 0 0,.slice none 0 0]:=leaf_rep (k:=0) (b:=false) (t:=[]) (by simp)
theorem number_ref {s:Str} {i c:Nat} {w:World} {K:Value → World → Prop} (hi:i ≤ s.length) (hs:s.length ≤ 1000000)
   (hok:∀ v j c',numM En s i c = .ok v j c' → ∀ cs w',Ext w w' → VRepP (From w.heap.size) w' v cs → K (.tuple #[.agg (SS s j c' 0 0).toArray,.agg cs.toArray]) w')
   (hbad:∀ e j,numM En s i c = .bad e j → BadR s e j w K) :
   callF Tryz.prog 201 [.agg (SS s i c 0 0).toArray] w K:=by
 refine W201_ok ?_
 unfold W201
 refine cel_box fun p w1 hp h1 hx1=>?_
 refine alloc_new fun b2 w2 hb2 hz2 hbb2 hx2=>?_
 refine alloc_new fun b3 w3 hb3 hz3 hbb3 hx3=>?_
 have h3:=(h1.ext hx2).ext hx3
 have hbb2:=hx3.at hbb2 id
 have hlt:=h1.lt
 have hxs:=hx1.size
 have hx03:Ext w w3:=(hx1.trans hx2).trans hx3
 unfold numM at hok hbad
 simp only at hok hbad
 refine h3.ld rfl ?_
 refine JoinW.cut (fun st w'=>st = [] ∧ ∃ first,first = (if byteM s i = 45 then i + 1 else i) ∧ first ≤ s.length ∧ Cel w' p s first c 0 0 ∧ Chg (Cr p) w3 w') ?_ ?_
 · refine h3.all ?_
   refine c_ref fun w4 hx4=>?_
   have h4:=h3.ext hx4
   rw [bin_eql,condW_dec]
   refine ⟨fun e=>?_,fun e=>?_⟩
   · have:=byte_lt (s:=s) (i:=i) (by omega)
     refine h4.go (k:=1) (by omega) fun w5 h5 hc5 _=>?_
     exact ⟨rfl,i + 1,by rw [if_pos e],by omega,h5,(Chg.of_ext hx4).trans hc5⟩
   · exact ⟨rfl,i,by rw [if_neg e],hi,h4,Chg.of_ext hx4⟩
 rintro st g w4 ⟨rfl,first,hf,hfl,h4,hc4⟩
 rw [← hf] at hok hbad
 refine h4.ld rfl ?_
 refine JoinW.cut (fun st w'=>st = [] ∧ ∃ stop,stop = (if byteM s first = 48 then first + 1 else digM s first) ∧ stop ≤ s.length ∧ Cel w' p s stop c 0 0 ∧ Chg (Cr p) w3 w') ?_ ?_
 · refine h4.all ?_
   refine c_ref fun w5 hx5=>?_
   have h5:=h4.ext hx5
   have hc5:Chg (Cr p) w3 w5:=hc4.then hx5 fun _ _ e=>e.elim
   rw [bin_eql,condW_dec]
   refine ⟨fun e=>?_,fun e=>?_⟩
   · have:=byte_lt (s:=s) (i:=first) (by omega)
     refine h5.go (k:=1) (by omega) fun w6 h6 hc6 _=>?_
     exact ⟨rfl,first + 1,by rw [if_pos e],by omega,h6,hc5.trans hc6⟩
   · refine LoopW.go (fun st w'=>st = [] ∧ ∃ j,Cel w' p s j c 0 0 ∧ Chg (Cr p) w3 w' ∧ j ≤ s.length ∧ digM s j = digM s first) (fun _ w'=>s.length - celAt w' p) ⟨rfl,first,h5,hc5,hfl,rfl⟩ ?_
     rintro st g w6 ⟨rfl,j,h6,hc6,hj,hb⟩
     refine h6.all ?_
     refine c_ref fun w7 hx7=>?_
     refine digit_ref ?_
     have h7:=h6.ext hx7
     have hc7:Chg (Cr p) w3 w7:=hc6.then hx7 fun _ _ e=>e.elim
     rw [condW_b]
     refine ⟨fun hd=>?_,fun hn=>?_⟩
     · have hg:=dig_go' hd
       refine h7.go (k:=1) (by omega) fun w8 h8 hc8 _=>?_
       refine ⟨⟨rfl,j + 1,h8,hc7.trans hc8,by omega,by rw [← hb,hg.2]⟩,?_⟩
       rw [h8.at_,h6.at_]; omega
     · rw [dig_stop hn] at hb
       subst hb
       exact ⟨rfl,_,by rw [if_neg e],hj,h7,hc7⟩
 rintro st g w5 ⟨rfl,stop,hst,hsl,h5,hc5⟩
 rw [← hst] at hok hbad
 have hge:first ≤ stop:=by rw [hst]; split; omega; exact digM_ge _ _
 have hif:i ≤ first ∧ first ≤ i + 1:=by rw [hf]; split <;> omega
 -- what is handed back
 have fin:∀ {w':World} {l cs:List Value},Chg (Cr p) w3 w' → l.length = 5 → l.all one1 = true → cs.length = 5 → cs.all one1 = true → (∀ w'',Ext w w'' → K (.tuple #[.agg l.toArray,.agg cs.toArray]) w'') →
     stW 5 (.pointer (some ⟨b2,0,none⟩)) (.agg l.toArray) w' fun w1=>stW 5 (.pointer (some ⟨b3,0,none⟩)) (.agg cs.toArray) w1 fun w2=>ldW true 5 (.pointer (some ⟨b2,0,none⟩)) w2 fun r=>ldW true 5 (.pointer (some ⟨b3,0,none⟩)) w2 fun q=>K (.tuple #[r,q]) w2:=fun {w' l cs} hc hl hl1 hcl hc1 hk=>by
   refine ret_two (hc.at hbb2 fun e=>by have e:b2 = p:=e; omega) rfl (hc.at hbb3 fun e=>by have e:b3 = p:=e; omega) rfl (by omega) hl hl1 hcl hc1 fun w'' hc''=>?_
   refine hk w'' ((hx03.new hc (by omega)).then hc'' fun k hk e=>by omega)
 have bad:∀ {w':World} {e:Int} {k:Nat},Chg (Cr p) w3 w' → BadR s e k w K → e ≠ 0 →
     callF Tryz.prog 152 [.agg (SS s stop c 0 0).toArray,i64 e,i64 (k:Nat)] w' fun t39 w17=>putW [(.int .i64 0),(.bool false),(.string (ofL [])),(.slice none 0 0),(.slice none 0 0)] [] fun c18=>stW 5 (.pointer (some ⟨b2,0,none⟩)) t39 w17 fun w19=>stW 5 (.pointer (some ⟨b3,0,none⟩)) (.agg c18.toArray) w19 fun w20=>ldW true 5 (.pointer (some ⟨b2,0,none⟩)) w20 fun r21=>ldW true 5 (.pointer (some ⟨b3,0,none⟩)) w20 fun r22=>K (.tuple #[r21,r22]) w20:=fun {w' e k} hc hb he=>by
   refine fail_ref fun w9 hx9=>?_
   rw [if_pos rfl,if_pos rfl,put_nil]
   refine fin (hc.then hx9 fun _ _ e=>e.elim) rfl rfl rfl rfl fun w'' hx''=>?_
   exact hb stop c JV.null _ w'' he hsl hx'' (null_rep _ _)
 refine h5.ld rfl ?_
 rw [bin_eql,condW_dec]
 refine ⟨fun e=>?_,fun e=>?_⟩
 · have e:stop = first:=by omega
   rw [if_pos e] at hbad
   refine h5.all ?_
   refine h5.ld rfl ?_
   exact bad hc5 (hbad _ _ rfl) (by decide)
 have hne:stop ≠ first:=by omega
 rw [if_neg hne] at hok hbad
 refine h5.ld rfl ?_
 rw [bin_sub,bin_gtr,wrap_id (by omega) (by omega),condW_dec]
 refine ⟨fun e2=>?_,fun e2=>?_⟩
 · rw [if_pos (by omega)] at hbad
   refine h5.all ?_
   exact bad hc5 (hbad _ _ rfl) (by decide)
 rw [if_neg (by omega)] at hok hbad
 refine h5.all ?_
 refine c_ref fun w6 hx6=>?_
 refine digit_ref ?_
 have look:∀ {w':World} {n:Int} {J:List Value → World → Prop},Ext w5 w' → (∀ w'',Ext w5 w'' → J [.bool (decide (byteM s stop = n))] w'') →
     ldW true 5 (.pointer (some ⟨p,0,none⟩)) w' fun t=>callF Tryz.prog 199 [t] w' fun t8 w7=>binW .eql t8 (.int .i64 n) fun t9=>J [t9] w7:=fun {w' n J} hx' hJ=>by
   refine (h5.ext hx').all ?_
   refine c_ref fun w5 hx5=>?_
   rw [bin_eql]
   exact hJ w5 (hx'.trans hx5)
 refine GdW.act (decide (byteM s stop = 46)) (fun w'=>Ext w5 w') (fun _=>hx6) (fun _ J hJ=>look hx6 hJ) ?_
 intro g2 w7 hx7
 simp only [List.getD_cons_zero,isB_f]
 rw [pick_gd_or]
 simp only [isB_f]
 refine GdW.act (decide (byteM s stop = 101)) (fun w'=>Ext w5 w') (fun _=>hx7) (fun _ J hJ=>look hx7 hJ) ?_
 intro g3 w8 hx8
 simp only [List.getD_cons_zero,isB_f]
 rw [pick_gd_or]
 simp only [isB_f]
 refine GdW.act (decide (byteM s stop = 69)) (fun w'=>Ext w5 w') (fun _=>hx8) (fun _ J hJ=>look hx8 hJ) ?_
 intro g4 w9 hx9
 simp only [List.getD_cons_zero,isB_f]
 rw [pick_gd_or,condW_b]
 have h9:=h5.ext hx9
 have hc9:Chg (Cr p) w3 w9:=hc5.then hx9 fun _ _ e=>e.elim
 refine ⟨fun e3=>?_,fun e3=>?_⟩
 · rw [if_pos e3] at hbad
   refine h9.all ?_
   refine h9.ld rfl ?_
   exact bad hc9 (hbad _ _ rfl) (by decide)
 rw [if_neg (by rw [e3]; simp)] at hok
 refine h9.ld rfl ?_
 refine h9.ld rfl ?_
 rw [sls_str,bd_some]
 refine ⟨by omega,by omega,?_⟩
 rw [bd_some]
 refine ⟨by omega,by omega,?_⟩
 simp only [Int.toNat_natCast]
 rw [List.drop_take]
 have htl:((s.drop i).take (stop - i)).length ≤ 1000000:=by rw [List.length_take,List.length_drop]; omega
 generalize ht:(s.drop i).take (stop - i) = t at *
 refine JoinW.cut (fun st w'=>st = [str (if t = [45,48] then [48] else t)] ∧ w' = w9) ?_ ?_
 · rw [bin_seq,condW_dec]
   refine ⟨fun e=>?_,fun e=>?_⟩
   · rw [if_pos e]; exact ⟨rfl,rfl⟩
   · rw [if_neg e]; exact ⟨rfl,rfl⟩
 rintro st g5 w10 ⟨rfl,rfl⟩
 refine h9.all ?_
 simp only [List.getD_cons_zero,put_int,put_str,put_nil,List.length_cons,List.length_nil,List.set_cons_zero,List.set_cons_succ]
 refine ⟨by omega,by omega,?_⟩
 refine fin hc9 rfl rfl rfl rfl fun w'' hx''=>?_
 exact hok _ _ _ rfl _ w'' hx'' (leaf_rep (by split <;> (first | simp | omega)))
end
end Go.Proofs.YtnoepcndjljolaaGreatDoor
namespace Go.Proofs.YtnoepcndjljolaaGreatDoor
open Go Go.Eng Go.Num
set_option maxRecDepth 100000
theorem VRepsP.get {G:Nat → Prop} {w:World}:∀ {xs:List JV} {L:List Value} {i:Nat} {x:JV},VRepsP G w xs L → xs[i]? = some x → ∃ cs,VRepP G w x cs ∧ ∀ j,j < 5 → L[i * 5 + j]? = cs[j]?
 | [],_,_,_,_,h=>by simp at h
 | y :: xs,L,0,x,h,hx=>by
   simp only [List.getElem?_cons_zero,Option.some.injEq] at hx
   subst hx
   simp only [VRepsP] at h
   obtain ⟨c,r,rfl,hc,hr⟩:=h
   refine ⟨c,hc,fun j hj=>?_⟩
   rw [Nat.zero_mul,Nat.zero_add,List.getElem?_append_left (by rw [hc.rep.len]; exact hj)]
 | y :: xs,L,i + 1,x,h,hx=>by
   simp only [List.getElem?_cons_succ] at hx
   simp only [VRepsP] at h
   obtain ⟨c,r,rfl,hc,hr⟩:=h
   obtain ⟨cs,h1,h2⟩:=VRepsP.get hr hx
   refine ⟨cs,h1,fun j hj=>?_⟩
   rw [List.getElem?_append_right (by rw [hc.rep.len]; omega),hc.rep.len,← h2 j hj]
   congr 1; omega
theorem VRepP.out {G:Nat → Prop} {w:World} {v:JV} {cs:List Value} (h:VRepP G w v cs):∃ sv kv T1 T2 L,cs = [i64 v.k,.bool v.b,str v.t,sv,kv] ∧ SlAt w T1 sv v.xs.length L ∧ VRepsP G w v.xs L ∧ SlAt w T2 kv v.ks.length (v.ks.map str) ∧ Fits v.xs.length v.ks v.t ∧ (L ≠ [] → inG G sv) ∧ (v.ks.map str ≠ [] → inG G kv):=by
 cases v with
 | mk k b t xs ks=>simpa only [VRepP,JV.k,JV.b,JV.t,JV.xs,JV.ks] using h
structure ValIP (G:Nat → Prop) (w:World) (v:JV) (sv kv:Value):Prop where
 items:∃ T L,SlAt w T sv v.xs.length L ∧ VRepsP G w v.xs L ∧ (L ≠ [] → inG G sv)
 keys:∃ T,SlAt w T kv v.ks.length (v.ks.map str)
 fits:Fits v.xs.length v.ks v.t
 kin:v.ks.map str ≠ [] → inG G kv
theorem ValIP.toI {G:Nat → Prop} {w:World} {v:JV} {sv kv:Value} (h:ValIP G w v sv kv):ValI w v sv kv:=by
 obtain ⟨T,L,h1,h2,_⟩:=h.items
 exact ⟨⟨T,L,h1,VRepsP.rep h2⟩,h.keys,h.fits⟩
theorem ValIP.rep {G:Nat → Prop} {w:World} {v:JV} {sv kv:Value} (h:ValIP G w v sv kv):VRepP G w v [i64 v.k,.bool v.b,str v.t,sv,kv]:=by
 obtain ⟨T,L,h1,h2,h3⟩:=h.items
 obtain ⟨T',h4⟩:=h.keys
 exact VRepP.mk h1 h2 h4 h.fits h3 h.kin
theorem box_valiP {G:Nat → Prop} {w0 w:World} {v:JV} {cs:List Value} {K:Value → World → Prop} (h:VRepP G w0 v cs) (hK:∀ a w' sv kv,w'.heap[a]? = some (.cells [i64 v.k,.bool v.b,str v.t,sv,kv].toArray VT (0,0)) → ValIP G w0 v sv kv → Ext w w' → w.heap.size ≤ a → w'.heap.size = a + 1 → K (.pointer (some ⟨a,0,none⟩)) w'):boxW VT (.agg cs.toArray) w K:=by
 obtain ⟨sv,kv,T1,T2,L,rfl,h1,h2,h3,h4,h5,h6⟩:=h.out
 refine box_new fun a w' ha hz hb hx=>hK a w' sv kv hb ⟨⟨T1,L,h1,h2,h5⟩,⟨T2,h3⟩,h4,h6⟩ hx (by omega) (by omega)
theorem ValIP.item_old {G:Nat → Prop} {w0 w:World} {v:JV} {sv kv:Value} {k:IntKind} {i:Nat} {x:JV} {K:Value → Prop} (h:ValIP G w0 v sv kv) (hx:Ext w0 w) (hi:v.xs[i]? = some x) (hK:∀ cs,VRepP G w0 x cs → K (.agg cs.toArray)):ixaW none 5 sv (.int k i) fun p=>ldW true 5 p w K:=by
 obtain ⟨T,L,h1,h2,_⟩:=h.items
 obtain ⟨cs,hc,hg⟩:=h2.get hi
 refine ixa_at (size:=5) (h1.ext hx) h2.len (by omega) (List.getElem?_eq_some_iff.1 hi).1 fun b o c fr hb hcc=>?_
 exact ld_cells hb hc.rep.len (fun j hj=>(hcc j hj).trans (hg j hj)) (hK cs hc)
section
variable [HX]
structure GrowP (GG:Nat → Prop) (w0 w:World) (b base:Nat) (sv0 kv0 sv kv:Value) (xs:List JV) (ks:List Str):Prop where
 ext:Ext w0 w
 hb:w.heap[b]? = some (.cells [i64 6,.bool false,str [],sv0,kv0].toArray VT (0,0))
 low:w0.heap.size ≤ b
 lt:b < base
 le:base ≤ w.heap.size
 items:∃ L,Own w base VT 5 sv xs.length L ∧ VRepsP GG w0 xs L
 keys:Own w base ST 1 kv ks.length (ks.map str)
theorem GrowP.more {GG:Nat → Prop} {w0 w w':World} {b base:Nat} {sv0 kv0 sv kv:Value} {xs:List JV} {ks:List Str} (h:GrowP GG w0 w b base sv0 kv0 sv kv xs ks) (hx:Ext w w'):GrowP GG w0 w' b base sv0 kv0 sv kv xs ks:=
 ⟨h.ext.trans hx,hx.at h.hb id,h.low,h.lt,Nat.le_trans h.le hx.size,let ⟨L,h1,h2⟩:=h.items; ⟨L,h1.ext hx,h2⟩,h.keys.ext hx⟩
theorem GrowP.chg {GG:Nat → Prop} {w0 w w':World} {b b' base:Nat} {sv0 kv0 sv kv:Value} {xs:List JV} {ks:List Str} (h:GrowP GG w0 w b base sv0 kv0 sv kv xs ks) (hc:Chg (fun k=>k = b') w w') (h1:b' ≠ b) (h2:b' < base) (h3:w0.heap.size ≤ b'):GrowP GG w0 w' b base sv0 kv0 sv kv xs ks:=
 ⟨h.ext.new hc h3,hc.at h.hb (fun e=>h1 e.symm),h.low,h.lt,Nat.le_trans h.le hc.size,let ⟨L,g1,g2⟩:=h.items; ⟨L,g1.chg hc fun k hk e=>by have:=hk.1; omega,g2⟩,h.keys.chg hc fun k hk e=>by have:=hk.1; omega⟩
theorem GrowP.appk {GG:Nat → Prop} {w0 w:World} {b base:Nat} {sv0 kv0 sv kv t:Value} {xs:List JV} {ks:List Str} {x:Str} {T:TypeId} {K:Value → World → Prop} (h:GrowP GG w0 w b base sv0 kv0 sv kv xs ks) (ht:SlAt w T t 1 [str x]) (hl:ks.length ≤ 1000000)
   (hK:∀ kv' w',GrowP GG w0 w' b base sv0 kv0 sv kv' xs (ks ++ [x]) → Chg (fun k=>base ≤ k) w w' → K kv' w'):semE Tryz.prog (Builtin.append_ #[38,38] 38 #[kv,t]) w K:=by
 refine append_own2 elem_s h.keys ht (m:=1) rfl (fun u hu=>by simp only [List.mem_singleton] at hu; subst hu; rfl) (by omega) (by omega) h.le fun v' w' h' hc _=>?_
 refine hK v' w' ⟨h.ext.then hc fun k hk e=>?_,hc.at h.hb fun e=>?_,h.low,h.lt,Nat.le_trans h.le hc.size,?_,by simpa using h'⟩ (hc.mono fun k _ e=>(own_ge h.keys e).1)
 · have:=(own_ge h.keys e).1; have:=h.low; have:=h.lt; omega
 · have:=(own_ge h.keys e).1; have:=h.lt; omega
 · obtain ⟨L,h1,h2⟩:=h.items
   refine ⟨L,h1.chg hc fun k hk e=>?_,h2⟩
   obtain ⟨_,c,hc1⟩:=hk
   obtain ⟨_,c',hc2⟩:=own_ge h.keys e
   rw [hc1] at hc2; cases hc2
theorem GrowP.appx {GG:Nat → Prop} {w0 w:World} {b base:Nat} {sv0 kv0 sv kv t:Value} {xs:List JV} {ks:List Str} {x:JV} {cs:List Value} {T:TypeId} {K:Value → World → Prop} (h:GrowP GG w0 w b base sv0 kv0 sv kv xs ks) (ht:SlAt w T t 1 cs) (hx:VRepP GG w0 x cs) (hl:xs.length ≤ 1000000)
   (hK:∀ sv' w',GrowP GG w0 w' b base sv0 kv0 sv' kv (xs ++ [x]) ks → Chg (fun k=>base ≤ k) w w' → K sv' w'):semE Tryz.prog (Builtin.append_ #[37,37] 37 #[sv,t]) w K:=by
 obtain ⟨L,h1,h2⟩:=h.items
 refine append_own2 elem_v h1 ht (m:=1) (by rw [hx.rep.len]) hx.rep.one (by omega) (by omega) h.le fun v' w' h' hc _=>?_
 refine hK v' w' ⟨h.ext.then hc fun k hk e=>?_,hc.at h.hb fun e=>?_,h.low,h.lt,Nat.le_trans h.le hc.size,⟨L ++ cs,by simpa using h',h2.snoc hx⟩,h.keys.chg hc fun k hk e=>?_⟩ (hc.mono fun k _ e=>(own_ge h1 e).1)
 · have:=(own_ge h1 e).1; have:=h.low; have:=h.lt; omega
 · have:=(own_ge h1 e).1; have:=h.lt; omega
 · obtain ⟨_,c,hc1⟩:=hk
   obtain ⟨_,c',hc2⟩:=own_ge h1 e
   rw [hc1] at hc2; cases hc2
theorem GrowP.set {GG:Nat → Prop} {w0 w:World} {b base off:Nat} {sv0 kv0 sv kv v sv1 kv1:Value} {xs:List JV} {ks:List Str} {K:World → Prop} (h:GrowP GG w0 w b base sv0 kv0 sv kv xs ks) (h1:one1 v = true) (ho:off < 5)
   (he:([i64 6,.bool false,str [],sv0,kv0]:List Value).set off v = [i64 6,.bool false,str [],sv1,kv1]) (hK:∀ w',GrowP GG w0 w' b base sv1 kv1 sv kv xs ks → Chg (fun k=>k = b) w w' → K w'):stW 1 (.pointer (some ⟨b,off,none⟩)) v w K:=by
 refine st_at h.hb h1 (by simpa using ho) fun w' hz hb' hc=>?_
 refine hK w' ⟨h.ext.new hc h.low,?_,h.low,h.lt,by rw [hz]; exact h.le,?_,h.keys.chg hc fun k hk e=>?_⟩ hc
 · rw [hb',← he]; simp
 · obtain ⟨L,h1,h2⟩:=h.items
   exact ⟨L,h1.chg hc fun k hk e=>by have:=hk.1; have:=h.lt; omega,h2⟩
 · have:=hk.1; have:=h.lt; omega
theorem GrowP.one {GG:Nat → Prop} {w0 w:World} {b base:Nat} {sv0 kv0 sv kv:Value} {xs:List JV} {ks:List Str} (h:GrowP GG w0 w b base sv0 kv0 sv kv xs ks):one1 sv = true ∧ one1 kv = true:=by
 obtain ⟨L,h1,_⟩:=h.items
 obtain ⟨p,c,rfl,_⟩:=h1.sl.shape
 obtain ⟨p',c',rfl,_⟩:=h.keys.sl.shape
 exact ⟨rfl,rfl⟩
structure OwnVP (GG:Nat → Prop) (w0 w:World) (base:Nat) (v:JV) (sv kv:Value):Prop where
 items:∃ L,Own w base VT 5 sv v.xs.length L ∧ VRepsP GG w0 v.xs L
 keys:Own w base ST 1 kv v.ks.length (v.ks.map str)
 fits:Fits v.xs.length v.ks v.t
theorem OwnVP.chg {GG:Nat → Prop} {w0 w w':World} {base:Nat} {v:JV} {sv kv:Value} {S:Nat → Prop} (h:OwnVP GG w0 w base v sv kv) (hc:Chg S w w') (hS:∀ k,base ≤ k → k < w.heap.size → ¬ S k):OwnVP GG w0 w' base v sv kv:=
 ⟨let ⟨L,h1,h2⟩:=h.items; ⟨L,h1.chg hc fun k hk=>hS k hk.1 (by obtain ⟨_,c,hk⟩:=hk; exact at_lt hk),h2⟩,h.keys.chg hc fun k hk=>hS k hk.1 (by obtain ⟨_,c,hk⟩:=hk; exact at_lt hk),h.fits⟩
theorem OwnVP.one {GG:Nat → Prop} {w0 w:World} {base:Nat} {v:JV} {sv kv:Value} (h:OwnVP GG w0 w base v sv kv):one1 sv = true ∧ one1 kv = true:=by
 obtain ⟨L,h1,_⟩:=h.items
 obtain ⟨p,c,rfl,_⟩:=h1.sl.shape
 obtain ⟨p',c',rfl,_⟩:=h.keys.sl.shape
 exact ⟨rfl,rfl⟩
theorem GrowP.own {GG:Nat → Prop} {w0 w:World} {b base:Nat} {sv kv:Value} {l:List (Str × JV)} (h:GrowP GG w0 w b base sv kv sv kv (l.map (·.2)) (l.map (·.1))) (hl:l.length ≤ 1000000) (hk:∀ p ∈ l,p.1.length ≤ 9223372036854775807):OwnVP GG w0 w base (mkO l) sv kv:=by
 refine ⟨h.items,h.keys,?_,?_,?_,?_⟩
 · simp only [mkO,JV.xs,List.length_map]; omega
 · simp only [mkO,JV.ks,List.length_map]; omega
 · simp [mkO,JV.t]
 · intro s hs
   simp only [mkO,JV.ks,List.mem_map] at hs
   obtain ⟨p,hp,rfl⟩:=hs
   exact hk p hp
theorem GrowP.rebase {GG:Nat → Prop} {w0 w:World} {b base base':Nat} (h:GrowP GG w0 w b base (.slice none 0 0) (.slice none 0 0) (.slice none 0 0) (.slice none 0 0) [] []) (h1:b < base') (h2:base' ≤ w.heap.size):GrowP GG w0 w b base' (.slice none 0 0) (.slice none 0 0) (.slice none 0 0) (.slice none 0 0) [] []:=
 ⟨h.ext,h.hb,h.low,h1,h2,⟨[],⟨rfl,.inl ⟨rfl,rfl⟩⟩,by simp [VRepsP]⟩,⟨rfl,.inl ⟨rfl,rfl⟩⟩⟩
theorem grow_keyP {GG:Nat → Prop} {w0 w:World} {g base:Nat} {sv kv:Value} {xs:List JV} {ks:List Str} {x:Str} {K:World → Prop} (G:GrowP GG w0 w g base sv kv sv kv xs ks) (hl:ks.length ≤ 1000000)
   (hK:∀ kv' w',GrowP GG w0 w' g base sv kv' sv kv' xs (ks ++ [x]) → Low g base w w' → K w') :
   bslW ST 1 [.string (ofL [])] [(0,1,str x)] w fun t w1=>semE Tryz.prog (Builtin.append_ #[38,38] 38 #[kv,t]) w1 fun t2 w2=>stW 1 (.pointer (some ⟨g,4,none⟩)) t2 w2 K:=by
 refine row_s fun t6 w6 ht6 hx6=>?_
 refine (G.more hx6).appk ht6 hl fun kv2 w7 G7 hb7=>?_
 refine G7.set (sv1:=sv) (kv1:=kv2) G7.one.2 (by omega) rfl fun w8 G8 hb8=>?_
 exact hK kv2 w8 G8 (low_set (low_step (Chg.of_ext hx6) hb7) hb8)
theorem grow_keyP' {GG:Nat → Prop} {w0 w:World} {g base:Nat} {sv kv:Value} {xs:List JV} {ks:List Str} {x:Str} {K:World → Prop} (G:GrowP GG w0 w g base sv kv sv kv xs ks) (hl:ks.length ≤ 1000000)
   (hK:∀ kv' w',GrowP GG w0 w' g base sv kv' sv kv' xs (ks ++ [x]) → Low g base w w' → K w') :
   bslW ST 1 [.string (ofL [])] [(0,1,str x)] w fun t w1=>(∃ v,cellO w1.heap[g]? 4 = some v ∧ v = kv) ∧ semE Tryz.prog (Builtin.append_ #[38,38] 38 #[kv,t]) w1 fun t2 w2=>stW 1 (.pointer (some ⟨g,4,none⟩)) t2 w2 K:=by
 refine row_s fun t6 w6 ht6 hx6=>⟨⟨kv,by rw [(G.more hx6).hb]; rfl,rfl⟩,?_⟩
 refine (G.more hx6).appk ht6 hl fun kv2 w7 G7 hb7=>?_
 refine G7.set (sv1:=sv) (kv1:=kv2) G7.one.2 (by omega) rfl fun w8 G8 hb8=>?_
 exact hK kv2 w8 G8 (low_set (low_step (Chg.of_ext hx6) hb7) hb8)
theorem grow_itemP {GG:Nat → Prop} {w0 w:World} {g base:Nat} {sv kv:Value} {xs:List JV} {ks:List Str} {x:JV} {cs:List Value} {K:World → Prop} (G:GrowP GG w0 w g base sv kv sv kv xs ks) (hx:VRepP GG w0 x cs) (hl:xs.length ≤ 1000000)
   (hK:∀ sv' w',GrowP GG w0 w' g base sv' kv sv' kv (xs ++ [x]) ks → Low g base w w' → K w') :
   bslW VT 1 [(.int .i64 0),(.bool false),(.string (ofL [])),(.slice none 0 0),(.slice none 0 0)] [(0,5,.agg cs.toArray)] w fun t w1=>semE Tryz.prog (Builtin.append_ #[37,37] 37 #[sv,t]) w1 fun t2 w2=>stW 1 (.pointer (some ⟨g,3,none⟩)) t2 w2 K:=by
 refine row_v hx.rep.len fun t6 w6 ht6 hx6=>?_
 refine (G.more hx6).appx ht6 hx hl fun sv2 w7 G7 hb7=>?_
 refine G7.set (sv1:=sv2) (kv1:=kv) G7.one.1 (by omega) rfl fun w8 G8 hb8=>?_
 exact hK sv2 w8 G8 (low_set (low_step (Chg.of_ext hx6) hb7) hb8)
theorem grow_itemP' {GG:Nat → Prop} {w0 w:World} {g base:Nat} {sv kv:Value} {xs:List JV} {ks:List Str} {x:JV} {cs:List Value} {K:World → Prop} (G:GrowP GG w0 w g base sv kv sv kv xs ks) (hx:VRepP GG w0 x cs) (hl:xs.length ≤ 1000000)
   (hK:∀ sv' w',GrowP GG w0 w' g base sv' kv sv' kv (xs ++ [x]) ks → Low g base w w' → K w') :
   bslW VT 1 [(.int .i64 0),(.bool false),(.string (ofL [])),(.slice none 0 0),(.slice none 0 0)] [(0,5,.agg cs.toArray)] w fun t w1=>(∃ v,cellO w1.heap[g]? 3 = some v ∧ v = sv) ∧ semE Tryz.prog (Builtin.append_ #[37,37] 37 #[sv,t]) w1 fun t2 w2=>stW 1 (.pointer (some ⟨g,3,none⟩)) t2 w2 K:=by
 refine row_v hx.rep.len fun t6 w6 ht6 hx6=>⟨⟨sv,by rw [(G.more hx6).hb]; rfl,rfl⟩,?_⟩
 refine (G.more hx6).appx ht6 hx hl fun sv2 w7 G7 hb7=>?_
 refine G7.set (sv1:=sv2) (kv1:=kv) G7.one.1 (by omega) rfl fun w8 G8 hb8=>?_
 exact hK sv2 w8 G8 (low_set (low_step (Chg.of_ext hx6) hb7) hb8)
theorem OwnVP.item_old {GG:Nat → Prop} {w0 w:World} {base:Nat} {v:JV} {sv kv:Value} {k:IntKind} {i:Nat} {x:JV} {K:Value → Prop} (h:OwnVP GG w0 w base v sv kv) (hi:v.xs[i]? = some x) (hK:∀ cs,VRepP GG w0 x cs → K (.agg cs.toArray)):ixaW none 5 sv (.int k i) fun p=>ldW true 5 p w K:=by
 obtain ⟨L,h1,h2⟩:=h.items
 obtain ⟨cs,hc,hg⟩:=h2.get hi
 refine ixa_at (size:=5) h1.sl h2.len (by omega) (List.getElem?_eq_some_iff.1 hi).1 fun b o c fr hb hcc=>?_
 exact ld_cells hb hc.rep.len (fun j hj=>(hcc j hj).trans (hg j hj)) (hK cs hc)
theorem drop_refP {GG:Nat → Prop} {v:JV} {cs:List Value} {k:Str} {w0 w:World} {K:Value → World → Prop} (h:VRepP GG w0 v cs) (h0:Ext w0 w) (he:v.k = 6) (hl:v.ks.length = v.xs.length) (hfew:v.ks.length ≤ 100000)
   (hK:∀ sv kv base w',Ext w w' → w.heap.size ≤ base → OwnVP GG w0 w' base (mkO (dropP (v.ks.zip v.xs) k)) sv kv → K (.agg [i64 6,.bool false,str [],sv,kv].toArray) w'):callF Tryz.prog 252 [.agg cs.toArray,str k] w K:=by
 refine W252_ok ?_
 unfold W252
 refine box_valiP h fun a w1 sv kv hba I hx ha hz1=>?_
 refine alloc_new fun b w2 hb hz2 hbb hx2=>?_
 have hB:=I.toI.box (h0.trans (hx.trans hx2)) (hx2.at hba id)
 have hB0:=I.toI.box (h0.trans hx) hba
 simp only [wsv,wsg,wsh,wsl,cond_true,cond_false,exists_eq_left',wsu,Nat.reduceAdd,Nat.reduceLT,Nat.lt_add_one,Nat.zero_lt_succ,decide_true,decide_false,ne_eq,reduceCtorEq,wsh,hB.hb,condW_dec]
 refine ⟨fun hne=>absurd he hne,fun _=>?_⟩
 · skip
   refine alloc_new fun g w3 hg hz3 hgg hx3=>?_
   refine st_agg_at (l:=[i64 6,.bool false,str [],.slice none 0 0,.slice none 0 0]) hgg rfl rfl rfl fun w4 hz4 hg4 hc4=>?_
   have hx14:Ext w w4:=(hx.trans (hx2.trans hx3)).new hc4 (by have:=hx.size; omega)
   have hsz:=hx.size
   have hx24:Ext w2 w4:=hx3.new hc4 (by omega)
   have hbb:=hx24.at hbb id
   have hB:=hB.ext hx24
   have hba4:=(hx2.trans hx24).at hba id
   have h00:=h0.size
   have G0:GrowP GG w0 w4 g (g + 1) (.slice none 0 0) (.slice none 0 0) (.slice none 0 0) (.slice none 0 0) [] []:=⟨h0.trans hx14,hg4,by omega,by omega,by omega,⟨[],⟨rfl,.inl ⟨rfl,rfl⟩⟩,by simp [VRepsP]⟩,⟨rfl,.inl ⟨rfl,rfl⟩⟩⟩
   simp only [wsv,wsg,wsh,wsl,cond_true,cond_false,exists_eq_left',wsu,Nat.reduceAdd,Nat.reduceLT,Nat.lt_add_one,Nat.zero_lt_succ,decide_true,decide_false,ne_eq,reduceCtorEq,wsh,hB.hb]
   rw [hB.lenk]
   refine loop_up v.ks.length (fun i w'=>∃ sv kv,GrowP GG w0 w' g (g + 1) sv kv sv kv ((dropP ((v.ks.zip v.xs).take i) k).map (·.2)) ((dropP ((v.ks.zip v.xs).take i) k).map (·.1)) ∧ Low g (g + 1) w4 w') ⟨_,_,G0,Chg.refl _ _⟩ ?_ ?_
   · rintro i w5 gg L hi ⟨sv1,kv1,G,lo⟩ hL
     have hB:=I.toI.box G.ext (low_get lo (by omega) (by omega) hba4)
     obtain ⟨u,hu⟩:∃ u,v.ks[i]? = some u:=⟨_,List.getElem?_eq_getElem hi⟩
     obtain ⟨x,hx'⟩:∃ x,v.xs[i]? = some x:=⟨_,List.getElem?_eq_getElem (by omega)⟩
     have hz:=zip_get hu hx'
     have hnx:=dropP_take (k:=k) hz
     have hcnt:(dropP ((v.ks.zip v.xs).take i) k).length ≤ 1000000:=by
       have h1:(dropP ((v.ks.zip v.xs).take i) k).length ≤ ((v.ks.zip v.xs).take i).length:=List.length_filter_le _ _
       rw [List.length_take] at h1
       omega
     have hlt:((i:Int) < (v.ks.length:Int)):=by omega
     simp only [wsv,wsg,wsh,wsl,cond_true,cond_false,exists_eq_left',wsu,Nat.reduceAdd,Nat.reduceLT,Nat.lt_add_one,Nat.zero_lt_succ,decide_true,decide_false,ne_eq,reduceCtorEq,wsh,hB.hb,hlt]
     refine JoinW.cut (fun s w'=>s = [] ∧ ∃ sv kv,GrowP GG w0 w' g (g + 1) sv kv sv kv ((dropP ((v.ks.zip v.xs).take (i + 1)) k).map (·.2)) ((dropP ((v.ks.zip v.xs).take (i + 1)) k).map (·.1)) ∧ Low g (g + 1) w4 w') ?_ ?_
     · refine hB.key hu ?_
       simp only [wsv,wsg,wsh,wsl,cond_true,cond_false,exists_eq_left',wsu,Nat.reduceAdd,Nat.reduceLT,Nat.lt_add_one,Nat.zero_lt_succ,decide_true,decide_false,ne_eq,reduceCtorEq,condW_dec]
       refine ⟨fun hne=>?_,fun he=>⟨sv1,kv1,?_,lo⟩⟩
       · have hne:u ≠ k:=by simpa using hne
         rw [if_neg hne] at hnx
         have hxd:Ext w5 w5.drew:=Chg.drew (Chg.refl (fun _=>False) w5)
         have Gd:=G.more hxd
         have hBd:=hB.ext hxd
         (try simp only [wsv,wsg,wsh,wsl,cond_true,cond_false,exists_eq_left',wsu,Nat.reduceAdd,Nat.reduceLT,Nat.lt_add_one,Nat.zero_lt_succ,decide_true,decide_false,ne_eq,reduceCtorEq,wsh,G.hb])
         refine ValB.key hBd hu ?_
         refine row_s fun t6 w6 ht6 hx6=>?_
         have lo:=low_ext (low_ext lo hxd) hx6
         have G:=Gd.more hx6
         (try simp only [wsv,wsg,wsh,wsl,cond_true,cond_false,exists_eq_left',wsu,Nat.reduceAdd,Nat.reduceLT,Nat.lt_add_one,Nat.zero_lt_succ,decide_true,decide_false,ne_eq,reduceCtorEq,wsh,G.hb])
         refine G.appk ht6 (by rw [List.length_map]; exact hcnt) fun kv2 w7 G7 hb7=>?_
         have lo:=low_step lo hb7
         refine G7.set (sv1:=sv1) (kv1:=kv2) G7.one.2 (by omega) rfl fun w8 G8 hb8=>?_
         have lo:=low_set lo hb8
         have hB8:=I.toI.box G8.ext (low_get lo (by omega) (by omega) hba4)
         (try simp only [wsv,wsg,wsh,wsl,cond_true,cond_false,exists_eq_left',wsu,Nat.reduceAdd,Nat.reduceLT,Nat.lt_add_one,Nat.zero_lt_succ,decide_true,decide_false,ne_eq,reduceCtorEq,wsh,G8.hb])
         have hxd8:Ext w8 w8.drew:=Chg.drew (Chg.refl (fun _=>False) w8)
         have G:=G8.more hxd8
         have lo:=low_ext lo hxd8
         (try simp only [wsv,wsg,wsh,wsl,cond_true,cond_false,exists_eq_left',wsu,Nat.reduceAdd,Nat.reduceLT,Nat.lt_add_one,Nat.zero_lt_succ,decide_true,decide_false,ne_eq,reduceCtorEq,wsh,hB8.hb])
         refine I.item_old G.ext hx' fun cs2 h2=>?_
         refine row_v h2.rep.len fun t9 w9 ht9 hx9=>?_
         have lo:=low_ext lo hx9
         have G:=G.more hx9
         (try simp only [wsv,wsg,wsh,wsl,cond_true,cond_false,exists_eq_left',wsu,Nat.reduceAdd,Nat.reduceLT,Nat.lt_add_one,Nat.zero_lt_succ,decide_true,decide_false,ne_eq,reduceCtorEq,wsh,G.hb])
         refine G.appx ht9 h2 (by rw [List.length_map]; exact hcnt) fun sv2 w10 G10 hb10=>?_
         have lo:=low_step lo hb10
         refine G10.set (sv1:=sv2) (kv1:=kv2) G10.one.1 (by omega) rfl fun w11 G11 hb11=>?_
         have lo:=low_set lo hb11
         refine ⟨sv2,kv2,?_,lo⟩
         rw [hnx,List.map_append,List.map_append]
         exact G11
       · have he:u = k:=by simpa using he
         rw [if_pos he] at hnx
         rw [hnx]; exact G
     · rintro s g' w6 ⟨rfl,sv2,kv2,G2,lo⟩
       rw [up1 (by omega)]
       exact hL w6 ⟨sv2,kv2,G2,lo⟩
   · rintro w5 gg L ⟨sv1,kv1,G,lo⟩
     rw [List.take_of_length_le (by rw [List.length_zip]; omega)] at G
     simp only [wsv,wsg,wsh,wsl,cond_true,cond_false,exists_eq_left',wsu,Nat.reduceAdd,Nat.reduceLT,Nat.lt_add_one,Nat.zero_lt_succ,decide_true,decide_false,ne_eq,reduceCtorEq,Int.lt_irrefl]
     have hcnt:(dropP (v.ks.zip v.xs) k).length ≤ 1000000:=by
       have h1:(dropP (v.ks.zip v.xs) k).length ≤ (v.ks.zip v.xs).length:=List.length_filter_le _ _
       rw [List.length_zip] at h1
       omega
     have hbb:=low_get lo (by omega) (by omega) hbb
     have hO:=G.own hcnt fun p hp=>I.fits.2.2.2 _ (List.of_mem_zip (List.mem_filter.1 hp).1).1
     refine ld_all G.hb rfl ?_
     have h1:=hO.one
     refine ret_agg hbb rfl rfl (obj_one h1.1 h1.2) fun w6 hc6=>?_
     exact hK _ _ (g + 1) w6 ((low_new hx14 (by omega) (by omega) lo).new hc6 (by omega)) (by omega) (hO.chg hc6 fun k hk _ e=>by omega)
theorem put_refP0 {GG:Nat → Prop} {v x:JV} {cs ds:List Value} {k:Str} {w0 w:World} {K:Value → World → Prop} (h:VRepP GG w0 v cs) (hd:VRepP GG w0 x ds) (h0:Ext w0 w) (hl:v.k = 6 → v.ks.length = v.xs.length) (hfew:v.ks.length ≤ 100000) (hk:k.length ≤ 9223372036854775807)
   (hK:∀ sv kv base w',Ext w w' → w.heap.size ≤ base → OwnVP GG w0 w' base (putM v k x) sv kv → K (.agg [i64 6,.bool false,str [],sv,kv].toArray) w'):callF Tryz.prog 233 [.agg cs.toArray,str k,.agg ds.toArray] w K:=by
 refine W233_ok ?_
 unfold W233
 refine box_valiP h fun a w1 sv kv hba I hx ha hz1=>?_
 refine box_valiP hd fun c w2 sv' kv' hbc Ix hx2 hc hz2=>?_
 refine alloc_new fun b w3 hb hz3 hbb hx3=>?_
 simp only [wsv,wsg,wsh,wsl,cond_true,cond_false,exists_eq_left',wsu,Nat.reduceAdd,Nat.reduceLT,Nat.lt_add_one,Nat.zero_lt_succ,decide_true,decide_false,ne_eq,reduceCtorEq]
 refine alloc_new fun g w4 hg hz4 hgg hx4=>?_
 refine st_agg_at (l:=[i64 6,.bool false,str [],.slice none 0 0,.slice none 0 0]) hgg rfl rfl rfl fun w5 hz5 hg5 hc5=>?_
 have hw5:Ext w w5:=(((hx.trans hx2).trans hx3).trans hx4).new hc5 (by omega)
 have hba5:=hc5.at (hx4.at (hx3.at (hx2.at hba id) id) id) (by omega)
 have hbc5:=hc5.at (hx4.at (hx3.at hbc id) id) (by omega)
 have hbb5:=hc5.at (hx4.at hbb id) (by omega)
 clear hgg hbb hbc hc5
 have h00:=h0.size
 have hxs:=hx.size
 have G0:GrowP GG w0 w5 g (g + 1) (.slice none 0 0) (.slice none 0 0) (.slice none 0 0) (.slice none 0 0) [] []:=⟨h0.trans hw5,hg5,by omega,by omega,by omega,⟨[],⟨rfl,.inl ⟨rfl,rfl⟩⟩,by simp [VRepsP]⟩,⟨rfl,.inl ⟨rfl,rfl⟩⟩⟩
 have hB:=I.toI.box (h0.trans hw5) hba5
 -- the one key more
 let P:List (Str × JV):=if v.k = 6 then dropP (v.ks.zip v.xs) k else []
 have hP:putM v k x = mkO (insP P k x):=by
   show putM v k x = mkO (insP (if v.k = 6 then dropP (v.ks.zip v.xs) k else []) k x)
   unfold putM; split <;> rfl
 have hPl:P.length ≤ 100000:=by
   show (if v.k = 6 then dropP (v.ks.zip v.xs) k else []).length ≤ 100000
   split
   · have h1:(dropP (v.ks.zip v.xs) k).length ≤ (v.ks.zip v.xs).length:=List.length_filter_le _ _
     rw [List.length_zip] at h1; omega
   · simp
 have hPk:∀ p ∈ P,p.1.length ≤ 9223372036854775807:=by
   intro p hp
   have hp:p ∈ (if v.k = 6 then dropP (v.ks.zip v.xs) k else []):=hp
   split at hp
   · exact I.fits.2.2.2 _ (List.of_mem_zip (List.mem_filter.1 hp).1).1
   · simp at hp
 rw [hP] at hK
 refine JoinW.cut (fun s w'=>∃ sv kv base,s = [.bool (putGo P k x P.length).2] ∧ b < base ∧ c < base ∧ GrowP GG w0 w' g base sv kv sv kv ((putGo P k x P.length).1.map (·.2)) ((putGo P k x P.length).1.map (·.1)) ∧ w'.heap[c]? = some (.cells [i64 x.k,.bool x.b,str x.t,sv',kv'].toArray VT (0,0)) ∧ w'.heap[b]? = some (.cells zv.toArray VT (0,0)) ∧ Ext w w') ?_ ?_
 · simp only [wsv,wsg,wsh,wsl,cond_true,cond_false,exists_eq_left',wsu,Nat.reduceAdd,Nat.reduceLT,Nat.lt_add_one,Nat.zero_lt_succ,decide_true,decide_false,ne_eq,reduceCtorEq,wsh,hB.hb,condW_dec]
   refine ⟨fun he=>?_,fun hne=>?_⟩
   · have hPe:P = dropP (v.ks.zip v.xs) k:=if_pos he
     refine ld_all hB.hb rfl ?_
     refine drop_refP (GG:=GG) (w0:=w0) (v:=v) (cs:=[i64 v.k,.bool v.b,str v.t,sv,kv]) ?_ (h0.trans hw5) he (hl he) hfew fun sw kw base0 w6 hx6 hbase0 hO=>?_
     · exact I.rep
     have hs6:=hx6.size
     rw [← hPe] at hO
     have hba6:=hx6.at hba5 id
     refine st_agg_at (l:=[i64 6,.bool false,str [],sw,kw]) hba6 rfl rfl (obj_one hO.one.1 hO.one.2) fun w7 hz7 hba7 hc7=>?_
     have hO:=hO.chg hc7 fun j hj _ e=>by omega
     have hbc7:=hc7.at (hx6.at hbc5 id) (by omega)
     have hbb7:=hc7.at (hx6.at hbb5 id) (by omega)
     have hw7:Ext w w7:=(hw5.trans hx6).new hc7 (by omega)
     have G7:=((G0.more hx6).chg hc7 (by omega) (by omega) (by omega)).rebase (base':=w7.heap.size) (by omega) (Nat.le_refl _)
     have hPx:(mkO P).xs = P.map (·.2):=rfl
     have hPks:(mkO P).ks = P.map (·.1):=rfl
     simp only [wsv,wsg,wsh,wsl,cond_true,cond_false,exists_eq_left',wsu,Nat.reduceAdd,Nat.reduceLT,Nat.lt_add_one,Nat.zero_lt_succ,decide_true,decide_false,ne_eq,reduceCtorEq,wsh,hba7]
     rw [lenl_at hO.keys.sl,hPks,List.length_map]
     refine ⟨fun s w'=>∃ i sv kv,i ≤ P.length ∧ s = [.bool (putGo P k x i).2,i64 (i:Nat)] ∧ GrowP GG w0 w' g w7.heap.size sv kv sv kv ((putGo P k x i).1.map (·.2)) ((putGo P k x i).1.map (·.1)) ∧ Low g w7.heap.size w7 w',fun s _=>match s with | [_,.int _ i]=>P.length - i.toNat | _=>0,⟨0,_,_,Nat.zero_le _,rfl,G7,Chg.refl _ _⟩,?_⟩
     rintro s gg w8 ⟨i,sv8,kv8,hi,rfl,G8,lo8⟩
     rcases Nat.lt_or_ge i P.length with hlt | hge
     · have hltI:((i:Int) < (P.length:Int)):=by omega
       have hlen8:=putGo_len P k x i
       obtain ⟨p,hp⟩:∃ p,P[i]? = some p:=⟨_,List.getElem?_eq_getElem hlt⟩
       have hstay:∀ {w9:World},Low g w7.heap.size w7 w9 → w9.heap[a]? = some (.cells [i64 6,.bool false,str [],sw,kw].toArray VT (0,0)) ∧ w9.heap[c]? = some (.cells [i64 x.k,.bool x.b,str x.t,sv',kv'].toArray VT (0,0)) ∧ OwnVP GG w0 w9 base0 (mkO P) sw kw:=fun lo=>
         ⟨low_get lo (by omega) (by omega) hba7,low_get lo (by omega) (by omega) hbc7,hO.chg lo fun k hk hk2 e=>by omega⟩
       obtain ⟨hba8,hbc8,hO8⟩:=hstay lo8
       have hkey:∀ {w9:World} {KK:Value → Prop},OwnVP GG w0 w9 base0 (mkO P) sw kw → KK (str p.1) → ixaW none 1 kw (.int .i64 i) fun q=>ldW false 1 q w9 KK:=fun h hk=>text_ld h.keys.sl (by rw [hPks]; simp [hp]) hk
       simp only [wsv,wsg,wsh,wsl,cond_true,cond_false,exists_eq_left',wsu,Nat.reduceAdd,Nat.reduceLT,Nat.lt_add_one,Nat.zero_lt_succ,decide_true,decide_false,ne_eq,reduceCtorEq,wsh,hltI,hba8]
       refine JoinW.cut (fun s w'=>∃ sv kv,s = [.bool (putGo P k x (i + 1)).2] ∧ GrowP GG w0 w' g w7.heap.size sv kv sv kv ((if (!(putGo P k x i).2 && Op.bytesLess k p.1) then (putGo P k x i).1 ++ [(k,x)] else (putGo P k x i).1).map (·.2)) ((if (!(putGo P k x i).2 && Op.bytesLess k p.1) then (putGo P k x i).1 ++ [(k,x)] else (putGo P k x i).1).map (·.1)) ∧ Low g w7.heap.size w7 w') ?_ ?_
       · refine GdW.look (Op.bytesLess k p.1) ?_ ?_
         · intro _ J hJ
           refine hkey hO8 ?_
           simp only [wsv,wsg,wsh,wsl,cond_true,cond_false,exists_eq_left',wsu,Nat.reduceAdd,Nat.reduceLT,Nat.lt_add_one,Nat.zero_lt_succ,decide_true,decide_false,ne_eq,reduceCtorEq]
           exact hJ
         · intro gd
           simp only [wsv,wsg,wsh,wsl,cond_true,cond_false,exists_eq_left',wsu,Nat.reduceAdd,Nat.reduceLT,Nat.lt_add_one,Nat.zero_lt_succ,decide_true,decide_false,ne_eq,reduceCtorEq,condW_b]
           refine ⟨fun hc=>?_,fun hc=>?_⟩
           · simp only [wsv,wsg,wsh,wsl,cond_true,cond_false,exists_eq_left',wsu,Nat.reduceAdd,Nat.reduceLT,Nat.lt_add_one,Nat.zero_lt_succ,decide_true,decide_false,ne_eq,reduceCtorEq,wsh,G8.hb]
             rw [if_pos hc]
             refine grow_keyP G8 (by rw [List.length_map]; omega) fun kv9 w9 G9 lo9=>?_
             obtain ⟨hba9,hbc9,hO9⟩:=hstay (lo8.trans lo9)
             simp only [wsv,wsg,wsh,wsl,cond_true,cond_false,exists_eq_left',wsu,Nat.reduceAdd,Nat.reduceLT,Nat.lt_add_one,Nat.zero_lt_succ,decide_true,decide_false,ne_eq,reduceCtorEq,wsh,G9.hb]
             refine ld_all hbc9 rfl ?_
             refine grow_itemP G9 (?_:VRepP GG w0 x _) (by rw [List.length_map]; omega) fun sv10 w10 G10 lo10=>?_
             · exact Ix.rep
             refine ⟨sv10,kv9,?_,?_,(lo8.trans lo9).trans lo10⟩
             · simp only [putGo,hp,hc,if_true]
             · rw [List.map_append,List.map_append]; exact G10
           · rw [if_neg (by rw [hc]; simp)]
             refine ⟨sv8,kv8,?_,G8,lo8⟩
             simp only [putGo,hp,hc,Bool.false_eq_true,if_false]
       · rintro s gd w9 ⟨sv9,kv9,rfl,G9,lo9⟩
         have hxd:Ext w9 w9.drew:=Chg.drew (Chg.refl (fun _=>False) w9)
         obtain ⟨hba9,hbc9,hO9⟩:=hstay lo9
         obtain ⟨_,_,hO9d⟩:=hstay (low_ext lo9 hxd)
         have hl9:(if (!(putGo P k x i).2 && Op.bytesLess k p.1) then (putGo P k x i).1 ++ [(k,x)] else (putGo P k x i).1).length ≤ 2 * i + 1:=by split <;> (first | omega | (simp; omega))
         simp only [wsv,wsg,wsh,wsl,cond_true,cond_false,exists_eq_left',wsu,Nat.reduceAdd,Nat.reduceLT,Nat.lt_add_one,Nat.zero_lt_succ,decide_true,decide_false,ne_eq,reduceCtorEq,wsh,G9.hb,hba9]
         refine hkey hO9d ?_
         refine grow_keyP' (G9.more hxd) (by rw [List.length_map]; omega) fun kv10 w10 G10 lo10=>?_
         have lo10:=(low_ext lo9 hxd).trans lo10
         obtain ⟨hba10,hbc10,hO10⟩:=hstay lo10
         have hxd10:Ext w10 w10.drew:=Chg.drew (Chg.refl (fun _=>False) w10)
         obtain ⟨_,_,hO10d⟩:=hstay (low_ext lo10 hxd10)
         simp only [wsv,wsg,wsh,wsl,cond_true,cond_false,exists_eq_left',wsu,Nat.reduceAdd,Nat.reduceLT,Nat.lt_add_one,Nat.zero_lt_succ,decide_true,decide_false,ne_eq,reduceCtorEq,wsh,G10.hb,hba10]
         refine hO10d.item_old (by rw [hPx]; simp only [List.getElem?_map,hp]; rfl) fun cs2 h2=>?_
         refine grow_itemP' (G10.more hxd10) h2 (by rw [List.length_map]; omega) fun sv11 w11 G11 lo11=>?_
         rw [up1 (by omega)]
         refine ⟨⟨i + 1,sv11,kv10,hlt,rfl,?_,(low_ext lo10 hxd10).trans lo11⟩,by simp only [Int.toNat_natCast]; omega⟩
         have e:(putGo P k x (i + 1)).1 = (if (!(putGo P k x i).2 && Op.bytesLess k p.1) then (putGo P k x i).1 ++ [(k,x)] else (putGo P k x i).1) ++ [p]:=by
           simp only [putGo,hp]; split <;> rfl
         rw [e,List.map_append,List.map_append]
         exact G11
     · obtain rfl:i = P.length:=by omega
       simp only [wsv,wsg,wsh,wsl,cond_true,cond_false,exists_eq_left',wsu,Nat.reduceAdd,Nat.reduceLT,Nat.lt_add_one,Nat.zero_lt_succ,decide_true,decide_false,ne_eq,reduceCtorEq,Int.lt_irrefl]
       exact ⟨sv8,kv8,w7.heap.size,by omega,by omega,G8,low_get lo8 (by omega) (by omega) hbc7,low_get lo8 (by omega) (by omega) hbb7,low_new hw7 (by omega) (by have:=hw7.size; omega) lo8⟩
   · have hPe:P = []:=if_neg hne
     rw [hPe]
     exact ⟨_,_,g + 1,rfl,by omega,by omega,G0,hbc5,hbb5,hw5⟩
 · rintro s g' w6 ⟨sv6,kv6,base,rfl,hbb0,hcc0,G6,hbc6,hbb6,hw6⟩
   have hlen:=putGo_len P k x P.length
   have hins:∀ p ∈ insP P k x,p.1.length ≤ 9223372036854775807:=by
     intro p hp
     rw [putGo_end] at hp
     have hgo:∀ i,∀ p ∈ (putGo P k x i).1,p.1.length ≤ 9223372036854775807:=by
       intro i
       induction i with
       | zero=>intro p hp; simp [putGo] at hp
       | succ i ih=>
         intro p hp
         simp only [putGo] at hp
         split at hp
         · exact ih p hp
         · rename_i q hq
           have hq':=hPk q (List.mem_of_getElem? hq)
           split at hp <;> simp only [List.mem_append,List.mem_cons,List.not_mem_nil,or_false] at hp
           · rcases hp with (hp | rfl) | rfl
             · exact ih p hp
             · exact hk
             · exact hq'
           · rcases hp with hp | rfl
             · exact ih p hp
             · exact hq'
     split at hp
     · exact hgo _ p hp
     · rcases List.mem_append.1 hp with hp | hp
       · exact hgo _ p hp
       · rw [List.mem_singleton.1 hp]; exact hk
   have hil:(insP P k x).length ≤ 1000000:=by rw [putGo_end]; split <;> (first | omega | (simp; omega))
   refine JoinW.cut (fun s w'=>∃ sv kv,s = [] ∧ GrowP GG w0 w' g base sv kv sv kv ((insP P k x).map (·.2)) ((insP P k x).map (·.1)) ∧ w'.heap[b]? = some (.cells zv.toArray VT (0,0)) ∧ Ext w w') ?_ ?_
   · simp only [wsv,wsg,wsh,wsl,cond_true,cond_false,exists_eq_left',wsu,Nat.reduceAdd,Nat.reduceLT,Nat.lt_add_one,Nat.zero_lt_succ,decide_true,decide_false,ne_eq,reduceCtorEq,condW_b]
     refine ⟨fun hn=>?_,fun hy=>?_⟩
     · have hn:(putGo P k x P.length).2 = false:=by simpa using hn
       rw [putGo_end,if_neg (by rw [hn]; simp),List.map_append,List.map_append]
       simp only [wsv,wsg,wsh,wsl,cond_true,cond_false,exists_eq_left',wsu,Nat.reduceAdd,Nat.reduceLT,Nat.lt_add_one,Nat.zero_lt_succ,decide_true,decide_false,ne_eq,reduceCtorEq,wsh,G6.hb]
       refine grow_keyP G6 (by rw [List.length_map]; omega) fun kv9 w9 G9 lo9=>?_
       have hbc9:=low_get lo9 hcc0 (by omega) hbc6
       simp only [wsv,wsg,wsh,wsl,cond_true,cond_false,exists_eq_left',wsu,Nat.reduceAdd,Nat.reduceLT,Nat.lt_add_one,Nat.zero_lt_succ,decide_true,decide_false,ne_eq,reduceCtorEq,wsh,G9.hb]
       refine ld_all hbc9 rfl ?_
       refine grow_itemP G9 (?_:VRepP GG w0 x _) (by rw [List.length_map]; omega) fun sv10 w10 G10 lo10=>?_
       · exact Ix.rep
       exact ⟨sv10,kv9,G10,low_get (lo9.trans lo10) hbb0 (by omega) hbb6,low_new hw6 (by omega) (by omega) (lo9.trans lo10)⟩
     · have hy:(putGo P k x P.length).2 = true:=by simpa using hy
       rw [putGo_end,if_pos hy]
       exact ⟨sv6,kv6,G6,hbb6,hw6⟩
   · rintro s gd w9 ⟨sv9,kv9,rfl,G9,hbb9,hw9⟩
     have hO:=G9.own hil hins
     refine ld_all G9.hb rfl ?_
     refine ret_agg hbb9 rfl rfl (obj_one hO.one.1 hO.one.2) fun w10 hc10=>?_
     have hsz:=hx.size
     exact hK _ _ base w10 (hw9.new hc10 (by omega)) (by omega) (hO.chg hc10 fun k hk _ e=>by omega)
theorem put_refP {v x:JV} {cs ds:List Value} {k:Str} {B:Nat} {w:World} {K:Value → World → Prop} (h:VRepP (From B) w v cs) (hd:VRepP (From B) w x ds) (hB:B ≤ w.heap.size) (hl:v.k = 6 → v.ks.length = v.xs.length) (hfew:v.ks.length ≤ 100000) (hk:k.length ≤ 9223372036854775807)
   (hK:∀ cs' w',Ext w w' → VRepP (From B) w' (putM v k x) cs' → K (.agg cs'.toArray) w'):callF Tryz.prog 233 [.agg cs.toArray,str k,.agg ds.toArray] w K:=by
 refine put_refP0 h hd (Chg.refl _ _) hl hfew hk fun sv kv base w' hx hb hO=>?_
 refine hK _ w' hx ?_
 obtain ⟨L,h1,h2⟩:=hO.items
 have e:∃ l,putM v k x = mkO l:=by unfold putM; split <;> exact ⟨_,rfl⟩
 obtain ⟨l,e⟩:=e
 rw [e] at h1 h2 hO ⊢
 exact VRepP.mk (v:=mkO l) h1.sl (VRepsP.chg hx (fun _ _ _ e=>e) h2) hO.keys.sl hO.fits (fun _ q hq=>by have:=(own_in h1 hq).1; show B ≤ q; omega) (fun _ q hq=>by have:=(own_in hO.keys hq).1; show B ≤ q; omega)
end
end Go.Proofs.YtnoepcndjljolaaGreatDoor
namespace Go.Proofs.YtnoepcndjljolaaGreatDoor
open Go Go.Eng Go.RowKit
set_option maxRecDepth 100000
def OutR (s:Str) (r:RR JV) (w:World) (v:Value) (w':World):Prop:=
 Ext w w' ∧ ∃ x cs j c e a,v = .tuple #[.agg (SS s j c e a).toArray,.agg cs.toArray] ∧ VRepP (From w.heap.size) w' x cs ∧ j ≤ s.length ∧ ((e = 0 ∧ a = 0 ∧ r = .ok x j c) ∨ (e ≠ 0 ∧ ∃ k:Nat,a = (k:Int) ∧ r = .bad e k))
theorem OutR.good {s:Str} {r:RR JV} {w w':World} {x:JV} {cs:List Value} {j c:Nat} (hr:r = .ok x j c) (hx:Ext w w') (h:VRepP (From w.heap.size) w' x cs) (hj:j ≤ s.length):OutR s r w (.tuple #[.agg (SS s j c 0 0).toArray,.agg cs.toArray]) w':=
 ⟨hx,x,cs,j,c,0,0,rfl,h,hj,.inl ⟨rfl,rfl,hr⟩⟩
theorem OutR.bad {s:Str} {r:RR JV} {w w':World} {x:JV} {cs:List Value} {j c k:Nat} {e:Int} (hr:r = .bad e k) (he:e ≠ 0) (hx:Ext w w') (h:VRepP (From w.heap.size) w' x cs) (hj:j ≤ s.length):OutR s r w (.tuple #[.agg (SS s j c e (k:Nat)).toArray,.agg cs.toArray]) w':=
 ⟨hx,x,cs,j,c,e,k,rfl,h,hj,.inr ⟨he,k,rfl,hr⟩⟩
def celE (w:World) (p:Nat):Int:=match w.heap[p]? with | some (.cells cc _ _)=>(match (cc[3]?:Option Value) with | some (Value.int _ i)=>i | _=>0) | _=>0
theorem Cel.e_ {w:World} {p i c:Nat} {e a:Int} {s:Str} (h:Cel w p s i c e a):celE w p = e:=by
 unfold Cel at h
 unfold celE
 rw [h]
 simp
def celM (s:Str) (p:Nat) (w:World):Nat:=if celE w p = 0 then s.length + 2 - celAt w p else 0
theorem ret_three {w:World} {b6 b7 b8 p i c:Nat} {e a:Int} {s:Str} {cs:List Value} {K:Value → World → Prop} (h:Cel w p s i c e a) (h6:w.heap[b6]? = some (.cells zs.toArray StT (0,0))) (h7:w.heap[b7]? = some (.cells zv.toArray VT (0,0))) (h8:w.heap[b8]? = some (.cells cs.toArray VT (0,0))) (hcs:cs.length = 5) (hc1:cs.all one1 = true) (h67:b6 ≠ b7) (h68:b8 ≠ b6)
   (hK:∀ w',Chg (fun k=>k = b6 ∨ k = b7) w w' → K (.tuple #[.agg (SS s i c e a).toArray,.agg cs.toArray]) w') :
   ldW true 5 (.pointer (some ⟨p,0,none⟩)) w.drew fun t30=>ldW true 5 (.pointer (some ⟨b8,0,none⟩)) w.drew fun t31=>stW 5 (.pointer (some ⟨b6,0,none⟩)) t30 w.drew fun w15=>(ldW true 5 (.pointer (some ⟨b8,0,none⟩)) w15 fun x=>x = t31) ∧ stW 5 (.pointer (some ⟨b7,0,none⟩)) t31 w15 fun w16=>ldW true 5 (.pointer (some ⟨b6,0,none⟩)) w16 fun r17=>ldW true 5 (.pointer (some ⟨b7,0,none⟩)) w16 fun r18=>K (.tuple #[r17,r18]) w16:=by
 have hxd:Ext w w.drew:=Chg.drew (Chg.refl (fun _=>False) w)
 refine h.drew.all ?_
 have h8d:w.drew.heap[b8]? = some (.cells cs.toArray VT (0,0)):=h8
 refine ld_all h8d hcs ?_
 have h6d:w.drew.heap[b6]? = some (.cells zs.toArray StT (0,0)):=h6
 refine st_agg_at h6d rfl rfl rfl fun w1 _ hb1 hc1'=>?_
 refine ⟨ld_all (hc1'.at h8d h68) hcs rfl,?_⟩
 have h7d:w1.heap[b7]? = some (.cells zv.toArray VT (0,0)):=hc1'.at (show w.drew.heap[b7]? = _ from h7) (fun e=>h67 e.symm)
 refine st_agg_at h7d hcs rfl hc1 fun w2 _ hb2 hc2=>?_
 refine ld_all (hc2.at hb1 h67) rfl ?_
 refine ld_all hb2 hcs ?_
 exact hK w2 ((Chg.of_ext hxd).trans ((hc1'.mono fun k _ e=>.inl e).trans (hc2.mono fun k _ e=>.inr e)))
section
variable [HX]
theorem callF_mono {P:Program} {g:FuncId} {az:List Value} {w:World} {K K':Value → World → Prop} (h:callF P g az w K) (hk:∀ v w,K v w → K' v w):callF P g az w K':=Res.mono hk h
def VPR (n:Nat):Prop:=∀ {deep i c:Nat} {s:Str} {w:World},i ≤ s.length → s.length ≤ 65536 → c ≤ 2000 → deep ≤ 25 → 2 * (2000 - c) + 1 ≤ n →
 callF Tryz.prog 150 [.agg (SS s i c 0 0).toArray,i64 (deep:Nat)] w (OutR s (valM En s n deep i c) w)
theorem value_err {deep i c k:Nat} {e:Int} {s:Str} {w:World} (he:e ≠ 0) (hi:i ≤ s.length) (hs:s.length ≤ 1000000) :
   callF Tryz.prog 150 [.agg (SS s i c e (k:Nat)).toArray,i64 (deep:Nat)] w (OutR s (.bad e k) w):=by
 refine W150_ok ?_
 unfold W150
 refine cel_box fun p w1 hp h1 hx1=>?_
 refine alloc_new fun b4 w2 hb4 hz2 hbb4 hx2=>?_
 refine alloc_new fun b5 w3 hb5 hz3 hbb5 hx3=>?_
 have h3:=(h1.ext hx2).ext hx3
 have hbb4:=hx3.at hbb4 id
 have hlt:=h1.lt
 have hx03:Ext w w3:=(hx1.trans hx2).trans hx3
 refine h3.all ?_
 refine blanks_ref hi hs fun w4 hx4=>?_
 refine (h3.ext hx4).st fun w5 h5 hc5 _=>?_
 refine h5.ld rfl ?_
 rw [bin_neq,decide_eq_true he,condW_true]
 refine h5.all ?_
 rw [put_nil]
 refine ret_two (hc5.at (hx4.at hbb4 id) fun e=>by have e:b4 = p:=e; omega) rfl (hc5.at (hx4.at hbb5 id) fun e=>by have e:b5 = p:=e; omega) rfl (by omega) rfl rfl rfl rfl fun w6 hc6=>?_
 refine OutR.bad (x:=JV.null) rfl he ?_ (null_rep _ _) (blank_le hi)
 exact ((hx03.trans hx4).new hc5 (by omega)).then hc6 fun k hk e=>by have:=hx1.size; omega
theorem manyL_ref {n deep i c:Nat} {s:Str} {w:World} (ih:∀ m,m ≤ n → VPR m) (hi:i < s.length) (hs:s.length ≤ 65536) (hc:c ≤ 2000) (hdeep:deep ≤ 24) (hn:2 * (2000 - c) + 2 ≤ n) :
   callF Tryz.prog 204 [.agg (SS s i c 0 0).toArray,i64 (deep:Nat),.bool false] w
     (OutR s (if byteM s (blankM s (i + 1)) = 93 then .ok (.mk 5 false [] [] []) (blankM s (i + 1) + 1) c else listM En s n deep (blankM s (i + 1)) c []) w):=by
 refine W204_ok ?_
 unfold W204
 refine cel_box fun p w1 hp h1 hx1=>?_
 refine alloc_new fun b6 w2 hb6 hz2 hbb6 hx2=>?_
 refine alloc_new fun b7 w3 hb7 hz3 hbb7 hx3=>?_
 rw [put_int]
 refine ⟨by simp,?_⟩
 rw [put_nil]
 simp only [List.set_cons_zero]
 refine alloc_new fun b8 w4 hb8 hz4 hbb8 hx4=>?_
 refine st_agg_at (l:=[i64 5,.bool false,str [],.slice none 0 0,.slice none 0 0]) hbb8 rfl rfl rfl fun w5 hz5 hb8_5 hc5=>?_
 have h4:=((h1.ext hx2).ext hx3).ext hx4
 have hlt:=h1.lt
 have h5:=h4.chg hc5 (by omega)
 have hb6_5:=hc5.at (hx4.at (hx3.at hbb6 id) id) (by omega)
 have hb7_5:=hc5.at (hx4.at hbb7 id) (by omega)
 have hx05:Ext w w5:=(((hx1.trans hx2).trans hx3).trans hx4).new hc5 (by omega)
 refine JoinW.cut (fun st w'=>st = [i64 93] ∧ w' = w5) ?_ ?_
 · rw [condW_false]
   exact ⟨rfl,rfl⟩
 rintro st g w6 ⟨rfl,rfl⟩
 simp only [List.getD_cons_zero]
 refine h5.go (k:=1) (by omega) fun w7 h7 hc7 hz7=>?_
 refine h7.all ?_
 refine blanks_ref (by omega) (by omega) fun w8 hx8=>?_
 have hble:blankM s (i + 1) ≤ s.length:=blank_le (by omega)
 refine (h7.ext hx8).st fun w9 h9 hc9 hz9=>?_
 refine h9.all ?_
 refine c_ref fun w10 hx10=>?_
 have h10:=h9.ext hx10
 have hcc:Chg (Cr p) w6 w10:=((hc7.trans (Chg.of_ext hx8)).trans hc9).then hx10 fun _ _ e=>e.elim
 have hb6_10:=hcc.at hb6_5 fun e=>by have e:b6 = p:=e; omega
 have hb7_10:=hcc.at hb7_5 fun e=>by have e:b7 = p:=e; omega
 have hb8_10:=hcc.at hb8_5 fun e=>by have e:b8 = p:=e; omega
 have hx010:Ext w w10:=hx05.new hcc (by omega)
 generalize hj0:blankM s (i + 1) = j0 at *
 have hB5:w6.heap.size ≤ w10.heap.size:=hcc.size
 generalize hBB:w6.heap.size = B at *
 have hpB:p < B ∧ b6 < B ∧ b7 < B ∧ b8 < B ∧ w.heap.size ≤ B:=by omega
 obtain ⟨hpB,h6B,h7B,h8B,hwB⟩:=hpB
 rw [bin_eql,condW_dec]
 refine ⟨fun e=>?_,fun e=>?_⟩
 · rw [if_pos e]
   have:=byte_lt (s:=s) (i:=j0) (by omega)
   refine h10.go (k:=1) (by omega) fun w11 h11 hc11 _=>?_
   refine ret_three h11 (hc11.at hb6_10 fun e=>by have e:b6 = p:=e; omega) (hc11.at hb7_10 fun e=>by have e:b7 = p:=e; omega) (hc11.at hb8_10 fun e=>by have e:b8 = p:=e; omega) rfl rfl (by omega) (by omega) fun w12 hc12=>?_
   refine OutR.good rfl ((hx010.new hc11 (by omega)).then hc12 fun k hk e=>by omega) ?_ (by omega)
   exact leaf_rep (by simp)
 rw [if_neg e]
 generalize hR:listM En s n deep j0 c [] = R
 refine LoopW.go (fun st w'=>st = [] ∧ ∃ m j c' acc sv L e a,Cel w' p s j c' e a ∧ Ext w w' ∧ B ≤ w'.heap.size ∧ w'.heap[b6]? = some (.cells zs.toArray StT (0,0)) ∧ w'.heap[b7]? = some (.cells zv.toArray VT (0,0)) ∧ w'.heap[b8]? = some (.cells [i64 5,.bool false,str [],sv,.slice none 0 0].toArray VT (0,0)) ∧
     Own w' B VT 5 sv acc.length L ∧ VRepsP (fun q=>B ≤ q ∧ sv.ownBlock ≠ some q) w' acc L ∧ j ≤ s.length ∧ acc.length ≤ 2001 ∧
     ((e = 0 ∧ a = 0 ∧ m ≤ n ∧ 2 * (2000 - c') + 2 ≤ m ∧ c' ≤ 2000 ∧ acc.length ≤ c' ∧ listM En s m deep j c' acc = R) ∨ (e ≠ 0 ∧ ∃ k:Nat,a = (k:Int) ∧ R = .bad e k))) (fun _ w'=>celM s p w')
   ⟨rfl,n,j0,c,[],.slice none 0 0,[],0,0,h10,hx010,hB5,hb6_10,hb7_10,hb8_10,⟨by simp,.inl ⟨rfl,rfl⟩⟩,by simp [VRepsP],hble,by simp,.inl ⟨rfl,rfl,Nat.le_refl _,hn,hc,Nat.zero_le _,hR⟩⟩ ?_
 rintro st g w11 ⟨rfl,m,j,c',acc,sv,L,e,a,h11,hx11,hB11,hb6',hb7',hb8',hO,hRp,hj,hal,hd⟩
 -- handed back with nothing
 have none_:∀ {w':World} {j2 c2:Nat} {e2:Int} {k:Nat} {l:List Value},l = SS s j2 c2 e2 (k:Nat) → R = .bad e2 k → e2 ≠ 0 → j2 ≤ s.length → Ext w w' → B ≤ w'.heap.size → w'.heap[b6]? = some (.cells zs.toArray StT (0,0)) → w'.heap[b7]? = some (.cells zv.toArray VT (0,0)) →
     putW [(.int .i64 0),(.bool false),(.string (ofL [])),(.slice none 0 0),(.slice none 0 0)] [] fun c82=>stW 5 (.pointer (some ⟨b6,0,none⟩)) (.agg l.toArray) w' fun w83=>stW 5 (.pointer (some ⟨b7,0,none⟩)) (.agg c82.toArray) w83 fun w84=>ldW true 5 (.pointer (some ⟨b6,0,none⟩)) w84 fun r85=>ldW true 5 (.pointer (some ⟨b7,0,none⟩)) w84 fun r86=>OutR s R w (.tuple #[r85,r86]) w84:=fun {w' j2 c2 e2 k l} hl hbad he hj2 hx hBw h6 h7=>by
   subst hl
   rw [put_nil]
   refine ret_two h6 rfl h7 rfl (by omega) rfl rfl rfl rfl fun w2 hc2=>?_
   exact OutR.bad (x:=JV.null) hbad he (hx.then hc2 fun q hq e=>by omega) (null_rep _ _) hj2
 refine h11.ld rfl ?_
 rw [bin_eql,condW_dec]
 rcases hd with ⟨rfl,rfl,hmn,hm,hc2,hacc,heq⟩ | ⟨he,k,rfl,hbad⟩
 case inr=>
   refine ⟨fun e0=>absurd e0 he,fun _=>?_⟩
   refine h11.all ?_
   exact none_ rfl hbad he hj hx11 hB11 hb6' hb7'
 refine ⟨fun _=>?_,fun e0=>absurd rfl e0⟩
 obtain ⟨m,rfl⟩:∃ m',m = m' + 1:=⟨m - 1,by omega⟩
 rw [listM] at heq
 refine JoinW.cut (fun st w'=>st = [str []] ∧ w' = w11) ?_ ?_
 · rw [condW_false]
   exact ⟨rfl,rfl⟩
 rintro st g2 w12 ⟨rfl,rfl⟩
 rw [put_nil]
 refine alloc_new fun b12 w13 hb12 hz13 hbb12 hx13=>?_
 refine st_agg_at (l:=zv) hbb12 rfl rfl rfl fun w14 hz14 hb12_14 hc14=>?_
 have hx14:Ext w12 w14:=hx13.new hc14 (by omega)
 have h14:=h11.ext hx14
 refine h14.all ?_
 rw [bin_add,up1 (by omega)]
 refine callF_mono (ih m (by omega) hj hs hc2 (by omega) (by omega)) ?_
 rintro v15 w15 ⟨hx15,x,cs,j1,c1,e1,a1,rfl,hr15,hj1,hd1⟩
 simp only [ext_tuple]
 refine ⟨_,rfl,_,rfl,?_⟩
 have hx1215:=hx14.trans hx15
 refine (h14.ext hx15).st fun w16 h16 hc16 hz16=>?_
 have hlt12:w12.heap.size ≤ b12:=by omega
 have hb12_15:=hx15.at hb12_14 id
 have hltb:b12 < w14.heap.size:=at_lt hb12_14
 refine st_agg_at (hc16.at hb12_15 fun e=>by have e:b12 = p:=e; omega) hr15.rep.len rfl hr15.rep.all_one fun w17 hz17 hb12_17 hc17=>?_
 have hcc17:Chg (fun k=>k = p ∨ k = b12) w15 w17:=(hc16.mono fun k _ e=>.inl e).trans (hc17.mono fun k _ e=>.inr e)
 have h17:Cel w17 p s j1 c1 e1 a1:=h16.chg hc17 (by omega)
 have s15:=hx15.size
 have s1217:w12.heap.size ≤ w17.heap.size:=by have:=hx1215.size; have:=hcc17.size; omega
 have hr17:VRepP (From w14.heap.size) w17 x cs:=VRepP.chg hcc17 (fun q hq _ e=>by have:w14.heap.size ≤ q:=hq; omega) hr15
 have keepb:∀ {q:Nat} {o:Obj},q < B → q ≠ p → w12.heap[q]? = some o → w17.heap[q]? = some o:=fun hq hqp hb=>hcc17.at (hx1215.at hb id) (by omega)
 have hb6_17:=keepb h6B (by omega) hb6'
 have hb7_17:=keepb h7B (by omega) hb7'
 have hb8_17:=keepb h8B (by omega) hb8'
 have hglt:∀ k,sv.ownBlock = some k → B ≤ k ∧ k < w12.heap.size:=fun k hk=>⟨(own_in hO hk).1,(own_in hO hk).2.1⟩
 have hO17:Own w17 B VT 5 sv acc.length L:=own_chg (own_chg hO hx1215 fun _ _ e=>e) hcc17 fun q hq e=>by have:=hglt q hq; omega
 have hR17:VRepsP (fun q=>(B ≤ q ∧ sv.ownBlock ≠ some q) ∧ q < w12.heap.size) w17 acc L:=VRepsP.chg hcc17 (fun q hq _ e=>by have:=hq.1.1; have:=hq.2; omega) (VRepsP.chg hx1215 (fun _ _ _ e=>e) (hRp.mono fun q hlt hq=>⟨hq,hlt⟩))
 have hx17:Ext w w17:=(hx11.trans hx1215).then hcc17 fun k hk e=>by omega
 -- the item goes behind the others
 refine JoinW.cut (fun st w'=>st = [] ∧ ∃ sv' L',Cel w' p s j1 c1 e1 a1 ∧ Ext w w' ∧ B ≤ w'.heap.size ∧ w'.heap[b6]? = some (.cells zs.toArray StT (0,0)) ∧ w'.heap[b7]? = some (.cells zv.toArray VT (0,0)) ∧ w'.heap[b8]? = some (.cells [i64 5,.bool false,str [],sv',.slice none 0 0].toArray VT (0,0)) ∧
     Own w' B VT 5 sv' (acc ++ [x]).length L' ∧ VRepsP (fun q=>B ≤ q ∧ sv'.ownBlock ≠ some q) w' (acc ++ [x]) L') ?_ ?_
 · rw [condW_false,fld_ptr,add_mk,ld_one]
   refine ⟨sv,by rw [cell_eq,hb8_17]; rfl,?_⟩
   refine ld_all hb12_17 hr15.rep.len ?_
   refine row_v hr15.rep.len fun t w18 ht hx18=>?_
   have hO18:=own_chg hO17 hx18 fun _ _ e=>e
   have s18:=hx18.size
   refine append_own3 elem_v hO18 ht (m:=1) (by rw [hr15.rep.len]) hr15.rep.one (by omega) (by omega) (by omega) fun sv' w19 hO19 hc19 hb19=>?_
   have hown:∀ k,sv.ownBlock = some k → B ≤ k:=fun k hk=>(hglt k hk).1
   have hb8_19:=hc19.at (hx18.at hb8_17 id) fun e=>by have:=hown _ e; omega
   rw [fld_ptr,add_mk]
   refine st_at hb8_19 (own_one hO19) (by simp) fun w20 hz20 hb8_20 hc20=>?_
   have hb8_20:w20.heap[b8]? = some (.cells [i64 5,.bool false,str [],sv',.slice none 0 0].toArray VT (0,0)):=by rw [hb8_20]; simp
   have hlenx:(acc ++ [x]).length = acc.length + 1:=by simp
   have sv'lo:∀ q,sv'.ownBlock = some q → B ≤ q:=fun q hq=>(own_in hO19 hq).1
   have hO20:=own_chg hO19 hc20 fun q hq e=>by have:=sv'lo q hq; have e:q = b8:=e; omega
   have s19:=hc19.size
   have hall:VRepsP (fun q=>(B ≤ q ∧ sv.ownBlock ≠ some q) ∧ q < w18.heap.size) w18 (acc ++ [x]) (L ++ cs):=
     VRepsP.snoc (VRepsP.chg hx18 (fun _ _ _ e=>e) (hR17.mono fun q hlt hq=>⟨hq.1,by omega⟩)) ((VRepP.chg hx18 (fun _ _ _ e=>e) hr17).mono fun q hlt hq=>⟨⟨by have:w14.heap.size ≤ q:=hq; have:=hx14.size; omega,fun e=>by have:=(hglt q e).2; have:w14.heap.size ≤ q:=hq; have:=hx14.size; omega⟩,hlt⟩)
   have hall2:=VRepsP.chg hc20 (fun q hq _ e=>by have:=hq.1.1; omega) (VRepsP.chg hc19 (fun q hq _ e=>hq.1.2 e) hall)
   refine ⟨rfl,sv',L ++ cs,(h17.ext hx18 |>.chg hc19 fun e=>by have:=hown _ e; omega).chg hc20 (by omega),?_,by have:=hc20.size; omega,hc20.at (hc19.at (hx18.at hb6_17 id) fun e=>by have:=hown _ e; omega) (by omega),hc20.at (hc19.at (hx18.at hb7_17 id) fun e=>by have:=hown _ e; omega) (by omega),hb8_20,by rw [hlenx]; exact hO20,hall2.mono fun q _ hq=>⟨hq.1.1,fun e=>?_⟩⟩
   · exact ((hx17.trans hx18).then hc19 fun q hq e=>by have:=hown _ e; omega).new hc20 (by omega)
   · rcases hb19 q e with h | h
     · exact hq.1.2 h
     · have:=hq.2; omega
 rintro st g3 w21 ⟨rfl,sv',L',h21,hx21,hB21,hb6_21,hb7_21,hb8_21,hO21,hR21⟩
 have hlenx:(acc ++ [x]).length = acc.length + 1:=by simp
 refine h21.all ?_
 refine blanks_ref hj1 (by omega) fun w22 hx22=>?_
 have hle1:=blank_le hj1
 refine (h21.ext hx22).st fun w23 h23 hc23 hz23=>?_
 refine h23.all ?_
 refine c_ref fun w24 hx24=>?_
 have h24:=h23.ext hx24
 have hcc24:Chg (Cr p) w21 w24:=((Chg.of_ext hx22).trans hc23).then hx24 fun _ _ e=>e.elim
 have hpb:∀ q,q ≠ p → ¬ Cr p q:=fun q hq e=>hq e
 have step:∀ {w':World},Chg (Cr p) w21 w' → Ext w w' ∧ B ≤ w'.heap.size ∧ w'.heap[b6]? = some (.cells zs.toArray StT (0,0)) ∧ w'.heap[b7]? = some (.cells zv.toArray VT (0,0)) ∧ w'.heap[b8]? = some (.cells [i64 5,.bool false,str [],sv',.slice none 0 0].toArray VT (0,0)) ∧
     Own w' B VT 5 sv' (acc ++ [x]).length L' ∧ VRepsP (fun q=>B ≤ q ∧ sv'.ownBlock ≠ some q) w' (acc ++ [x]) L':=fun {w'} hc'=>
   ⟨hx21.new hc' (by omega),by have:=hc'.size; omega,hc'.at hb6_21 (hpb _ (by omega)),hc'.at hb7_21 (hpb _ (by omega)),hc'.at hb8_21 (hpb _ (by omega)),own_chg hO21 hc' fun q hq e=>by have:=(own_in hO21 hq).1; have e:q = p:=e; omega,VRepsP.chg hc' (fun q hq _ e=>by have:=hq.1; have e:q = p:=e; omega) hR21⟩
 rw [bin_eql,condW_dec]
 refine ⟨fun e=>?_,fun e=>?_⟩
 · have hlt93:=byte_lt (s:=s) (i:=blankM s j1) (by omega)
   refine h24.go (k:=1) (by omega) fun w25 h25 hc25 _=>?_
   obtain ⟨q1,q2,q3,q4,q5,q6,q7⟩:=step (hcc24.trans hc25)
   have hrep:VRepP (From B) w25 (.mk 5 false [] (acc ++ [x]) []) [i64 5,.bool false,str [],sv',.slice none 0 0]:=
     VRepP.mk (v:=.mk 5 false [] (acc ++ [x]) []) (T1:=VT) (T2:=0) (L:=L') q6.sl (q7.mono fun q _ hq=>hq.1) (SlAt.nil w25 0) ⟨by show (acc ++ [x]).length ≤ _; omega,by simp [JV.ks],by simp [JV.t],by simp [JV.ks]⟩ (fun _ q hq=>(own_in q6 hq).1) (fun e=>absurd rfl e)
   refine ret_three h25 q3 q4 q5 rfl (obj_one (own_one q6) rfl) (by omega) (by omega) fun w26 hc26=>?_
   have hx26:Ext w w26:=q1.then hc26 fun k hk e=>by omega
   have hrep:VRepP (From w.heap.size) w26 (.mk 5 false [] (acc ++ [x]) []) [i64 5,.bool false,str [],sv',.slice none 0 0]:=(VRepP.chg hc26 (fun q hq _ e=>by have:B ≤ q:=hq; omega) hrep).mono fun q _ hq=>by have:B ≤ q:=hq; show w.heap.size ≤ q; omega
   rcases hd1 with ⟨rfl,rfl,hv⟩ | ⟨he1,k,rfl,hv⟩
   · rw [hv] at heq
     simp only at heq
     rw [if_pos e] at heq
     exact OutR.good heq.symm hx26 hrep (by omega)
   · rw [hv] at heq
     exact OutR.bad heq.symm he1 hx26 hrep (by omega)
 refine h24.all ?_
 refine c_ref fun w25 hx25=>?_
 have h25:=h24.ext hx25
 have hcc25:Chg (Cr p) w21 w25:=hcc24.then hx25 fun _ _ e=>e.elim
 rw [bin_neq,condW_dec]
 refine ⟨fun e2=>?_,fun e2=>?_⟩
 · have e2:byteM s (blankM s j1) ≠ 44:=by simpa using e2
   refine h25.all ?_
   refine h25.ld rfl ?_
   refine fail_ref fun w26 hx26=>?_
   obtain ⟨q1,q2,q3,q4,q5,q6,q7⟩:=step (hcc25.then hx26 fun _ _ e=>e.elim)
   rcases hd1 with ⟨rfl,rfl,hv⟩ | ⟨he1,k,rfl,hv⟩
   · rw [hv] at heq
     simp only at heq
     rw [if_neg e,if_neg e2] at heq
     rw [if_pos rfl,if_pos rfl]
     exact none_ rfl heq.symm (by decide) hle1 q1 q2 q3 q4
   · rw [hv] at heq
     rw [if_neg he1,if_neg he1]
     exact none_ rfl heq.symm he1 hle1 q1 q2 q3 q4
 · have e2:byteM s (blankM s j1) = 44:=by simpa using e2
   have hlt44:=byte_lt (s:=s) (i:=blankM s j1) (by omega)
   refine h25.go (k:=1) (by omega) fun w26 h26 hc26 _=>?_
   obtain ⟨q1,q2,q3,q4,q5,q6,q7⟩:=step (hcc25.trans hc26)
   have hge1:=blank_ge s j1
   have dec:celM s p w26 < celM s p w12:=by
     unfold celM
     rw [h11.e_,h11.at_,h26.e_,h26.at_,if_pos rfl]
     rcases hd1 with ⟨rfl,rfl,hv⟩ | ⟨he1,k,rfl,hv⟩
     · have hbk:=val_back hj hc2 hv
       have:=hbk.len
       rw [if_pos rfl]
       omega
     · rw [if_neg he1]
       omega
   refine ⟨⟨trivial,m,blankM s j1 + 1,c1,acc ++ [x],sv',L',e1,a1,h26,q1,q2,q3,q4,q5,q6,q7,by omega,by omega,?_⟩,dec⟩
   rcases hd1 with ⟨rfl,rfl,hv⟩ | ⟨he1,k,rfl,hv⟩
   · have hbk:=val_back hj hc2 hv
     have hcp:=cnt_pos x
     have hcnt:=hbk.cnt
     have hmax:=hbk.max
     rw [hv] at heq
     simp only at heq
     rw [if_neg e,if_pos e2] at heq
     exact .inl ⟨rfl,rfl,by omega,by omega,by omega,by omega,heq⟩
   · rw [hv] at heq
     exact .inr ⟨he1,k,rfl,heq.symm⟩
end
end Go.Proofs.YtnoepcndjljolaaGreatDoor
namespace Go.Proofs.YtnoepcndjljolaaGreatDoor
open Go Go.Eng Go.RowKit
set_option maxRecDepth 100000
section
variable [HX]
theorem get_idx (l:List (Str × JV)) (key:Str):decide (0 ≤ idxI (mkO l).ks key) = (getM (mkO l) key).isSome:=by
 have h:=idxI_neg (ks:=(mkO l).ks) (k:=key)
 cases hx:idxK (mkO l).ks key with
 | none=>
   have e2:getM (mkO l) key = none:=by unfold getM; rw [if_pos (show (mkO l).k = 6 from rfl),hx]
   rw [e2,decide_eq_false (by have:=h.2 hx; omega)]; rfl
 | some i=>
   have e2:getM (mkO l) key = (mkO l).xs[i]?:=by unfold getM; rw [if_pos (show (mkO l).k = 6 from rfl),hx]
   have hn:¬ idxI (mkO l).ks key < 0:=fun hh=>by rw [h.1 hh] at hx; cases hx
   have hlt:i < (mkO l).xs.length:=by
     have:i < (l.map (·.1)).length:=(List.getElem?_eq_some_iff.1 (idxK_spec hx)).1
     show i < (l.map (·.2)).length
     rw [List.length_map] at this ⊢
     exact this
   rw [e2,List.getElem?_eq_getElem hlt,decide_eq_true (by omega)]; rfl
def OutQ (s:Str) (r:RR Str) (c:Nat) (w:World) (v:Value) (w':World):Prop:=
 Ext w w' ∧ ∃ t j e a,v = .tuple #[.agg (SS s j c e a).toArray,str t] ∧ j ≤ s.length ∧ t.length ≤ 16384 ∧ ((e = 0 ∧ a = 0 ∧ r = .ok t j c) ∨ (e ≠ 0 ∧ ∃ k:Nat,a = (k:Int) ∧ r = .bad e k))
theorem quoted_out {s:Str} {i c:Nat} {w:World} (hi:i < s.length) (hs:s.length ≤ 1000000):callF Tryz.prog 202 [.agg (SS s i c 0 0).toArray] w (OutQ s (quotM En s i c) c w):=by
 refine quoted_ref hi hs (fun t j c' hq w' hx=>?_) (fun e j hq i' w' he hi' hx=>?_)
 · have hq':=hq
   unfold quotM at hq'
   obtain ⟨a1,a2,a3,a4,a5,a6⟩:=quot_back hq' .nil
   subst a1
   exact ⟨hx,t,j,0,0,rfl,a5,a3,.inl ⟨rfl,rfl,hq⟩⟩
 · exact ⟨hx,[],i',e,j,rfl,hi',by simp,.inr ⟨he,j,rfl,hq⟩⟩
theorem manyO_ref {n deep i c:Nat} {s:Str} {w:World} (ih:∀ m,m ≤ n → VPR m) (hi:i < s.length) (hs:s.length ≤ 65536) (hc:c ≤ 2000) (hdeep:deep ≤ 24) (hn:2 * (2000 - c) + 2 ≤ n) :
   callF Tryz.prog 204 [.agg (SS s i c 0 0).toArray,i64 (deep:Nat),.bool true] w
     (OutR s (if byteM s (blankM s (i + 1)) = 125 then .ok (.mk 6 false [] [] []) (blankM s (i + 1) + 1) c else objM En s n deep (blankM s (i + 1)) c (.mk 6 false [] [] [])) w):=by
 refine W204_ok ?_
 unfold W204
 refine cel_box fun p w1 hp h1 hx1=>?_
 refine alloc_new fun b6 w2 hb6 hz2 hbb6 hx2=>?_
 refine alloc_new fun b7 w3 hb7 hz3 hbb7 hx3=>?_
 rw [put_int]
 refine ⟨by simp,?_⟩
 rw [put_nil]
 simp only [List.set_cons_zero]
 refine alloc_new fun b8 w4 hb8 hz4 hbb8 hx4=>?_
 refine st_agg_at (l:=[i64 5,.bool false,str [],.slice none 0 0,.slice none 0 0]) hbb8 rfl rfl rfl fun w5 hz5 hb8_5 hc5=>?_
 have h4:=((h1.ext hx2).ext hx3).ext hx4
 have hlt:=h1.lt
 have h5:=h4.chg hc5 (by omega)
 have hb6_5:=hc5.at (hx4.at (hx3.at hbb6 id) id) (by omega)
 have hb7_5:=hc5.at (hx4.at hbb7 id) (by omega)
 have hx05:Ext w w5:=(((hx1.trans hx2).trans hx3).trans hx4).new hc5 (by omega)
 have hz45:=hz5
 refine JoinW.cut (fun st w'=>st = [i64 125] ∧ w'.heap.size = w5.heap.size ∧ Cel w' p s i c 0 0 ∧ w'.heap[b6]? = some (.cells zs.toArray StT (0,0)) ∧ w'.heap[b7]? = some (.cells zv.toArray VT (0,0)) ∧ w'.heap[b8]? = some (.cells [i64 6,.bool false,str [],.slice none 0 0,.slice none 0 0].toArray VT (0,0)) ∧ Ext w w') ?_ ?_
 · rw [condW_true,fld_ptr,add_mk]
   refine st_at hb8_5 rfl (by simp) fun w6 hz6 hb8_6 hc6=>?_
   exact ⟨rfl,hz6,h5.chg hc6 (by omega),hc6.at hb6_5 (by omega),hc6.at hb7_5 (by omega),by rw [hb8_6]; simp,hx05.new hc6 (by omega)⟩
 rintro st g w6 ⟨rfl,hz6,h5,hb6_5,hb7_5,hb8_5,hx05⟩
 simp only [List.getD_cons_zero]
 refine h5.go (k:=1) (by omega) fun w7 h7 hc7 hz7=>?_
 refine h7.all ?_
 refine blanks_ref (by omega) (by omega) fun w8 hx8=>?_
 have hble:blankM s (i + 1) ≤ s.length:=blank_le (by omega)
 refine (h7.ext hx8).st fun w9 h9 hc9 hz9=>?_
 refine h9.all ?_
 refine c_ref fun w10 hx10=>?_
 have h10:=h9.ext hx10
 have hcc:Chg (Cr p) w6 w10:=((hc7.trans (Chg.of_ext hx8)).trans hc9).then hx10 fun _ _ e=>e.elim
 have hb6_10:=hcc.at hb6_5 fun e=>by have e:b6 = p:=e; omega
 have hb7_10:=hcc.at hb7_5 fun e=>by have e:b7 = p:=e; omega
 have hb8_10:=hcc.at hb8_5 fun e=>by have e:b8 = p:=e; omega
 have hx010:Ext w w10:=hx05.new hcc (by omega)
 generalize hj0:blankM s (i + 1) = j0 at *
 have hB5:w6.heap.size ≤ w10.heap.size:=hcc.size
 generalize hBB:w6.heap.size = B at *
 have hpB:p < B ∧ b6 < B ∧ b7 < B ∧ b8 < B ∧ w.heap.size ≤ B:=by omega
 obtain ⟨hpB,h6B,h7B,h8B,hwB⟩:=hpB
 rw [bin_eql,condW_dec]
 refine ⟨fun e=>?_,fun e=>?_⟩
 · rw [if_pos e]
   have:=byte_lt (s:=s) (i:=j0) (by omega)
   refine h10.go (k:=1) (by omega) fun w11 h11 hc11 _=>?_
   refine ret_three h11 (hc11.at hb6_10 fun e=>by have e:b6 = p:=e; omega) (hc11.at hb7_10 fun e=>by have e:b7 = p:=e; omega) (hc11.at hb8_10 fun e=>by have e:b8 = p:=e; omega) rfl rfl (by omega) (by omega) fun w12 hc12=>?_
   refine OutR.good rfl ((hx010.new hc11 (by omega)).then hc12 fun k hk e=>by omega) ?_ (by omega)
   exact leaf_rep (by simp)
 rw [if_neg e]
 have e0:(.mk 6 false [] [] []:JV) = mkO []:=rfl
 rw [e0]
 generalize hR:objM En s n deep j0 c (mkO []) = R
 refine LoopW.go (fun st w'=>st = [] ∧ ∃ m j c' v es e a,Cel w' p s j c' e a ∧ Ext w w' ∧ B ≤ w'.heap.size ∧ w'.heap[b6]? = some (.cells zs.toArray StT (0,0)) ∧ w'.heap[b7]? = some (.cells zv.toArray VT (0,0)) ∧ w'.heap[b8]? = some (.cells es.toArray VT (0,0)) ∧
     VRepP (From B) w' v es ∧ j ≤ s.length ∧
     ((e = 0 ∧ a = 0 ∧ m ≤ n ∧ 2 * (2000 - c') + 2 ≤ m ∧ c' ≤ 2000 ∧ (∃ l,v = mkO l ∧ l.length ≤ c') ∧ objM En s m deep j c' v = R) ∨ (e ≠ 0 ∧ ∃ k:Nat,a = (k:Int) ∧ R = .bad e k))) (fun _ w'=>celM s p w')
   ⟨rfl,n,j0,c,mkO [],[i64 6,.bool false,str [],.slice none 0 0,.slice none 0 0],0,0,h10,hx010,hB5,hb6_10,hb7_10,hb8_10,leaf_rep (by simp),hble,.inl ⟨rfl,rfl,Nat.le_refl _,hn,hc,⟨[],rfl,Nat.zero_le _⟩,hR⟩⟩ ?_
 rintro st g w11 ⟨rfl,m,j,c',v,es,e,a,h11,hx11,hB11,hb6',hb7',hb8',hRp,hj,hd⟩
 -- handed back with nothing
 have none_:∀ {w':World} {j2 c2:Nat} {e2:Int} {k:Nat} {l:List Value},l = SS s j2 c2 e2 (k:Nat) → R = .bad e2 k → e2 ≠ 0 → j2 ≤ s.length → Ext w w' → B ≤ w'.heap.size → w'.heap[b6]? = some (.cells zs.toArray StT (0,0)) → w'.heap[b7]? = some (.cells zv.toArray VT (0,0)) →
     putW [(.int .i64 0),(.bool false),(.string (ofL [])),(.slice none 0 0),(.slice none 0 0)] [] fun c82=>stW 5 (.pointer (some ⟨b6,0,none⟩)) (.agg l.toArray) w' fun w83=>stW 5 (.pointer (some ⟨b7,0,none⟩)) (.agg c82.toArray) w83 fun w84=>ldW true 5 (.pointer (some ⟨b6,0,none⟩)) w84 fun r85=>ldW true 5 (.pointer (some ⟨b7,0,none⟩)) w84 fun r86=>OutR s R w (.tuple #[r85,r86]) w84:=fun {w' j2 c2 e2 k l} hl hbad he hj2 hx hBw h6 h7=>by
   subst hl
   rw [put_nil]
   refine ret_two h6 rfl h7 rfl (by omega) rfl rfl rfl rfl fun w2 hc2=>?_
   exact OutR.bad (x:=JV.null) hbad he (hx.then hc2 fun q hq e=>by omega) (null_rep _ _) hj2
 have hpb:∀ q,q ≠ p → ¬ Cr p q:=fun q hq e=>hq e
 refine h11.ld rfl ?_
 rw [bin_eql,condW_dec]
 rcases hd with ⟨rfl,rfl,hmn,hm,hc2,⟨l,rfl,hll⟩,heq⟩ | ⟨he,k,rfl,hbad⟩
 case inr=>
   refine ⟨fun e0=>absurd e0 he,fun _=>?_⟩
   refine h11.all ?_
   exact none_ rfl hbad he hj hx11 hB11 hb6' hb7'
 refine ⟨fun _=>?_,fun e0=>absurd rfl e0⟩
 obtain ⟨m,rfl⟩:∃ m',m = m' + 1:=⟨m - 1,by omega⟩
 rw [objM] at heq
 have hjb:=blank_le hj
 have hjg:=blank_ge s j
 have hget:=get_idx l
 -- what stays while the state alone is written
 have step0:∀ {w' w'':World},Chg (Cr p) w' w'' → Ext w w' ∧ B ≤ w'.heap.size ∧ w'.heap[b6]? = some (.cells zs.toArray StT (0,0)) ∧ w'.heap[b7]? = some (.cells zv.toArray VT (0,0)) ∧ w'.heap[b8]? = some (.cells es.toArray VT (0,0)) ∧ VRepP (From B) w' (mkO l) es →
     Ext w w'' ∧ B ≤ w''.heap.size ∧ w''.heap[b6]? = some (.cells zs.toArray StT (0,0)) ∧ w''.heap[b7]? = some (.cells zv.toArray VT (0,0)) ∧ w''.heap[b8]? = some (.cells es.toArray VT (0,0)) ∧ VRepP (From B) w'' (mkO l) es:=fun {w' w''} hc' ⟨a1,a2,a3,a4,a5,a6⟩=>
   ⟨a1.new hc' (by omega),by have:=hc'.size; omega,hc'.at a3 (hpb _ (by omega)),hc'.at a4 (hpb _ (by omega)),hc'.at a5 (hpb _ (by omega)),VRepP.chg hc' (fun q hq _ e=>by have:B ≤ q:=hq; have e:q = p:=e; omega) a6⟩
 have base0:Ext w w11 ∧ B ≤ w11.heap.size ∧ w11.heap[b6]? = some (.cells zs.toArray StT (0,0)) ∧ w11.heap[b7]? = some (.cells zv.toArray VT (0,0)) ∧ w11.heap[b8]? = some (.cells es.toArray VT (0,0)) ∧ VRepP (From B) w11 (mkO l) es:=⟨hx11,hB11,hb6',hb7',hb8',hRp⟩
 -- the key
 refine JoinW.cut (fun st w'=>∃ key j2 e a,st = [str key] ∧ Cel w' p s j2 c' e a ∧ (Ext w w' ∧ B ≤ w'.heap.size ∧ w'.heap[b6]? = some (.cells zs.toArray StT (0,0)) ∧ w'.heap[b7]? = some (.cells zv.toArray VT (0,0)) ∧ w'.heap[b8]? = some (.cells es.toArray VT (0,0)) ∧ VRepP (From B) w' (mkO l) es) ∧ j2 ≤ s.length ∧ key.length ≤ 16384 ∧
     ((e = 0 ∧ a = 0 ∧ (getM (mkO l) key).isSome = false ∧ j < j2 ∧ (∀ e k,valM En s m (deep + 1) j2 c' = .bad e k → R = .bad e k) ∧
       (∀ x j3 c3,valM En s m (deep + 1) j2 c' = .ok x j3 c3 → R = if byteM s (blankM s j3) = 125 then .ok (putM (mkO l) key x) (blankM s j3 + 1) c3 else if byteM s (blankM s j3) = 44 then objM En s m deep (blankM s j3 + 1) c3 (putM (mkO l) key x) else .bad 30 (blankM s j3))) ∨
      (e ≠ 0 ∧ ∃ k:Nat,a = (k:Int) ∧ R = .bad e k))) ?_ ?_
 · rw [condW_true]
   refine h11.all ?_
   refine blanks_ref hj (by omega) fun w12 hx12=>?_
   refine (h11.ext hx12).st fun w13 h13 hc13 _=>?_
   refine h13.ld rfl ?_
   refine h13.all ?_
   refine c_ref fun w14 hx14=>?_
   have h14:=h13.ext hx14
   have st14:=step0 (((Chg.of_ext hx12).trans hc13).then hx14 fun _ _ e=>e.elim) base0
   generalize hj8:blankM s j = j8 at *
   rw [bin_neq,condW_dec]
   refine ⟨fun e34=>?_,fun e34=>?_⟩
   · have e34:byteM s j8 ≠ 34:=by simpa using e34
     rw [if_pos e34] at heq
     refine h14.all ?_
     refine h14.ld rfl ?_
     refine fail_ref fun w15 hx15=>?_
     rw [if_pos rfl,if_pos rfl]
     obtain ⟨q1,q2,q3,q4,q5,q6⟩:=step0 (Chg.of_ext hx15) st14
     exact none_ rfl heq.symm (by decide) hjb q1 q2 q3 q4
   have e34:byteM s j8 = 34:=by simpa using e34
   rw [if_neg (fun h=>h e34)] at heq
   have hlt8:=byte_lt (s:=s) (i:=j8) (by omega)
   refine h14.all ?_
   refine callF_mono (quoted_out hlt8 (by omega)) ?_
   rintro v15 w15 ⟨hx15,key,jq,e,a,rfl,hjq,hkl,hdq⟩
   simp only [ext_tuple]
   refine ⟨_,rfl,_,rfl,?_⟩
   refine (h14.ext hx15).st fun w16 h16 hc16 _=>?_
   refine h16.ld rfl ?_
   have hc1416:Chg (Cr p) w14 w16:=(Chg.of_ext hx15).trans hc16
   have st16:=step0 hc1416 st14
   rw [bin_eql]
   refine GdW.act (getM (mkO l) key).isSome (fun w'=>Ext w16 w') (fun _=>Chg.refl _ _) (fun _ J hJ=>?_) ?_
   · refine ld_all st16.2.2.2.2.1 st16.2.2.2.2.2.rep.len ?_
     refine at_ref st16.2.2.2.2.2.rep fun w17 hx17=>?_
     rw [bin_geq,hget]
     exact hJ w17 hx17
   intro g17 w17 hx17
   simp only [List.getD_cons_zero,isB_t]
   rw [pick_gd_and,condW_b]
   have h17:=h16.ext hx17
   have hc1417:Chg (Cr p) w14 w17:=hc1416.then hx17 fun _ _ e=>e.elim
   refine ⟨fun et=>?_,fun et=>?_⟩
   · rw [Bool.and_eq_true,decide_eq_true_iff] at et
     obtain ⟨rfl,et⟩:=et
     rcases hdq with ⟨_,rfl,hq⟩ | ⟨h0,_⟩
     · rw [hq] at heq
       simp only at heq
       rw [if_pos et] at heq
       refine h17.all ?_
       refine fail_ref fun w18 hx18=>?_
       rw [if_pos rfl,if_pos rfl]
       obtain ⟨q1,q2,q3,q4,q5,q6⟩:=step0 (hc1417.then hx18 fun _ _ e=>e.elim) st14
       exact none_ rfl heq.symm (by decide) hjq q1 q2 q3 q4
     · exact absurd rfl h0
   have hqt:e = 0 → (getM (mkO l) key).isSome = false:=fun h=>by
     rw [decide_eq_true h,Bool.true_and] at et
     exact et
   refine h17.all ?_
   refine blanks_ref hjq (by omega) fun w18 hx18=>?_
   refine (h17.ext hx18).st fun w19 h19 hc19 _=>?_
   refine h19.all ?_
   refine c_ref fun w20 hx20=>?_
   have h20:=h19.ext hx20
   have hc1420:Chg (Cr p) w14 w20:=(((hc1417.then hx18 fun _ _ e=>e.elim)).trans hc19).then hx20 fun _ _ e=>e.elim
   have hle:=blank_le hjq
   have hge:=blank_ge s jq
   rw [bin_neq,condW_dec]
   refine ⟨fun e58=>?_,fun e58=>?_⟩
   · have e58:byteM s (blankM s jq) ≠ 58:=by simpa using e58
     refine h20.all ?_
     refine h20.ld rfl ?_
     refine fail_ref fun w21 hx21=>?_
     obtain ⟨q1,q2,q3,q4,q5,q6⟩:=step0 (hc1420.then hx21 fun _ _ e=>e.elim) st14
     rcases hdq with ⟨rfl,rfl,hq⟩ | ⟨h0,k,rfl,hq⟩
     · rw [hq] at heq
       simp only at heq
       rw [if_neg (by rw [hqt rfl]; simp),if_pos e58] at heq
       rw [if_pos rfl,if_pos rfl]
       exact none_ rfl heq.symm (by decide) hle q1 q2 q3 q4
     · rw [hq] at heq
       rw [if_neg h0,if_neg h0]
       exact none_ rfl heq.symm h0 hle q1 q2 q3 q4
   have e58:byteM s (blankM s jq) = 58:=by simpa using e58
   have hlt58:=byte_lt (s:=s) (i:=blankM s jq) (by omega)
   refine h20.go (k:=1) (by omega) fun w21 h21 hc21 _=>?_
   refine ⟨key,_,e,a,rfl,h21,step0 (hc1420.trans hc21) st14,by omega,hkl,?_⟩
   rcases hdq with ⟨rfl,rfl,hq⟩ | ⟨h0,k,rfl,hq⟩
   · have hq':=hq
     unfold quotM at hq'
     obtain ⟨_,_,_,a4,_,_⟩:=quot_back hq' .nil
     rw [hq] at heq
     simp only at heq
     rw [if_neg (by rw [hqt rfl]; simp),if_neg (fun h=>h e58)] at heq
     refine .inl ⟨rfl,rfl,hqt rfl,by omega,fun e k hv=>?_,fun x j3 c3 hv=>?_⟩
     · rw [hv] at heq
       exact heq.symm
     · rw [hv] at heq
       exact heq.symm
   · rw [hq] at heq
     exact .inr ⟨h0,k,rfl,heq.symm⟩
 clear heq base0
 have hjk0:∃ jk0,jk0 = j:=⟨j,rfl⟩
 obtain ⟨jk0,hjk0⟩:=hjk0
 rintro st g2 w12 ⟨key,jk,e2,a2,rfl,h12,⟨hx12,hB12,hb6_12,hb7_12,hb8_12,hR12⟩,hjk,hkl,hd2⟩
 simp only [List.getD_cons_zero]
 rw [put_nil]
 refine alloc_new fun b12 w13 hb12 hz13 hbb12 hx13=>?_
 refine st_agg_at (l:=zv) hbb12 rfl rfl rfl fun w14 hz14 hb12_14 hc14=>?_
 have hx14:Ext w12 w14:=hx13.new hc14 (by omega)
 have h14:=h12.ext hx14
 refine h14.all ?_
 rw [bin_add,up1 (by omega)]
 -- the value behind the key
 refine callF_mono (K:=fun v w'=>Ext w14 w' ∧ ∃ x cs j c e a,v = .tuple #[.agg (SS s j c e a).toArray,.agg cs.toArray] ∧ VRepP (From w14.heap.size) w' x cs ∧ j ≤ s.length ∧ ((e = 0 ∧ a = 0 ∧ valM En s m (deep + 1) jk c' = .ok x j c ∧ jk0 < jk ∧ (getM (mkO l) key).isSome = false ∧ R = if byteM s (blankM s j) = 125 then .ok (putM (mkO l) key x) (blankM s j + 1) c else if byteM s (blankM s j) = 44 then objM En s m deep (blankM s j + 1) c (putM (mkO l) key x) else .bad 30 (blankM s j)) ∨ (e ≠ 0 ∧ ∃ k:Nat,a = (k:Int) ∧ R = .bad e k))) ?_ ?_
 · rcases hd2 with ⟨rfl,rfl,hget',hjj,hv1,hv2⟩ | ⟨h0,k,rfl,hbad⟩
   · refine callF_mono (ih m (by omega) hjk hs hc2 (by omega) (by omega)) ?_
     rintro v15 w15 ⟨hx15,x,cs,j1,c1,e1,a1,rfl,hr15,hj1,⟨rfl,rfl,hv⟩ | ⟨he,k,rfl,hv⟩⟩
     · exact ⟨hx15,x,cs,j1,c1,0,0,rfl,hr15,hj1,.inl ⟨rfl,rfl,hv,by omega,hget',hv2 _ _ _ hv⟩⟩
     · exact ⟨hx15,x,cs,j1,c1,e1,k,rfl,hr15,hj1,.inr ⟨he,k,rfl,hv1 _ _ hv⟩⟩
   · refine callF_mono (value_err h0 hjk (by omega)) ?_
     rintro v15 w15 ⟨hx15,x,cs,j1,c1,e1,a1,rfl,hr15,hj1,⟨rfl,rfl,hv⟩ | ⟨he,k2,rfl,hv⟩⟩
     · cases hv
     · cases hv
       exact ⟨hx15,x,cs,j1,c1,e2,k,rfl,hr15,hj1,.inr ⟨he,k,rfl,hbad⟩⟩
 rintro v15 w15 ⟨hx15,x,cs,j1,c1,e1,a1,rfl,hr15,hj1,hd1⟩
 simp only [ext_tuple]
 refine ⟨_,rfl,_,rfl,?_⟩
 have hx1215:=hx14.trans hx15
 refine (h14.ext hx15).st fun w16 h16 hc16 hz16=>?_
 have hlt12:w12.heap.size ≤ b12:=by omega
 have hb12_15:=hx15.at hb12_14 id
 have hltb:b12 < w14.heap.size:=at_lt hb12_14
 refine st_agg_at (hc16.at hb12_15 fun e=>by have e:b12 = p:=e; omega) hr15.rep.len rfl hr15.rep.all_one fun w17 hz17 hb12_17 hc17=>?_
 have hcc17:Chg (fun k=>k = p ∨ k = b12) w15 w17:=(hc16.mono fun k _ e=>.inl e).trans (hc17.mono fun k _ e=>.inr e)
 have h17:Cel w17 p s j1 c1 e1 a1:=h16.chg hc17 (by omega)
 have s15:=hx15.size
 have s1217:w12.heap.size ≤ w17.heap.size:=by have:=hx1215.size; have:=hcc17.size; omega
 have hr17:VRepP (From w14.heap.size) w17 x cs:=VRepP.chg hcc17 (fun q hq _ e=>by have:w14.heap.size ≤ q:=hq; omega) hr15
 have keepb:∀ {q:Nat} {o:Obj},q < B → q ≠ p → w12.heap[q]? = some o → w17.heap[q]? = some o:=fun hq hqp hb=>hcc17.at (hx1215.at hb id) (by omega)
 have hb6_17:=keepb h6B (by omega) hb6_12
 have hb7_17:=keepb h7B (by omega) hb7_12
 have hb8_17:=keepb h8B (by omega) hb8_12
 have hR17:VRepP (From B) w17 (mkO l) es:=(VRepP.chg (G:=fun q=>B ≤ q ∧ q < w12.heap.size) hcc17 (fun q hq _ e=>by have:=hq.1; have:=hq.2; omega) (VRepP.chg hx1215 (fun _ _ _ e=>e) (hR12.mono fun q hlt hq=>⟨hq,hlt⟩))).mono fun q _ hq=>hq.1
 have hx17:Ext w w17:=(hx12.trans hx1215).then hcc17 fun k hk e=>by omega
 refine JoinW.cut (fun st w'=>st = [] ∧ ∃ es',Cel w' p s j1 c1 e1 a1 ∧ Ext w w' ∧ B ≤ w'.heap.size ∧ w'.heap[b6]? = some (.cells zs.toArray StT (0,0)) ∧ w'.heap[b7]? = some (.cells zv.toArray VT (0,0)) ∧ w'.heap[b8]? = some (.cells es'.toArray VT (0,0)) ∧ VRepP (From B) w' (putM (mkO l) key x) es') ?_ ?_
 · rw [condW_true]
   refine ld_all hb8_17 hR17.rep.len ?_
   refine ld_all hb12_17 hr15.rep.len ?_
   refine put_refP (B:=B) hR17 (hr17.mono fun q _ hq=>by have:w14.heap.size ≤ q:=hq; have:=hx14.size; show B ≤ q; omega) (by omega) (fun _=>by show (l.map (·.1)).length = (l.map (·.2)).length; rw [List.length_map,List.length_map]) (by show (l.map (·.1)).length ≤ _; rw [List.length_map]; omega) (by omega) fun es' w18 hx18 hr18=>?_
   refine st_agg_at (hx18.at hb8_17 id) hr18.rep.len hR17.rep.len hr18.rep.all_one fun w19 hz19 hb8_19 hc19=>?_
   exact ⟨rfl,es',(h17.ext hx18).chg hc19 (by omega),(hx17.trans hx18).new hc19 (by omega),by have:=hx18.size; omega,hc19.at (hx18.at hb6_17 id) (by omega),hc19.at (hx18.at hb7_17 id) (by omega),hb8_19,VRepP.chg hc19 (fun q hq _ e=>by have:B ≤ q:=hq; omega) hr18⟩
 rintro st g3 w21 ⟨rfl,es',h21,hx21,hB21,hb6_21,hb7_21,hb8_21,hR21⟩
 refine h21.all ?_
 refine blanks_ref hj1 (by omega) fun w22 hx22=>?_
 have hle1:=blank_le hj1
 refine (h21.ext hx22).st fun w23 h23 hc23 hz23=>?_
 refine h23.all ?_
 refine c_ref fun w24 hx24=>?_
 have h24:=h23.ext hx24
 have hcc24:Chg (Cr p) w21 w24:=((Chg.of_ext hx22).trans hc23).then hx24 fun _ _ e=>e.elim
 have step:∀ {w':World},Chg (Cr p) w21 w' → Ext w w' ∧ B ≤ w'.heap.size ∧ w'.heap[b6]? = some (.cells zs.toArray StT (0,0)) ∧ w'.heap[b7]? = some (.cells zv.toArray VT (0,0)) ∧ w'.heap[b8]? = some (.cells es'.toArray VT (0,0)) ∧ VRepP (From B) w' (putM (mkO l) key x) es':=fun {w'} hc'=>
   ⟨hx21.new hc' (by omega),by have:=hc'.size; omega,hc'.at hb6_21 (hpb _ (by omega)),hc'.at hb7_21 (hpb _ (by omega)),hc'.at hb8_21 (hpb _ (by omega)),VRepP.chg hc' (fun q hq _ e=>by have:B ≤ q:=hq; have e:q = p:=e; omega) hR21⟩
 rw [bin_eql,condW_dec]
 refine ⟨fun e=>?_,fun e=>?_⟩
 · have hlt93:=byte_lt (s:=s) (i:=blankM s j1) (by omega)
   refine h24.go (k:=1) (by omega) fun w25 h25 hc25 _=>?_
   obtain ⟨q1,q2,q3,q4,q5,q6⟩:=step (hcc24.trans hc25)
   refine ret_three h25 q3 q4 q5 q6.rep.len q6.rep.all_one (by omega) (by omega) fun w26 hc26=>?_
   have hx26:Ext w w26:=q1.then hc26 fun k hk e=>by omega
   have hrep:VRepP (From w.heap.size) w26 (putM (mkO l) key x) es':=(VRepP.chg hc26 (fun q hq _ e=>by have:B ≤ q:=hq; omega) q6).mono fun q _ hq=>by have:B ≤ q:=hq; show w.heap.size ≤ q; omega
   rcases hd1 with ⟨rfl,rfl,hv,_,_,heq⟩ | ⟨he1,k,rfl,heq⟩
   · rw [if_pos e] at heq
     exact OutR.good heq hx26 hrep (by omega)
   · exact OutR.bad heq he1 hx26 hrep (by omega)
 refine h24.all ?_
 refine c_ref fun w25 hx25=>?_
 have h25:=h24.ext hx25
 have hcc25:Chg (Cr p) w21 w25:=hcc24.then hx25 fun _ _ e=>e.elim
 rw [bin_neq,condW_dec]
 refine ⟨fun e2=>?_,fun e2=>?_⟩
 · have e2:byteM s (blankM s j1) ≠ 44:=by simpa using e2
   refine h25.all ?_
   refine h25.ld rfl ?_
   refine fail_ref fun w26 hx26=>?_
   obtain ⟨q1,q2,q3,q4,q5,q6⟩:=step (hcc25.then hx26 fun _ _ e=>e.elim)
   rcases hd1 with ⟨rfl,rfl,hv,_,_,heq⟩ | ⟨he1,k,rfl,heq⟩
   · rw [if_neg e,if_neg e2] at heq
     rw [if_pos rfl,if_pos rfl]
     exact none_ rfl heq (by decide) hle1 q1 q2 q3 q4
   · rw [if_neg he1,if_neg he1]
     exact none_ rfl heq he1 hle1 q1 q2 q3 q4
 · have e2:byteM s (blankM s j1) = 44:=by simpa using e2
   have hlt44:=byte_lt (s:=s) (i:=blankM s j1) (by omega)
   refine h25.go (k:=1) (by omega) fun w26 h26 hc26 _=>?_
   obtain ⟨q1,q2,q3,q4,q5,q6⟩:=step (hcc25.trans hc26)
   have hge1:=blank_ge s j1
   have dec:celM s p w26 < celM s p w11:=by
     unfold celM
     rw [h11.e_,h11.at_,h26.e_,h26.at_,if_pos rfl]
     rcases hd1 with ⟨rfl,rfl,hv,hjj,_,_⟩ | ⟨he1,k,rfl,hv⟩
     · have hbk:=val_back hjk hc2 hv
       have:=hbk.len
       rw [if_pos rfl]
       omega
     · rw [if_neg he1]
       omega
   refine ⟨⟨trivial,m,blankM s j1 + 1,c1,putM (mkO l) key x,es',e1,a1,h26,q1,q2,q3,q4,q5,q6,by omega,?_⟩,dec⟩
   rcases hd1 with ⟨rfl,rfl,hv,_,hg,heq⟩ | ⟨he1,k,rfl,heq⟩
   · have hbk:=val_back hjk hc2 hv
     have hcp:=cnt_pos x
     have hcnt:=hbk.cnt
     have hmax:=hbk.max
     rw [if_neg e,if_pos e2] at heq
     exact .inl ⟨rfl,rfl,by omega,by omega,by omega,⟨insP l key x,put_mkO (get_none hg),by rw [ins_len]; omega⟩,heq.symm⟩
   · exact .inr ⟨he1,k,rfl,heq⟩
end
end Go.Proofs.YtnoepcndjljolaaGreatDoor
namespace Go.Proofs.YtnoepcndjljolaaGreatDoor
open Go Go.Eng
set_option maxRecDepth 100000
variable [HX]
def plan198:Plan:={ js:=[],ds:=[] }
def W198 (v0:Value) (w:World) (K:Value → World → Prop):Prop:=
 allocW 40 [(.int .i64 0),(.bool false),(.string (ofL [])),(.slice none 0 0),(.slice none 0 0)] w fun t2 w1=>
 putW [(.int .i64 0),(.bool false),(.string (ofL [])),(.slice none 0 0),(.slice none 0 0)] [(0,1,(.int .i64 2)),(1,1,v0)] fun c2=>
 stW 5 t2 (.agg c2.toArray) w1 fun w3=>
 ldW true 5 t2 w3 fun r4=>
 K r4 w3
theorem W198_ok {v0:Value} {w:World} {K:Value → World → Prop} (h:W198 v0 w K):callF Tryz.prog 198 [v0] w K:=
 tie _ 198 Tryz.f198 plan198 _ w K 1 _ rfl mixed Tryz.func198 (by kernel_rfl) (by kernel_rfl) Tryz.call198 h
end Go.Proofs.YtnoepcndjljolaaGreatDoor
namespace Go.Proofs.YtnoepcndjljolaaGreatDoor
open Go Go.Eng Go.RowKit
set_option maxRecDepth 100000
theorem leaf_of {G:Nat → Prop} {w:World} {k:Int} {b:Bool} {t:Str} {cs:List Value} (h:VRep w (.mk k b t [] []) cs):VRepP G w (.mk k b t [] []) cs:=by
 obtain ⟨sv,kv,T1,T2,L,rfl,h1,h2,h3,h4⟩:=h.out
 simp only [JV.xs,VReps] at h2
 subst h2
 exact VRepP.mk (v:=.mk k b t [] []) (L:=[]) h1 (by simp [JV.xs,VRepsP]) h3 h4 (fun h=>absurd rfl h) (fun h=>absurd rfl h)
theorem num_le {s:Str} {i c j c':Nat} {v:JV} (hi:i ≤ s.length) (h:numM En s i c = .ok v j c'):j ≤ s.length:=by
 unfold numM at h
 simp only at h
 generalize hf:(if byteM s i = 45 then i + 1 else i) = first at h
 generalize hst:(if byteM s first = 48 then first + 1 else digM s first) = stop at h
 have h1:first ≤ s.length:=by
   rw [← hf]
   split
   · have:=byte_lt (s:=s) (i:=i) (by omega); omega
   · exact hi
 have h2:stop ≤ s.length:=by
   rw [← hst]
   split
   · have:=byte_lt (s:=s) (i:=first) (by omega); omega
   · exact digM_le h1
 split at h
 · cases h
 split at h
 · cases h
 split at h
 · cases h
 cases h
 exact h2
section
variable [HX]
theorem bool_ref {b:Bool} {w:World} {K:Value → World → Prop} (hK:∀ w',Ext w w' → K (.agg [i64 2,.bool b,str [],.slice none 0 0,.slice none 0 0].toArray) w'):callF Tryz.prog 198 [.bool b] w K:=by
 refine W198_ok ?_
 unfold W198
 refine alloc_new fun a w1 ha hz hb hx=>?_
 simp only [put_int,put_bool,put_nil,List.length_cons,List.length_nil,List.set_cons_zero,List.set_cons_succ]
 refine ⟨by omega,by omega,?_⟩
 exact ret_leaf (l:=[i64 2,.bool b,str [],.slice none 0 0,.slice none 0 0]) hb rfl rfl rfl fun w2 hc2=>hK w2 (hx.new hc2 (by omega))
theorem value_ref:∀ n,VPR n:=by
 intro n
 induction n using Nat.strongRecOn with
 | ind n ihs=>
 intro deep i c s w hi hs hc hdeep hn
 obtain ⟨n,rfl⟩:∃ m,n = m + 1:=⟨n - 1,by omega⟩
 have ih:∀ m,m ≤ n → VPR m:=fun m hm=>ihs m (by omega)
 refine W150_ok ?_
 unfold W150
 rw [valM]
 refine cel_box fun p w1 hp h1 hx1=>?_
 refine alloc_new fun b4 w2 hb4 hz2 hbb4 hx2=>?_
 refine alloc_new fun b5 w3 hb5 hz3 hbb5 hx3=>?_
 have h3:=(h1.ext hx2).ext hx3
 have hbb4:=hx3.at hbb4 id
 have hlt:=h1.lt
 have hx03:Ext w w3:=(hx1.trans hx2).trans hx3
 have hsz:=hx1.size
 refine h3.all ?_
 refine blanks_ref hi (by omega) fun w4 hx4=>?_
 have hj:=blank_le hi
 generalize hjj:blankM s i = j at *
 refine (h3.ext hx4).st fun w5 h5 hc5 _=>?_
 have hc35:Chg (Cr p) w3 w5:=(Chg.of_ext hx4).trans hc5
 -- what is handed back
 have two:∀ {w':World} {l cs:List Value} {K:Value → World → Prop},Chg (Cr p) w3 w' → l.length = 5 → l.all one1 = true → cs.length = 5 → cs.all one1 = true → (∀ w'',Ext w w'' → Chg (fun k=>k = b4 ∨ k = b5) w' w'' → K (.tuple #[.agg l.toArray,.agg cs.toArray]) w'') →
     stW 5 (.pointer (some ⟨b4,0,none⟩)) (.agg l.toArray) w' fun w1=>stW 5 (.pointer (some ⟨b5,0,none⟩)) (.agg cs.toArray) w1 fun w2=>ldW true 5 (.pointer (some ⟨b4,0,none⟩)) w2 fun r=>ldW true 5 (.pointer (some ⟨b5,0,none⟩)) w2 fun q=>K (.tuple #[r,q]) w2:=fun {w' l cs K} hc hl hl1 hcl hc1 hk=>by
   refine ret_two (hc.at hbb4 fun e=>by have e:b4 = p:=e; omega) rfl (hc.at hbb5 fun e=>by have e:b5 = p:=e; omega) rfl (by omega) hl hl1 hcl hc1 fun w'' hc''=>?_
   exact hk w'' ((hx03.new hc (by omega)).then hc'' fun k hk e=>by omega) hc''
 have own:∀ {w' w'':World} {x:JV} {cs:List Value} {B:Nat},b5 < B → VRepP (From B) w' x cs → Chg (fun k=>k = b4 ∨ k = b5) w' w'' → VRepP (From w.heap.size) w'' x cs:=fun {w' w'' x cs B} hB hr hc=>by
   exact (VRepP.chg hc (fun q hq _ e=>by have:B ≤ q:=hq; omega) hr).mono fun q _ hq=>by have:B ≤ q:=hq; show w.heap.size ≤ q; omega
 -- an error
 have err:∀ {w':World} {c2:Nat} {e:Int} {r:RR JV},r = .bad e j → e ≠ 0 → Cel w' p s j c2 0 0 → Chg (Cr p) w3 w' →
     ldW true 5 (.pointer (some ⟨p,0,none⟩)) w' fun t19=>fldW 1 (.pointer (some ⟨p,0,none⟩)) fun t20=>ldW false 1 t20 w' fun t21=>callF Tryz.prog 152 [t19,i64 e,t21] w' fun t22 w11=>putW [(.int .i64 0),(.bool false),(.string (ofL [])),(.slice none 0 0),(.slice none 0 0)] [] fun c12=>
     stW 5 (.pointer (some ⟨b4,0,none⟩)) t22 w11 fun w1=>stW 5 (.pointer (some ⟨b5,0,none⟩)) (.agg c12.toArray) w1 fun w2=>ldW true 5 (.pointer (some ⟨b4,0,none⟩)) w2 fun q1=>ldW true 5 (.pointer (some ⟨b5,0,none⟩)) w2 fun q2=>OutR s r w (.tuple #[q1,q2]) w2:=fun {w' c2 e r} hr he h' hc'=>by
   refine h'.all ?_
   refine h'.ld rfl ?_
   refine fail_ref fun w9 hx9=>?_
   rw [if_pos rfl,if_pos rfl,put_nil]
   refine two (hc'.then hx9 fun _ _ e=>e.elim) rfl rfl rfl rfl fun w'' hx'' _=>?_
   exact OutR.bad (x:=JV.null) hr he hx'' (null_rep _ _) hj
 refine h5.ld rfl ?_
 rw [bin_neq,decide_eq_false (by simp),condW_false,bin_gtr,condW_dec]
 refine ⟨fun e=>?_,fun hd=>?_⟩
 · rw [if_pos (by omega)]
   exact err rfl (by decide) h5 hc35
 rw [if_neg (by omega)]
 refine h5.ld rfl ?_
 rw [bin_geq,condW_dec]
 refine ⟨fun e=>?_,fun hcn=>?_⟩
 · rw [if_pos (by omega)]
   exact err rfl (by decide) h5 hc35
 rw [if_neg (by omega)]
 refine h5.ld rfl ?_
 rw [bin_add,up1 (by omega)]
 refine h5.st2 fun w6 h6 hc6 _=>?_
 have hc36:=hc35.trans hc6
 rw [put_str,put_str,put_str,put_nil]
 refine ⟨by simp,by simp,by simp,?_⟩
 simp only [List.set_cons_zero,List.set_cons_succ]
 have wlen:∀ {q:Str},wordM s j q = true → j + q.length ≤ s.length:=fun {q} hw=>by
   unfold wordM at hw
   have:=congrArg List.length (of_decide_eq_true hw)
   rw [List.length_take,List.length_drop] at this
   omega
 generalize hR:(if wordM s j [110,117,108,108] = true then RR.ok JV.null (j + 4) (c + 1) else _) = R
 let ws:List Str:=[[110,117,108,108],[116,114,117,101],[102,97,108,115,101]]
 refine LoopW.go (fun st w'=>∃ k:Nat,k ≤ 3 ∧ st = [i64 (k:Nat)] ∧ Ext w6 w' ∧ ∀ m q,m < k → ws[m]? = some q → wordM s j q = false) (fun st _=>match st with | [.int _ k]=>3 - k.toNat | _=>0) ⟨0,by omega,rfl,Chg.refl _ _,fun m q hm=>by omega⟩ ?_
 rintro st g w7 ⟨k,hk,rfl,hx7,hall⟩
 have h7:=h6.ext hx7
 have hc37:Chg (Cr p) w3 w7:=hc36.then hx7 fun _ _ e=>e.elim
 simp only [List.getD_cons_zero]
 rw [bin_lss,condW_dec]
 refine ⟨fun hk3=>?_,fun hk3=>?_⟩
 · have hk3:k < 3:=by omega
   obtain ⟨q,hq⟩:∃ q,ws[k]? = some q:=⟨_,List.getElem?_eq_getElem (show k < ws.length from hk3)⟩
   have hq5:q.length ≤ 5:=by
     match k,hk3 with
     | 0,_=>cases hq; decide
     | 1,_=>cases hq; decide
     | 2,_=>cases hq; decide
   refine ⟨by omega,by omega,?_⟩
   refine ⟨str q,?_,?_⟩
   · match k,hk3 with
     | 0,_=>cases hq; rfl
     | 1,_=>cases hq; rfl
     | 2,_=>cases hq; rfl
   refine h7.all ?_
   refine word_ref hj (by omega) (by omega) fun w8 hx8=>?_
   have h8:=h7.ext hx8
   have hc38:Chg (Cr p) w3 w8:=hc37.then hx8 fun _ _ e=>e.elim
   rw [condW_b]
   refine ⟨fun hw=>?_,fun hw=>?_⟩
   · have hl:=wlen hw
     have hgo:fldW 1 (.pointer (some ⟨p,0,none⟩)) fun t43=>ldW false 1 t43 w8 fun t44=>lensW (str q) fun t46=>binW .add t44 t46 fun t47=>fldW 1 (.pointer (some ⟨p,0,none⟩)) fun t48=>stW 1 t48 t47 w8 (fun w9=>Cel w9 p s (j + q.length) (c + 1) 0 0 ∧ Chg (Cr p) w8 w9):=by
       refine h8.ld rfl ?_
       rw [lens_str]
       rw [bin_add,upk (by omega)]
       exact h8.st1 fun w9 h9 hc9 _=>⟨h9,hc9⟩
     refine h8.ld rfl ?_
     rw [lens_str,bin_add,upk (by omega)]
     refine h8.st1 fun w9 h9 hc9 _=>?_
     have hc39:=hc38.trans hc9
     rw [bin_seq,condW_dec]
     refine ⟨fun en=>?_,fun en=>?_⟩
     · subst en
       rw [if_pos hw] at hR
       refine h9.all ?_
       rw [put_nil]
       refine two hc39 rfl rfl rfl rfl fun w'' hx'' _=>?_
       exact OutR.good (x:=JV.null) hR.symm hx'' (null_rep _ _) hl
     · refine h9.drew.all ?_
       rw [bin_seq]
       refine bool_ref fun w10 hx10=>?_
       have hxd:Ext w9 w9.drew:=Chg.drew (Chg.refl (fun _=>False) w9)
       refine ⟨(h9.ext (hxd.trans hx10)).all rfl,?_⟩
       refine two (hc39.then (hxd.trans hx10) fun _ _ e=>e.elim) rfl rfl rfl rfl fun w'' hx'' _=>?_
       have hrep:=fun b=>leaf_rep (G:=From w.heap.size) (k:=2) (b:=b) (t:=[]) (w:=w'') (by simp)
       match k,hk3 with
       | 0,_=>cases hq; exact absurd rfl en
       | 1,_=>
         cases hq
         have e0:=hall 0 _ (by omega) rfl
         rw [if_neg (by rw [e0]; simp),if_pos hw] at hR
         exact OutR.good hR.symm hx'' (hrep true) hl
       | 2,_=>
         cases hq
         have e0:=hall 0 _ (by omega) rfl
         have e1:=hall 1 _ (by omega) rfl
         rw [if_neg (by rw [e0]; simp),if_neg (by rw [e1]; simp),if_pos hw] at hR
         exact OutR.good hR.symm hx'' (hrep false) hl
   · rw [bin_add,up1 (by omega)]
     refine ⟨⟨k + 1,by omega,rfl,hx7.trans hx8,fun m q' hm hq'=>?_⟩,by simp only [Int.toNat_natCast]; omega⟩
     rcases Nat.lt_or_ge m k with h | h
     · exact hall m q' h hq'
     · obtain rfl:m = k:=by omega
       rw [hq] at hq'
       cases hq'
       exact hw
 obtain rfl:k = 3:=by omega
 have e0:=hall 0 _ (by omega) rfl
 have e1:=hall 1 _ (by omega) rfl
 have e2:=hall 2 _ (by omega) rfl
 rw [if_neg (by rw [e0]; simp),if_neg (by rw [e1]; simp),if_neg (by rw [e2]; simp)] at hR
 clear hall
 refine h7.all ?_
 refine c_ref fun w8 hx8=>?_
 have h8:=h7.ext hx8
 have hc38:Chg (Cr p) w3 w8:=hc37.then hx8 fun _ _ e=>e.elim
 rw [bin_eql]
 refine GdW.act (isDig (byteM s j)) (fun w'=>Ext w8 w') (fun _=>Chg.refl _ _) (fun _ J hJ=>?_) ?_
 · refine h8.all ?_
   refine c_ref fun w9 hx9=>?_
   refine digit_ref ?_
   exact hJ w9 hx9
 intro g9 w9 hx9
 simp only [List.getD_cons_zero,isB_f]
 rw [pick_gd_or,condW_b]
 have h9:=h8.ext hx9
 have hc39:Chg (Cr p) w3 w9:=hc38.then hx9 fun _ _ e=>e.elim
 have hb5:∀ {w':World},Chg (Cr p) w3 w' → b5 < w'.heap.size:=fun hc=>by have:=hc.size; omega
 refine ⟨fun e=>?_,fun e=>?_⟩
 · have e:byteM s j = 45 ∨ isDig (byteM s j) = true:=by
     rw [Bool.or_eq_true,decide_eq_true_iff] at e
     exact e
   rw [if_pos e] at hR
   refine h9.all ?_
   refine number_ref hj (by omega) (fun v j' c' hv cs w10 hx10 hr10=>?_) (fun e1 j' hv i' c' v cs w10 he hi' hx10 hr10=>?_)
   · simp only [ext_tuple]
     refine ⟨_,rfl,_,rfl,?_⟩
     refine two (hc39.then hx10 fun _ _ e=>e.elim) rfl rfl hr10.rep.len hr10.rep.all_one fun w'' hx'' hc''=>?_
     have hfit:j' ≤ s.length:=num_le hj hv
     exact OutR.good (hR.symm.trans hv) hx'' (own (hb5 hc39) hr10 hc'') hfit
   · simp only [ext_tuple]
     refine ⟨_,rfl,_,rfl,?_⟩
     refine two (hc39.then hx10 fun _ _ e=>e.elim) rfl rfl hr10.rep.len hr10.rep.all_one fun w'' hx'' hc''=>?_
     exact OutR.bad (hR.symm.trans hv) he hx'' (own (hb5 hc39) hr10 hc'') hi'
 have e:¬ (byteM s j = 45 ∨ isDig (byteM s j) = true):=by
   rw [Bool.or_eq_false_iff,decide_eq_false_iff_not] at e
   rintro (h | h)
   · exact e.1 h
   · rw [e.2] at h; cases h
 rw [if_neg e] at hR
 refine h9.all ?_
 refine c_ref fun w10 hx10=>?_
 have h10:=h9.ext hx10
 have hc310:Chg (Cr p) w3 w10:=hc39.then hx10 fun _ _ e=>e.elim
 rw [bin_eql,condW_dec]
 refine ⟨fun e34=>?_,fun e34=>?_⟩
 · rw [if_pos e34] at hR
   have hltj:=byte_lt (s:=s) (i:=j) (by omega)
   refine h10.all ?_
   refine callF_mono (quoted_out hltj (by omega)) ?_
   rintro v11 w11 ⟨hx11,t,jq,e1,a1,rfl,hjq,htl,hdq⟩
   simp only [ext_tuple]
   refine ⟨_,rfl,_,rfl,?_⟩
   refine alloc_new fun b8 w12 hb8 hz12 hbb8 hx12=>?_
   refine st_agg_at (l:=SS s jq (c + 1) e1 a1) hbb8 rfl rfl rfl fun w13 hz13 hb8_13 hc13=>?_
   have hb8d:w13.drew.heap[b8]? = some (.cells (SS s jq (c + 1) e1 a1).toArray StT (0,0)):=hb8_13
   refine ld_all hb8d rfl ?_
   have hxd:Ext w13 w13.drew:=Chg.drew (Chg.refl (fun _=>False) w13)
   refine text_ref (by omega) fun cs w14 hx14 hr14=>?_
   refine ⟨ld_all (hx14.at hb8d id) rfl rfl,?_⟩
   have hx1013:Ext w10 w13:=(hx11.trans hx12).new hc13 (by have:=hx11.size; omega)
   refine two (hc310.then (hx1013.trans (hxd.trans hx14)) fun _ _ e=>e.elim) rfl rfl hr14.len hr14.all_one fun w'' hx'' hc''=>?_
   have hrep:=own (B:=b5 + 1) (by omega) (leaf_of (G:=From (b5 + 1)) hr14) hc''
   rcases hdq with ⟨rfl,rfl,hq⟩ | ⟨he,k,rfl,hq⟩
   · rw [hq] at hR
     exact OutR.good hR.symm hx'' hrep hjq
   · rw [hq] at hR
     exact OutR.bad hR.symm he hx'' hrep hjq
 rw [if_neg e34] at hR
 refine h10.all ?_
 refine c_ref fun w11 hx11=>?_
 have h11:=h10.ext hx11
 have hc311:Chg (Cr p) w3 w11:=hc310.then hx11 fun _ _ e=>e.elim
 rw [bin_eql]
 refine GdW.act (decide (byteM s j = 123)) (fun w'=>Ext w11 w') (fun _=>Chg.refl _ _) (fun _ J hJ=>?_) ?_
 · refine h11.all ?_
   refine c_ref fun w12 hx12=>?_
   rw [bin_eql]
   exact hJ w12 hx12
 intro g12 w12 hx12
 simp only [List.getD_cons_zero,isB_f]
 rw [pick_gd_or,condW_b]
 have h12:=h11.ext hx12
 have hc312:Chg (Cr p) w3 w12:=hc311.then hx12 fun _ _ e=>e.elim
 refine ⟨fun em=>?_,fun em=>?_⟩
 · rw [Bool.or_eq_true,decide_eq_true_iff,decide_eq_true_iff] at em
   have hltj:=byte_lt (s:=s) (i:=j) (by omega)
   have hxd:Ext w12 w12.drew:=Chg.drew (Chg.refl (fun _=>False) w12)
   refine h12.drew.all ?_
   refine h12.drew.all ?_
   refine c_ref fun w13 hx13=>?_
   refine ⟨(h12.drew.ext hx13).all rfl,?_⟩
   have hc313:Chg (Cr p) w3 w13:=hc312.then (hxd.trans hx13) fun _ _ e=>e.elim
   rw [bin_eql]
   have fin:∀ {v:Value} {w14:World},OutR s R w13 v w14 → extW 0 v fun t95=>extW 1 v fun t96=>stW 5 (.pointer (some ⟨b4,0,none⟩)) t95 w14 fun w64=>stW 5 (.pointer (some ⟨b5,0,none⟩)) t96 w64 fun w65=>ldW true 5 (.pointer (some ⟨b4,0,none⟩)) w65 fun r66=>ldW true 5 (.pointer (some ⟨b5,0,none⟩)) w65 fun r67=>OutR s R w (.tuple #[r66,r67]) w65:=fun {v w14} ho=>by
     obtain ⟨hx14,x,cs,j1,c1,e1,a1,rfl,hr14,hj1,hd1⟩:=ho
     simp only [ext_tuple]
     refine ⟨_,rfl,_,rfl,?_⟩
     refine two (hc313.then hx14 fun _ _ e=>e.elim) rfl rfl hr14.rep.len hr14.rep.all_one fun w'' hx'' hc''=>?_
     exact ⟨hx'',x,cs,j1,c1,e1,a1,rfl,own (hb5 hc313) hr14 hc'',hj1,hd1⟩
   by_cases e91:byteM s j = 91
   · rw [if_pos e91] at hR
     rw [decide_eq_false (by omega)]
     refine callF_mono (manyL_ref (n:=n) ih hltj hs (by omega) (by omega) (by omega)) fun v w14 ho=>?_
     rw [hR] at ho
     exact fin ho
   · have e123:byteM s j = 123:=em.resolve_left e91
     rw [if_neg e91,if_pos e123] at hR
     rw [decide_eq_true e123]
     refine callF_mono (manyO_ref (n:=n) ih hltj hs (by omega) (by omega) (by omega)) fun v w14 ho=>?_
     rw [hR] at ho
     exact fin ho
 · rw [Bool.or_eq_false_iff,decide_eq_false_iff_not,decide_eq_false_iff_not] at em
   rw [if_neg em.1,if_neg em.2] at hR
   exact err hR.symm (by decide) h12 hc312
end
end Go.Proofs.YtnoepcndjljolaaGreatDoor
namespace Go.Proofs.YtnoepcndjljolaaGreatDoor
open Go Go.Eng Go.RowKit
set_option maxRecDepth 100000
section
variable [HX]
theorem decode_ref {s:Str} {w:World} {K:Value → World → Prop} (hok:∀ v j c,decM En s = .ok v j c → ∀ cs w',Ext w w' → VRep w' v cs → K (.tuple #[.agg cs.toArray,i64 0,i64 0]) w')
   (hbad:∀ e k,decM En s = .bad e k → e ≠ 0 → ∀ cs w',Ext w w' → VRep w' JV.null cs → K (.tuple #[.agg cs.toArray,i64 e,i64 (k:Nat)]) w'):callF Tryz.prog 93 [str s] w K:=by
 refine W93_ok ?_
 unfold W93
 unfold decM at hok hbad
 refine alloc_new fun b2 w1 hb2 hz1 hbb2 hx1=>?_
 rw [lens_str,bin_gtr,condW_dec]
 refine ⟨fun e=>?_,fun e=>?_⟩
 · rw [if_pos (by omega)] at hbad
   rw [put_nil]
   refine st_agg_at (l:=zv) hbb2 rfl rfl rfl fun w3 hz3 hb3 hc3=>?_
   refine ld_all hb3 rfl ?_
   exact hbad _ _ rfl (by decide) _ w3 (hx1.new hc3 (by omega)) (vrep_null w3)
 rw [if_neg (by omega)] at hok hbad
 rw [put_str,put_nil]
 refine ⟨by simp,?_⟩
 simp only [List.set_cons_zero]
 refine callF_mono (value_ref 5000 (i:=0) (c:=0) (deep:=1) (Nat.zero_le _) (by omega) (by omega) (by omega) (by omega)) ?_
 rintro v4 w4 ⟨hx4,x,cs,j,c,e1,a1,rfl,hr4,hj,hd⟩
 simp only [ext_tuple]
 refine ⟨_,rfl,_,rfl,?_⟩
 refine alloc_new fun b5 w5 hb5 hz5 hbb5 hx5=>?_
 refine alloc_new fun b6 w6 hb6 hz6 hbb6 hx6=>?_
 have hsz:=hx4.size
 refine st_agg_at (l:=SS s j c e1 a1) (hx6.at hbb5 id) rfl rfl rfl fun w7 hz7 hb7 hc7=>?_
 have h7:Cel w7 b5 s j c e1 a1:=hb7
 refine st_agg_at (hc7.at hbb6 (by omega)) hr4.rep.len rfl hr4.rep.all_one fun w8 hz8 hb8 hc8=>?_
 have h8:Cel w8 b5 s j c e1 a1:=h7.chg hc8 (by omega)
 have hch:Chg (fun k=>k = b5 ∨ k = b6) w6 w8:=(hc7.mono fun k _ e=>.inl e).trans (hc8.mono fun k _ e=>.inr e)
 have hx8:Ext w1 w8:=((hx4.trans hx5).trans hx6).then hch fun k hk e=>by omega
 have hr8:VRepP (fun q=>w1.heap.size ≤ q ∧ q < w4.heap.size) w8 x cs:=VRepP.chg hch (fun q hq _ e=>by omega) (VRepP.chg hx6 (fun _ _ _ e=>e) (VRepP.chg hx5 (fun _ _ _ e=>e) (hr4.mono fun q hlt hq=>⟨hq,hlt⟩)))
 have hbb2':=hx8.at hbb2 id
 refine h8.all ?_
 refine blanks_ref hj (by omega) fun w9 hx9=>?_
 have hle:=blank_le hj
 refine (h8.ext hx9).st fun w10 h10 hc10 _=>?_
 have hc810:Chg (Cr b5) w8 w10:=(Chg.of_ext hx9).trans hc10
 refine JoinW.cut (fun st w'=>∃ i e a,st = [] ∧ Cel w' b5 s i c e a ∧ Chg (Cr b5) w8 w' ∧ ((e = 0 ∧ decM En s = .ok x j c) ∨ (e ≠ 0 ∧ ∃ k:Nat,a = (k:Int) ∧ decM En s = .bad e k))) ?_ ?_
 · have hdm:decM En s = match valM En s 5000 1 0 0 with | .bad e i=>.bad e i | .ok v i c=>if blankM s i < s.length then .bad En.json (blankM s i) else .ok v i c:=by
     unfold decM
     rw [if_neg (by omega)]
     rfl
   refine h10.ld rfl ?_
   rw [lens_str,bin_lss,condW_dec]
   refine ⟨fun el=>?_,fun el=>?_⟩
   · refine h10.all ?_
     refine h10.ld rfl ?_
     refine fail_ref fun w11 hx11=>?_
     refine (h10.ext hx11).st fun w12 h12 hc12 _=>?_
     refine ⟨_,_,_,rfl,h12,(hc810.then hx11 fun _ _ e=>e.elim).trans hc12,?_⟩
     rcases hd with ⟨rfl,rfl,hv⟩ | ⟨he,k,rfl,hv⟩
     · rw [if_pos rfl,if_pos rfl]
       refine .inr ⟨by decide,_,rfl,?_⟩
       rw [hdm,hv]
       simp only
       rw [if_pos (by omega)]
     · rw [if_neg he,if_neg he]
       refine .inr ⟨he,k,rfl,?_⟩
       rw [hdm,hv]
   · refine ⟨_,_,_,rfl,h10,hc810,?_⟩
     rcases hd with ⟨rfl,rfl,hv⟩ | ⟨he,k,rfl,hv⟩
     · refine .inl ⟨rfl,?_⟩
       rw [hdm,hv]
       simp only
       rw [if_neg (by omega)]
     · refine .inr ⟨he,k,rfl,?_⟩
       rw [hdm,hv]
 rintro st g w11 ⟨i,e,a,rfl,h11,hc11,hde⟩
 have hdu:decM En s = (if 65536 < s.length then .bad En.long 0 else match valM En s 5000 1 0 0 with | .bad e i=>.bad e i | .ok v i c=>if blankM s i < s.length then .bad En.json (blankM s i) else .ok v i c):=rfl
 rw [if_neg (by omega)] at hdu
 have hok':∀ v j c,decM En s = .ok v j c → ∀ cs w',Ext w w' → VRep w' v cs → K (.tuple #[.agg cs.toArray,i64 0,i64 0]) w':=fun v j c h=>hok v j c (hdu.symm.trans h)
 have hbad':∀ e k,decM En s = .bad e k → e ≠ 0 → ∀ cs w',Ext w w' → VRep w' JV.null cs → K (.tuple #[.agg cs.toArray,i64 e,i64 (k:Nat)]) w':=fun e k h=>hbad e k (hdu.symm.trans h)
 have hbb2_11:=hc11.at hbb2' fun e=>by have e:b2 = b5:=e; omega
 have hx11:Ext w w11:=(hx1.trans hx8).new hc11 (by have:=hx1.size; omega)
 have hlt2:b2 < w1.heap.size:=at_lt hbb2
 have s1:=hx1.size
 refine h11.ld rfl ?_
 rw [bin_neq,condW_dec]
 rcases hde with ⟨rfl,hdm⟩ | ⟨he,k,rfl,hdm⟩
 · refine ⟨fun h=>absurd rfl h,fun _=>?_⟩
   have hb6_11:=hc11.at hb8 fun e=>by have e:b6 = b5:=e; omega
   have hr11:=VRepP.chg hc11 (fun q hq _ e=>by have e:q = b5:=e; omega) hr8
   refine ld_all hb6_11 hr11.rep.len ?_
   refine st_agg_at hbb2_11 hr11.rep.len rfl hr11.rep.all_one fun w12 hz12 hb12 hc12=>?_
   refine ld_all hb12 hr11.rep.len ?_
   exact hok' _ _ _ hdm _ w12 (hx11.new hc12 (by omega)) (VRepP.chg hc12 (fun q hq _ e=>by omega) hr11).rep
 · refine ⟨fun _=>?_,fun h=>absurd he h⟩
   rw [put_nil]
   refine h11.drew.ld rfl ?_
   refine h11.drew.ld rfl ?_
   have hxd:Ext w11 w11.drew:=Chg.drew (Chg.refl (fun _=>False) w11)
   refine st_agg_at (l:=zv) (show w11.drew.heap[b2]? = _ from hbb2_11) rfl rfl rfl fun w12 hz12 hb12 hc12=>?_
   have h12:Cel w12 b5 s i c e k:=h11.drew.chg hc12 (by omega)
   have look:∀ {off:Nat} {v:Value} {K:Value → Prop},(SS s i c e k)[off]? = some v → K v → ldW false 1 (.pointer (some ((⟨b5,0,none⟩:Addr).add off))) w12 K:=fun {off v K} hv hk=>by
     have:=h12.ld (K:=K) hv hk
     rw [fld_ptr] at this
     exact this
   refine ⟨look rfl rfl,look rfl rfl,?_⟩
   refine ld_all hb12 rfl ?_
   exact hbad' _ _ hdm he _ w12 ((hx11.trans hxd).new hc12 (by omega)) (vrep_null w12)
end
end Go.Proofs.YtnoepcndjljolaaGreatDoor

namespace Go.Proofs.YtnoepcndjljolaaGreatDoor
open Go Go.Eng Go.RowKit
set_option maxRecDepth 100000
section
variable [HX]
theorem dec_ne (u:Nat):Lib.decDigits u ≠ []:=by
 rw [Lib.decDigits]
 split <;> simp
theorem dec_big (u:Nat) (h:0 < u):Lib.decDigits u = (if u / 10 = 0 then [] else Lib.decDigits (u / 10)) ++ [UInt8.ofNat (48 + u % 10)]:=by
 rw [Lib.decDigits]
 split
 · rw [if_pos (by omega),Nat.mod_eq_of_lt (by omega)]; rfl
 · rw [if_neg (by omega)]
theorem dec_zero {u:Nat} (h:Lib.decDigits u = [48]):u = 0:=by
 rw [Lib.decDigits] at h
 split at h
 · rename_i hu
   have:=List.head_eq_of_cons_eq h
   have e:=congrArg UInt8.toNat this
   rw [UInt8.toNat_ofNat'] at e
   have:(48:UInt8).toNat = 48:=rfl
   omega
 · rename_i hu
   have:=congrArg List.length h
   rw [List.length_append] at this
   have h0:0 < (Lib.decDigits (u / 10)).length:=List.length_pos_iff.2 (dec_ne _)
   simp at this
   exact absurd this (dec_ne _)
theorem dec_len:∀ (k u:Nat),u < 10 ^ k → (Lib.decDigits u).length ≤ k + 1:=by
 intro k
 induction k with
 | zero=>intro u h; rw [Lib.decDigits,dif_pos (by omega)]; simp
 | succ k ih=>
   intro u h
   rw [Lib.decDigits]
   split
   · simp
   · have:=ih (u / 10) (by rw [Nat.pow_succ] at h; omega)
     rw [List.length_append,List.length_singleton]; omega
theorem signed_p {n:Int} {w:World} {K:Value → World → Prop} (hn:n ≠ 0) (h1:-9223372036854775808 ≤ n) (h2:n ≤ 9223372036854775807) (hK:K (str (Lib.itoa n)) w):callF Tryz.prog 157 [.bool (decide (n < 0)),str (Lib.decDigits n.natAbs)] w K:=by
 refine W157_ok ?_
 unfold W157
 have hne:Lib.decDigits n.natAbs ≠ [48]:=fun e=>by have:=dec_zero e; omega
 unfold Lib.itoa at hK
 by_cases hneg:n < 0
 · rw [if_pos hneg] at hK
   rw [decide_eq_true hneg]
   refine GdW.look true (fun _ J hJ=>?_) fun g=>?_
   · rw [bin_sne,decide_eq_true hne]; exact hJ
   show condW (.bool true) _ _
   rw [condW_true,bin_sadd]
   have:=dec_len 19 n.natAbs (by omega)
   have em:IntKind.i64.max = 9223372036854775807:=by decide
   refine ⟨by rw [em]; simp only [List.length_cons,List.length_nil]; omega,?_⟩
   exact hK
 · rw [if_neg hneg] at hK
   rw [decide_eq_false hneg]
   refine GdW.f fun g=>?_
   show condW (.bool false) _ _
   rw [condW_false]
   rw [show n.natAbs = n.toNat by omega]
   exact hK
theorem digits_ref {n:Int} {w:World} {K:Value → World → Prop} (h1:-9223372036854775808 ≤ n) (h2:n ≤ 9223372036854775807) (hK:∀ w',Ext w w' → K (str (Lib.itoa n)) w'):callF Tryz.prog 98 [i64 n] w K:=by
 refine W98_ok ?_
 unfold W98
 rw [bin_eql,condW_dec]
 refine ⟨fun h0=>?_,fun h0=>?_⟩
 · subst h0
   have e:Lib.itoa 0 = [48]:=by unfold Lib.itoa; rw [if_neg (by decide),Lib.decDigits,dif_pos (by decide)]; rfl
   rw [e] at hK
   exact hK w (Chg.refl _ _)
 refine ⟨fun s w'=>∃ (m:Int) (out:Str),s = [str out,i64 m] ∧ Ext w w' ∧ (if m = 0 then [] else Lib.decDigits m.natAbs) ++ out = Lib.decDigits n.natAbs ∧ -9223372036854775808 ≤ m ∧ m ≤ 9223372036854775807,
   fun s _=>match s with | [_,.int _ i]=>i.natAbs | _=>0,⟨n,[],rfl,Chg.refl _ _,by rw [if_neg h0,List.append_nil],h1,h2⟩,?_⟩
 rintro s g w2 ⟨m,out,rfl,hx,he,hm1,hm2⟩
 simp only [List.getD_cons_zero,List.getD_cons_succ]
 rw [bin_neq,condW_dec]
 refine ⟨fun hne=>?_,fun he0=>?_⟩
 · have hol:out.length ≤ 25:=by
     have:=dec_len 19 n.natAbs (by omega)
     rw [← he,List.length_append] at this
     omega
   rw [if_neg hne,dec_big _ (by omega),List.append_assoc] at he
   rw [bin_rem]
   refine ⟨by decide,?_⟩
   have hd:(m.tmod 10).natAbs = m.natAbs % 10:=by rw [Int.natAbs_tmod]; rfl
   have hq:(m.tdiv 10).natAbs = m.natAbs / 10:=by rw [Int.natAbs_tdiv]; rfl
   refine JoinW.cut (fun s' w'=>s' = [i64 ((m.natAbs % 10:Nat):Int)] ∧ w' = w2) ?_ ?_
   · rw [bin_lss,condW_dec]
     refine ⟨fun h=>?_,fun h=>?_⟩
     · rw [un_neg,wrap_id (by omega) (by omega),show 0 - m.tmod 10 = ((m.natAbs % 10:Nat):Int) by omega]
       exact ⟨rfl,rfl⟩
     · rw [show m.tmod 10 = ((m.natAbs % 10:Nat):Int) by omega]
       exact ⟨rfl,rfl⟩
   rintro s' g2 w3 ⟨rfl,rfl⟩
   simp only [List.getD_cons_zero]
   rw [bin_add,wrap_id (by omega) (by omega),cvt_int,show (48:Int) + ((m.natAbs % 10:Nat):Int) = ((48 + m.natAbs % 10:Nat):Int) by omega,u8_wrap,Nat.mod_eq_of_lt (by omega)]
   refine row_u8 fun t w4 ht hx4=>?_
   have hb:Byt w4 U8 t [UInt8.ofNat (48 + m.natAbs % 10)]:=by
     have e1:u8s [UInt8.ofNat (48 + m.natAbs % 10)] = [.int .u8 ((48 + m.natAbs % 10:Nat):Int)]:=by
       simp only [u8s,List.map_cons,List.map_nil,UInt8.toNat_ofNat']
       rw [Nat.mod_eq_of_lt (by omega)]
     unfold Byt
     rw [e1]; exact ht
   rw [conv_bytes (l:=[UInt8.ofNat (48 + m.natAbs % 10)]) (e:=U8) (by kernel_rfl) (by kernel_rfl) (by kernel_rfl) hb,bin_sadd]
   have em:IntKind.i64.max = 9223372036854775807:=by decide
   refine ⟨by rw [em]; simp only [List.length_cons,List.length_nil]; omega,?_⟩
   rw [bin_quo]
   refine ⟨by decide,?_⟩
   rw [wrap_id (by omega) (by omega)]
   refine ⟨⟨m.tdiv 10,_,rfl,hx.trans hx4,?_,by omega,by omega⟩,?_⟩
   · rw [← he,← hq]
     by_cases hz:m.tdiv 10 = 0
     · rw [if_pos hz,if_pos (by omega)]
     · rw [if_neg hz,if_neg (by omega)]
   · show (m.tdiv 10).natAbs < m.natAbs
     omega
 · have he0:m = 0:=Classical.byContradiction he0
   rw [if_pos he0,List.nil_append] at he
   rw [bin_lss,he]
   exact signed_p h0 h1 h2 (hK w2 hx)
theorem ext_grow (w:World) (k:Nat) (os:Array Obj):Ext w (Sort.grow (w.drewN k) os):=
 ⟨rfl,rfl,rfl,by show w.heap.size ≤ (w.heap ++ os).size; simp,fun j hj _=>by show (w.heap ++ os)[j]? = _; rw [Array.getElem?_append_left hj]⟩
theorem itoa_p {n:Int} {w:World} {K:Value → World → Prop} (hT:Tabs w) (h1:-9223372036854775808 ≤ n) (h2:n ≤ 9223372036854775807) (hK:∀ w',Ext w w' → K (str (Lib.itoa n)) w'):callF Tryz.prog 90 [i64 n] w K:=by
 refine of_calls (args:=#[i64 n]) Tryz.call90 ((Tryz.strconv_Itoa n h1 h2 w hT.pow).mono ?_)
 rintro e w' ⟨rfl,k,os,rfl⟩
 exact ⟨_,rfl,hK _ (ext_grow w k os)⟩
theorem itoa_len {n:Int} (h1:-9223372036854775808 ≤ n) (h2:n ≤ 9223372036854775807):(Lib.itoa n).length ≤ 30:=by
 unfold Lib.itoa
 split
 · have:=dec_len 19 n.natAbs (by omega)
   simp only [List.length_cons]; omega
 · have:=dec_len 19 n.toNat (by omega)
   omega
theorem var_ext {P:Program} {w w':World} {name:String} {c:Array Value} (hx:Ext w w') (h:w.var? P name = some c):w'.var? P name = some c:=by
 unfold World.var? at h ⊢
 cases hg:P.globalNamed name with
 | none=>rw [hg] at h; cases h
 | some g=>
   rw [hg] at h
   simp only [Option.bind_some] at h ⊢
   cases hb:w.heap[g]? with
   | none=>rw [hb] at h; cases h
   | some o=>rw [hx.at hb id]; rw [hb] at h; exact h
theorem Tabs.ext {w w':World} (h:Tabs w) (hx:Ext w w'):Tabs w':=⟨h.utf.ext hx,cell_ext hx h.bru,var_ext hx h.pow⟩
section
variable {s f:Str} {c a:Int} {d:Nat}
end
end
end Go.Proofs.YtnoepcndjljolaaGreatDoor
