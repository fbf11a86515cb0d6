/- One plain sentence: weakest preconditions, contracts and plain laws that the claim rests on, text behind text. Conditions: those that each states. -/
import Derived.Test.YtnoepcndjljolaaGreatDoorMY2
import Derived.Sort.OwnSorted
import Derived.Lib.AppendZerosOnto
import Derived.Lib.ValidU
import Derived.Test.YtnoepcndjljolaaGreatDoorMY1
import Derived.Recover
import Derived.Lib.DecodeN
import Derived.Lib.MapLaws
import Derived.Laws.IdiomCopy
import Derived.Lib.Overlaps
import Derived.Laws.Externs
set_option linter.all false
set_option linter.unusedSimpArgs false
set_option linter.unusedVariables false
set_option linter.unusedSectionVars false
namespace Go.Proofs.YtnoepcndjljolaaGreatDoor
open Go Go.Eng Go.RowKit
set_option maxRecDepth 100000
section
variable [HX]
theorem wlit_p {w:World} {B b:Nat} {l s:Str} {K:Value → World → Prop} (h:Bld w B b l) (hB:B ≤ w.heap.size) (hl:l.length + s.length ≤ 1000000000)
   (hK:∀ v w',Bld w' B b (l ++ s) → Chg (BCh w B b) w w' → K v w'):callF Tryz.prog 89 [.pointer (some ⟨b,0,none⟩),str s] w K:=wstr_p h hB (by omega) hK
theorem fbool_p {b:Bool} {w:World} {K:Value → World → Prop} (hK:K (str (if b then [116,114,117,101] else [102,97,108,115,101])) w):callF Tryz.prog 110 [.bool b] w K:=by
 refine of_calls (args:=#[.bool b]) Tryz.call110 ((Tryz.strconv_FormatBool b w).mono ?_)
 rintro e w' ⟨rfl,rfl⟩
 refine ⟨_,rfl,?_⟩
 have e:(⟨(Lib.formatBool b).toArray⟩:ByteArray) = ofL (if b then [116,114,117,101] else [102,97,108,115,101]):=by cases b <;> decide +kernel
 rw [e]
 exact hK
theorem textsL_mem:∀ {xs:List JV},textsL xs = true → ∀ x ∈ xs,textsM x = true
 | [],_,x,hx=>by cases hx
 | y :: ys,h,x,hx=>by
   simp only [textsL,Bool.and_eq_true] at h
   rcases List.mem_cons.1 hx with rfl | hx
   · exact h.1
   · exact textsL_mem h.2 x hx
theorem sum_succ (f:Nat → Str) (n:Nat):sumL f (n + 1) = sumL f n ++ f n:=rfl
theorem BCh.keepv {w w':World} {B b k:Nat} {l:List Value} (h:Chg (BCh w B b) w w') (hk:w.heap[k]? = some (.cells l.toArray VT (0,0))) (hb:k ≠ b):w'.heap[k]? = some (.cells l.toArray VT (0,0)):=BCh.keep h hk hb (by decide)
theorem write_p (v:JV):∀ {w0 w:World} {B b:Nat} {l:Str} {cs:List Value} {K:Value → World → Prop},VRep w0 v cs → Ext w0 w → w0.heap.size ≤ B → B ≤ w.heap.size → Bld w B b l → plainM v = true → textsM v = true → knownM v = true → fewM v = true →
   l.length + 200000 * cntM v ≤ 900000000 → FmtOk w0 → (∀ w',Bld w' B b (l ++ showM v) → Chg (BCh w B b) w w' → K (.tuple #[]) w') → callF Tryz.prog 52 [.pointer (some ⟨b,0,none⟩),.agg cs.toArray] w K:=by
 induction v using JV.ind with
 | h k bb t xs ks ih=>
   intro w0 w B b l cs K hr h0 hB0 hB hbd hp hu hkn hfew hl hF hK
   have hsl:=show_len _ hp
   have hbb:=hbd.base
   have hblt:=hbd.lt
   rw [plainM_eq,Bool.and_eq_true] at hp
   obtain ⟨hp1,hp2⟩:=hp
   have hh:=headOk_out hp1
   simp only [JV.k,JV.b,JV.t,JV.xs,JV.ks] at hh hp2
   rw [knownM_eq,Bool.and_eq_true,Bool.not_eq_true',decide_eq_false_iff_not] at hkn
   obtain ⟨hkn1,hkn2⟩:=hkn
   simp only [JV.k,JV.xs] at hkn1 hkn2
   simp only [textsM,Bool.and_eq_true] at hu
   obtain ⟨⟨hu1,hu2⟩,hu3⟩:=hu
   rw [fewM_eq] at hfew
   simp only [JV.xs,JV.ks,Bool.and_eq_true] at hfew
   obtain ⟨⟨hf1,hf2⟩,hf3⟩:=hfew
   have hf1:xs.length ≤ 100000:=of_decide_eq_true hf1
   rw [plainL_all,List.all_eq_true] at hp2
   rw [knownL_all,List.all_eq_true] at hkn2
   rw [fewL_all,List.all_eq_true] at hf3
   have hu3':=textsL_mem hu3
   simp only [cntM] at hl hsl
   rw [showM_eq] at hK hsl
   refine W52_ok ?_
   unfold W52
   refine box_vali hr fun a w1 sv kv ha hI hx1 hage hz1=>?_
   simp only [JV.k,JV.b,JV.t,JV.xs,JV.ks] at ha
   have hab:a ≠ b:=by omega
   have hx01:=h0.trans hx1
   have hb1:=hbd.ext hx1
   have ld:∀ (w':World) (off:Nat) (v:Value) (KK:Value → Prop),w'.heap[a]? = some (.cells [i64 k,.bool bb,str t,sv,kv].toArray VT (0,0)) → [i64 k,.bool bb,str t,sv,kv][off]? = some v → KK v → fldW off (.pointer (some ⟨a,0,none⟩)) fun p=>ldW false 1 p w' KK:=by
     intro w' off v KK hw hv hk
     rw [fld_ptr,ld_one]
     refine ⟨v,?_,hk⟩
     rw [add_mk,cell_eq,hw,cellO_some,Nat.zero_add]
     simpa using hv
   have mk:∀ {w':World},Chg (BCh w1 B b) w1 w' → Chg (BCh w B b) w w':=fun hc=>BCh.from hx1 hc
   refine ld w1 0 _ _ ha rfl ?_
   rw [bin_eql,condW_dec]
   refine ⟨fun e0=>?_,fun e0=>?_⟩
   · rw [if_pos e0] at hK
     exact wlit_p hb1 (by omega) (by simp; omega) fun v w2 h2 hc2=>hK w2 h2 (mk hc2)
   rw [if_neg e0] at hK hsl
   rw [bin_eql,condW_dec]
   refine ⟨fun e2=>?_,fun e2=>?_⟩
   · rw [if_pos e2] at hK
     refine ld w1 1 _ _ ha rfl ?_
     refine fbool_p ?_
     refine wlit_p hb1 (by omega) (by cases bb <;> simp <;> omega) fun v w2 h2 hc2=>hK w2 h2 (mk hc2)
   rw [if_neg e2] at hK hsl
   rw [bin_eql,condW_dec]
   refine ⟨fun e3=>?_,fun e3=>?_⟩
   · rw [if_pos e3] at hK hsl
     refine ld w1 2 _ _ ha rfl ?_
     exact wlit_p hb1 (by omega) (by omega) fun v w2 h2 hc2=>hK w2 h2 (mk hc2)
   rw [if_neg e3] at hK hsl
   rw [bin_eql,condW_dec]
   refine ⟨fun e4=>?_,fun e4=>?_⟩
   · rw [if_pos e4] at hK hsl
     have ht4:=hh.2.2.2.2.2.2.2.1 e4
     refine ld w1 2 _ _ ha rfl ?_
     exact quote_p hx01 hB0 hb1 (by omega) (utfM_of hu1) (by omega) (fun _ _ _=>hF) fun w2 h2 hc2=>hK w2 h2 (mk hc2)
   rw [if_neg e4] at hK hsl
   have hcg:=fun n hn=>cntS_le xs n hn
   rw [bin_eql,condW_dec]
   refine ⟨fun e5=>?_,fun e5=>?_⟩
   · rw [if_neg (by omega),← list_join] at hK
     refine wbyte_p (n:=91) hb1 (by omega) (by omega) (by omega) fun w2 h2 hc2=>?_
     have ha2:=BCh.keepv hc2 ha hab
     refine ld w2 3 _ _ ha2 rfl ?_
     have hit:lenlW sv = fun K=>K (i64 (xs.length:Int)):=by
       funext K
       obtain ⟨T,L,i1,_⟩:=hI.items
       exact propext (lenl_at i1 K)
     rw [hit]
     dsimp only
     refine loop_up xs.length (fun i w'=>Chg (BCh w B b) w w' ∧ w'.heap[a]? = some (.cells [i64 k,.bool bb,str t,sv,kv].toArray VT (0,0)) ∧ Bld w' B b (l ++ [91] ++ sumL (partL xs) i) ∧ (sumL (partL xs) i).length ≤ 200000 * cntS xs i) ⟨mk hc2,ha2,by simpa [sumL] using h2,by simp [sumL]⟩ ?_ ?_
     · rintro i w3 g L hi ⟨hc3,ha3,h3,hs3⟩ hL
       obtain ⟨x,hxi⟩:∃ x,xs[i]? = some x:=⟨_,List.getElem?_eq_getElem hi⟩
       have hxm:=List.mem_of_getElem? hxi
       have hcs:=hcg (i + 1) hi
       rw [cntS,cntAt_get hxi] at hcs
       have hz3:=hc3.size
       have hx03:Ext w0 w3:=BCh.new h0 hB0 hbb hc3
       simp only [List.getD_cons_zero]
       rw [bin_lss,decide_eq_true (by omega),condW_true]
       refine ValI.item_old hI hx03 hxi fun cs2 hr2=>?_
       refine alloc_new fun a2 w4 ha2 hz4 hb4 hx4=>?_
       have hlen:=hr2.len
       refine st_agg_at (l:=cs2) hb4 (by omega) (by simp) hr2.all_one fun w5 hz5 hb5 hc5=>?_
       have hx5:Ext w3 w5:=hx4.new hc5 (by omega)
       have h5:=h3.ext hx5
       have hc5':=BCh.ext hc3 hx5
       have ha5:=hx5.at ha3 id
       have ha2b:a2 ≠ b:=by have:=h3.lt; omega
       have hll:(l ++ [91] ++ sumL (partL xs) i).length = l.length + 1 + (sumL (partL xs) i).length:=by simp only [List.length_append,List.length_cons,List.length_nil]
       refine JoinW.cut (fun s' w6=>s' = [] ∧ Chg (BCh w5 B b) w5 w6 ∧ Bld w6 B b (l ++ [91] ++ sumL (partL xs) i ++ (if i = 0 then [] else [44]))) ?_ ?_
       · rw [bin_gtr,condW_dec]
         refine ⟨fun hpos=>?_,fun hz=>?_⟩
         · refine wbyte_p (n:=44) h5 (by omega) (by omega) (by omega) fun w6 h6 hc6=>⟨rfl,hc6,?_⟩
           rw [if_neg (by omega)]; exact h6
         · refine ⟨rfl,Chg.refl _ _,?_⟩
           rw [if_pos (by omega),List.append_nil]; exact h5
       rintro s' g6 w6 ⟨rfl,hc6,h6⟩
       have hb6:=BCh.keepv hc6 hb5 ha2b
       have hz6:=hc6.size
       refine ld_all hb6 (by omega) ?_
       refine ih x hxm (w0:=w0) hr2 (BCh.new hx03 (by omega) hbb (BCh.from hx5 hc6) ) hB0 (by omega) h6 (hp2 x hxm) (hu3' x hxm) (hkn2 x hxm) (hf3 x hxm) ?_ hF fun w7 h7 hc7=>?_
       · simp only [List.length_append] at hll ⊢
         have:(if i = 0 then ([]:Str) else [44]).length ≤ 1:=by split <;> simp
         omega
       have hi2:i < 100000:=by omega
       rw [bin_add,up1 (i:=i) (by omega)]
       have hcc:=BCh.trans (BCh.trans hc5' hc6) hc7
       refine hL w7 ⟨hcc,BCh.keepv hc7 (BCh.keepv hc6 ha5 hab) hab,?_,?_⟩
       · rw [sum_succ]
         unfold partL
         rw [hxi,← List.append_assoc,← List.append_assoc]
         exact h7
       · rw [sum_succ,List.length_append,cntS,cntAt_get hxi]
         have:=show_len x (hp2 x hxm)
         have h9:(partL xs i).length ≤ 1 + (showM x).length:=by
           unfold partL; rw [hxi,List.length_append]; split <;> simp
         omega
     · rintro w3 g L ⟨hc3,ha3,h3,hs3⟩
       have hz3:=hc3.size
       have hcs:=hcg xs.length (Nat.le_refl _)
       simp only [List.getD_cons_zero]
       rw [bin_lss,decide_eq_false (by omega),condW_false]
       refine wbyte_p (n:=93) h3 (by omega) (by simp only [List.length_append,List.length_cons,List.length_nil]; omega) (by omega) fun w4 h4 hc4=>?_
       refine hK w4 ?_ (BCh.trans hc3 hc4)
       simpa [List.append_assoc] using h4
   have e6:k = 6:=by
     have:=hh.1; have:=hh.2.1; omega
   have hkl:=hh.2.2.2.2.2.2.2.2.1 e6
   have hks:=keysOk_len hh.2.2.2.2.2.2.2.2.2
   rw [List.all_eq_true] at hu2
   rw [bin_eql,decide_eq_true e6,condW_true]
   rw [if_pos e6,← obj_join hkl] at hK
   refine wbyte_p (n:=123) hb1 (by omega) (by omega) (by omega) fun w2 h2 hc2=>?_
   have ha2:=BCh.keepv hc2 ha hab
   refine ld w2 3 _ _ ha2 rfl ?_
   have hit:lenlW sv = fun K=>K (i64 (xs.length:Int)):=by
     funext K
     obtain ⟨T,L,i1,_⟩:=hI.items
     exact propext (lenl_at i1 K)
   rw [hit]
   dsimp only
   refine loop_up xs.length (fun i w'=>Chg (BCh w B b) w w' ∧ w'.heap[a]? = some (.cells [i64 k,.bool bb,str t,sv,kv].toArray VT (0,0)) ∧ Bld w' B b (l ++ [123] ++ sumL (partO xs ks) i) ∧ (sumL (partO xs ks) i).length ≤ 200000 * cntS xs i) ⟨mk hc2,ha2,by simpa [sumL] using h2,by simp [sumL]⟩ ?_ ?_
   · rintro i w3 g L hi ⟨hc3,ha3,h3,hs3⟩ hL
     obtain ⟨x,hxi⟩:∃ x,xs[i]? = some x:=⟨_,List.getElem?_eq_getElem hi⟩
     obtain ⟨key,hki⟩:∃ key,ks[i]? = some key:=⟨_,List.getElem?_eq_getElem (by omega)⟩
     have hkm:=List.mem_of_getElem? hki
     have hklen:=hks key hkm
     have hql:=quote_len key
     have hxm:=List.mem_of_getElem? hxi
     have hcs:=hcg (i + 1) hi
     rw [cntS,cntAt_get hxi] at hcs
     have hpart:partO xs ks i = (if i = 0 then [] else [44]) ++ quoteM key ++ [58] ++ showM x:=by
       unfold partO
       rw [hxi,List.getD_eq_getElem?_getD,hki]; rfl
     have hz3:=hc3.size
     have hx03:Ext w0 w3:=BCh.new h0 hB0 hbb hc3
     simp only [List.getD_cons_zero]
     rw [bin_lss,decide_eq_true (by omega),condW_true]
     refine ValI.item_old hI hx03 hxi fun cs2 hr2=>?_
     refine alloc_new fun a2 w4 ha2 hz4 hb4 hx4=>?_
     have hlen:=hr2.len
     refine st_agg_at (l:=cs2) hb4 (by omega) (by simp) hr2.all_one fun w5 hz5 hb5 hc5=>?_
     have hx5:Ext w3 w5:=hx4.new hc5 (by omega)
     have h5:=h3.ext hx5
     have hc5':=BCh.ext hc3 hx5
     have ha5:=hx5.at ha3 id
     have ha2b:a2 ≠ b:=by have:=h3.lt; omega
     have hll:(l ++ [123] ++ sumL (partO xs ks) i).length = l.length + 1 + (sumL (partO xs ks) i).length:=by simp only [List.length_append,List.length_cons,List.length_nil]
     have hif:(if i = 0 then ([]:Str) else [44]).length ≤ 1:=by split <;> simp
     have hx1:=show_len x (hp2 x hxm)
     refine JoinW.cut (fun s' w6=>s' = [] ∧ Chg (BCh w5 B b) w5 w6 ∧ Bld w6 B b (l ++ [123] ++ sumL (partO xs ks) i ++ (if i = 0 then [] else [44]))) ?_ ?_
     · rw [bin_gtr,condW_dec]
       refine ⟨fun hpos=>?_,fun hz=>?_⟩
       · refine wbyte_p (n:=44) h5 (by omega) (by omega) (by omega) fun w6 h6 hc6=>⟨rfl,hc6,?_⟩
         rw [if_neg (by omega)]; exact h6
       · refine ⟨rfl,Chg.refl _ _,?_⟩
         rw [if_pos (by omega),List.append_nil]; exact h5
     rintro s' g6 w6 ⟨rfl,hc6,h6⟩
     have hb6:=BCh.keepv hc6 hb5 ha2b
     have ha6:=BCh.keepv hc6 ha5 hab
     have hz6:=hc6.size
     have hx06:Ext w0 w6:=BCh.new hx03 (by omega) hbb (BCh.from hx5 hc6)
     refine ld w6 4 _ _ ha6 rfl ?_
     obtain ⟨T,hkv⟩:=hI.keys
     refine text_ld (hkv.ext hx06) hki ?_
     refine quote_p hx06 hB0 h6 (by omega) (utfM_of (hu2 key hkm)) ?_ (fun _ _ _=>hF) fun w7 h7 hc7=>?_
     · simp only [List.length_append] at hll ⊢
       omega
     have hb7:=BCh.keepv hc7 hb6 ha2b
     have ha7:=BCh.keepv hc7 ha6 hab
     have hz7:=hc7.size
     refine wbyte_p (n:=58) h7 (by omega) ?_ (by omega) fun w8 h8 hc8=>?_
     · simp only [List.length_append] at hll ⊢
       omega
     have hb8:=BCh.keepv hc8 hb7 ha2b
     have ha8:=BCh.keepv hc8 ha7 hab
     have hz8:=hc8.size
     refine ld_all hb8 (by omega) ?_
     have hc58:=BCh.trans (BCh.trans hc6 hc7) hc8
     refine ih x hxm (w0:=w0) hr2 (BCh.new hx03 (by omega) hbb (BCh.from hx5 hc58)) hB0 (by omega) h8 (hp2 x hxm) (hu3' x hxm) (hkn2 x hxm) (hf3 x hxm) ?_ hF fun w9 h9 hc9=>?_
     · simp only [List.length_append,List.length_cons,List.length_nil] at hll ⊢
       omega
     have hi2:i < 100000:=by omega
     rw [bin_add,up1 (i:=i) (by omega)]
     have hcc:=BCh.trans (BCh.trans hc5' hc58) hc9
     refine hL w9 ⟨hcc,BCh.keepv hc9 ha8 hab,?_,?_⟩
     · rw [sum_succ,hpart]
       simpa [List.append_assoc] using h9
     · rw [sum_succ,List.length_append,cntS,cntAt_get hxi,hpart]
       simp only [List.length_append,List.length_cons,List.length_nil]
       omega
   · rintro w3 g L ⟨hc3,ha3,h3,hs3⟩
     have hz3:=hc3.size
     have hcs:=hcg xs.length (Nat.le_refl _)
     simp only [List.getD_cons_zero]
     rw [bin_lss,decide_eq_false (by omega),condW_false]
     refine wbyte_p (n:=125) h3 (by omega) (by simp only [List.length_append,List.length_cons,List.length_nil]; omega) (by omega) fun w4 h4 hc4=>?_
     refine hK w4 ?_ (BCh.trans hc3 hc4)
     simpa [List.append_assoc] using h4
end
end Go.Proofs.YtnoepcndjljolaaGreatDoor
namespace Go.Proofs.YtnoepcndjljolaaGreatDoor
open Go Go.Eng Go.Num
set_option maxRecDepth 100000
section
variable [HX]
theorem get_p {v:JV} {cs:List Value} {k:Str} {w:World} {K:Value → World → Prop} (h:VRep w v cs) (k6:v.k = 6) (hl:v.ks.length = v.xs.length) (hfew:fewM v = true) (hr:Rise v.ks)
   (hK:∀ cs' w',Ext w w' → VRep w' ((getM v k).getD JV.null) cs' → K (.tuple #[.agg cs'.toArray,.bool (getM v k).isSome]) w'):callF Tryz.prog 106 [.agg cs.toArray,str k] w K:=by
 have hfew2:=hfew
 rw [fewM_eq,fewL_all] at hfew2
 simp only [Bool.and_eq_true,decide_eq_true_eq,List.all_eq_true] at hfew2
 obtain ⟨⟨f1,f2⟩,f3⟩:=hfew2
 refine W106_ok ?_
 unfold W106
 refine box_val h fun a w1 sv kv hB hx _=>?_
 refine alloc_new fun b w2 hb hz2 hbb hx2=>?_
 have hB0:=hB
 have hB:=hB.ext hx2
 have hgb:w1.heap.size ≤ b:=by omega
 simp only [wsv,wsg,wsh,wsl,cond_true,cond_false,exists_eq_left',wsu,Nat.reduceAdd,Nat.reduceLT,Nat.lt_add_one,Nat.zero_lt_succ,decide_true,decide_false,ne_eq,reduceCtorEq,wsh,hB.hb]
 obtain ⟨T2,hk2⟩:=hB.keys
 refine search_p hk2 f2 hr fun i hi0 _ _ hile=>?_
 have e6:decide (v.k = 6) = true:=decide_eq_true k6
 cases hx0:idxK v.ks k with
 | none=>
   have hg:getM v k = none:=by unfold getM; rw [if_pos k6,hx0]
   rw [hg] at hK
   simp only [Option.isSome_none]
   simp only [wsv,wsg,wsh,wsl,cond_true,cond_false,exists_eq_left',wsu,Nat.reduceAdd,Nat.reduceLT,Nat.lt_add_one,Nat.zero_lt_succ,decide_true,decide_false,ne_eq,reduceCtorEq,wsh,hB.hb,e6]
   intros
   (try simp only [wsv,wsg,wsh,wsl,cond_true,cond_false,exists_eq_left',wsu,Nat.reduceAdd,Nat.reduceLT,Nat.lt_add_one,Nat.zero_lt_succ,decide_true,decide_false,ne_eq,reduceCtorEq,wsh,hB.hb,e6])
   refine ret_val (K:=fun r w=>K (.tuple #[r,.bool false]) w) hbb rfl hgb hx2 (vrep_null w1) fun w4 hx4 _ h4=>?_
   exact hK _ w4 (hx.trans hx4) h4
 | some j=>
   obtain rfl:j = i:=by
     rcases hi0 with h | h
     · rw [h] at hx0; cases hx0
     · rw [h] at hx0; exact (Option.some.inj hx0).symm
   obtain ⟨x,hxi⟩:∃ x,v.xs[j]? = some x:=⟨_,List.getElem?_eq_getElem (by
     have:=(List.getElem?_eq_some_iff.1 (idxK_spec hx0)).1
     omega)⟩
   have hg:getM v k = some x:=by unfold getM; rw [if_pos k6,hx0]; exact hxi
   rw [hg] at hK
   simp only [Option.isSome_some]
   simp only [wsv,wsg,wsh,wsl,cond_true,cond_false,exists_eq_left',wsu,Nat.reduceAdd,Nat.reduceLT,Nat.lt_add_one,Nat.zero_lt_succ,decide_true,decide_false,ne_eq,reduceCtorEq,wsh,hB.hb,e6]
   intros
   (try simp only [wsv,wsg,wsh,wsl,cond_true,cond_false,exists_eq_left',wsu,Nat.reduceAdd,Nat.reduceLT,Nat.lt_add_one,Nat.zero_lt_succ,decide_true,decide_false,ne_eq,reduceCtorEq,wsh,hB.hb,e6])
   refine hB0.item_old hx2 hxi fun cs2 h2=>?_
   refine clone_p x (f3 x (List.mem_of_getElem? hxi)) (h2.ext hx2) fun cs3 w3 hx3 h3=>?_
   have hb3:=hx3.at hbb id
   refine ret_agg (K:=fun r w=>K (.tuple #[r,.bool true]) w) hb3 h3.rep.len rfl h3.rep.all_one fun w4 hc4=>?_
   have hx4:Ext w1 w4:=(hx2.trans hx3).new hc4 hgb
   refine hK _ w4 (hx.trans hx4) (VRepP.rep (VRepP.chg hc4 (fun q hq _ e=>?_) h3))
   have:w2.heap.size ≤ q:=hq
   omega
end
end Go.Proofs.YtnoepcndjljolaaGreatDoor





namespace Go.Proofs.YtnoepcndjljolaaGreatDoor
open Go Go.Eng Go.RowKit
set_option maxRecDepth 100000
theorem valid_iff:∀ (n:Nat) (l:Str),l.length ≤ n → (Lib.validGoD n l = true ↔ Utf l):=by
 intro n
 induction n with
 | zero=>
   intro l h
   obtain rfl:l = []:=List.eq_nil_of_length_eq_zero (by omega)
   exact ⟨fun _=>.nil,fun _=>rfl⟩
 | succ n ih=>
   intro l h
   unfold Lib.validGoD
   by_cases h0:l = []
   · rw [if_pos h0]; subst h0; exact ⟨fun _=>.nil,fun _=>rfl⟩
   rw [if_neg h0]
   have hpos:0 < l.length:=List.length_pos_iff.2 h0
   have hd:Lib.decodeL l = Utf8.decode (ofL l) 0:=rfl
   have head:Utf l → ∃ u r,Rn u ∧ Utf r ∧ l = u ++ r ∧ runeM l 0 = u.length:=fun hu=>by
     cases hu with
     | nil=>exact absurd rfl h0
     | cons h1 h2=>exact ⟨_,_,h1,h2,rfl,h1.at (s:=_ ++ _) (i:=0) (by rw [List.drop_zero])⟩
   by_cases hr:runeM l 0 = 0
   · rw [hd,rune_bad hpos hr,if_pos ⟨rfl,rfl⟩]
     refine ⟨fun e=>(by cases e),fun hu=>?_⟩
     obtain ⟨u,r,h1,_,_,h4⟩:=head hu
     have:=h1.pos
     omega
   · obtain ⟨c,hc⟩:=rune_good hpos hr
     rw [hd,hc.dec,if_neg (by
       rintro ⟨e1,e2⟩
       have e1:c = 65533:=e1
       have:=(hc.low e2).2
       omega)]
     have hf:=hc.fits
     rw [ih (l.drop (runeM l 0)) (by rw [List.length_drop]; omega)]
     constructor
     · intro hu
       have:=Utf.cons (Rn.of hr) hu
       rwa [List.drop_zero,List.take_append_drop] at this
     · intro hu
       obtain ⟨u,r,h1,h2,h3,h4⟩:=head hu
       rw [h4,h3,List.drop_left]
       exact h2
theorem valid_utf (l:Str):Lib.validD l = utfM l:=by
 have h1:=valid_iff l.length l (Nat.le_refl _)
 have h2:=utf_iff l
 unfold Lib.validD
 cases ha:Lib.validGoD l.length l <;> cases hb:utfM l <;> simp_all
def TabU (w:World):Prop:=Lib.Utf8Tabs (Tryz.laysValid_ren.g 3) (Tryz.laysValid_ren.g 4) w
theorem cell_ext {w w':World} {b o:Nat} {v:Value} (hx:Ext w w') (h:w.cell? ⟨b,o,none⟩ = some v):w'.cell? ⟨b,o,none⟩ = some v:=by
 rw [cell_eq] at h ⊢
 cases hb:w.heap[b]? with
 | none=>rw [hb] at h; cases h
 | some x=>rw [hb] at h; rw [hx.at hb id]; exact h
theorem TabU.ext {w w':World} (h:TabU w) (hx:Ext w w'):TabU w':=⟨fun c hc=>cell_ext hx (h.1 c hc),fun i hi=>⟨cell_ext hx (h.2 i hi).1,cell_ext hx (h.2 i hi).2⟩⟩
section
variable [HX]
theorem valid_p {s:Str} {w:World} {K:Value → World → Prop} (hT:TabU w) (hl:s.length ≤ 9223372036854775807) (hK:∀ w',Ext w w' → K (.bool (utfM s)) w'):callF Tryz.prog 100 [str s] w K:=by
 refine of_calls (args:=#[str s]) Tryz.call100 ((Tryz.utf8_ValidString (ofL s) w (by rw [ofL_size]; exact hl) hT).mono ?_)
 rintro e w' ⟨rfl,hb⟩
 rw [ofL_data,valid_utf]
 exact ⟨_,rfl,hK w' (Chg.of_below hb)⟩
theorem bad_p {s:Str} {w:World} {K:Value → World → Prop} (hT:TabU w) (hl:s.length ≤ 9223372036854775807) (hK:∀ w',Ext w w' → K (.bool (!utfM s)) w'):callF Tryz.prog 108 [str s] w K:=by
 refine W108_ok ?_
 unfold W108
 refine valid_p hT hl fun w1 hx1=>?_
 rw [un_not]
 exact hK w1 hx1
theorem index_sx {v f:Value} {T:TypeId} {l:List Str} {p:Str → Bool} {w:World} {K:Value → World → Prop} (h:SlAt w T v l.length (l.map str)) (hl:l.length ≤ 9223372036854775807)
   (hf:∀ x ∈ l,∀ {w1:World} {K:Value → World → Prop},Ext w w1 → (∀ w',Ext w1 w' → K (.bool (p x)) w') → callV Tryz.prog f [str x] w1 K)
   (hK:∀ w',Ext w w' → K (i64 (findI p l)) w'):callF Tryz.prog 147 [v,f] w K:=by
 refine W147_ok ?_
 unfold W147
 rw [lenl_at h]
 refine loop_up l.length (fun i w'=>Ext w w' ∧ (l.take i).any p = false) ⟨Chg.refl _ _,by simp⟩ ?_ ?_
 · rintro i w2 g L hi ⟨hx2,hno⟩ hL
   obtain ⟨x,hxi⟩:∃ x,l[i]? = some x:=⟨_,List.getElem?_eq_getElem hi⟩
   have hlt:((i:Int) < (l.length:Int)):=by omega
   simp only [wsv,wsg,wsh,wsl,cond_true,cond_false,exists_eq_left',wsu,Nat.reduceAdd,Nat.reduceLT,Nat.lt_add_one,Nat.zero_lt_succ,decide_true,decide_false,ne_eq,reduceCtorEq,hlt]
   refine text_ld (h.ext hx2) hxi ?_
   refine hf x (List.mem_of_getElem? hxi) hx2 fun w3 hx3=>?_
   rw [condW_b]
   refine ⟨fun ht=>?_,fun hn=>?_⟩
   · have:=hK w3 (hx2.trans hx3)
     unfold findI at this
     rw [findIdx_hit hno hxi ht] at this
     exact this
   · rw [up1 (by omega)]
     exact hL _ ⟨hx2.trans hx3,by rw [any_take hxi,hno,hn]; rfl⟩
 · rintro w2 g L ⟨hx2,hno⟩
   simp only [wsv,wsg,wsh,wsl,cond_true,cond_false,exists_eq_left',wsu,Nat.reduceAdd,Nat.reduceLT,Nat.lt_add_one,Nat.zero_lt_succ,decide_true,decide_false,ne_eq,reduceCtorEq,Int.lt_irrefl]
   rw [List.take_length] at hno
   have:=hK w2 hx2
   unfold findI at this
   rw [List.findIdx?_eq_none_iff.2 fun x hx=>by simpa using List.any_eq_false.1 hno x hx] at this
   exact this
theorem contains_sx {v f:Value} {T:TypeId} {l:List Str} {p:Str → Bool} {w:World} {K:Value → World → Prop} (h:SlAt w T v l.length (l.map str)) (hl:l.length ≤ 9223372036854775807)
   (hf:∀ x ∈ l,∀ {w1:World} {K:Value → World → Prop},Ext w w1 → (∀ w',Ext w1 w' → K (.bool (p x)) w') → callV Tryz.prog f [str x] w1 K)
   (hK:∀ w',Ext w w' → K (.bool (l.any p)) w'):callF Tryz.prog 87 [v,f] w K:=by
 refine W87_ok ?_
 unfold W87
 refine index_sx h hl hf fun w1 hx1=>?_
 simp only [wsv,wsg,wsh,wsl,cond_true,cond_false,exists_eq_left',wsu,Nat.reduceAdd,Nat.reduceLT,Nat.lt_add_one,Nat.zero_lt_succ,decide_true,decide_false,ne_eq,reduceCtorEq,findI_ge]
 exact hK w1 hx1
theorem any_not_utf (ks:List Str):(!ks.any fun s=>!utfM s) = ks.all utfM:=by
 induction ks with
 | nil=>rfl
 | cons x xs ih=>simp only [List.any_cons,List.all_cons,Bool.not_or,Bool.not_not,ih]
theorem any_not_texts (xs:List JV):(!xs.any fun x=>!textsM x) = textsL xs:=by
 induction xs with
 | nil=>rfl
 | cons x xs ih=>simp only [List.any_cons,Bool.not_or,Bool.not_not,ih,textsL]
theorem textsM_eq (v:JV):textsM v = (utfM v.t && v.ks.all utfM && textsL v.xs):=by cases v; rfl
theorem texts_p (v:JV):∀ {w0 w:World} {cs:List Value} {K:Value → World → Prop},TabU w0 → Ext w0 w → VRep w v cs → (∀ w',Ext w w' → K (.bool (textsM v)) w') → callF Tryz.prog 51 [.agg cs.toArray] w K:=by
 induction v using JV.ind' with
 | h v ih=>
   intro w0 w cs K hT h0 h hK
   rw [textsM_eq] at hK
   refine W51_ok ?_
   unfold W51
   refine box_val h fun a w1 sv kv hB hx _=>?_
   obtain ⟨f1,f2,f3,f4⟩:=hB.fits
   simp only [wsv,wsg,wsh,wsl,cond_true,cond_false,exists_eq_left',wsu,Nat.reduceAdd,Nat.reduceLT,Nat.lt_add_one,Nat.zero_lt_succ,decide_true,decide_false,ne_eq,reduceCtorEq,wsh,hB.hb]
   refine callV_fn (bad_p (hT.ext (h0.trans hx)) f3 fun w2 hx2=>?_)
   have hB2:=hB.ext hx2
   have hx2':=hx.trans hx2
   obtain ⟨Tk,hkv⟩:=hB2.keys
   simp only [wsv,wsg,wsh,wsl,cond_true,cond_false,exists_eq_left',wsu,Nat.reduceAdd,Nat.reduceLT,Nat.lt_add_one,Nat.zero_lt_succ,decide_true,decide_false,ne_eq,reduceCtorEq,Bool.not_not]
   refine GdW.act (v.ks.all utfM) (fun w'=>Ext w2 w') (fun _=>Chg.refl _ _) ?_ ?_
   · intro hc J hJ
     simp only [wsv,wsg,wsh,wsl,cond_true,cond_false,exists_eq_left',wsu,Nat.reduceAdd,Nat.reduceLT,Nat.lt_add_one,Nat.zero_lt_succ,decide_true,decide_false,ne_eq,reduceCtorEq,wsh,hB2.hb]
     refine contains_sx (p:=fun s=>!utfM s) hkv f2 (fun x hxm {w3 K} hx3 hK=>callV_fn (bad_p (hT.ext ((h0.trans hx2').trans hx3)) (f4 x hxm) hK)) fun w4 hx4=>?_
     simp only [wsv,wsg,wsh,wsl,cond_true,cond_false,exists_eq_left',wsu,Nat.reduceAdd,Nat.reduceLT,Nat.lt_add_one,Nat.zero_lt_succ,decide_true,decide_false,ne_eq,reduceCtorEq,any_not_utf]
     exact hJ w4 hx4
   intro g w4 hx4
   have hB4:=hB2.ext hx4
   have hx4':=hx2'.trans hx4
   simp only [wsv,wsg,wsh,wsl,cond_true,cond_false,exists_eq_left',wsu,Nat.reduceAdd,Nat.reduceLT,Nat.lt_add_one,Nat.zero_lt_succ,decide_true,decide_false,ne_eq,reduceCtorEq]
   refine GdW.act (textsL v.xs) (fun w'=>Ext w4 w') (fun _=>Chg.refl _ _) ?_ ?_
   · intro hc J hJ
     simp only [wsv,wsg,wsh,wsl,cond_true,cond_false,exists_eq_left',wsu,Nat.reduceAdd,Nat.reduceLT,Nat.lt_add_one,Nat.zero_lt_succ,decide_true,decide_false,ne_eq,reduceCtorEq,wsh,hB4.hb]
     refine contains_x (p:=fun x=>!textsM x) hB4.itemsAt ?_ fun w5 hx5=>?_
     · intro x hxm cs w5 K hx5 hr hK
       refine callV_fn ?_
       refine W109_ok ?_
       unfold W109
       refine box_val hr fun b w6 sv kv hB6 hx6 _=>?_
       refine hB6.ld fun cs2 h2=>?_
       refine ih x hxm hT (((h0.trans hx4').trans hx5).trans hx6) h2 fun w7 hx7=>?_
       rw [un_not]
       exact hK w7 (hx6.trans hx7)
     · simp only [wsv,wsg,wsh,wsl,cond_true,cond_false,exists_eq_left',wsu,Nat.reduceAdd,Nat.reduceLT,Nat.lt_add_one,Nat.zero_lt_succ,decide_true,decide_false,ne_eq,reduceCtorEq,any_not_texts]
       exact hJ w5 hx5
   intro g w5 hx5
   simp only [wsv,wsg,wsh,wsl,cond_true,cond_false,exists_eq_left',wsu,Nat.reduceAdd,Nat.reduceLT,Nat.lt_add_one,Nat.zero_lt_succ,decide_true,decide_false,ne_eq,reduceCtorEq]
   exact hK w5 (hx4'.trans hx5)
end
end Go.Proofs.YtnoepcndjljolaaGreatDoor
namespace Go.Proofs.YtnoepcndjljolaaGreatDoor
open Go Go.Eng Go.RowKit
set_option maxRecDepth 100000
def goodR (v:JV) (m:Nat) (left:Int):Bool:=deepM v m && plainM v && decide ((cntM v:Int) ≤ left)
theorem keysOk_nil:keysOk [] = true:=rfl
def flatK (k:Int) (t:Str):Bool:=if k = 3 then Num.goodN t else if k = 4 then decide (t.length ≤ 16384) else decide (t = [])
def flatOk (v:JV):Bool:=flatK v.k v.t
theorem goodR_flat {v:JV} {m:Nat} {left:Int} (hm:m ≠ 0) (hl:1 ≤ left) (hb:v.b = true → v.k = 2) (h0:0 ≤ v.k) (h5:v.k < 5):goodR v m left = (flatOk v && (decide (v.xs.length = 0) && decide (v.ks.length = 0))):=by
 cases v with
 | mk k b t xs ks=>
 simp only [JV.k,JV.b] at hb h0 h5
 unfold goodR
 show (deepM (.mk k b t xs ks) m && (headOk k b t xs.length ks && plainL xs) && decide ((cntM (.mk k b t xs ks):Int) ≤ left)) = (flatK k t && (decide (xs.length = 0) && decide (ks.length = 0)))
 unfold flatK
 by_cases hx:xs = []
 · subst hx
   cases m with
   | zero=>exact absurd rfl hm
   | succ m=>
     by_cases hk:ks = []
     · subst hk
       have hc:cntM (.mk k b t [] []) = 1:=rfl
       rw [deepM_succ,hc,decide_eq_true (show ((1:Nat):Int) ≤ left from hl)]
       simp only [JV.xs,deepL,plainL,List.length_nil]
       rw [Bool.eq_iff_iff]
       simp only [headOk,keysOk_nil,Bool.and_true,Bool.true_and,Bool.and_eq_true,Bool.or_eq_true,Bool.not_eq_true',decide_eq_true_eq,decide_eq_false_iff_not]
       constructor
       · rintro ⟨⟨⟨⟨⟨⟨⟨⟨_,_⟩,_⟩,ht⟩,_⟩,_⟩,h3⟩,h4⟩,_⟩
         refine ⟨?_,trivial,trivial⟩
         split
         · rename_i e; exact h3.resolve_left (fun h=>h e)
         · split
           · rename_i e; exact decide_eq_true (h4.resolve_left (fun h=>h e))
           · rcases ht with (ht | ht) | ht
             · exact decide_eq_true ht
             · contradiction
             · contradiction
       · rintro ⟨hf,_⟩
         refine ⟨⟨⟨⟨⟨⟨⟨⟨h0,by omega⟩,?_⟩,?_⟩,.inl trivial⟩,.inr trivial⟩,?_⟩,?_⟩,?_⟩
         · cases b with
           | false=>exact .inl rfl
           | true=>exact .inr (hb rfl)
         · by_cases e3:k = 3
           · exact .inl (.inr e3)
           · by_cases e4:k = 4
             · exact .inr e4
             · rw [if_neg e3,if_neg e4,decide_eq_true_iff] at hf; exact .inl (.inl hf)
         · by_cases e3:k = 3
           · rw [if_pos e3] at hf; exact .inr hf
           · exact .inl e3
         · by_cases e4:k = 4
           · rw [if_neg (by omega),if_pos e4,decide_eq_true_iff] at hf; exact .inr hf
           · exact .inl e4
         · exact .inl (by omega)
     · have h1:headOk k b t ([]:List JV).length ks = false:=by
         cases hh:headOk k b t ([]:List JV).length ks with
         | false=>rfl
         | true=>have:=(headOk_out hh).2.2.2.2.2.1 hk; omega
       rw [h1,decide_eq_false (show ¬ ks.length = 0 from fun e=>hk (List.eq_nil_of_length_eq_zero e))]
       simp
 · have h1:headOk k b t xs.length ks = false:=by
     cases hh:headOk k b t xs.length ks with
     | false=>rfl
     | true=>have:=(headOk_out hh).2.2.2.2.1 (fun e=>hx (List.eq_nil_of_length_eq_zero e)); omega
   rw [h1,decide_eq_false (show ¬ xs.length = 0 from fun e=>hx (List.eq_nil_of_length_eq_zero e))]
   simp
def itemsOk (xs:List JV) (m:Nat) (left:Int):Bool:=deepL xs m && plainL xs && decide ((cntL xs:Int) ≤ left)
theorem goodR_deep {v:JV} {m:Nat} {left:Int} (hb:v.b = true → v.k = 2) (hk:v.k = 5 ∧ v.ks = [] ∨ v.k = 6 ∧ v.ks.length = v.xs.length ∧ keysOk v.ks = true):goodR v (m + 1) left = (decide (v.t = []) && itemsOk v.xs m (left - 1)):=by
 cases v with
 | mk k b t xs ks=>
 simp only [JV.k,JV.b,JV.ks,JV.xs] at hb hk
 unfold goodR
 have hc:cntM (.mk k b t xs ks) = 1 + cntL xs:=by simp only [cntM]
 rw [hc]
 show (deepL xs m && (headOk k b t xs.length ks && plainL xs) && decide (((1 + cntL xs:Nat):Int) ≤ left)) = (decide (t = []) && (deepL xs m && plainL xs && decide ((cntL xs:Int) ≤ left - 1)))
 have hbf:b = false:=by
   cases b with
   | false=>rfl
   | true=>have:=hb rfl; omega
 subst hbf
 have hh:headOk k false t xs.length ks = decide (t = []):=by
   rw [Bool.eq_iff_iff]
   simp only [headOk,Bool.and_eq_true,Bool.or_eq_true,Bool.not_eq_true',decide_eq_true_eq,decide_eq_false_iff_not,Bool.not_false]
   constructor
   · rintro ⟨⟨⟨⟨⟨⟨⟨⟨⟨_,_⟩,_⟩,ht⟩,_⟩,_⟩,_⟩,_⟩,_⟩,_⟩
     rcases ht with (ht | ht) | ht
     · exact ht
     · omega
     · omega
   · intro ht
     refine ⟨⟨⟨⟨⟨⟨⟨⟨⟨by omega,by omega⟩,.inl trivial⟩,.inl (.inl ht)⟩,.inr (by omega)⟩,?_⟩,.inl (by omega)⟩,.inl (by omega)⟩,?_⟩,?_⟩
     · rcases hk with ⟨_,h⟩ | ⟨h,_⟩
       · exact .inr h
       · exact .inl h
     · rcases hk with ⟨h,_⟩ | ⟨_,h,_⟩
       · exact .inl (by omega)
       · exact .inr h
     · rcases hk with ⟨_,h⟩ | ⟨_,_,h⟩
       · rw [h]; rfl
       · exact h
 rw [hh]
 have e:decide (((1 + cntL xs:Nat):Int) ≤ left) = decide ((cntL xs:Int) ≤ left - 1):=by rw [decide_eq_decide]; omega
 rw [e]
 generalize decide ((cntL xs:Int) ≤ left - 1) = d4
 generalize decide (t = []) = d1
 generalize deepL xs m = d2
 generalize plainL xs = d3
 cases d1 <;> cases d2 <;> cases d3 <;> cases d4 <;> rfl
theorem goodR_no {v:JV} {m:Nat} {left:Int} (h:m = 0 ∨ left < 1 ∨ (v.b = true ∧ v.k ≠ 2) ∨ v.k < 0 ∨ 6 < v.k ∨ (v.k = 5 ∧ v.ks ≠ []) ∨ (v.k = 6 ∧ (v.ks.length ≠ v.xs.length ∨ keysOk v.ks = false))):goodR v m left = false:=by
 cases hg:goodR v m left with
 | false=>rfl
 | true=>
   unfold goodR at hg
   simp only [Bool.and_eq_true,decide_eq_true_eq] at hg
   obtain ⟨⟨h1,h2⟩,h3⟩:=hg
   rw [plainM_eq,Bool.and_eq_true] at h2
   have hh:=headOk_out h2.1
   have hc:=cnt_pos v
   rcases h with rfl | h | ⟨h,h'⟩ | h | h | ⟨h,h'⟩ | ⟨h,h' | h'⟩
   · rw [deepM_zero] at h1; cases h1
   · omega
   · exact absurd (hh.2.2.1 h) h'
   · have:=hh.1; omega
   · have:=hh.2.1; omega
   · have:=hh.2.2.2.2.2.1 h'; omega
   · exact absurd (hh.2.2.2.2.2.2.2.2.1 h) h'
   · have:=hh.2.2.2.2.2.2.2.2.2; rw [h'] at this; cases this
theorem _root_.Go.Eng.SlAt.keep1 {w w':World} {p:Nat} {x:Value} {T T':TypeId} {fr:Nat × Nat} {v:Value} {n:Nat} {cs:List Value} (h:SlAt w T v n cs) (hp:w.heap[p]? = some (.cells [x].toArray T' fr)) (hc:Chg (fun k=>k = p) w w')
   (hne:cs ≠ [] → cs[0]? ≠ some x ∨ 2 ≤ cs.length):SlAt w' T v n cs:=by
 obtain ⟨pp,cap,hv,h1,h2,h3⟩:=h
 refine ⟨pp,cap,hv,h1,h2,fun hn=>?_⟩
 obtain ⟨b,off,c,fr',hpp,hb,hcs⟩:=h3 hn
 refine ⟨b,off,c,fr',hpp,hc.at hb ?_,hcs⟩
 rintro rfl
 rw [hp] at hb
 simp only [Option.some.injEq,Obj.cells.injEq] at hb
 obtain ⟨rfl,_,_⟩:=hb
 have hpos:0 < cs.length:=List.length_pos_iff.2 hn
 have e0:=hcs 0 hpos
 rw [Nat.add_zero] at e0
 rcases hne hn with h | h
 · have:off = 0:=by
     apply Classical.byContradiction; intro ho
     rw [show ([x].toArray)[off]? = none by simp; omega,List.getElem?_eq_getElem hpos] at e0
     cases e0
   subst this
   exact h (by rw [← e0]; rfl)
 · have e1:=hcs 1 (by omega)
   rw [List.getElem?_eq_getElem (by omega),show ([x].toArray)[off + 1]? = none by simp] at e1
   cases e1
mutual
theorem vrep_keepi {w w':World} {p:Nat} {n:Int} {T':TypeId} {fr:Nat × Nat} (hp:w.heap[p]? = some (.cells [i64 n].toArray T' fr)) (hc:Chg (fun k=>k = p) w w'):∀ {v:JV} {cs:List Value},VRep w v cs → VRep w' v cs
 | .mk k b t xs ks,cs,h=>by
   simp only [VRep] at h ⊢
   obtain ⟨sv,kv,T1,T2,L,rfl,h1,h2,h3,h4⟩:=h
   refine ⟨sv,kv,T1,T2,L,rfl,h1.keep1 hp hc fun hn=>.inr ?_,vreps_keepi hp hc h2,h3.keep1 hp hc fun hn=>.inl ?_,h4⟩
   · have:=h2.len
     have hl:0 < L.length:=List.length_pos_iff.2 hn
     omega
   · cases ks with
     | nil=>exact absurd rfl hn
     | cons a r=>intro e; simp at e
theorem vreps_keepi {w w':World} {p:Nat} {n:Int} {T':TypeId} {fr:Nat × Nat} (hp:w.heap[p]? = some (.cells [i64 n].toArray T' fr)) (hc:Chg (fun k=>k = p) w w'):∀ {xs:List JV} {L:List Value},VReps w xs L → VReps w' xs L
 | [],L,h=>by simp only [VReps] at h ⊢; exact h
 | x :: xs,L,h=>by
   simp only [VReps] at h ⊢
   obtain ⟨c,r,rfl,h1,h2⟩:=h
   exact ⟨c,r,rfl,vrep_keepi hp hc h1,vreps_keepi hp hc h2⟩
end
section
variable [HX]
theorem itemsOk_no {xs:List JV} {m i:Nat} {left:Int} {x:JV} (hi:xs[i]? = some x) (h:goodR x m (left - cntS xs i) = false):itemsOk xs m left = false:=by
 cases hg:itemsOk xs m left with
 | false=>rfl
 | true=>
   unfold itemsOk at hg
   simp only [Bool.and_eq_true,decide_eq_true_eq] at hg
   obtain ⟨⟨h1,h2⟩,h3⟩:=hg
   rw [deepL_all,List.all_eq_true] at h1
   rw [plainL_all,List.all_eq_true] at h2
   have hm:=List.mem_of_getElem? hi
   have hcs:=cntS_le xs (i + 1) (List.getElem?_eq_some_iff.1 hi).1
   rw [cntS,cntAt_get hi] at hcs
   unfold goodR at h
   rw [h1 x hm,h2 x hm,decide_eq_true (by omega)] at h
   cases h
theorem cntL_S:∀ (xs:List JV),cntL xs = cntS xs xs.length
 | []=>rfl
 | x :: xs=>by
   rw [List.length_cons,cntS_cons,← cntL_S xs]
   simp only [cntL]
theorem itemsOk_yes {xs:List JV} {m:Nat} {left:Int} (h:∀ i x,xs[i]? = some x → goodR x m (left - cntS xs i) = true) (hl:(cntL xs:Int) ≤ left):itemsOk xs m left = true:=by
 unfold itemsOk
 rw [decide_eq_true hl,deepL_all,plainL_all,List.all_eq_true.2,List.all_eq_true.2]
 · rfl
 · intro x hx
   obtain ⟨i,hi,rfl⟩:=List.getElem_of_mem hx
   have:=h i _ (List.getElem?_eq_getElem hi)
   unfold goodR at this
   simp only [Bool.and_eq_true] at this
   exact this.1.2
 · intro x hx
   obtain ⟨i,hi,rfl⟩:=List.getElem_of_mem hx
   have:=h i _ (List.getElem?_eq_getElem hi)
   unfold goodR at this
   simp only [Bool.and_eq_true] at this
   exact this.1.1
theorem callV_cap {P:Program} {g:FuncId} {args caps:List Value} {w:World} {K:Value → World → Prop} (h:callF P g (args ++ caps) w K):callV P (.func (.func g) #[] caps.toArray) args w K:=by
 unfold callV semN
 unfold callF at h
 have:(do let d ← (Deferred.ofValue (.func (.func g) #[] caps.toArray) args.toArray); invoke d.target d.args:Sem Next) = callFunc g (args ++ caps).toArray:=by
   show callFunc g (#[] ++ args.toArray ++ caps.toArray) = _
   simp
 rw [this]
 exact h
theorem len_zero {n m:Nat} (hn:n ≤ 9223372036854775807) (hm:m ≤ 9223372036854775807):decide (IntKind.i64.wrap ((n:Int) + (m:Int)) = 0) = (decide (n = 0) && decide (m = 0)):=by
 have e1:(2:Int) ^ 64 = 18446744073709551616:=by decide
 have e2:(2:Int) ^ (64 - 1) = 9223372036854775808:=by decide
 have:IntKind.i64.wrap ((n:Int) + (m:Int)) = 0 ↔ n = 0 ∧ m = 0:=by
   simp only [IntKind.wrap,IntKind.bits,IntKind.signed,Bool.true_and,e1,e2]
   split
   · rename_i h
     simp only [ge_iff_le,decide_eq_true_eq] at h
     omega
   · rename_i h
     omega
 rw [Bool.eq_iff_iff,decide_eq_true_iff,Bool.and_eq_true,decide_eq_true_iff,decide_eq_true_iff]
 exact this
theorem box_one {T:TypeId} {v:Value} {w:World} {K:Value → World → Prop} (h1:one1 v = true) (h:∀ a w',a = w.heap.size → w'.heap.size = w.heap.size + 1 → w'.heap[a]? = some (.cells [v].toArray T (0,0)) → Ext w w' → K (.pointer (some ⟨a,0,none⟩)) w'):boxW T v w K:=by
 cases v <;> first | (simp [one1] at h1; done) | exact h _ _ rfl (by simp) (heap_anew _ _ _ rfl) (Chg.alloc (Chg.refl _ _) _)
theorem good_p (v:JV):∀ {m p:Nat} {left:Int} {w:World} {cs:List Value} {K:Value → World → Prop},VRep w v cs → w.heap[p]? = some (.cells [i64 left].toArray 3 (0,0)) → m ≤ 24 → -1 ≤ left → left ≤ 2000 →
   (∀ r w',r = goodR v m left → (r = true → w'.heap[p]? = some (.cells [i64 (left - cntM v)].toArray 3 (0,0))) → Chg (fun k=>k = p) w w' → K (.bool r) w') → callF Tryz.prog 101 [.agg cs.toArray,i64 (m:Int),.pointer (some ⟨p,0,none⟩)] w K:=by
 induction v using JV.ind' with
 | h v ih=>
   intro m p left w cs K h hp hm hl1 hl2 hK
   refine W101_ok ?_
   unfold W101
   refine box_val h fun a w1 sv kv hB hx1 ha=>?_
   have hplt:=at_lt hp
   have hp1:=hx1.at hp id
   refine box_one rfl fun d w2 hd hz2 hd2 hx2=>?_
   refine box_one rfl fun q w3 hq hz3 hq3 hx3=>?_
   have hp3:=hx3.at (hx2.at hp1 id) id
   have hB3:=hB.ext (hx2.trans hx3)
   have hd3:=hx3.at hd2 id
   have hx13:=(hx1.trans hx2).trans hx3
   simp only [wsv,wsg,wsh,wsl,cond_true,cond_false,exists_eq_left',wsu,Nat.reduceAdd,Nat.reduceLT,Nat.lt_add_one,Nat.zero_lt_succ,decide_true,decide_false,ne_eq,reduceCtorEq,wsh,hq3,hp3]
   have ew:IntKind.i64.wrap (left - 1) = left - 1:=wrap_id (by omega) (by omega)
   refine st_at (off:=0) hp3 rfl (by simp) fun w4 hz4 hp4 hc4=>?_
   have s1:=hx1.size
   have s2:=hx2.size
   have hq4:=hc4.at hq3 (by omega)
   have hd4:=hc4.at hd3 (by omega)
   have hb4:=hc4.at hB3.hb (by omega)
   rw [show ([i64 left].toArray.setIfInBounds 0 (i64 (IntKind.i64.wrap (left - 1)))) = [i64 (left - 1)].toArray by rw [ew]; rfl] at hp4
   have hcw:Chg (fun k=>k = p) w w4:=(Chg.of_ext hx13).trans hc4
   obtain ⟨Tk,hks3⟩:=hB3.keys
   have hks4:SlAt w4 Tk kv v.ks.length (v.ks.map str):=hks3.keep1 hp3 hc4 fun hn=>.inl (by
     cases hkk:v.ks with
     | nil=>rw [hkk] at hn; exact absurd rfl hn
     | cons a r=>intro e; simp at e)
   obtain ⟨Ti,L,hit,hreps⟩:=hB3.items
   have hit4:SlAt w4 Ti sv v.xs.length L:=hit.keep1 hp3 hc4 fun hn=>.inr (by
     have:=hreps.len
     have hl:0 < L.length:=List.length_pos_iff.2 hn
     omega)
   have hreps4:VReps w4 v.xs L:=vreps_keepi hp3 hc4 hreps
   obtain ⟨f1,f2,f3,f4⟩:=hB3.fits
   have lx:∀ KK:Value → Prop,lenlW sv KK ↔ KK (i64 v.xs.length):=fun KK=>lenl_at hit KK
   have lk:∀ KK:Value → Prop,lenlW kv KK ↔ KK (i64 v.ks.length):=fun KK=>hB3.lenk KK
   simp only [wsv,wsg,wsh,wsl,cond_true,cond_false,exists_eq_left',wsu,Nat.reduceAdd,Nat.reduceLT,Nat.lt_add_one,Nat.zero_lt_succ,decide_true,decide_false,ne_eq,reduceCtorEq,wsh,hq4,hp4,hd4,hb4]
   intro g1 g2 g3 g4
   rw [condW_b]
   refine ⟨fun hbad=>hK false w4 ?_ (fun e=>by cases e) hcw,fun hok=>?_⟩
   · rw [goodR_no]
     simp only [Bool.or_eq_true,Bool.and_eq_true,decide_eq_true_eq] at hbad
     rcases hbad with (h | h) | ⟨h,h'⟩
     · exact .inl (by omega)
     · exact .inr (.inl (by omega))
     · exact .inr (.inr (.inl ⟨h,h'⟩))
   have hm0:m ≠ 0:=fun e=>by rw [decide_eq_true (show (m:Int) = 0 by omega)] at hok; cases hok
   have hl0:1 ≤ left:=by
     rcases Int.lt_or_le (left - 1) 0 with h | h
     · rw [decide_eq_true h] at hok; simp at hok
     · omega
   have hbk:v.b = true → v.k = 2:=fun e=>by
     rw [e] at hok
     simp only [Bool.or_eq_false_iff,Bool.true_and,decide_eq_false_iff_not,Classical.not_not] at hok
     exact hok.2
   have flat:∀ w',Ext w4 w' → 0 ≤ v.k → v.k < 5 → K (.bool (flatOk v && (decide (v.xs.length = 0) && decide (v.ks.length = 0)))) w':=fun w' e h0 h5=>by
     refine hK _ w' (goodR_flat hm0 hl0 hbk h0 h5).symm (fun hr=>?_) (hcw.then e fun _ _ e=>e.elim)
     simp only [Bool.and_eq_true,decide_eq_true_eq] at hr
     have hx0:v.xs = []:=List.eq_nil_of_length_eq_zero hr.2.1
     have hc1:cntM v = 1:=by
       rw [v.eta,hx0]; rfl
     rw [hc1]; exact e.at hp4 id
   have no:(v.k < 0 ∨ 6 < v.k ∨ (v.k = 5 ∧ v.ks ≠ []) ∨ (v.k = 6 ∧ (v.ks.length ≠ v.xs.length ∨ keysOk v.ks = false))) → K (.bool false) w4:=fun h=>hK false w4 (goodR_no (.inr (.inr (.inr h)))).symm (fun e=>by cases e) hcw
   obtain ⟨m',rfl⟩:∃ m',m = m' + 1:=⟨m - 1,by omega⟩
   refine JoinW.cut (fun s' w'=>s' = [] ∧ w' = w4 ∧ (v.k = 5 ∧ v.ks = [] ∨ v.k = 6 ∧ v.ks.length = v.xs.length ∧ keysOk v.ks = true)) ?_ ?_
   · refine JoinW.cut (fun s' w'=>s' = [.bool (decide (v.k = 0 ∨ v.k = 1 ∨ v.k = 2))] ∧ w' = w4) ?_ ?_
     · rw [condW_dec]
       refine ⟨fun h=>?_,fun h=>?_⟩
       · rw [decide_eq_true h,decide_eq_true (.inl h)]; exact ⟨rfl,rfl⟩
       · rw [condW_dec]
         refine ⟨fun h1=>?_,fun h1=>?_⟩
         · rw [decide_eq_true h1,decide_eq_true (.inr (.inl h1))]; exact ⟨rfl,rfl⟩
         · rw [show decide (v.k = 2) = decide (v.k = 0 ∨ v.k = 1 ∨ v.k = 2) by rw [decide_eq_decide]; omega]
           exact ⟨rfl,rfl⟩
     rintro s' g w5 ⟨rfl,rfl⟩
     simp only [wsv,wsg,wsh,wsl,cond_true,cond_false,exists_eq_left',wsu,Nat.reduceAdd,Nat.reduceLT,Nat.lt_add_one,Nat.zero_lt_succ,decide_true,decide_false,ne_eq,reduceCtorEq,wsh,hb4,lx,lk,condW_dec]
     refine ⟨fun h012=>?_,fun h012=>?_⟩
     · intro g5
       have:=flat w5 (Chg.refl _ _) (by omega) (by omega)
       unfold flatOk flatK at this
       rw [if_neg (by omega),if_neg (by omega)] at this
       rw [len_zero f1 f2]
       exact this
     refine ⟨fun h3=>?_,fun h3=>?_⟩
     · refine numgood_ref f3 fun w6 hx6=>?_
       have hb6:=hx6.at hb4 id
       have:=flat w6 hx6 (by omega) (by omega)
       unfold flatOk flatK at this
       rw [if_pos h3] at this
       simp only [wsv,wsg,wsh,wsl,cond_true,cond_false,exists_eq_left',wsu,Nat.reduceAdd,Nat.reduceLT,Nat.lt_add_one,Nat.zero_lt_succ,decide_true,decide_false,ne_eq,reduceCtorEq,wsh,hb6,lx,lk]
       intro g6
       rw [len_zero f1 f2]
       exact this
     refine ⟨fun h4=>?_,fun h4=>?_⟩
     · intro g6
       have:=flat w5 (Chg.refl _ _) (by omega) (by omega)
       unfold flatOk flatK at this
       rw [if_neg h3,if_pos h4] at this
       rw [len_zero f1 f2]
       rw [show decide ((v.t.length:Int) ≤ 16384) = decide (v.t.length ≤ 16384) by rw [decide_eq_decide]; omega]
       exact this
     refine ⟨fun h5=>?_,fun h5=>?_⟩
     · refine ⟨fun hk=>no (.inr (.inr (.inl ⟨h5,fun e=>by rw [e] at hk; simp at hk⟩))),fun hk=>.inl ⟨h5,List.eq_nil_of_length_eq_zero (by omega)⟩⟩
     refine ⟨fun h6=>?_,fun h6=>no (by omega)⟩
     refine ⟨fun hne=>no (.inr (.inr (.inr ⟨h6,.inl (by omega)⟩))),fun heq=>?_⟩
     refine loop_up v.ks.length (fun i w'=>w' = w5 ∧ (∀ j a,j < i → v.ks[j]? = some a → a.length ≤ 16384) ∧ (∀ j a b,j + 1 < i → v.ks[j]? = some a → v.ks[j + 1]? = some b → Op.bytesLess a b = true)) ⟨rfl,fun j a h=>by omega,fun j a b h=>by omega⟩ ?_ ?_
     · rintro i w6 g6 L6 hi ⟨rfl,hl,hs⟩ hL
       obtain ⟨u,hu⟩:∃ u,v.ks[i]? = some u:=⟨_,List.getElem?_eq_getElem hi⟩
       have hlt:((i:Int) < (v.ks.length:Int)):=by omega
       simp only [wsv,wsg,wsh,wsl,cond_true,cond_false,exists_eq_left',wsu,Nat.reduceAdd,Nat.reduceLT,Nat.lt_add_one,Nat.zero_lt_succ,decide_true,decide_false,ne_eq,reduceCtorEq,hlt]
       refine text_ld hks4 hu ?_
       have hnext:u.length ≤ 16384 → (∀ x,0 < i → v.ks[i - 1]? = some x → Op.bytesLess x u = true) → L6 [i64 ((i + 1:Nat):Int)] w6:=fun h1 h2=>by
         refine hL _ ⟨rfl,fun j a hj ha=>?_,fun j a b hj ha hb=>?_⟩
         · rcases Nat.lt_or_ge j i with h | h
           · exact hl j a h ha
           · obtain rfl:j = i:=by omega
             rw [hu] at ha; cases ha; exact h1
         · rcases Nat.lt_or_ge (j + 1) i with h | h
           · exact hs j a b h ha hb
           · obtain rfl:i = j + 1:=by omega
             rw [hu] at hb; cases hb
             exact h2 a (by omega) (by simpa using ha)
       by_cases hlong:16384 < u.length
       · have e:decide ((16384:Int) < (u.length:Int)) = true:=decide_eq_true (by omega)
         simp only [wsv,wsg,wsh,wsl,cond_true,cond_false,exists_eq_left',wsu,Nat.reduceAdd,Nat.reduceLT,Nat.lt_add_one,Nat.zero_lt_succ,decide_true,decide_false,ne_eq,reduceCtorEq,e]
         intros
         exact no (.inr (.inr (.inr ⟨h6,.inr (keysOk_long hu hlong)⟩)))
       · have e:decide ((16384:Int) < (u.length:Int)) = false:=decide_eq_false (by omega)
         by_cases h0:i = 0
         · subst h0
           have e0:decide ((0:Int) < ((0:Nat):Int)) = false:=by decide
           simp only [wsv,wsg,wsh,wsl,cond_true,cond_false,exists_eq_left',wsu,Nat.reduceAdd,Nat.reduceLT,Nat.lt_add_one,Nat.zero_lt_succ,decide_true,decide_false,ne_eq,reduceCtorEq,e,e0]
           rw [up1 (by omega)]
           intros
           exact hnext (by omega) fun x h=>by omega
         · obtain ⟨j,rfl⟩:∃ j,i = j + 1:=⟨i - 1,by omega⟩
           obtain ⟨x,hxj⟩:∃ x,v.ks[j]? = some x:=⟨_,List.getElem?_eq_getElem (by omega)⟩
           have e0:decide ((0:Int) < ((j + 1:Nat):Int)) = true:=decide_eq_true (by omega)
           have hw:IntKind.i64.wrap (((j + 1:Nat):Int) - 1) = ((j:Nat):Int):=by rw [wrap_id (by omega) (by omega)]; omega
           simp only [wsv,wsg,wsh,wsl,cond_true,cond_false,exists_eq_left',wsu,Nat.reduceAdd,Nat.reduceLT,Nat.lt_add_one,Nat.zero_lt_succ,decide_true,decide_false,ne_eq,reduceCtorEq,e,e0,hw]
           intro g7
           refine GdW.look (!Op.bytesLess x u) (fun _ J hJ=>?_) fun g8=>?_
           · rw [hb4]
             refine ⟨kv,rfl,?_⟩
             refine text_ld hks4 hxj ?_
             rw [bin_sge]; exact hJ
           intro g9
           simp only [List.getD_cons_zero,cond_true]
           rw [condW_b]
           refine ⟨fun hge=>no (.inr (.inr (.inr ⟨h6,.inr (keysOk_two hxj hu (by simpa using hge))⟩))),fun hlt2=>?_⟩
           rw [up1 (by omega)]
           exact hnext (by omega) fun y _ hy=>by
             have:v.ks[j]? = some y:=by simpa using hy
             rw [hxj] at this; cases this
             simpa using hlt2
     · rintro w6 g6 L6 ⟨rfl,hl,hs⟩
       have hkeys:keysOk v.ks = true:=keysOk_mk (fun i a h=>hl i a (List.getElem?_eq_some_iff.1 h).1 h) (fun i a b h1 h2=>hs i a b (List.getElem?_eq_some_iff.1 h2).1 h1 h2)
       simp only [wsv,wsg,wsh,wsl,cond_true,cond_false,exists_eq_left',wsu,Nat.reduceAdd,Nat.reduceLT,Nat.lt_add_one,Nat.zero_lt_succ,decide_true,decide_false,ne_eq,reduceCtorEq,Int.lt_irrefl]
       exact .inr ⟨h6,by omega,hkeys⟩
   · rintro s' g w5 ⟨rfl,rfl,hk⟩
     simp only [wsv,wsg,wsh,wsl,cond_true,cond_false,exists_eq_left',wsu,Nat.reduceAdd,Nat.reduceLT,Nat.lt_add_one,Nat.zero_lt_succ,decide_true,decide_false,ne_eq,reduceCtorEq,wsh,hb4]
     refine GdW.act (itemsOk v.xs m' (left - 1)) (fun w'=>Chg (fun k=>k = p) w5 w' ∧ (decide (v.t = []) = true → itemsOk v.xs m' (left - 1) = true → w'.heap[p]? = some (.cells [i64 (left - 1 - cntL v.xs)].toArray 3 (0,0)))) (fun e=>⟨Chg.refl _ _,fun e'=>by rw [e] at e'; cases e'⟩) ?_ ?_
     · intro ht J hJ
       refine W102_ok ?_
       unfold W102
       refine W160_ok ?_
       unfold W160
       rw [lx]
       refine loop_up v.xs.length (fun i w'=>Chg (fun k=>k = p) w5 w' ∧ w'.heap[p]? = some (.cells [i64 (left - 1 - cntS v.xs i)].toArray 3 (0,0)) ∧ (∀ j x,j < i → v.xs[j]? = some x → goodR x m' (left - 1 - cntS v.xs j) = true) ∧ SlAt w' Ti sv v.xs.length L ∧ VReps w' v.xs L ∧ (cntS v.xs i:Int) ≤ left - 1) ⟨Chg.refl _ _,by simpa [cntS] using hp4,fun j x h=>by omega,hit4,hreps4,by simp [cntS]; omega⟩ ?_ ?_
       · rintro i w6 g6 L6 hi ⟨hc6,hp6,hall,hit6,hreps6,hcs6⟩ hL
         obtain ⟨x,hxi⟩:∃ x,v.xs[i]? = some x:=⟨_,List.getElem?_eq_getElem hi⟩
         have hlt:((i:Int) < (v.xs.length:Int)):=by omega
         simp only [wsv,wsg,wsh,wsl,cond_true,cond_false,exists_eq_left',wsu,Nat.reduceAdd,Nat.reduceLT,Nat.lt_add_one,Nat.zero_lt_succ,decide_true,decide_false,ne_eq,reduceCtorEq,hlt]
         refine item_ld hit6 hreps6 hxi fun cs6 hr6=>?_
         refine callV_cap (caps:=[.pointer (some ⟨d,0,none⟩),.pointer (some ⟨q,0,none⟩)]) ?_
         refine W159_ok ?_
         unfold W159
         refine box_val hr6 fun b7 w7 sv7 kv7 hB7 hx7 hb7=>?_
         refine hB7.ld fun cs7 hr7=>?_
         have hd6:=hc6.at hd4 (by omega)
         have hq6:=hc6.at hq4 (by omega)
         have hd7:=hx7.at hd6 id
         have hq7:=hx7.at hq6 id
         have hp7:=hx7.at hp6 id
         have hw:IntKind.i64.wrap (((m' + 1:Nat):Int) - 1) = ((m':Nat):Int):=by rw [wrap_id (by omega) (by omega)]; omega
         simp only [wsv,wsg,wsh,wsl,cond_true,cond_false,exists_eq_left',wsu,Nat.reduceAdd,Nat.reduceLT,Nat.lt_add_one,Nat.zero_lt_succ,decide_true,decide_false,ne_eq,reduceCtorEq,wsh,hd7,hq7,hw]
         refine ih x (List.mem_of_getElem? hxi) hr7 hp7 (by omega) (by omega) (by omega) fun r w8 hr8 hp8 hc8=>?_
         simp only [wsv,wsg,wsh,wsl,cond_true,cond_false,exists_eq_left',wsu,Nat.reduceAdd,Nat.reduceLT,Nat.lt_add_one,Nat.zero_lt_succ,decide_true,decide_false,ne_eq,reduceCtorEq,condW_b]
         have hc68:Chg (fun k=>k = p) w6 w8:=(Chg.of_ext hx7).trans hc8
         have hc58:=hc6.trans hc68
         refine ⟨fun hbad=>?_,fun hgood=>?_⟩
         · have hrf:r = false:=by simpa using hbad
           rw [decide_eq_true (show (0:Int) ≤ (i:Int) by omega)]
           have:=itemsOk_no hxi (show goodR x m' (left - 1 - cntS v.xs i) = false by rw [← hr8]; exact hrf)
           rw [this] at hJ
           exact hJ w8 ⟨hc58,fun _ e=>by cases e⟩
         · have hrt:r = true:=by simpa using hgood
           have hg:=hr8
           rw [hrt] at hg
           have hcx:(cntM x:Int) ≤ left - 1 - cntS v.xs i:=by
             unfold goodR at hg
             have:=hg.symm
             simp only [Bool.and_eq_true,decide_eq_true_eq] at this
             exact this.2
           rw [up1 (by omega)]
           refine hL w8 ⟨hc58,?_,?_,?_,?_,?_⟩
           · rw [cntS,cntAt_get hxi]
             have e:left - 1 - ((cntS v.xs i:Nat):Int) - ((cntM x:Nat):Int) = left - 1 - ((cntS v.xs i + cntM x:Nat):Int):=by omega
             rw [hp8 hrt,e]
           · intro j y hj hy
             rcases Nat.lt_or_ge j i with h | h
             · exact hall j y h hy
             · obtain rfl:j = i:=by omega
               rw [hxi] at hy; cases hy
               exact hg.symm
           · exact (hit6.ext hx7).keep1 hp7 hc8 fun hn=>.inr (by
               have:=hreps.len
               have hl:0 < L.length:=List.length_pos_iff.2 hn
               omega)
           · exact vreps_keepi hp7 hc8 (hreps6.ext hx7)
           · rw [cntS,cntAt_get hxi]; omega
       · rintro w6 g6 L6 ⟨hc6,hp6,hall,hit6,hreps6,hcs6⟩
         simp only [wsv,wsg,wsh,wsl,cond_true,cond_false,exists_eq_left',wsu,Nat.reduceAdd,Nat.reduceLT,Nat.lt_add_one,Nat.zero_lt_succ,decide_true,decide_false,ne_eq,reduceCtorEq,Int.lt_irrefl]
         rw [← cntL_S] at hp6 hcs6
         have:=itemsOk_yes (fun i x h=>hall i x (List.getElem?_eq_some_iff.1 h).1 h) hcs6
         have hj:=hJ w6 ⟨hc6,fun _ _=>hp6⟩
         rw [this] at hj
         exact hj
     · rintro g6 w6 ⟨hc6,hp6⟩
       simp only [wsv,wsg,wsh,wsl,cond_true,cond_false,exists_eq_left',wsu,Nat.reduceAdd,Nat.reduceLT,Nat.lt_add_one,Nat.zero_lt_succ,decide_true,decide_false,ne_eq,reduceCtorEq]
       refine hK _ w6 (goodR_deep hbk hk).symm (fun hr=>?_) (hcw.trans hc6)
       simp only [Bool.and_eq_true,decide_eq_true_eq] at hr
       rw [hp6 (decide_eq_true hr.1) hr.2]
       have:cntM v = 1 + cntL v.xs:=by cases v; simp only [cntM,JV.xs]
       have e:left - 1 - ((cntL v.xs:Nat):Int) = left - ((1 + cntL v.xs:Nat):Int):=by omega
       rw [this,e]
end
end Go.Proofs.YtnoepcndjljolaaGreatDoor
namespace Go.Proofs.YtnoepcndjljolaaGreatDoor
open Go Go.Eng Go.RowKit
set_option maxRecDepth 100000
theorem sizeLM_big (xs:List JV) {n:Int} (h:2000 < n):sizeLM xs n = n:=by
 cases xs with
 | nil=>rfl
 | cons x xs=>simp only [sizeLM]; rw [if_neg (by omega)]
theorem size_cnt:∀ (m:Nat),m ≤ 24 → ∀ (v:JV),deepM v m = true → (sizeM v ≤ 2000 → sizeM v = cntM v) ∧ ((cntM v:Int) ≤ 2000 → sizeM v = cntM v):=by
 intro m
 induction m with
 | zero=>intro _ v h; rw [deepM_zero] at h; cases h
 | succ m ih=>
   intro hm v h
   rw [deepM_succ,deepL_all,List.all_eq_true] at h
   have lst:∀ (xs:List JV),(∀ x ∈ xs,deepM x m = true) → ∀ n:Int,1 ≤ n → (sizeLM xs n ≤ 2000 → sizeLM xs n = n + cntL xs) ∧ (n + (cntL xs:Int) ≤ 2000 → sizeLM xs n = n + cntL xs):=by
     intro xs
     induction xs with
     | nil=>intro _ n _; simp [sizeLM,cntL]
     | cons x xs ihx=>
       intro hx n hn
       have hxd:=hx x List.mem_cons_self
       obtain ⟨b1,b2⟩:=size_bound m (by omega) x hxd
       obtain ⟨c1,c2⟩:=ih (by omega) x hxd
       have hc:=cnt_pos x
       simp only [sizeLM,cntL]
       by_cases h2:n ≤ 2000
       · rw [if_pos h2,wrap_id (by omega) (by omega)]
         obtain ⟨d1,d2⟩:=ihx (fun y hy=>hx y (List.mem_cons_of_mem _ hy)) (n + sizeM x) (by omega)
         constructor
         · intro hs
           have hy:n + sizeM x ≤ 2000:=by
             apply Classical.byContradiction; intro hno
             rw [sizeLM_big xs (by omega)] at hs
             omega
           have e:=c1 (by omega)
           rw [d1 hs,e]
           omega
         · intro hs
           have e:=c2 (by omega)
           rw [d2 (by omega),e]
           omega
       · rw [if_neg h2]
         constructor
         · intro hs; omega
         · intro hs; omega
   obtain ⟨d1,d2⟩:=lst v.xs h 1 (by omega)
   have hc:cntM v = 1 + cntL v.xs:=by cases v; simp only [cntM,JV.xs]
   rw [sizeM_eq,hc]
   constructor
   · intro hs; rw [d1 hs]; omega
   · intro hs; rw [d2 (by omega)]; omega
theorem goodM_R (v:JV):goodR v 24 2000 = goodM v:=by
 unfold goodR goodM
 cases hd:deepM v 24 with
 | false=>simp
 | true=>
   obtain ⟨c1,c2⟩:=size_cnt 24 (Nat.le_refl _) v hd
   have:decide ((cntM v:Int) ≤ 2000) = decide (sizeM v ≤ 2000):=by
     rw [decide_eq_decide]
     constructor
     · intro h; rw [c2 h]; exact h
     · intro h; rw [← c1 h]; exact h
   rw [this]
   cases decide (sizeM v ≤ 2000) <;> cases plainM v <;> rfl
theorem good_cnt {v:JV} (h:goodM v = true):cntM v ≤ 2000:=by
 rw [← goodM_R] at h
 unfold goodR at h
 simp only [Bool.and_eq_true,decide_eq_true_eq] at h
 have:=h.2
 omega
theorem Bld.isb {w:World} {B b:Nat} {l:Str} (h:Bld w B b l):Lib.IsBuilderF BdT U8 B b (Lib.byteCells l) w:=by
 obtain ⟨p,v,h1,h2,h3,h4⟩:=h
 have hO:w.ownsRow B U8 1 v (u8s l).length (u8s l):=by rw [u8s_length]; exact h3
 have:Lib.BuilderAt BdT U8 B b p (u8s l) w:=⟨h4,v,h1,hO,fun e=>bd_ne h1 (h3.block b e)⟩
 rcases h2 with rfl | rfl
 · exact .inl (Lib.BuilderAtF.of this)
 · exact .inr (Lib.BuilderAtF.of this)
theorem below_chg {B:Nat} {w w':World} (h:Below B w w'):Chg (fun k=>B ≤ k) w w':=⟨h.os,h.tape,h.output,h.size,fun k _ hn=>h.block k (by omega)⟩
section
variable [HX]
theorem vgood_p {v:JV} {w:World} {cs:List Value} {K:Value → World → Prop} (h:VRep w v cs) (hK:∀ w',Ext w w' → K (.bool (goodM v)) w'):callF Tryz.prog 47 [.agg cs.toArray] w K:=by
 refine W47_ok ?_
 unfold W47
 refine box_val h fun a w1 sv kv hB hx1 ha=>?_
 refine alloc_new fun p w2 hp hz2 hb2 hx2=>?_
 refine st_at (off:=0) hb2 rfl (by simp) fun w3 hz3 hb3 hc3=>?_
 have hx3:Ext w1 w3:=hx2.new hc3 (by omega)
 have hp3:w3.heap[p]? = some (.cells [i64 2000].toArray 3 (0,0)):=by rw [hb3]; rfl
 refine (hB.ext hx3).ld fun cs2 h2=>?_
 refine good_p v h2 hp3 (m:=24) (by omega) (by omega) (by omega) fun r w4 hr _ hc4=>?_
 rw [hr,goodM_R]
 have s1:=hx1.size
 exact hK w4 ((hx1.trans hx3).then hc4 fun k hk e=>by omega)
theorem len_p {w:World} {B b:Nat} {l:Str} {K:Value → World → Prop} (h:Bld w B b l) (hK:K (i64 (l.length:Int)) w):callF Tryz.prog 53 [.pointer (some ⟨b,0,none⟩)] w K:=by
 refine of_calls (args:=#[.pointer (some ⟨b,0,none⟩)]) Tryz.call53 ((Tryz.Builder_Len_f B b (Lib.byteCells l) w h.isb).mono ?_)
 rintro e w' ⟨rfl,rfl⟩
 refine ⟨_,rfl,?_⟩
 rw [Lib.byteCells_length]
 exact hK
theorem string_p {w:World} {B b:Nat} {l:Str} {K:Value → World → Prop} (h:Bld w B b l) (hB:B ≤ w.heap.size) (hK:∀ w',Chg (fun k=>B ≤ k) w w' → K (str l) w'):callF Tryz.prog 54 [.pointer (some ⟨b,0,none⟩)] w K:=by
 refine of_calls (args:=#[.pointer (some ⟨b,0,none⟩)]) Tryz.call54 ((Tryz.Builder_String_any_k B b l w h.isb hB).mono ?_)
 rintro e w' ⟨rfl,_,hb,_⟩
 exact ⟨_,rfl,hK w' (below_chg hb)⟩
theorem encode_p {v:JV} {w:World} {cs:List Value} {K:Value → World → Prop} (hT:TabU w) (hF:FmtOk w) (h:VRep w v cs) (hK:∀ w',Ext w w' → K (.tuple #[str (encM 1 20 31 3 v).1,i64 (encM 1 20 31 3 v).2]) w') :
   callF Tryz.prog 25 [.agg cs.toArray] w K:=by
 refine W25_ok ?_
 unfold W25
 unfold encM at hK
 refine box_vali h fun a w1 sv kv ha hI hx1 hage hz1=>?_
 have ld:∀ {w2:World} {KK:Value → Prop},Ext w1 w2 → (∀ cs2,VRep w v cs2 → KK (.agg cs2.toArray)) → ldW true 5 (.pointer (some ⟨a,0,none⟩)) w2 KK:=fun hx hk=>by
   refine ld_all (hx.at ha id) rfl (hk _ ?_)
   obtain ⟨T,L,i1,i2⟩:=hI.items
   obtain ⟨T2,i3⟩:=hI.keys
   exact VRep.mk i1 i2 i3 hI.fits
 refine ld (Chg.refl _ _) fun cs2 h2=>?_
 refine vgood_p (h2.ext hx1) fun w2 hx2=>?_
 rw [un_not,condW_b]
 refine ⟨fun hb=>?_,fun hg=>?_⟩
 · have:goodM v = false:=by simpa using hb
   rw [if_pos this] at hK
   exact hK w2 (hx1.trans hx2)
 have hgood:goodM v = true:=by simpa using hg
 rw [if_neg (by rw [hgood]; simp)] at hK
 refine ld hx2 fun cs3 h3=>?_
 refine known_p v (h3.ext (hx1.trans hx2)) fun w3 hx3=>?_
 rw [un_not,condW_b]
 refine ⟨fun hb=>?_,fun hg=>?_⟩
 · have:knownM v = false:=by simpa using hb
   rw [if_pos this] at hK
   exact hK w3 ((hx1.trans hx2).trans hx3)
 have hknown:knownM v = true:=by simpa using hg
 rw [if_neg (by rw [hknown]; simp)] at hK
 refine ld (hx2.trans hx3) fun cs4 h4=>?_
 have hx13:=(hx1.trans hx2).trans hx3
 refine texts_p v hT hx13 (h4.ext hx13) fun w4 hx4=>?_
 rw [un_not,condW_b]
 refine ⟨fun hb=>?_,fun hg=>?_⟩
 · have:textsM v = false:=by simpa using hb
   rw [if_pos this] at hK
   exact hK w4 (hx13.trans hx4)
 have htexts:textsM v = true:=by simpa using hg
 rw [if_neg (by rw [htexts]; simp)] at hK
 have hx14:=hx13.trans hx4
 refine bnew (B:=w4.heap.size) (Nat.le_refl _) fun b w5 hb hb5 hx5=>?_
 refine ld ((hx2.trans hx3).trans (hx4.trans hx5)) fun cs5 h5=>?_
 have hgv:=good_v hgood
 have hcnt:=good_cnt hgood
 refine write_p v h5 (hx14.trans hx5) hx14.size hx5.size hb5 hgv.plain htexts hknown hgv.few (by rw [List.length_nil]; omega) hF fun w6 hb6 hc6=>?_
 rw [List.nil_append] at hb6
 have hx6:Ext w w6:=BCh.new (hx14.trans hx5) hx14.size hb6.base hc6
 refine len_p hb6 ?_
 rw [bin_gtr,condW_dec]
 refine ⟨fun hl=>?_,fun hl=>?_⟩
 · rw [if_pos (by omega)] at hK
   exact hK w6 hx6
 · rw [if_neg (by omega)] at hK
   refine string_p hb6 (by have:=hx5.size; have:=hc6.size; omega) fun w7 hc7=>?_
   exact hK w7 (hx6.then hc7 fun k hk e=>by have:=hx14.size; omega)
end
end Go.Proofs.YtnoepcndjljolaaGreatDoor
namespace Go.Proofs.YtnoepcndjljolaaGreatDoor
open Go Go.Eng
set_option maxRecDepth 100000
variable [HX]
def plan249:Plan:={ js:=[],ds:=[] }
def W249 (v0:Value) (w:World) (K:Value → World → Prop):Prop:=
 condW (.bool false) (
 cvtW .u32 v0 fun t4=>
 callF Tryz.prog 258 [t4] w fun t5 w1=>
 K t5 w1) (
 callF Tryz.prog 259 [v0] w fun t7 w2=>
 K t7 w2)
theorem W249_ok {v0:Value} {w:World} {K:Value → World → Prop} (h:W249 v0 w K):callF Tryz.prog 249 [v0] w K:=
 tie _ 249 Tryz.f249 plan249 _ w K 1 _ rfl mixed Tryz.func249 (by kernel_rfl) (by kernel_rfl) Tryz.call249 h
def plan259:Plan:={ js:=[],ds:=[] }
def W259 (v0:Value) (w:World) (K:Value → World → Prop):Prop:=
 binW .eql v0 (.int .u64 0) fun t4=>
 condW t4 (
 K (.int .i64 64) w) (
 unW .neg v0 fun t7=>
 binW .and v0 t7 fun t8=>
 binW .mul t8 (.int .u64 285870213051353865) fun t9=>
 binW .shr t9 (.int .u64 58) fun t10=>
 ixaW (some 64) 1 (.pointer (some ⟨7,0,none⟩)) t10 fun t11=>
 ldW false 1 t11 w fun t12=>
 cvtW .i64 t12 fun t13=>
 K t13 w)
theorem W259_ok {v0:Value} {w:World} {K:Value → World → Prop} (h:W259 v0 w K):callF Tryz.prog 259 [v0] w K:=
 tie _ 259 Tryz.f259 plan259 _ w K 1 _ rfl mixed Tryz.func259 (by kernel_rfl) (by kernel_rfl) Tryz.call259 h
end Go.Proofs.YtnoepcndjljolaaGreatDoor
namespace Go.Proofs.YtnoepcndjljolaaGreatDoor
open Go Go.Eng Go.RowKit
set_option maxRecDepth 100000
def TabB (w:World):Prop:=w.cell? ⟨7,15,none⟩ = some (.int .u8 4)
def hexDigits:Str:=[48,49,50,51,52,53,54,55,56,57,97,98,99,100,101,102,103,104,105,106,107,108,109,110,111,112,113,114,115,116,117,118,119,120,121,122]
theorem hex_at:∀ n:Fin 16,hexDigits[n.val]? = some (hexD n.val):=by decide +kernel
theorem and15 (n:Nat) (h:n < 1000):IntKind.u64.wrap (BitVec.ofInt IntKind.u64.bits (n:Int) &&& BitVec.ofInt IntKind.u64.bits 15).toNat = ((n % 16:Nat):Int):=by
 have:∀ x:Fin 1000,IntKind.u64.wrap (BitVec.ofInt IntKind.u64.bits ((x.val:Nat):Int) &&& BitVec.ofInt IntKind.u64.bits 15).toNat = ((x.val % 16:Nat):Int):=by decide +kernel
 exact this ⟨n,h⟩
theorem shr64 (r k:Nat) (hk:k ≤ 64) (K:Value → Prop):binW .shr (.int .u64 (r:Int)) (.int .u64 (k:Int)) K ↔ K (.int .u64 ((r / 2 ^ k:Nat):Int)):=by
 have e:(r:Int).fdiv (2 ^ min (k:Int).toNat IntKind.u64.bits) = ((r / 2 ^ k:Nat):Int):=by
   rw [Int.toNat_natCast,show min k IntKind.u64.bits = k from Nat.min_eq_left hk,Int.fdiv_eq_ediv_of_nonneg _ (by exact Int.le_of_lt (Int.pow_pos (by decide)))]
   rw [Int.natCast_ediv,Int.natCast_pow]; rfl
 rw [bin_shr,e]
 constructor
 · exact fun h=>h.2
 · exact fun h=>⟨by omega,h⟩
section
variable [HX]
theorem tz_p {w:World} {K:Value → World → Prop} (hB:TabB w) (hK:K (i64 4) w):callF Tryz.prog 249 [.int .u64 16] w K:=by
 refine W249_ok ?_
 unfold W249
 rw [condW_false]
 refine W259_ok ?_
 unfold W259
 rw [bin_eql,show decide ((16:Int) = 0) = false from rfl,condW_false,un_neg,bin_and]
 have e1:IntKind.u64.wrap (BitVec.ofInt IntKind.u64.bits 16 &&& BitVec.ofInt IntKind.u64.bits (IntKind.u64.wrap (0 - 16))).toNat = ((16:Nat):Int):=by decide +kernel
 rw [e1,bin_mul]
 have e2:IntKind.u64.wrap (((16:Nat):Int) * 285870213051353865) = ((4573923408821661840:Nat):Int):=by decide +kernel
 rw [e2,show (58:Int) = ((58:Nat):Int) from rfl,shr64 _ 58 (by omega),show 4573923408821661840 / 2 ^ 58 = 15 by decide,ixa_arr]
 refine ⟨by omega,by omega,?_⟩
 rw [ld_one]
 refine ⟨.int .u8 4,?_,?_⟩
 · exact hB
 · rw [cvt_int]; exact hK
theorem pow2_p {w:World} {K:Value → World → Prop} (hK:K (.bool true) w):callF Tryz.prog 248 [i64 16] w K:=by
 refine W248_ok ?_
 unfold W248
 rw [bin_sub,bin_and,bin_eql]
 have e:decide (IntKind.i64.wrap (BitVec.ofInt IntKind.i64.bits 16 &&& BitVec.ofInt IntKind.i64.bits (IntKind.i64.wrap (16 - 1))).toNat = 0) = true:=by decide +kernel
 rw [e]
 exact hK
theorem u64w {n:Nat} (h:n < 1000000):IntKind.u64.wrap (n:Int) = (n:Int):=u64_wrap (by omega) (by omega)
theorem fmt_p {r:Nat} {w:World} {K:Value → World → Prop} (hr:r < 32) (hB:TabB w) (hK:∀ w',Ext w w' → K (str ([49] ++ hexS r)) w'):callF Tryz.prog 166 [i64 ((r + 256:Nat):Int),i64 16] w K:=by
 refine W166_ok ?_
 unfold W166
 refine W196_ok ?_
 unfold W196
 rw [bin_eql,show decide ((16:Int) = 10) = false from rfl,condW_false,cvt_int,u64w (by omega),bin_lss,decide_eq_false (by omega)]
 refine W230_ok ?_
 unfold W230
 refine JoinW.cut (fun s' w'=>s' = [] ∧ w' = w) ?_ ?_
 · rw [bin_lss,show decide ((16:Int) < 2) = false from rfl]
   simp only [wsv,wsg,wsh,wsl,cond_true,cond_false,exists_eq_left',wsu,Nat.reduceAdd,Nat.reduceLT,Nat.lt_add_one,Nat.zero_lt_succ,decide_true,decide_false,ne_eq,reduceCtorEq,show decide ((16:Int) = 10) = false from rfl,show decide ((36:Int) < 16) = false from rfl]
   intros; trivial
 rintro s' g w1 ⟨rfl,rfl⟩
 refine alloc_new fun A w2 hA hz2 hb2 hx2=>?_
 refine JoinW.cut (fun s' w'=>s' = [.int .u64 ((r + 256:Nat):Int)] ∧ w' = w2) ?_ ?_
 · rw [condW_false]; exact ⟨rfl,rfl⟩
 rintro s' g w3 ⟨rfl,rfl⟩
 simp only [List.getD_cons_zero]
 refine JoinW.cut (fun s' w'=>s' = [i64 62] ∧ Ext w1 w' ∧ ∃ T,SlAt w' T (.slice (some ⟨A,62,none⟩) 3 3) 3 (u8s ([49] ++ hexS r))) ?_ ?_
 · refine pow2_p ?_
   rw [condW_true,cvt_int,show IntKind.u64.wrap 16 = 16 by decide]
   refine tz_p (cell_ext hx2 hB) ?_
   rw [cvt_int,show IntKind.u64.wrap 4 = ((4:Nat):Int) by decide,cvt_int,show IntKind.u64.wrap 16 = 16 by decide,cvt_int,show IntKind.u64.wrap 16 = 16 by decide,bin_sub,show IntKind.u64.wrap (16 - 1) = 15 by decide]
   have hd16:∀ n,n < 16 → ((hexD n).toNat:Int) < 256:=fun n _=>by have:=UInt8.toNat_lt (hexD n); omega
   refine ⟨fun s' w'=>∃ (k:Nat) (c:Array Value) (T:TypeId),k ≤ 2 ∧ s' = [.int .u64 (((r + 256) / 16 ^ k:Nat):Int),i64 ((65 - k:Nat):Int)] ∧ w'.heap[A]? = some (.cells c T (0,0)) ∧ c.size = 65 ∧ (∀ j,j < k → c[64 - j]? = some (u8 (hexD ((r + 256) / 16 ^ j % 16)).toNat)) ∧ Ext w1 w',
     fun s' _=>match s' with | [_,.int _ i]=>i.toNat | _=>0,⟨0,_,_,by omega,by simp,hb2,by simp,fun j h=>by omega,hx2⟩,?_⟩
   rintro s' g w4 ⟨k,c,T,hk,rfl,hc,hsz,hcs,hx4⟩
   simp only [List.getD_cons_zero,List.getD_cons_succ]
   have ew:IntKind.i64.wrap (((65 - k:Nat):Int) - 1) = ((64 - k:Nat):Int):=by rw [wrap_id (by omega) (by omega)]; omega
   have store:∀ (n:Nat) (KK:World → Prop),n < 16 → (∀ w',Ext w1 w' → w'.heap[A]? = some (.cells (c.setIfInBounds (64 - k) (u8 (hexD n).toNat)) T (0,0)) → KK w') →
       ixaW (some 65) 1 (.pointer (some ⟨A,0,none⟩)) (i64 ((64 - k:Nat):Int)) fun t=>stW 1 t (u8 (hexD n).toNat) w4 KK:=by
     intro n KK hn hkk
     rw [ixa_arr]
     refine ⟨by omega,by omega,?_⟩
     rw [add_mk,Int.toNat_natCast,Nat.zero_add,Nat.mul_one]
     refine st_at hc rfl (by omega) fun w5 hz5 hb5 hc5=>hkk w5 (hx4.then hc5 fun k hk e=>by omega) hb5
   have dig:∀ (n:Nat) (KK:Value → Prop),n < 16 → KK (u8 (hexD n).toNat) → ixsW (.string (ofL hexDigits)) (.int .u64 (n:Int)) KK:=by
     intro n KK hn hkk
     rw [ixs_str]
     exact ⟨by omega,hexD n,by rw [Int.toNat_natCast]; exact hex_at ⟨n,hn⟩,hkk⟩
   rw [bin_geq,condW_dec]
   refine ⟨fun hge=>?_,fun hlt=>?_⟩
   · have hk1:k ≤ 1:=by
       apply Classical.byContradiction; intro hno
       obtain rfl:k = 2:=by omega
       omega
     have hlt1000:(r + 256) / 16 ^ k < 1000:=by
       have:(r + 256) / 16 ^ k ≤ r + 256:=Nat.div_le_self _ _
       omega
     rw [bin_sub,ew,bin_and,and15 _ hlt1000]
     refine dig _ _ (Nat.mod_lt _ (by omega)) ?_
     refine store _ _ (Nat.mod_lt _ (by omega)) fun w5 hx5 hb5=>?_
     rw [shr64 _ 4 (by omega)]
     refine ⟨⟨k + 1,_,T,by omega,?_,hb5,by simp [hsz],fun j hj=>?_,hx5⟩,?_⟩
     · have e:(r + 256) / 16 ^ (k + 1) = (r + 256) / 16 ^ k / 2 ^ 4:=by
         rw [show 16 ^ (k + 1) = 16 ^ k * 16 from rfl,← Nat.div_div_eq_div_mul]
       rw [show 65 - (k + 1) = 64 - k by omega,e]
     · rw [Array.getElem?_setIfInBounds]
       by_cases hjk:j = k
       · subst hjk; rw [if_pos rfl,if_pos (by omega)]
       · rw [if_neg (by omega)]; exact hcs j (by omega)
     · show ((64 - k:Nat):Int).toNat < ((65 - k:Nat):Int).toNat
       omega
   · have hk2:k = 2:=by
       apply Classical.byContradiction; intro hno
       have:k = 0 ∨ k = 1:=by omega
       rcases this with rfl | rfl <;> omega
     subst hk2
     rw [bin_sub,ew]
     have h1:(r + 256) / 16 ^ 2 = 1:=by omega
     rw [h1]
     refine dig 1 _ (by omega) ?_
     refine store 1 _ (by omega) fun w5 hx5 hb5=>?_
     refine ⟨rfl,hx5,T,⟨some ⟨A,62,none⟩,3,rfl,Nat.le_refl _,fun e=>(by cases e),fun _=>⟨A,62,_,_,rfl,hb5,fun i hi=>?_⟩⟩⟩
     have h0':=hcs 0 (by omega)
     have h1':=hcs 1 (by omega)
     have hi3:i < 3:=by simpa [u8s_length,hexS] using hi
     rw [u8s_get,Array.getElem?_setIfInBounds]
     obtain rfl | rfl | rfl:i = 0 ∨ i = 1 ∨ i = 2:=by omega
     · rw [if_pos rfl,if_pos (by omega)]; rfl
     · rw [if_neg (by omega),show 62 + 1 = 64 - 1 from rfl,h1',show (r + 256) / 16 ^ 1 % 16 = r / 16 by omega]
       have:hexD (r / 16) = b8 (48 + r / 16):=by unfold hexD; rw [if_pos (by omega)]
       rw [this]; rfl
     · rw [if_neg (by omega),show 62 + 2 = 64 - 0 from rfl,h0',show (r + 256) / 16 ^ 0 % 16 = r % 16 by omega]; rfl
 rintro s' g w4 ⟨rfl,hx4,Ts,hs4⟩
 refine JoinW.cut (fun s' w'=>s' = [i64 62] ∧ w' = w4) ?_ ?_
 · rw [condW_false]; exact ⟨rfl,rfl⟩
 rintro s' g w5 ⟨rfl,rfl⟩
 simp only [List.getD_cons_zero]
 rw [condW_false]
 unfold slaW
 dsimp only
 rw [bd_none,bd_none,bd_some]
 refine ⟨by omega,by omega,?_⟩
 have ea:(⟨A,0,none⟩:Addr).add 62 = ⟨A,62,none⟩:=by rw [add_mk]
 rw [show ((62:Int).toNat) = 62 from rfl,if_neg (by omega),show 62 * 1 = 62 from rfl,ea,conv_bytes (l:=[49] ++ hexS r) (e:=U8) (by kernel_rfl) (by kernel_rfl) (by kernel_rfl) hs4]
 rw [ext_tuple]
 refine ⟨_,rfl,?_⟩
 rw [ext_tuple]
 exact ⟨_,rfl,hK _ hx4⟩
theorem fmt_ok {w0:World} (hB:TabB w0):FmtOk w0:=fun r hr w K hx hK=>fmt_p hr (cell_ext hx hB) hK
end
end Go.Proofs.YtnoepcndjljolaaGreatDoor
namespace Go.Proofs.YtnoepcndjljolaaGreatDoor
open Go Go.Eng Go.Num
set_option maxRecDepth 100000
section
variable [HX]
abbrev nb:Str:=[110,101,119,95,98]
end
end Go.Proofs.YtnoepcndjljolaaGreatDoor
namespace Go.Proofs.YtnoepcndjljolaaGreatDoor
open Go Go.Eng
set_option maxRecDepth 100000
variable [HX]
def plan23:Plan:={ js:=[],ds:=[] }
def W23 (v0:Value) (w:World) (K:Value → World → Prop):Prop:=
 allocW 40 [(.int .i64 0),(.bool false),(.string (ofL [])),(.slice none 0 0),(.slice none 0 0)] w fun t2 w1=>
 putW [(.int .i64 0),(.bool false),(.string (ofL [])),(.slice none 0 0),(.slice none 0 0)] [(0,1,(.int .i64 4)),(2,1,v0)] fun c2=>
 stW 5 t2 (.agg c2.toArray) w1 fun w3=>
 ldW true 5 t2 w3 fun r4=>
 K r4 w3
theorem W23_ok {v0:Value} {w:World} {K:Value → World → Prop} (h:W23 v0 w K):callF Tryz.prog 23 [v0] w K:=
 tie _ 23 Tryz.f23 plan23 _ w K 1 _ rfl mixed Tryz.func23 (by kernel_rfl) (by kernel_rfl) Tryz.call23 h
end Go.Proofs.YtnoepcndjljolaaGreatDoor
namespace Go.Proofs.YtnoepcndjljolaaGreatDoor
open Go Go.Eng Go.RowKit
set_option maxRecDepth 100000
structure Tabs (w:World):Prop where
 utf:TabU w
 bru:TabB w
 pow:Lib.TabIs Tryz.prog w "internal/strconv.uint64pow10" .u64 Lib.pow10Tab
section
variable [HX]
theorem text_p {s:Str} {w:World} {K:Value → World → Prop} (hs:s.length ≤ 9223372036854775807) (hK:∀ cs w',Ext w w' → (∀ w'',VRep w'' (.mk 4 false s [] []) cs) → K (.agg cs.toArray) w'):callF Tryz.prog 23 [str s] w K:=by
 refine W23_ok ?_
 unfold W23
 refine alloc_new fun b w1 hb hz hbb hx=>?_
 simp only [put_int,put_str,put_nil,List.length_cons,List.length_nil,List.set_cons_zero,List.set_cons_succ]
 refine ⟨by omega,by omega,?_⟩
 refine st_agg_at (l:=[i64 4,.bool false,str s,.slice none 0 0,.slice none 0 0]) hbb rfl rfl rfl fun w2 hz2 hb2 hc2=>?_
 refine ld_all hb2 rfl ?_
 refine hK _ w2 (hx.new hc2 (by omega)) fun w''=>?_
 exact VRep.mk (v:=.mk 4 false s [] []) (T1:=0) (T2:=0) (SlAt.nil w'' 0) (by simp [JV.xs,VReps]) (SlAt.nil w'' 0) ⟨by simp [JV.xs],by simp [JV.ks],hs,by simp [JV.ks]⟩
end
end Go.Proofs.YtnoepcndjljolaaGreatDoor

namespace Go.Eng
open Go
section
variable {P:Program}
def DefC (P:Program) (g:FuncId) (caps:List Value) (u:FrameMode) (w:World) (K:World → Prop):Prop:=
 CallsD P g caps.toArray u w fun e u' w'=>(∃ v,e = .returned v) ∧ settle u' = .returning ∧ K w'
def defOf:List Oper → Option (Nat × FuncId × List Operand)
 | [o1,o2]=>
   match o1.guard,o2.guard,o1.dst,o1.op,o2.dst,o2.op with
   | none,none,some t,.makeFunc (.func g) first caps,none,.defer c=>
     match first.toList,c.callee,c.args.toList with
     | [],.value (.tmp t'),[]=>bif Nat.beq t t' then some (t,g,caps.toList) else none
     | _,_,_=>none
   | _,_,_,_,_,_=>none
 | _=>none
def retW (P:Program) (fn:Func) (R:Ending → World → Prop) (f:Fr) (w:World):Prop:=resW P fn.results.toList f w fun l=>R (.returned (one l)) w
def codeD (P:Program) (pl:Plan) (fn:Func) (R:Ending → World → Prop):Nat → Code → Nat → Fr → World → Prop
 | 0,.seq (.region _ ops _) b,i,f,w=>
   match defOf ops.toList with
   | some (t,g,caps)=>
     @codeW ⟨fun ch w'=>DefC P g (caps.map (ev f)) (.panicking ch) w' fun w''=>retW P fn R f w''⟩ P pl b (i + 2) (upd f (some t) (.func (.func g) #[] (caps.map (ev f)).toArray)) w
       (fun f' w'=>DefC P g (caps.map (ev f)) .returning w' fun w''=>retW P fn R f' w'') (fun _ _ _=>False) (fun f' w'=>DefC P g (caps.map (ev f)) .returning w' fun w''=>retW P fn R f' w'')
   | none=>False
 | k + 1,.seq a b,i,f,w=>@codeW ⟨fun ch w'=>R (.panicked ch) w'⟩ P pl a (i + 1) f w (fun f' w'=>codeD P pl fn R k b (i + 1 + nodes a) f' w') (fun _ _ _=>False) (fun f' w'=>retW P fn R f' w')
 | _,_,_,_,_=>False
def resIn (lo t:Nat):ResultVar → Bool
 | .tmp x=>Nat.blt x lo && !(Nat.beq x t)
 | .cell x _=>Nat.blt x lo && !(Nat.beq x t)
def chkD (P:Program) (fn:Func) (pl:Plan) (lo gd:Nat):Nat → Code → Nat → Bool
 | 0,.seq (.region _ ops draw) b,i=>!draw && (lk pl.js i).isNone &&
   (match defOf ops.toList with
   | some (t,g,_)=>Nat.blt t fn.ntmps && Nat.beq g gd && fn.results.toList.all (resIn lo t) && chk P fn.ntmps pl [] lo b (i + 2)
   | none=>false)
 | k + 1,.seq a b,i=>(lk pl.js i).isNone && chk P fn.ntmps pl [] 0 a (i + 1) && chkD P fn pl lo gd k b (i + 1 + nodes a)
 | _,_,_=>false
theorem ldW_mono {agg:Bool} {n:Nat} {x:Value} {w:World} {K K':Value → Prop} (hk:∀ v,K v → K' v) (h:ldW agg n x w K):ldW agg n x w K':=by
 cases x with
 | pointer a=>
   cases a with
   | none=>exact h
   | some a=>
     cases agg with
     | true=>obtain ⟨l,h1,h2⟩:=h; exact ⟨l,h1,hk _ h2⟩
     | false=>obtain ⟨l,h1,h2⟩:=h; exact ⟨l,h1,hk _ h2⟩
 | _=>exact h
theorem resW_same {f f':Fr} {w:World}:∀ {l:List ResultVar} {K:List Value → Prop},(∀ t,(∃ r ∈ l,r = .tmp t ∨ ∃ T,r = .cell t T) → f t = f' t) → resW P l f w K → resW P l f' w K
 | [],_,_,h=>h
 | r :: l,K,h,hk=>by
   have hl:∀ t,(∃ r ∈ l,r = .tmp t ∨ ∃ T,r = .cell t T) → f t = f' t:=fun t ⟨r',hr,e⟩=>h t ⟨r',List.mem_cons_of_mem _ hr,e⟩
   cases r with
   | tmp t=>simp only [resW] at hk ⊢; rw [← h t ⟨_,List.mem_cons_self,.inl rfl⟩]; exact resW_same hl hk
   | cell t T=>
     simp only [resW] at hk ⊢
     rw [← h t ⟨_,List.mem_cons_self,.inr ⟨T,rfl⟩⟩]
     obtain ⟨h1,h2⟩:=andB.out hk
     rw [h1]
     exact ldW_mono (fun v hv=>resW_same hl hv) h2
theorem defC_leaves {fn:Func} {R:Ending → World → Prop} {g:FuncId} {caps:List Value} {u:FrameMode} {w:World} {f:Fr} {a:Act} (hr:∀ (ar:Array Value) (w:World),(callFunc g ar).run P w = .ok (.enter g ar) w) (hu:u ≠ .run)
   (ha:∀ t,(∃ r ∈ fn.results.toList,r = .tmp t ∨ ∃ T,r = .cell t T) → f t = a.tmps.getD t undef) (h:DefC P g caps u w fun w''=>retW P fn R f w'') :
   Leaves P fn a.tmps R [{ target:=.fn (.func g) caps.toArray,args:=#[] }] u w:=by
 refine leaves_cons (f:=g) (args:=caps.toArray) hu ?_ (h.mono ?_)
 · have:=hr (#[] ++ caps.toArray) w
   rw [show (#[] ++ caps.toArray:Array Value) = caps.toArray from by simp] at this
   show (callFunc g (#[] ++ caps.toArray)).run P w = _
   rw [show (#[] ++ caps.toArray:Array Value) = caps.toArray from by simp]
   exact this
 · rintro e u' w' ⟨⟨v,rfl⟩,hs,hk⟩
   show Leaves P fn a.tmps R [] (settle u') w'
   rw [hs]
   have hag:Ag a.tmps.size a.defers (fun t=>a.tmps.getD t undef) a:=⟨rfl,rfl,fun _=>rfl⟩
   letI:=noX
   obtain ⟨v',hk',hr'⟩:=results_run (fn:=fn) (K:=fun v=>R (.returned v) w') hag (resW_same ha hk)
   exact ⟨v',hr',hk'⟩
theorem defOf_some {l:List Oper} {t:Nat} {g:FuncId} {caps:List Operand} (h:defOf l = some (t,g,caps)):∃ o1 o2 first cp c,l = [o1,o2] ∧ o1.guard = none ∧ o2.guard = none ∧ o1.dst = some t ∧ o1.op = .makeFunc (.func g) first cp ∧ first = #[] ∧ cp.toList = caps ∧ o2.dst = none ∧ o2.op = .defer c ∧ c.callee = .value (.tmp t) ∧ c.args = #[]:=by
 unfold defOf at h
 split at h
 · rename_i o1 o2
   split at h
   · rename_i t' g' first cp c e1 e2 e3 e4 e5 e6
     split at h
     · rename_i t'' h1 h2 h3
       cases hb:Nat.beq t' t'' with
       | false=>rw [hb] at h; cases h
       | true=>
         rw [hb] at h
         simp only [cond_true,Option.some.injEq,Prod.mk.injEq] at h
         obtain ⟨rfl,rfl,rfl⟩:=h
         have:t' = t'':=Nat.eq_of_beq_eq_true hb
         subst this
         exact ⟨o1,o2,first,cp,c,rfl,e1,e2,e3,e4,by simpa using h1,rfl,e5,e6,h2,by simpa using h3⟩
     · cases h
   · cases h
 · cases h
theorem codeD_sound (hm:P.follows .mixedOrders = true) {pl:Plan} {fn:Func} {R:Ending → World → Prop} {lo gd:Nat} (hr:∀ (ar:Array Value) (w:World),(callFunc gd ar).run P w = .ok (.enter gd ar) w) :
   ∀ (k:Nat) (c:Code) (i:Nat) (f:Fr) (a:Act) (w:World),chkD P fn pl lo gd k c i = true → Ag fn.ntmps [] f a → codeD P pl fn R k c i f w → c.wp P (bodyPostD P fn R) a w:=by
 intro k
 induction k with
 | zero=>
   intro c i f a w hc hag h
   cases c with
   | seq x b=>
     cases x with
     | region id ops draw=>
       simp only [codeD] at h
       simp only [chkD,Bool.and_eq_true,Bool.not_eq_true'] at hc
       obtain ⟨⟨hdr,hl⟩,hc⟩:=hc
       cases hd:defOf ops.toList with
       | none=>simp only [hd] at h
       | some x=>
         obtain ⟨t,g,caps⟩:=x
         simp only [hd,Bool.and_eq_true] at h hc
         obtain ⟨⟨⟨ht,hg⟩,hres⟩,hchk⟩:=hc
         obtain rfl:g = gd:=Nat.eq_of_beq_eq_true hg
         obtain ⟨o1,o2,first,cp,cl,hops,g1,g2,d1,p1,rfl,rfl,d2,p2,hcl,hca⟩:=defOf_some hd
         subst hdr
         refine wp_seq (wp_region_list ?_)
         have hops':ops = [o1,o2].toArray:=by rw [← hops]
         subst hops'
         have htn:t < fn.ntmps:=by simpa using ht
         have hv:(cp.toList.map (ev f)).toArray = cp.map a.eval:=by
           rw [eval_fun hag]
           apply Array.ext'
           simp
         show wpList P [o1,o2].toArray _ [o1,o2] a w
         letI:=noX
         refine op_step (K:=fun v w'=>v = .func (.func g) #[] (cp.toList.map (ev f)).toArray ∧ w' = w) hag (by simp [wantF,g1]) ?_ ?_ (fun _ _ h=>h.elim)
         · unfold anyW
           rw [p1]
           exact ⟨rfl,rfl⟩
         · rintro v w' ⟨rfl,rfl⟩
           have hag1:=hag.put (d:=some t) (fun x hx=>by cases hx; exact htn) (.func (.func g) #[] (cp.toList.map (ev f)).toArray)
           rw [d1]
           unfold wpList
           rw [if_pos (by rw [want_ag hag1]; simp [wantF,g2])]
           refine .inl ?_
           unfold Oper.wp
           have hex:(execOp (a.put (some t) (.func (.func g) #[] (cp.toList.map (ev f)).toArray)).eval o2).run P w' = .ok (.defer { target:=.fn (.func g) (cp.toList.map (ev f)).toArray,args:=#[] }) w':=by
             rw [eval_fun hag1]
             unfold execOp
             rw [p2]
             have e:ev (upd f (some t) (.func (.func g) #[] (cp.toList.map (ev f)).toArray)) (.tmp t) = .func (.func g) #[] (cp.toList.map (ev f)).toArray:=by
               simp [ev,upd_some]
             simp [resolve,hcl,hca,Deferred.ofValue,run_bind,run_pure,e]
           rw [hex,Oper.upon_defer,d2]
           clear hex
           have hag2:Ag fn.ntmps [{ target:=.fn (.func g) (cp.toList.map (ev f)).toArray,args:=#[] }] (upd f (some t) (.func (.func g) #[] (cp.toList.map (ev f)).toArray)) ({ (a.put (some t) (.func (.func g) #[] (cp.toList.map (ev f)).toArray)) with defers:={ target:=.fn (.func g) (cp.toList.map (ev f)).toArray,args:=#[] } :: (a.put (some t) (.func (.func g) #[] (cp.toList.map (ev f)).toArray)).defers }.put none undef):=by
             refine ⟨?_,hag1.2.1,hag1.2.2⟩
             show _ :: (a.put _ _).defers = _
             rw [hag1.1]
           generalize ({ (a.put (some t) (.func (.func g) #[] (cp.toList.map (ev f)).toArray)) with defers:={ target:=.fn (.func g) (cp.toList.map (ev f)).toArray,args:=#[] } :: (a.put (some t) (.func (.func g) #[] (cp.toList.map (ev f)).toArray)).defers }.put none undef) = a2 at hag2 ⊢
           show b.wp P (bodyPostD P fn R) a2 w'
           refine @codeW_sound ⟨fun ch w'=>DefC P g (cp.toList.map (ev f)) (.panicking ch) w' fun w''=>retW P fn R f w''⟩ P fn.ntmps [{ target:=.fn (.func g) (cp.toList.map (ev f)).toArray,args:=#[] }] pl hm b [] lo (i + 2) _ a2 w' _ _ _ _ hchk hag2 h (fun f' a' w' hag' _ hk=>?_) (fun _ _ _ _ _ _ hk=>hk.elim) (fun f' a' w' hag' _ hk=>?_) (fun ch a' w' hd ht hx=>?_)
           · show Leaves P fn a'.tmps R a'.defers .returning w'
             rw [hag'.1]
             exact defC_leaves hr (by simp) (fun t _=>(hag'.2.2 t).symm) hk
           · show Leaves P fn a'.tmps R a'.defers .returning w'
             rw [hag'.1]
             exact defC_leaves hr (by simp) (fun t _=>(hag'.2.2 t).symm) hk
           · show Leaves P fn a'.tmps R a'.defers (.panicking ch) w'
             rw [hd]
             refine defC_leaves (f:=f) hr (by simp) (fun x hx'=>?_) hx
             have hin:x < lo ∧ x ≠ t:=by
               obtain ⟨r,hrm,hr'⟩:=hx'
               have:=List.all_eq_true.1 hres r hrm
               have h2:(Nat.blt x lo && !(Nat.beq x t)) = true:=by
                 rcases hr' with rfl | ⟨T,rfl⟩
                 · exact this
                 · exact this
               simp only [Bool.and_eq_true,Bool.not_eq_true'] at h2
               refine ⟨by simpa using h2.1,fun e=>?_⟩
               rw [e] at h2
               have h3:=h2.2
               rw [Nat.beq_refl] at h3
               cases h3
             have hlt:Nat.ble lo x = false:=by
               cases hb:Nat.ble lo x with
               | false=>rfl
               | true=>exact absurd (Nat.lt_of_lt_of_le hin.1 (Nat.le_of_ble_eq_true hb)) (Nat.lt_irrefl _)
             rw [ht x (by unfold inS; rw [hlt]; rfl)]
             simp [upd_some,hin.2]
     | _=>simp [chkD] at hc
   | _=>simp [chkD] at hc
 | succ k ih=>
   intro c i f a w hc hag h
   cases c with
   | seq x y=>
     simp only [codeD] at h
     simp only [chkD,Bool.and_eq_true] at hc
     obtain ⟨⟨hl,hc1⟩,hc2⟩:=hc
     refine wp_seq ?_
     letI:HX:=⟨fun ch w'=>R (.panicked ch) w'⟩
     refine codeW_sound hm x [] 0 (i + 1) f a w _ _ _ _ hc1 hag h (fun f' a' w' hag' _ h'=>ih y _ f' a' w' hc2 hag' h') (fun _ _ _ _ _ _ hk=>hk.elim) (fun f' a' w' hag' _ hk=>?_) (fun ch a' w' hd _ hx=>?_)
     · show Leaves P fn a'.tmps R a'.defers .returning w'
       rw [hag'.1]
       obtain ⟨v',hk',hr'⟩:=results_run (fn:=fn) (K:=fun v=>R (.returned v) w') hag' hk
       exact ⟨v',hr',hk'⟩
     · show Leaves P fn a'.tmps R a'.defers (.panicking ch) w'
       rw [hd]
       exact hx
   | _=>simp [chkD] at hc
def funD (P:Program) (fn:Func) (pl:Plan) (k:Nat) (args:List Value) (w:World) (R:Ending → World → Prop):Prop:=
 match fn.body with
 | some c=>codeD P pl fn R k c 0 (fr0 args) w
 | none=>False
def chkFunD (P:Program) (fn:Func) (pl:Plan) (lo gd k na:Nat):Bool:=
 match fn.body with
 | some c=>Nat.ble na fn.ntmps && chkD P fn pl lo gd k c 0
 | none=>false
theorem enter_ag {nt:Nat} {args:List Value} (hle:args.length ≤ nt):Ag nt [] (fr0 args) { tmps:=args.toArray ++ Array.replicate (nt - args.toArray.size) undef,defers:=[] }:=by
 refine ⟨rfl,by simp; omega,fun t=>?_⟩
 simp only [Array.getD_eq_getD_getElem?,Array.getElem?_append,List.size_toArray,List.getElem?_toArray,Array.getElem?_replicate,fr0,List.getD_eq_getElem?_getD]
 split
 · rfl
 · rename_i hlt
   rw [List.getElem?_eq_none (by omega)]
   split <;> rfl
theorem funD_sound {g:FuncId} {fn:Func} {pl:Plan} {args:List Value} {w:World} {R:Ending → World → Prop} {lo gd k:Nat} (hm:P.follows .mixedOrders = true) (hf:P.funcs[g]? = some fn) (hr:∀ (ar:Array Value) (w:World),(callFunc gd ar).run P w = .ok (.enter gd ar) w)
   (hc:chkFunD P fn pl lo gd k args.length = true) (h:funD P fn pl k args w R):Calls P g args.toArray w R:=by
 unfold funD at h
 unfold chkFunD at hc
 cases hb:fn.body with
 | none=>rw [hb] at h; exact h.elim
 | some c=>
   rw [hb] at h hc
   simp only [Bool.and_eq_true] at hc
   exact calls_of_wp_defers hf hb (codeD_sound hm hr k c 0 _ _ w hc.2 (enter_ag (Nat.le_of_ble_eq_true hc.1)) h)
theorem tieD [HX] (P:Program) (g:FuncId) (fn:Func) (pl:Plan) (args:List Value) (w:World) (K:Value → World → Prop) (lo gd k na:Nat) (X:Prop) (hk:args.length = na) (hm:P.follows .mixedOrders = true) (hf:P.funcs[g]? = some fn)
   (hc:chkFunD P fn pl lo gd k na = true) (he:funD P fn pl k args w (EndK K) = X) (hr:∀ (az:Array Value) (w:World),(callFunc g az).run P w = .ok (.enter g az) w) (hrd:∀ (ar:Array Value) (w:World),(callFunc gd ar).run P w = .ok (.enter gd ar) w) (h:X):callF P g args w K:=by
 unfold callF
 rw [hr]
 exact funD_sound hm hf hrd (by rw [hk]; exact hc) (by rw [he]; exact h)
end
end Go.Eng
namespace Go.Eng
open Go
section
variable {P:Program}
def recOf:List Oper → Option (Nat × Nat)
 | [o1,o2]=>
   match o1.guard,o2.guard,o1.dst,o1.op,o2.dst,o2.op with
   | none,none,some t,.call c,some t2,.assign (.tmp t')=>
     match c.callee,c.args.toList with
     | .builtin .recover,[]=>bif Nat.beq t t' then some (t,t2) else none
     | _,_=>none
   | _,_,_,_,_,_=>none
 | _=>none
theorem recOf_some {l:List Oper} {t t2:Nat} (h:recOf l = some (t,t2)):∃ o1 o2 c,l = [o1,o2] ∧ o1.guard = none ∧ o2.guard = none ∧ o1.dst = some t ∧ o1.op = .call c ∧ o2.dst = some t2 ∧ o2.op = .assign (.tmp t) ∧ c.callee = .builtin .recover ∧ c.args = #[]:=by
 unfold recOf at h
 split at h
 · rename_i o1 o2
   split at h
   · rename_i t0 c t2' t' e1 e2 e3 e4 e5 e6
     split at h
     · rename_i h1 h2
       cases hb:Nat.beq t0 t' with
       | false=>rw [hb] at h; cases h
       | true=>
         rw [hb] at h
         simp only [cond_true,Option.some.injEq,Prod.mk.injEq] at h
         obtain ⟨rfl,rfl⟩:=h
         have:t0 = t':=Nat.eq_of_beq_eq_true hb
         subst this
         exact ⟨o1,o2,c,rfl,e1,e2,e3,e4,e5,e6,h1,by simpa using h2⟩
     · cases h
   · cases h
 · cases h
def funR (P:Program) (fn:Func) (pl:Plan) (args:List Value) (x:Value) (w:World) (K:World → Prop):Prop:=
 match fn.body with
 | some (.seq (.region _ ops _) b)=>
   match recOf ops.toList with
   | some (t,t2)=>@codeW noX P pl b 2 (upd (upd (fr0 args) (some t) x) (some t2) x) w (fun _ w'=>K w') (fun _ _ _=>False) (fun _ w'=>K w')
   | none=>False
 | _=>False
def chkFunR (P:Program) (fn:Func) (pl:Plan) (na:Nat):Bool:=
 match fn.body with
 | some (.seq (.region _ ops draw) b)=>!draw && Nat.ble na fn.ntmps && fn.results.toList.isEmpty &&
   (match recOf ops.toList with
   | some (t,t2)=>Nat.blt t fn.ntmps && Nat.blt t2 fn.ntmps && chk P fn.ntmps pl [] 0 b 2
   | none=>false)
 | _=>false
inductive Finds:FrameMode → Value → Prop
 | idle:Finds .returning .nilIface
 | thrown (v:Value):Finds (.panicking [{ v,recovered:=false }]) v
theorem funR_sound {g:FuncId} {fn:Func} {pl:Plan} {args:List Value} {x:Value} {u:FrameMode} {w:World} {K:World → Prop} (hm:P.follows .mixedOrders = true) (hf:P.funcs[g]? = some fn) (hc:chkFunR P fn pl args.length = true)
   (hu:Finds u x) (h:funR P fn pl args x w K):DefC P g args u w K:=by
 unfold funR at h
 unfold chkFunR at hc
 split at h
 · rename_i id ops draw b hb
   rw [hb] at hc
   simp only [Bool.and_eq_true,Bool.not_eq_true'] at hc
   obtain ⟨⟨⟨hd,hle⟩,hres⟩,hc⟩:=hc
   subst hd
   cases ho:recOf ops.toList with
   | none=>simp only [ho] at h
   | some y=>
     obtain ⟨t,t2⟩:=y
     simp only [ho,Bool.and_eq_true] at h hc
     obtain ⟨⟨ht,ht2⟩,hchk⟩:=hc
     obtain ⟨o1,o2,c,hops,g1,g2,d1,p1,d2,p2,hcl,hca⟩:=recOf_some ho
     have hops':ops = #[o1,o2]:=by
       apply Array.ext'
       rw [hops]
     subst hops'
     letI:=noX
     have hr0:∀ tmps w,(results fn tmps).run P w = .ok (.tuple #[]) w:=by
       intro tmps w
       have h1:fn.results.toList = []:=by simpa using hres
       obtain ⟨v,hv,hr⟩:=results_run (P:=P) (fn:=fn) (n:=tmps.size) (D:=[]) (f:=fun t=>tmps.getD t undef) (a:={ tmps:=tmps,defers:=[] }) (w:=w) (K:=fun v=>v = .tuple #[]) ⟨rfl,rfl,fun _=>rfl⟩ (by rw [h1]; rfl)
       rw [hr,hv]
     have hag:=enter_ag (nt:=fn.ntmps) (args:=args) (Nat.le_of_ble_eq_true hle)
     have ht:t < fn.ntmps:=by simpa using ht
     have ht2:t2 < fn.ntmps:=by simpa using ht2
     refine callsD_of_wpS hf hb fun c₀ cs hmode=>?_
     generalize ({ tmps:=args.toArray ++ Array.replicate (fn.ntmps - args.toArray.size) undef,defers:=[] }:Act) = a0 at hag ⊢
     have hag1:=hag.put (d:=some t) (fun y hy=>by cases hy; exact ht) x
     have hag2:=hag1.put (d:=some t2) (fun y hy=>by cases hy; exact ht2) x
     have w1:Region.wanted o1 (yielded #[o1,o2] a0.tmps) = true:=by
       have:=want_ag (ops:=[o1,o2]) (o:=o1) hag
       rw [show ([o1,o2]:List Oper).toArray = #[o1,o2] from rfl] at this
       rw [this]; simp [wantF,g1]
     have w2:Region.wanted o2 (yielded #[o1,o2] (a0.put (some t) x).tmps) = true:=by
       have:=want_ag (ops:=[o1,o2]) (o:=o2) hag1
       rw [show ([o1,o2]:List Oper).toArray = #[o1,o2] from rfl] at this
       rw [this]; simp [wantF,g2]
     have e1:(execOp a0.eval o1).run P w = .ok .recover w:=by
       unfold execOp
       rw [p1]
       simp [resolve,hcl,hca,invoke,builtin,run_bind,run_pure]
     have e2:(execOp (a0.put (some t) x).eval o2).run P w = .ok (.value x) w:=by
       rw [eval_fun hag1]
       unfold execOp
       rw [p2]
       have e:ev (upd (fr0 args) (some t) x) (.tmp t) = x:=by simp [ev,upd_some]
       simp [run_pure,e]
     have rest:∀ u':FrameMode,settle u' = .returning → b.wpS P (bodyPostS P fn c₀ cs fun e u' w'=>(∃ v,e = .returned v) ∧ settle u' = .returning ∧ K w') ((a0.put (some t) x).put (some t2) x) ({ c₀ with mode:=u' } :: cs) w:=by
       intro u' hs
       refine wpS_of_wp ?_
       refine @codeW_sound noX P fn.ntmps [] pl hm b [] 0 2 _ _ w _ _ _ _ hchk hag2 h (fun f' a' w' hag' _ hk=>?_) (fun _ _ _ _ _ _ hk=>hk.elim) (fun f' a' w' hag' _ hk=>?_) (fun ch a' w' hd ht hx=>hx.elim)
       · exact ⟨hag'.1,u',rfl,_,hr0 _ _,⟨_,rfl⟩,hs,hk⟩
       · exact ⟨hag'.1,u',rfl,_,hr0 _ _,⟨_,rfl⟩,hs,hk⟩
     refine wpS_seq (wpS_region ?_)
     show wpOpsS P #[o1,o2] _ [0,1] a0 (c₀ :: cs) w
     have tail:∀ c1:Frame,b.wpS P (bodyPostS P fn c₀ cs fun e u' w'=>(∃ v,e = .returned v) ∧ settle u' = .returning ∧ K w') ((a0.put (some t) x).put (some t2) x) (c1 :: cs) w →
         wpOpsS P #[o1,o2] (Exit.thenS (b.wpS P (bodyPostS P fn c₀ cs fun e u' w'=>(∃ v,e = .returned v) ∧ settle u' = .returning ∧ K w')) (bodyPostS P fn c₀ cs fun e u' w'=>(∃ v,e = .returned v) ∧ settle u' = .returning ∧ K w')) [1] (a0.put (some t) x) (c1 :: cs) w:=by
       intro c1 hb1
       unfold wpOpsS
       rw [show (#[o1,o2]:Array Oper)[1]? = some o2 from rfl]
       show ite (Region.wanted o2 (yielded #[o1,o2] (a0.put (some t) x).tmps) = true) _ _
       rw [if_pos w2,e2]
       simp only [Oper.upon_value,d2]
       exact hb1
     unfold wpOpsS
     rw [show (#[o1,o2]:Array Oper)[0]? = some o1 from rfl]
     show ite (Region.wanted o1 (yielded #[o1,o2] a0.tmps) = true) _ _
     rw [if_pos w1,e1]
     cases hu with
     | idle=>
       have:recoverD (c₀ :: cs) = none:=by simp [recoverD,hmode]
       simp only [this,d1]
       have e:({ c₀ with mode:=.returning }:Frame) = c₀:=by rw [← hmode]
       have:=rest .returning rfl
       rw [e] at this
       exact tail c₀ this
     | thrown=>
       have:recoverD (c₀ :: cs) = some (x,{ c₀ with mode:=.panicking [{ v:=x,recovered:=true }] } :: cs):=by simp [recoverD,hmode]
       simp only [this,d1]
       exact tail _ (rest (.panicking [{ v:=x,recovered:=true }]) rfl)
 · exact h.elim
end
end Go.Eng
namespace Go.Proofs.YtnoepcndjljolaaGreatDoor
open Go Go.Eng
set_option maxRecDepth 100000
variable [HX]
def plan27:Plan:={ js:=[(16,⟨[],[],4⟩),(4,⟨[],[],4⟩)],ds:=[] }
def W27 (v0:Value) (w:World) (K:Value → World → Prop):Prop:=
 allocW 40 [(.int .i64 0),(.bool false),(.string (ofL [])),(.slice none 0 0),(.slice none 0 0)] w fun t2 w1=>
 allocW 60 [(.pointer none)] w1 fun t3 w2=>
 letI:HX:=⟨fun ch x3=>DefC Tryz.prog 56 [t2,t3] (.panicking ch) x3 fun w3=>
 ldW true 5 t2 w3 fun r4=>
 ldW false 1 t3 w3 fun r5=>
 K (.tuple #[r4,r5]) w3⟩
 JoinW (fun J6=>
 lensW v0 fun t7=>
 binW .gtr t7 (.int .i64 65536) fun t8=>
 condW t8 (
 callF Tryz.prog 57 [(.int .i64 3),(.int .i64 0)] w2 fun t9 w7=>
 J6 [] w7) (
 J6 [] w2))
 fun s6 _ w8=>
 putW [(.string (ofL [])),(.int .i64 0),(.int .i64 0)] [(0,1,v0)] fun c9=>
 boxW 101 (.agg c9.toArray) w8 fun t12 w10=>
 callF Tryz.prog 58 [t12,(.int .i64 1)] w10 fun t14 w11=>
 stW 5 t2 t14 w11 fun w12=>
 callF Tryz.prog 59 [t12] w12 fun t16 w13=>
 JoinW (fun J14=>
 nilW t12 fun t18=>
 fldW 1 t18 fun t19=>
 ldW false 1 t19 w13 fun t20=>
 lensW v0 fun t22=>
 binW .lss t20 t22 fun t23=>
 condW t23 (
 nilW t12 fun t25=>
 fldW 1 t25 fun t26=>
 ldW false 1 t26 w13 fun t27=>
 callF Tryz.prog 57 [(.int .i64 30),t27] w13 fun t28 w15=>
 J14 [] w15) (
 J14 [] w13))
 fun s14 _ w16=>
 ldW true 5 t2 w16 fun t29=>
 stW 5 t2 t29 w16 fun w17=>
 stW 1 t3 (.pointer none) w17 fun w18=>
 DefC Tryz.prog 56 [t2,t3] .returning w18 fun w19=>
 ldW true 5 t2 w19 fun r20=>
 ldW false 1 t3 w19 fun r21=>
 K (.tuple #[r20,r21]) w19
theorem W27_eq (v0:Value) (w:World) (K:Value → World → Prop):funD Tryz.prog Tryz.f27 plan27 1 [v0] w (EndK K) = W27 v0 w K:=by kernel_rfl
theorem W27_chk:chkFunD Tryz.prog Tryz.f27 plan27 4 56 1 1 = true:=by kernel_rfl
theorem W27_ok {v0:Value} {w:World} {K:Value → World → Prop} (h:W27 v0 w K):callF Tryz.prog 27 [v0] w K:=
 tieD Tryz.prog 27 Tryz.f27 plan27 [v0] w K 4 56 1 1 (W27 v0 w K) rfl mixed Tryz.func27 W27_chk (W27_eq v0 w K) Tryz.call27 Tryz.call56 h
def plan56:Plan:={ js:=[],ds:=[(5,⟨[0,1,2],[[],[],[1],[0],[0,1,2,3]]⟩)] }
def R56 (v0 v1:Value) (x:Value) (w:World) (K:World → Prop):Prop:=
 letI:HX:=noX
 eqQ Tryz.prog .neq 20 false true x .nilIface w fun t5=>
 condW t5 (
 putW [(.int .i64 0),(.bool false),(.string (ofL [])),(.slice none 0 0),(.slice none 0 0)] [] fun c1=>
 semQ Tryz.prog (Instr.typeAssert x 20 60 false) w.drew fun t8=>
 stW 5 v0 (.agg c1.toArray) w.drew fun w2=>
 (semQ Tryz.prog (Instr.typeAssert x 20 60 false) w2 fun x=>x = t8) ∧
 stW 1 v1 t8 w2 fun w3=>
 K w3) (
 K w)
theorem R56_eq (v0 v1:Value) (x:Value) (w:World) (K:World → Prop):funR Tryz.prog Tryz.f56 plan56 [v0,v1] x w K = R56 v0 v1 x w K:=by kernel_rfl
theorem R56_chk:chkFunR Tryz.prog Tryz.f56 plan56 2 = true:=by kernel_rfl
theorem R56_ok {v0 v1:Value} {x:Value} {u:FrameMode} {w:World} {K:World → Prop} (hu:Finds u x) (h:R56 v0 v1 x w K):DefC Tryz.prog 56 [v0,v1] u w K:=
 funR_sound (args:=[v0,v1]) mixed Tryz.func56 R56_chk hu (by rw [R56_eq]; exact h)
def plan57:Plan:={ js:=[],ds:=[] }
def W57 (v0 v1:Value) (w:World) (K:Value → World → Prop):Prop:=
 putW [(.int .i64 0),(.string (ofL [])),(.int .i64 0)] [(0,1,v0),(2,1,v1)] fun c1=>
 boxW 150 (.agg c1.toArray) w fun t7 w2=>
 pncW (.iface 60 t7) w2
theorem W57_ok {v0 v1:Value} {w:World} {K:Value → World → Prop} (h:W57 v0 v1 w K):callF Tryz.prog 57 [v0,v1] w K:=
 tie _ 57 Tryz.f57 plan57 _ w K 2 _ rfl mixed Tryz.func57 (by kernel_rfl) (by kernel_rfl) Tryz.call57 h
def plan58:Plan:={ js:=[(48003,⟨[88],[],83⟩),(48005,⟨[87],[],86⟩),(48008,⟨[85],[],83⟩),(4,⟨[],[],5⟩)],ds:=[(18,⟨[0,1,2,3,4,5,6,7,8,9],[[],[0],[0,1],[0,1,2],[],[4],[4,5],[4,5,6],[0,1,2,3,4,5,6,7],[0,1,2,3,4,5,6,7,8]]⟩)] }
def W58 (v0 v1:Value) (w:World) (K:Value → World → Prop):Prop:=
 allocW 40 [(.int .i64 0),(.bool false),(.string (ofL [])),(.slice none 0 0),(.slice none 0 0)] w fun t4 w1=>
 callF Tryz.prog 59 [v0] w1 fun t8 w2=>
 JoinW (fun J3=>
 binW .gtr v1 (.int .i64 24) fun t11=>
 condW t11 (
 nilW v0 fun t13=>
 fldW 1 t13 fun t14=>
 ldW false 1 t14 w2 fun t15=>
 callF Tryz.prog 57 [(.int .i64 7),t15] w2 fun t16 w4=>
 J3 [] w4) (
 nilW v0 fun t19=>
 fldW 2 t19 fun t20=>
 ldW false 1 t20 w2 fun t21=>
 binW .eql t21 (.int .i64 2000) fun t22=>
 condW t22 (
 nilW v0 fun t24=>
 fldW 1 t24 fun t25=>
 ldW false 1 t25 w2 fun t26=>
 callF Tryz.prog 57 [(.int .i64 3),t26] w2 fun t27 w5=>
 J3 [] w5) (
 J3 [] w2)))
 fun s3 _ w6=>
 nilW v0 fun t29=>
 fldW 2 t29 fun t30=>
 ldW false 1 t30 w6 fun t31=>
 binW .add t31 (.int .i64 1) fun t32=>
 nilW v0 fun t33=>
 fldW 2 t33 fun t34=>
 stW 1 t34 t32 w6 fun w7=>
 nilW v0 fun t36=>
 fldW 0 t36 fun t37=>
 ldW false 1 t37 w7.drew fun t38=>
 nilW v0 fun t40=>
 fldW 1 t40 fun t41=>
 ldW false 1 t41 w7.drew fun t42=>
 slsW t38 (some t42) none fun t43=>
 callF Tryz.prog 112 [v0] w7.drew fun t45 w8=>
 callF Tryz.prog 113 [t43,(.string (ofL [110,117,108,108]))] w8 fun t48 w9=>
 condW t48 (
 nilW v0 fun t50=>
 fldW 1 t50 fun t51=>
 ldW false 1 t51 w9 fun t52=>
 binW .add t52 (.int .i64 4) fun t53=>
 nilW v0 fun t54=>
 fldW 1 t54 fun t55=>
 stW 1 t55 t53 w9 fun w10=>
 callF Tryz.prog 114 [] w10 fun t56 w11=>
 stW 5 t4 t56 w11 fun w12=>
 ldW true 5 t4 w12 fun r13=>
 K r13 w12) (
 callF Tryz.prog 113 [t43,(.string (ofL [116,114,117,101]))] w9 fun t59 w14=>
 condW t59 (
 nilW v0 fun t61=>
 fldW 1 t61 fun t62=>
 ldW false 1 t62 w14 fun t63=>
 binW .add t63 (.int .i64 4) fun t64=>
 nilW v0 fun t65=>
 fldW 1 t65 fun t66=>
 stW 1 t66 t64 w14 fun w15=>
 callF Tryz.prog 115 [(.bool true)] w15 fun t67 w16=>
 stW 5 t4 t67 w16 fun w17=>
 ldW true 5 t4 w17 fun r18=>
 K r18 w17) (
 callF Tryz.prog 113 [t43,(.string (ofL [102,97,108,115,101]))] w14 fun t70 w19=>
 condW t70 (
 nilW v0 fun t72=>
 fldW 1 t72 fun t73=>
 ldW false 1 t73 w19 fun t74=>
 binW .add t74 (.int .i64 5) fun t75=>
 nilW v0 fun t76=>
 fldW 1 t76 fun t77=>
 stW 1 t77 t75 w19 fun w20=>
 callF Tryz.prog 115 [(.bool false)] w20 fun t78 w21=>
 stW 5 t4 t78 w21 fun w22=>
 ldW true 5 t4 w22 fun r23=>
 K r23 w22) (
 binW .eql t45 (.int .u8 45) fun t81=>
 GdW (isB t81 false) [undef] w19 (fun J24=>
 binW .geq t45 (.int .u8 48) fun t84=>
 J24 [t84] w19)
 fun s24 _ w25=>
 GdW (isB (s24.getD 0 undef) true) [undef] w25 (fun J26=>
 binW .leq t45 (.int .u8 57) fun t87=>
 J26 [t87] w25)
 fun s26 _ w27=>
 GdW (isB t81 false) [undef] w27 (fun J28=>
 pickW (s24.getD 0 undef) (s26.getD 0 undef) (.bool false) fun t88=>
 J28 [t88] w27)
 fun s28 _ w29=>
 pickW t81 (.bool true) (s28.getD 0 undef) fun t89=>
 condW t89 (
 callF Tryz.prog 116 [v0] w29 fun t91 w30=>
 stW 5 t4 t91 w30 fun w31=>
 ldW true 5 t4 w31 fun r32=>
 K r32 w31) (
 binW .eql t45 (.int .u8 34) fun t94=>
 condW t94 (
 callF Tryz.prog 117 [v0] w29 fun t96 w33=>
 callF Tryz.prog 23 [t96] w33 fun t97 w34=>
 stW 5 t4 t97 w34 fun w35=>
 ldW true 5 t4 w35 fun r36=>
 K r36 w35) (
 binW .eql t45 (.int .u8 91) fun t100=>
 condW t100 (
 callF Tryz.prog 118 [v0,v1] w29 fun t103 w37=>
 stW 5 t4 t103 w37 fun w38=>
 ldW true 5 t4 w38 fun r39=>
 K r39 w38) (
 binW .eql t45 (.int .u8 123) fun t106=>
 condW t106 (
 callF Tryz.prog 119 [v0,v1] w29 fun t109 w40=>
 stW 5 t4 t109 w40 fun w41=>
 ldW true 5 t4 w41 fun r42=>
 K r42 w41) (
 nilW v0 fun t111=>
 fldW 1 t111 fun t112=>
 ldW false 1 t112 w29 fun t113=>
 callF Tryz.prog 57 [(.int .i64 30),t113] w29 fun t114 w43=>
 putW [(.int .i64 0),(.bool false),(.string (ofL [])),(.slice none 0 0),(.slice none 0 0)] [] fun c44=>
 stW 5 t4 (.agg c44.toArray) w43 fun w45=>
 ldW true 5 t4 w45 fun r46=>
 K r46 w45)))))))
theorem W58_ok {v0 v1:Value} {w:World} {K:Value → World → Prop} (h:W58 v0 v1 w K):callF Tryz.prog 58 [v0,v1] w K:=
 tie _ 58 Tryz.f58 plan58 _ w K 2 _ rfl mixed Tryz.func58 (by kernel_rfl) (by kernel_rfl) Tryz.call58 h
def plan59:Plan:={ js:=[(1,⟨[],[],1⟩)],ds:=[(4,⟨[0,1,2,3,4,5,6,7,8,9,10,11,12,13,14,15,16,17,18,19,21,22],[[],[0],[0,1],[0,1,2],[],[4],[4,5],[4,5,6],[4,5,6,7],[0,1,2,3,4,5,6,7,8],[0,1,2,3,4,5,6,7,8,9],[0,1,2,3,4,5,6,7,8,9,10],[0,1,2,3,4,5,6,7,8,9,10,11],[0,1,2,3,4,5,6,7,8,9,10,11,12],[0,1,2,3,4,5,6,7,8,9,10,11,12,13],[0,1,2,3,4,5,6,7,8,9,10],[0,1,2,3,4,5,6,7,8,9,10,15],[0,1,2,3,4,5,6,7,8,9,10,15,16],[0,1,2,3,4,5,6,7,8,9,10,15,16,17],[0,1,2,3,4,5,6,7,8,9,10,11,12,13,14,15,16,17,18],[0,1,2,3,4,5,6,7,8,9,10,11,12,13,14,15,16,17,18,19],[0,1,2,3,4,5,6,7,8,9,10,11,12,13,14,15,16,17,18,19,20],[0,1,2,3,4,5,6,7,8,9,10,11,12,13,14,15,16,17,18,19,20,21]]⟩)] }
def W59 (v0:Value) (w:World) (K:Value → World → Prop):Prop:=
 LoopW [] w fun s1 _ w2 L1=>
 nilW v0 fun t3=>
 fldW 1 t3 fun t4=>
 ldW false 1 t4 w2.drew fun t5=>
 nilW v0 fun t7=>
 fldW 0 t7 fun t8=>
 ldW false 1 t8 w2.drew fun t9=>
 lensW t9 fun t10=>
 binW .lss t5 t10 fun t11=>
 GqW (isB t11 true) (fun k3=>k3 v0) fun t13=>
 GqW (isB t11 true) (fun k4=>nilW t13 k4) fun t14=>
 GqW (isB t11 true) (fun k5=>fldW 0 t14 k5) fun t15=>
 GqW (isB t11 true) (fun k6=>ldW false 1 t15 w2.drew k6) fun t16=>
 GqW (isB t11 true) (fun k7=>k7 v0) fun t17=>
 GqW (isB t11 true) (fun k8=>nilW t17 k8) fun t18=>
 GqW (isB t11 true) (fun k9=>fldW 1 t18 k9) fun t19=>
 GqW (isB t11 true) (fun k10=>ldW false 1 t19 w2.drew k10) fun t20=>
 GqW (isB t11 true) (fun k11=>ixsW t16 t20 k11) fun t21=>
 GeW (isB t11 true) w2.drew (fun k12=>callF Tryz.prog 76 [(.string (ofL [32,9,10,13])),t21] w2.drew k12) fun t22 w13=>
 GqW (isB t11 true) (fun k14=>binW .geq t22 (.int .i64 0) k14) fun t23=>
 pickW t11 t23 (.bool false) fun t24=>
 condW t24 (
 nilW v0 fun t26=>
 fldW 1 t26 fun t27=>
 ldW false 1 t27 w13 fun t28=>
 binW .add t28 (.int .i64 1) fun t29=>
 nilW v0 fun t30=>
 fldW 1 t30 fun t31=>
 stW 1 t31 t29 w13 fun w15=>
 L1 [] w15) (
 K (.tuple #[]) w13)
theorem W59_ok {v0:Value} {w:World} {K:Value → World → Prop} (h:W59 v0 w K):callF Tryz.prog 59 [v0] w K:=
 tie _ 59 Tryz.f59 plan59 _ w K 1 _ rfl mixed Tryz.func59 (by kernel_rfl) (by kernel_rfl) Tryz.call59 h
def plan112:Plan:={ js:=[],ds:=[(7,⟨[0,1,2,3,4,5,6,7,8,9],[[],[0],[0,1],[0,1,2],[],[4],[4,5],[4,5,6],[0,1,2,3,4,5,6,7],[0,1,2,3,4,5,6,7,8]]⟩),(4,⟨[0,1,2,3,4,5,6,7,8,9],[[],[0],[0,1],[0,1,2],[],[4],[4,5],[4,5,6],[4,5,6,7],[0,1,2,3,4,5,6,7,8]]⟩)] }
def W112 (v0:Value) (w:World) (K:Value → World → Prop):Prop:=
 nilW v0 fun t4=>
 fldW 1 t4 fun t5=>
 ldW false 1 t5 w.drew fun t6=>
 nilW v0 fun t8=>
 fldW 0 t8 fun t9=>
 ldW false 1 t9 w.drew fun t10=>
 lensW t10 fun t11=>
 binW .lss t6 t11 fun t12=>
 condW t12 (
 nilW v0 fun t14=>
 fldW 0 t14 fun t15=>
 ldW false 1 t15 w.drew.drew fun t16=>
 nilW v0 fun t18=>
 fldW 1 t18 fun t19=>
 ldW false 1 t19 w.drew.drew fun t20=>
 ixsW t16 t20 fun t21=>
 K t21 w.drew.drew) (
 K (.int .u8 0) w.drew)
theorem W112_ok {v0:Value} {w:World} {K:Value → World → Prop} (h:W112 v0 w K):callF Tryz.prog 112 [v0] w K:=
 tie _ 112 Tryz.f112 plan112 _ w K 1 _ rfl mixed Tryz.func112 (by kernel_rfl) (by kernel_rfl) Tryz.call112 h
def plan116:Plan:={ js:=[(36,⟨[6],[],3⟩),(26,⟨[],[],4⟩),(30003,⟨[60],[],59⟩),(30007,⟨[56],[],55⟩),(30011,⟨[52],[],51⟩),(30015,⟨[48],[],47⟩),(20,⟨[],[],4⟩),(14,⟨[],[],5⟩),(8,⟨[],[],5⟩)],ds:=[(35,⟨[0,1,2,3,4,5,6,7,8,9,10],[[],[0],[0,1],[0,1,2],[],[],[5],[5,6],[5,6,7],[0,1,2,3,4,5,6,7,8],[0,1,2,3,4,5,6,7,8,9]]⟩)] }
def W116 (v0:Value) (w:World) (K:Value → World → Prop):Prop:=
 allocW 40 [(.int .i64 0),(.bool false),(.string (ofL [])),(.slice none 0 0),(.slice none 0 0)] w fun t2 w1=>
 nilW v0 fun t8=>
 fldW 1 t8 fun t9=>
 ldW false 1 t9 w1 fun t10=>
 callF Tryz.prog 169 [v0,(.int .u8 45)] w1 fun t12 w2=>
 nilW v0 fun t14=>
 fldW 1 t14 fun t15=>
 ldW false 1 t15 w2 fun t16=>
 JoinW (fun J3=>
 callF Tryz.prog 169 [v0,(.int .u8 48)] w2 fun t18 w4=>
 unW .not t18 fun t19=>
 condW t19 (
 callF Tryz.prog 170 [v0] w4 fun t21 w5=>
 J3 [] w5) (
 J3 [] w4))
 fun s3 _ w6=>
 JoinW (fun J7=>
 nilW v0 fun t23=>
 fldW 1 t23 fun t24=>
 ldW false 1 t24 w6 fun t25=>
 binW .eql t25 t16 fun t27=>
 condW t27 (
 nilW v0 fun t29=>
 fldW 1 t29 fun t30=>
 ldW false 1 t30 w6 fun t31=>
 callF Tryz.prog 57 [(.int .i64 30),t31] w6 fun t32 w8=>
 J7 [] w8) (
 J7 [] w6))
 fun s7 _ w9=>
 JoinW (fun J10=>
 nilW v0 fun t34=>
 fldW 1 t34 fun t35=>
 ldW false 1 t35 w9 fun t36=>
 binW .sub t36 t16 fun t38=>
 binW .gtr t38 (.int .i64 100) fun t39=>
 condW t39 (
 callF Tryz.prog 57 [(.int .i64 3),t10] w9 fun t41 w11=>
 J10 [] w11) (
 J10 [] w9))
 fun s10 _ w12=>
 JoinW (fun J13=>
 callF Tryz.prog 112 [v0] w12 fun t43 w14=>
 binW .geq t43 (.int .u8 48) fun t45=>
 GdW (isB t45 true) [undef] w14 (fun J15=>
 binW .leq t43 (.int .u8 57) fun t48=>
 J15 [t48] w14)
 fun s15 _ w16=>
 pickW t45 (s15.getD 0 undef) (.bool false) fun t49=>
 GdW (isB t49 false) [undef] w16 (fun J17=>
 binW .eql t43 (.int .u8 46) fun t52=>
 J17 [t52] w16)
 fun s17 _ w18=>
 pickW t49 (.bool true) (s17.getD 0 undef) fun t53=>
 GdW (isB t53 false) [undef] w18 (fun J19=>
 binW .eql t43 (.int .u8 101) fun t56=>
 J19 [t56] w18)
 fun s19 _ w20=>
 pickW t53 (.bool true) (s19.getD 0 undef) fun t57=>
 GdW (isB t57 false) [undef] w20 (fun J21=>
 binW .eql t43 (.int .u8 69) fun t60=>
 J21 [t60] w20)
 fun s21 _ w22=>
 pickW t57 (.bool true) (s21.getD 0 undef) fun t61=>
 condW t61 (
 nilW v0 fun t63=>
 fldW 1 t63 fun t64=>
 ldW false 1 t64 w22 fun t65=>
 callF Tryz.prog 57 [(.int .i64 30),t65] w22 fun t66 w23=>
 J13 [] w23) (
 J13 [] w22))
 fun s13 _ w24=>
 nilW v0 fun t68=>
 fldW 0 t68 fun t69=>
 ldW false 1 t69 w24.drew fun t70=>
 nilW v0 fun t73=>
 fldW 1 t73 fun t74=>
 ldW false 1 t74 w24.drew fun t75=>
 slsW t70 (some t10) (some t75) fun t76=>
 JoinW (fun J25=>
 callF Tryz.prog 62 [t76] w24.drew fun t78 w26=>
 unW .not t78 fun t79=>
 condW t79 (
 J25 [(.string (ofL [48]))] w26) (
 J25 [t76] w26))
 fun s25 _ w27=>
 putW [(.int .i64 0),(.bool false),(.string (ofL [])),(.slice none 0 0),(.slice none 0 0)] [(0,1,(.int .i64 3)),(2,1,(s25.getD 0 undef))] fun c28=>
 stW 5 t2 (.agg c28.toArray) w27 fun w29=>
 ldW true 5 t2 w29 fun r30=>
 K r30 w29
theorem W116_ok {v0:Value} {w:World} {K:Value → World → Prop} (h:W116 v0 w K):callF Tryz.prog 116 [v0] w K:=
 tie _ 116 Tryz.f116 plan116 _ w K 1 _ rfl mixed Tryz.func116 (by kernel_rfl) (by kernel_rfl) Tryz.call116 h
def plan117:Plan:={ js:=[(19,⟨[],[2],7⟩),(46004,⟨[81],[],80⟩),(26,⟨[],[],7⟩),(11,⟨[],[],5⟩),(9,⟨[],[2],5⟩)],ds:=[(18,⟨[0,1,2,3,4,5,6,7,8,10,11,12,13,14],[[],[0],[0,1],[0,1,2],[],[4],[4,5],[4,5,6],[0,1,2,3,4,5,6,7],[0,1,2,3,4,5,6,7,8],[0,1,2,3,4,5,6,7,8,9],[0,1,2,3,4,5,6,7,8,9,10],[0,1,2,3,4,5,6,7,8,9,10],[0,1,2,3,4,5,6,7,8,9,10,11],[0,1,2,3,4,5,6,7,8,9,10,11,12,13]]⟩),(13,⟨[0,1,2,3,4,5,6,7,8,9],[[],[0],[0,1],[0,1,2],[],[4],[4,5],[4,5,6],[4,5,6,7],[0,1,2,3,4,5,6,7,8]]⟩)] }
def W117 (v0:Value) (w:World) (K:Value → World → Prop):Prop:=
 nilW v0 fun t8=>
 fldW 1 t8 fun t9=>
 ldW false 1 t9 w fun t10=>
 nilW v0 fun t12=>
 fldW 1 t12 fun t13=>
 ldW false 1 t13 w fun t14=>
 binW .add t14 (.int .i64 1) fun t15=>
 nilW v0 fun t16=>
 fldW 1 t16 fun t17=>
 stW 1 t17 t15 w fun w1=>
 allocW 93 [(.pointer none),(.slice none 0 0)] w1 fun t4 w2=>
 LoopW [] w2 fun s3 _ w4 L3=>
 JoinW (fun J5=>
 nilW v0 fun t19=>
 fldW 1 t19 fun t20=>
 ldW false 1 t20 w4.drew fun t21=>
 nilW v0 fun t23=>
 fldW 0 t23 fun t24=>
 ldW false 1 t24 w4.drew fun t25=>
 lensW t25 fun t26=>
 binW .geq t21 t26 fun t27=>
 condW t27 (
 nilW v0 fun t29=>
 fldW 0 t29 fun t30=>
 ldW false 1 t30 w4.drew fun t31=>
 lensW t31 fun t32=>
 callF Tryz.prog 57 [(.int .i64 30),t32] w4.drew fun t33 w6=>
 J5 [] w6) (
 J5 [] w4.drew))
 fun s5 _ w7=>
 nilW v0 fun t36=>
 fldW 0 t36 fun t37=>
 ldW false 1 t37 w7.drew fun t38=>
 nilW v0 fun t40=>
 fldW 1 t40 fun t41=>
 ldW false 1 t41 w7.drew fun t42=>
 slsW t38 (some t42) none fun t43=>
 callF Tryz.prog 171 [t43] w7.drew fun t44 w8=>
 extW 0 t44 fun t45=>
 extW 1 t44 fun t46=>
 JoinW (fun J9=>
 binW .eql t45 (.int .i32 34) fun t49=>
 condW t49 (
 nilW v0 fun t51=>
 fldW 1 t51 fun t52=>
 ldW false 1 t52 w8 fun t53=>
 binW .add t53 (.int .i64 1) fun t54=>
 nilW v0 fun t55=>
 fldW 1 t55 fun t56=>
 stW 1 t56 t54 w8 fun w10=>
 JoinW (fun J11=>
 callF Tryz.prog 53 [t4] w10 fun t57 w12=>
 binW .gtr t57 (.int .i64 16384) fun t58=>
 condW t58 (
 callF Tryz.prog 57 [(.int .i64 3),t10] w12 fun t60 w13=>
 J11 [] w13) (
 J11 [] w12))
 fun s11 _ w14=>
 callF Tryz.prog 54 [t4] w14 fun t61 w15=>
 K t61 w15) (
 binW .eql t45 (.int .i32 92) fun t64=>
 condW t64 (
 callF Tryz.prog 172 [v0] w8 fun t66 w16=>
 callF Tryz.prog 167 [t4,t66] w16 fun t67 w17=>
 L3 [] w17) (
 binW .lss t45 (.int .i32 32) fun t70=>
 condW t70 (
 nilW v0 fun t72=>
 fldW 1 t72 fun t73=>
 ldW false 1 t73 w8 fun t74=>
 callF Tryz.prog 57 [(.int .i64 30),t74] w8 fun t75 w18=>
 J9 [] w18) (
 binW .eql t45 (.int .i32 65533) fun t78=>
 GdW (isB t78 true) [undef] w8 (fun J19=>
 binW .lss t46 (.int .i64 2) fun t81=>
 J19 [t81] w8)
 fun s19 _ w20=>
 pickW t78 (s19.getD 0 undef) (.bool false) fun t82=>
 condW t82 (
 nilW v0 fun t84=>
 fldW 1 t84 fun t85=>
 ldW false 1 t85 w20 fun t86=>
 callF Tryz.prog 57 [(.int .i64 31),t86] w20 fun t87 w21=>
 J9 [] w21) (
 J9 [] w20)))))
 fun s9 _ w22=>
 callF Tryz.prog 167 [t4,t45] w22 fun t89 w23=>
 nilW v0 fun t91=>
 fldW 1 t91 fun t92=>
 ldW false 1 t92 w23 fun t93=>
 binW .add t93 t46 fun t95=>
 nilW v0 fun t96=>
 fldW 1 t96 fun t97=>
 stW 1 t97 t95 w23 fun w24=>
 L3 [] w24
theorem W117_ok {v0:Value} {w:World} {K:Value → World → Prop} (h:W117 v0 w K):callF Tryz.prog 117 [v0] w K:=
 tie _ 117 Tryz.f117 plan117 _ w K 1 _ rfl mixed Tryz.func117 (by kernel_rfl) (by kernel_rfl) Tryz.call117 h
def plan118:Plan:={ js:=[(17,⟨[],[],6⟩)],ds:=[(20,⟨[0,1,2,3,4,8],[[],[0],[],[],[3],[2,3,4],[2,3,4,5],[0,1,2,3,4,5,6],[0,1,2,3,4,5,6,7],[0,1,2,3,4,5,6,7,8]]⟩)] }
def W118 (v0 v1:Value) (w:World) (K:Value → World → Prop):Prop:=
 allocW 40 [(.int .i64 0),(.bool false),(.string (ofL [])),(.slice none 0 0),(.slice none 0 0)] w fun t4 w1=>
 putW [(.int .i64 0),(.bool false),(.string (ofL [])),(.slice none 0 0),(.slice none 0 0)] [(0,1,(.int .i64 5))] fun c2=>
 allocW 40 [(.int .i64 0),(.bool false),(.string (ofL [])),(.slice none 0 0),(.slice none 0 0)] w1 fun t5 w3=>
 stW 5 t5 (.agg c2.toArray) w3 fun w4=>
 nilW v0 fun t8=>
 fldW 1 t8 fun t9=>
 ldW false 1 t9 w4 fun t10=>
 binW .add t10 (.int .i64 1) fun t11=>
 nilW v0 fun t12=>
 fldW 1 t12 fun t13=>
 stW 1 t13 t11 w4 fun w5=>
 callF Tryz.prog 59 [v0] w5 fun t15 w6=>
 callF Tryz.prog 169 [v0,(.int .u8 93)] w6 fun t17 w7=>
 condW t17 (
 ldW true 5 t5 w7 fun t18=>
 stW 5 t4 t18 w7 fun w8=>
 ldW true 5 t4 w8 fun r9=>
 K r9 w8) (
 LoopW [] w7 fun s10 _ w11 L10=>
 fldW 3 t5 fun t19=>
 ldW false 1 t19 w11.drew fun t20=>
 binW .add v1 (.int .i64 1) fun t23=>
 callF Tryz.prog 58 [v0,t23] w11.drew fun t24 w12=>
 (ldW false 1 t19 w12 fun x=>x = t20) ∧
 bslW 40 1 [(.int .i64 0),(.bool false),(.string (ofL [])),(.slice none 0 0),(.slice none 0 0)] [(0,5,t24)] w12 fun t25 w13=>
 (ldW false 1 t19 w13 fun x=>x = t20) ∧
 semE Tryz.prog (Builtin.append_ #[37,37] 37 #[t20,t25]) w13 fun t26 w14=>
 fldW 3 t5 fun t27=>
 stW 1 t27 t26 w14 fun w15=>
 callF Tryz.prog 59 [v0] w15 fun t29 w16=>
 callF Tryz.prog 169 [v0,(.int .u8 93)] w16 fun t31 w17=>
 condW t31 (
 ldW true 5 t5 w17 fun t32=>
 stW 5 t4 t32 w17 fun w18=>
 ldW true 5 t4 w18 fun r19=>
 K r19 w18) (
 callF Tryz.prog 173 [v0,(.int .u8 44)] w17 fun t34 w20=>
 L10 [] w20))
theorem W118_ok {v0 v1:Value} {w:World} {K:Value → World → Prop} (h:W118 v0 v1 w K):callF Tryz.prog 118 [v0,v1] w K:=
 tie _ 118 Tryz.f118 plan118 _ w K 2 _ rfl mixed Tryz.func118 (by kernel_rfl) (by kernel_rfl) Tryz.call118 h
def plan119:Plan:={ js:=[(31,⟨[],[],8⟩),(23,⟨[],[],7⟩),(17,⟨[],[],6⟩)],ds:=[(42,⟨[0,1,2,3,4],[[],[],[],[],[3],[2,3,4],[0,1,2,3,4,5],[0,1,2,3,4,5,6]]⟩)] }
def W119 (v0 v1:Value) (w:World) (K:Value → World → Prop):Prop:=
 allocW 40 [(.int .i64 0),(.bool false),(.string (ofL [])),(.slice none 0 0),(.slice none 0 0)] w fun t4 w1=>
 putW [(.int .i64 0),(.bool false),(.string (ofL [])),(.slice none 0 0),(.slice none 0 0)] [(0,1,(.int .i64 6))] fun c2=>
 allocW 40 [(.int .i64 0),(.bool false),(.string (ofL [])),(.slice none 0 0),(.slice none 0 0)] w1 fun t5 w3=>
 stW 5 t5 (.agg c2.toArray) w3 fun w4=>
 nilW v0 fun t12=>
 fldW 1 t12 fun t13=>
 ldW false 1 t13 w4 fun t14=>
 binW .add t14 (.int .i64 1) fun t15=>
 nilW v0 fun t16=>
 fldW 1 t16 fun t17=>
 stW 1 t17 t15 w4 fun w5=>
 callF Tryz.prog 59 [v0] w5 fun t19 w6=>
 callF Tryz.prog 169 [v0,(.int .u8 125)] w6 fun t21 w7=>
 condW t21 (
 ldW true 5 t5 w7 fun t22=>
 stW 5 t4 t22 w7 fun w8=>
 ldW true 5 t4 w8 fun r9=>
 K r9 w8) (
 LoopW [] w7 fun s10 _ w11 L10=>
 callF Tryz.prog 59 [v0] w11 fun t24 w12=>
 nilW v0 fun t26=>
 fldW 1 t26 fun t27=>
 ldW false 1 t27 w12 fun t28=>
 JoinW (fun J13=>
 callF Tryz.prog 112 [v0] w12 fun t30 w14=>
 binW .neq t30 (.int .u8 34) fun t31=>
 condW t31 (
 nilW v0 fun t33=>
 fldW 1 t33 fun t34=>
 ldW false 1 t34 w14 fun t35=>
 callF Tryz.prog 57 [(.int .i64 30),t35] w14 fun t36 w15=>
 J13 [] w15) (
 J13 [] w14))
 fun s13 _ w16=>
 callF Tryz.prog 117 [v0] w16 fun t38 w17=>
 JoinW (fun J18=>
 ldW true 5 t5 w17 fun t40=>
 callF Tryz.prog 106 [t40,t38] w17 fun t42 w19=>
 extW 0 t42 fun t43=>
 extW 1 t42 fun t44=>
 allocW 40 [(.int .i64 0),(.bool false),(.string (ofL [])),(.slice none 0 0),(.slice none 0 0)] w19 fun t8 w20=>
 stW 5 t8 t43 w20 fun w21=>
 condW t44 (
 callF Tryz.prog 57 [(.int .i64 2),t28] w21 fun t47 w22=>
 J18 [] w22) (
 J18 [] w21))
 fun s18 _ w23=>
 callF Tryz.prog 173 [v0,(.int .u8 58)] w23 fun t49 w24=>
 ldW true 5 t5 w24.drew fun t50=>
 binW .add v1 (.int .i64 1) fun t54=>
 callF Tryz.prog 58 [v0,t54] w24.drew fun t55 w25=>
 (ldW true 5 t5 w25 fun x=>x = t50) ∧
 callF Tryz.prog 174 [t50,t38,t55] w25 fun t56 w26=>
 stW 5 t5 t56 w26 fun w27=>
 callF Tryz.prog 59 [v0] w27 fun t58 w28=>
 callF Tryz.prog 169 [v0,(.int .u8 125)] w28 fun t60 w29=>
 condW t60 (
 ldW true 5 t5 w29 fun t61=>
 stW 5 t4 t61 w29 fun w30=>
 ldW true 5 t4 w30 fun r31=>
 K r31 w30) (
 callF Tryz.prog 173 [v0,(.int .u8 44)] w29 fun t63 w32=>
 L10 [] w32))
theorem W119_ok {v0 v1:Value} {w:World} {K:Value → World → Prop} (h:W119 v0 v1 w K):callF Tryz.prog 119 [v0,v1] w K:=
 tie _ 119 Tryz.f119 plan119 _ w K 2 _ rfl mixed Tryz.func119 (by kernel_rfl) (by kernel_rfl) Tryz.call119 h
def plan169:Plan:={ js:=[],ds:=[(4,⟨[0,2,3,4,5,6,7,8,9,10,11,12,13,14,15],[[],[0],[],[0,1,2],[0,1,2,3],[0,1,2,3,4],[0,1,2,3,4,5],[0,1,2,3,4,5,6],[0,1,2,3,4,5,6,7],[0,1,2,3,4],[0,1,2,3,4,9],[0,1,2,3,4,9,10],[0,1,2,3,4,9,10,11],[0,1,2,3,4,9,10,11,12],[0,1,2,3,4,5,6,7,8,9,10,11,12,13],[0,1,2,3,4,5,6,7,8,9,10,11,12,13,14]]⟩)] }
def W169 (v0 v1:Value) (w:World) (K:Value → World → Prop):Prop:=
 callF Tryz.prog 112 [v0] w.drew fun t6 w1=>
 binW .neq t6 v1 fun t8=>
 GqW (isB t8 false) (fun k2=>k2 v0) fun t10=>
 GqW (isB t8 false) (fun k3=>nilW t10 k3) fun t11=>
 GqW (isB t8 false) (fun k4=>fldW 1 t11 k4) fun t12=>
 GqW (isB t8 false) (fun k5=>ldW false 1 t12 w1 k5) fun t13=>
 GqW (isB t8 false) (fun k6=>k6 v0) fun t14=>
 GqW (isB t8 false) (fun k7=>nilW t14 k7) fun t15=>
 GqW (isB t8 false) (fun k8=>fldW 0 t15 k8) fun t16=>
 GqW (isB t8 false) (fun k9=>ldW false 1 t16 w1 k9) fun t17=>
 GqW (isB t8 false) (fun k10=>lensW t17 k10) fun t18=>
 GqW (isB t8 false) (fun k11=>binW .geq t13 t18 k11) fun t19=>
 pickW t8 (.bool true) t19 fun t20=>
 condW t20 (
 K (.bool false) w1) (
 nilW v0 fun t22=>
 fldW 1 t22 fun t23=>
 ldW false 1 t23 w1 fun t24=>
 binW .add t24 (.int .i64 1) fun t25=>
 nilW v0 fun t26=>
 fldW 1 t26 fun t27=>
 stW 1 t27 t25 w1 fun w12=>
 K (.bool true) w12)
theorem W169_ok {v0 v1:Value} {w:World} {K:Value → World → Prop} (h:W169 v0 v1 w K):callF Tryz.prog 169 [v0,v1] w K:=
 tie _ 169 Tryz.f169 plan169 _ w K 2 _ rfl mixed Tryz.func169 (by kernel_rfl) (by kernel_rfl) Tryz.call169 h
def plan170:Plan:={ js:=[(4004,⟨[8],[],6⟩),(1,⟨[],[],1⟩)],ds:=[] }
def W170 (v0:Value) (w:World) (K:Value → World → Prop):Prop:=
 LoopW [] w fun s1 _ w2 L1=>
 callF Tryz.prog 112 [v0] w2 fun t3 w3=>
 binW .geq t3 (.int .u8 48) fun t4=>
 GdW (isB t4 true) [undef] w3 (fun J4=>
 callF Tryz.prog 112 [v0] w3 fun t7 w5=>
 binW .leq t7 (.int .u8 57) fun t8=>
 J4 [t8] w5)
 fun s4 _ w6=>
 pickW t4 (s4.getD 0 undef) (.bool false) fun t9=>
 condW t9 (
 nilW v0 fun t11=>
 fldW 1 t11 fun t12=>
 ldW false 1 t12 w6 fun t13=>
 binW .add t13 (.int .i64 1) fun t14=>
 nilW v0 fun t15=>
 fldW 1 t15 fun t16=>
 stW 1 t16 t14 w6 fun w7=>
 L1 [] w7) (
 K (.tuple #[]) w6)
theorem W170_ok {v0:Value} {w:World} {K:Value → World → Prop} (h:W170 v0 w K):callF Tryz.prog 170 [v0] w K:=
 tie _ 170 Tryz.f170 plan170 _ w K 1 _ rfl mixed Tryz.func170 (by kernel_rfl) (by kernel_rfl) Tryz.call170 h
def plan172:Plan:={ js:=[(87002,⟨[100],[],95⟩),(87004,⟨[99],[],98⟩),(87007,⟨[97],[],95⟩),(73,⟨[],[],7⟩),(75003,⟨[74],[],73⟩),(69003,⟨[62],[],61⟩),(18,⟨[34],[],34⟩),(6,⟨[4],[],4⟩)],ds:=[] }
def W172 (v0:Value) (w:World) (K:Value → World → Prop):Prop:=
 nilW v0 fun t8=>
 fldW 1 t8 fun t9=>
 ldW false 1 t9 w fun t10=>
 JoinW (fun J1=>
 binW .add t10 (.int .i64 1) fun t12=>
 nilW v0 fun t14=>
 fldW 0 t14 fun t15=>
 ldW false 1 t15 w fun t16=>
 lensW t16 fun t17=>
 binW .lss t12 t17 fun t18=>
 condW t18 (
 nilW v0 fun t20=>
 fldW 0 t20 fun t21=>
 ldW false 1 t21 w fun t22=>
 binW .add t10 (.int .i64 1) fun t24=>
 ixsW t22 t24 fun t25=>
 J1 [t25] w) (
 J1 [(.int .u8 0)] w))
 fun s1 _ w2=>
 nilW v0 fun t27=>
 fldW 1 t27 fun t28=>
 ldW false 1 t28 w2 fun t29=>
 binW .add t29 (.int .i64 2) fun t30=>
 nilW v0 fun t31=>
 fldW 1 t31 fun t32=>
 stW 1 t32 t30 w2 fun w3=>
 JoinW (fun J4=>
 binW .eql (s1.getD 0 undef) (.int .u8 34) fun t35=>
 condW t35 (
 J4 [t35] w3) (
 binW .eql (s1.getD 0 undef) (.int .u8 92) fun t36=>
 condW t36 (
 J4 [t36] w3) (
 binW .eql (s1.getD 0 undef) (.int .u8 47) fun t37=>
 J4 [t37] w3)))
 fun s4 _ w5=>
 condW (s4.getD 0 undef) (
 cvtW .i32 (s1.getD 0 undef) fun t39=>
 K t39 w5) (
 binW .eql (s1.getD 0 undef) (.int .u8 98) fun t41=>
 condW t41 (
 K (.int .i32 8) w5) (
 binW .eql (s1.getD 0 undef) (.int .u8 102) fun t43=>
 condW t43 (
 K (.int .i32 12) w5) (
 binW .eql (s1.getD 0 undef) (.int .u8 110) fun t45=>
 condW t45 (
 K (.int .i32 10) w5) (
 binW .eql (s1.getD 0 undef) (.int .u8 114) fun t47=>
 condW t47 (
 K (.int .i32 13) w5) (
 binW .eql (s1.getD 0 undef) (.int .u8 116) fun t49=>
 condW t49 (
 K (.int .i32 9) w5) (
 callF Tryz.prog 217 [v0,t10] w5 fun t52 w6=>
 binW .add t10 (.int .i64 6) fun t55=>
 nilW v0 fun t56=>
 fldW 1 t56 fun t57=>
 stW 1 t57 t55 w6 fun w7=>
 binW .geq t52 (.int .i32 55296) fun t59=>
 GdW (isB t59 true) [undef] w7 (fun J8=>
 binW .lss t52 (.int .i32 56320) fun t62=>
 J8 [t62] w7)
 fun s8 _ w9=>
 pickW t59 (s8.getD 0 undef) (.bool false) fun t63=>
 condW t63 (
 nilW v0 fun t66=>
 fldW 1 t66 fun t67=>
 ldW false 1 t67 w9 fun t68=>
 callF Tryz.prog 217 [v0,t68] w9 fun t69 w10=>
 JoinW (fun J11=>
 binW .lss t69 (.int .i32 56320) fun t71=>
 GdW (isB t71 false) [undef] w10 (fun J12=>
 binW .gtr t69 (.int .i32 57343) fun t74=>
 J12 [t74] w10)
 fun s12 _ w13=>
 pickW t71 (.bool true) (s12.getD 0 undef) fun t75=>
 condW t75 (
 callF Tryz.prog 57 [(.int .i64 30),t10] w13 fun t77 w14=>
 J11 [] w14) (
 J11 [] w13))
 fun s11 _ w15=>
 nilW v0 fun t79=>
 fldW 1 t79 fun t80=>
 ldW false 1 t80 w15 fun t81=>
 binW .add t81 (.int .i64 6) fun t82=>
 nilW v0 fun t83=>
 fldW 1 t83 fun t84=>
 stW 1 t84 t82 w15 fun w16=>
 binW .sub t52 (.int .i32 55296) fun t86=>
 binW .shl t86 (.int .u64 10) fun t87=>
 binW .add (.int .i32 65536) t87 fun t88=>
 binW .sub t69 (.int .i32 56320) fun t90=>
 binW .add t88 t90 fun t91=>
 K t91 w16) (
 binW .lss t52 (.int .i32 0) fun t93=>
 GdW (isB t93 false) [undef] w9 (fun J17=>
 binW .geq t52 (.int .i32 56320) fun t96=>
 J17 [t96] w9)
 fun s17 _ w18=>
 GdW (isB (s17.getD 0 undef) true) [undef] w18 (fun J19=>
 binW .lss t52 (.int .i32 57344) fun t99=>
 J19 [t99] w18)
 fun s19 _ w20=>
 GdW (isB t93 false) [undef] w20 (fun J21=>
 pickW (s17.getD 0 undef) (s19.getD 0 undef) (.bool false) fun t100=>
 J21 [t100] w20)
 fun s21 _ w22=>
 pickW t93 (.bool true) (s21.getD 0 undef) fun t101=>
 condW t101 (
 callF Tryz.prog 57 [(.int .i64 30),t10] w22 fun t103 w23=>
 K t52 w23) (
 K t52 w22))))))))
theorem W172_ok {v0:Value} {w:World} {K:Value → World → Prop} (h:W172 v0 w K):callF Tryz.prog 172 [v0] w K:=
 tie _ 172 Tryz.f172 plan172 _ w K 1 _ rfl mixed Tryz.func172 (by kernel_rfl) (by kernel_rfl) Tryz.call172 h
def plan173:Plan:={ js:=[],ds:=[] }
def W173 (v0 v1:Value) (w:World) (K:Value → World → Prop):Prop:=
 callF Tryz.prog 59 [v0] w fun t5 w1=>
 callF Tryz.prog 169 [v0,v1] w1 fun t8 w2=>
 unW .not t8 fun t9=>
 condW t9 (
 nilW v0 fun t11=>
 fldW 1 t11 fun t12=>
 ldW false 1 t12 w2 fun t13=>
 callF Tryz.prog 57 [(.int .i64 30),t13] w2 fun t14 w3=>
 K (.tuple #[]) w3) (
 K (.tuple #[]) w2)
theorem W173_ok {v0 v1:Value} {w:World} {K:Value → World → Prop} (h:W173 v0 v1 w K):callF Tryz.prog 173 [v0,v1] w K:=
 tie _ 173 Tryz.f173 plan173 _ w K 2 _ rfl mixed Tryz.func173 (by kernel_rfl) (by kernel_rfl) Tryz.call173 h
def plan217:Plan:={ js:=[(4011,⟨[36],[],27⟩),(4022,⟨[24],[],16⟩)],ds:=[] }
def W217 (v0 v1:Value) (w:World) (K:Value → World → Prop):Prop:=
 binW .add v1 (.int .i64 6) fun t8=>
 nilW v0 fun t10=>
 fldW 0 t10 fun t11=>
 ldW false 1 t11 w fun t12=>
 lensW t12 fun t13=>
 binW .gtr t8 t13 fun t14=>
 GdW (isB t14 false) [undef] w (fun J1=>
 nilW v0 fun t17=>
 fldW 0 t17 fun t18=>
 ldW false 1 t18 w fun t19=>
 binW .add v1 (.int .i64 2) fun t22=>
 slsW t19 (some v1) (some t22) fun t23=>
 binW .neq t23 (.string (ofL [92,117])) fun t24=>
 J1 [t24] w)
 fun s1 _ w2=>
 pickW t14 (.bool true) (s1.getD 0 undef) fun t25=>
 GdW (isB t25 false) [undef] w2 (fun J3=>
 nilW v0 fun t28=>
 fldW 0 t28 fun t29=>
 ldW false 1 t29 w2 fun t30=>
 binW .add v1 (.int .i64 2) fun t32=>
 binW .add v1 (.int .i64 6) fun t34=>
 slsW t30 (some t32) (some t34) fun t35=>
 callF Tryz.prog 241 [t35,(.string (ofL [43,45,95]))] w2 fun t36 w4=>
 J3 [t36] w4)
 fun s3 _ w5=>
 pickW t25 (.bool true) (s3.getD 0 undef) fun t37=>
 condW t37 (
 K (.int .i32 (-1)) w5) (
 nilW v0 fun t40=>
 fldW 0 t40 fun t41=>
 ldW false 1 t41 w5 fun t42=>
 binW .add v1 (.int .i64 2) fun t44=>
 binW .add v1 (.int .i64 6) fun t46=>
 slsW t42 (some t44) (some t46) fun t47=>
 callF Tryz.prog 242 [t47,(.int .i64 16),(.int .i64 32)] w5 fun t48 w6=>
 extW 0 t48 fun t49=>
 extW 1 t48 fun t50=>
 eqQ Tryz.prog .neq 103 false true t50 .nilIface w6 fun t52=>
 condW t52 (
 K (.int .i32 (-1)) w6) (
 cvtW .i32 t49 fun t54=>
 K t54 w6))
theorem W217_ok {v0 v1:Value} {w:World} {K:Value → World → Prop} (h:W217 v0 v1 w K):callF Tryz.prog 217 [v0,v1] w K:=
 tie _ 217 Tryz.f217 plan217 _ w K 2 _ rfl mixed Tryz.func217 (by kernel_rfl) (by kernel_rfl) Tryz.call217 h
end Go.Proofs.YtnoepcndjljolaaGreatDoor
namespace Go.Proofs.YtnoepcndjljolaaGreatDoor
open Go Go.Eng Go.RowKit
set_option maxRecDepth 100000
abbrev DT:TypeId:=60
abbrev RdT:TypeId:=101
abbrev En:ErrNo:=⟨30,3,7,31,2⟩
def Rdr (w:World) (p:Nat) (s:Str) (i c:Nat):Prop:=w.heap[p]? = some (.cells [str s,i64 i,i64 c].toArray RdT (0,0))
def Cr (p:Nat):Nat → Prop:=fun k=>k = p
def rdAt (w:World) (p:Nat):Nat:=match w.heap[p]? with | some (.cells c _ _)=>(match (c[1]?:Option Value) with | some (Value.int _ i)=>i.toNat | _=>0) | _=>0
theorem Rdr.at_ {w:World} {p i c:Nat} {s:Str} (h:Rdr w p s i c):rdAt w p = i:=by
 unfold Rdr at h
 unfold rdAt
 rw [h]
 simp
theorem Rdr.lt {w:World} {p i c:Nat} {s:Str} (h:Rdr w p s i c):p < w.heap.size:=at_lt h
theorem Rdr.ext {w w':World} {p i c:Nat} {s:Str} (h:Rdr w p s i c) (hx:Ext w w'):Rdr w' p s i c:=hx.at h id
theorem Rdr.drew {w:World} {p i c:Nat} {s:Str} (h:Rdr w p s i c):Rdr w.drew p s i c:=h
theorem Rdr.ld {w:World} {p i c:Nat} {s:Str} {off:Nat} {v:Value} {K:Value → Prop} (h:Rdr w p s i c) (hv:[str s,i64 i,i64 c][off]? = some v) (hk:K v):nilW (.pointer (some ⟨p,0,none⟩)) fun t=>fldW off t fun t=>ldW false 1 t w K:=by
 rw [nil_ptr,fld_ptr,ld_one]
 refine ⟨v,?_,hk⟩
 rw [add_mk,cell_eq,h,cellO_some,Nat.zero_add]
 simpa using hv
theorem Rdr.st1 {w:World} {p i c:Nat} {s:Str} {i':Nat} {K:World → Prop} (h:Rdr w p s i c) (hK:∀ w',Rdr w' p s i' c → Chg (Cr p) w w' → w'.heap.size = w.heap.size → K w') :
   nilW (.pointer (some ⟨p,0,none⟩)) fun t=>fldW 1 t fun t=>stW 1 t (i64 (i':Nat)) w K:=by
 rw [nil_ptr,fld_ptr,add_mk,Nat.zero_add]
 refine st_at h rfl (by simp) fun w' hz hb hc=>hK w' ?_ hc hz
 unfold Rdr
 rw [hb]; simp
theorem Rdr.st2 {w:World} {p i c:Nat} {s:Str} {c':Nat} {K:World → Prop} (h:Rdr w p s i c) (hK:∀ w',Rdr w' p s i c' → Chg (Cr p) w w' → w'.heap.size = w.heap.size → K w') :
   nilW (.pointer (some ⟨p,0,none⟩)) fun t=>fldW 2 t fun t=>stW 1 t (i64 (c':Nat)) w K:=by
 rw [nil_ptr,fld_ptr,add_mk,Nat.zero_add]
 refine st_at h rfl (by simp) fun w' hz hb hc=>hK w' ?_ hc hz
 unfold Rdr
 rw [hb]; simp
theorem upk {i k:Nat} (h:i + k ≤ 9223372036854775807):IntKind.i64.wrap ((i:Int) + (k:Int)) = ((i + k:Nat):Int):=by rw [wrap_id (by omega) (by omega)]; omega
theorem Rdr.go {w:World} {p i c:Nat} {s:Str} {k:Nat} {K:World → Prop} (h:Rdr w p s i c) (hi:i + k ≤ 9223372036854775807) (hK:∀ w',Rdr w' p s (i + k) c → Chg (Cr p) w w' → w'.heap.size = w.heap.size → K w') :
   nilW (.pointer (some ⟨p,0,none⟩)) fun t=>fldW 1 t fun t=>ldW false 1 t w fun t=>binW .add t (.int .i64 (k:Int)) fun t1=>nilW (.pointer (some ⟨p,0,none⟩)) fun t=>fldW 1 t fun t=>stW 1 t t1 w K:=by
 refine h.ld rfl ?_
 rw [bin_add,upk hi]
 exact h.st1 hK
def pkM (s:Str) (i:Nat):Int:=if i < s.length then (bt s i:Int) else 0
theorem get_bt' {s:Str} {i:Nat} (h:i < s.length):s[i]? = some s[i] ∧ s[i].toNat = bt s i:=by
 refine ⟨List.getElem?_eq_getElem h,?_⟩
 unfold bt
 rw [List.getD_eq_getElem?_getD,List.getElem?_eq_getElem h]; rfl
theorem GeW_f (w:World) (A:(Value → World → Prop) → Prop) (B:Value → World → Prop):GeW false w A B ↔ B undef w:=⟨fun h=>h.2 rfl,fun h=>⟨fun e=>(by cases e),fun _=>h⟩⟩
section
variable [HX]
def Thr (w:World) (p:Nat) (code:Int) (i:Nat):Prop:=
 ∀ d w',w.heap.size ≤ d → Chg (Cr p) w w' → w'.heap[d]? = some (.cells [i64 code,str [],i64 i].toArray 150 (0,0)) → HX.X [{ v:=.iface DT (.pointer (some ⟨d,0,none⟩)),recovered:=false }] w'
theorem Thr.from {w w1:World} {p:Nat} {code:Int} {i:Nat} (h:Thr w p code i) (hc:Chg (Cr p) w w1):Thr w1 p code i:=fun d w' hd hc' hb=>h d w' (Nat.le_trans hc.size hd) (hc.trans hc') hb
theorem fail_p {e:Int} {p i:Nat} {w:World} {K:Value → World → Prop} (h:Thr w p e i):callF Tryz.prog 57 [i64 e,i64 (i:Nat)] w K:=by
 refine W57_ok ?_
 unfold W57
 simp only [put_int,put_str,put_nil,List.length_cons,List.length_nil,List.set_cons_zero,List.set_cons_succ]
 refine ⟨by omega,by omega,?_⟩
 refine box_new (z:=[i64 e,str [],i64 (i:Nat)]) fun d w' hd hz hb hx=>?_
 exact h d w' (by omega) (Chg.of_ext hx) hb
theorem peek_p {w:World} {p i c:Nat} {s:Str} {K:Value → World → Prop} (h:Rdr w p s i c) (hi:i ≤ s.length) (hK:∀ w',Ext w w' → K (.int .u8 (pkM s i)) w'):callF Tryz.prog 112 [.pointer (some ⟨p,0,none⟩)] w K:=by
 refine W112_ok ?_
 unfold W112
 have hxd:∀ w:World,Ext w w.drew:=fun w=>Chg.drew (Chg.refl (fun _=>False) w)
 refine h.drew.ld rfl ?_
 refine h.drew.ld rfl ?_
 rw [lens_str,bin_lss,condW_dec]
 unfold pkM at hK
 refine ⟨fun hlt=>?_,fun hge=>?_⟩
 · have hlt:i < s.length:=by omega
   rw [if_pos hlt] at hK
   refine h.drew.drew.ld rfl ?_
   refine h.drew.drew.ld rfl ?_
   obtain ⟨e1,e2⟩:=get_bt' hlt
   rw [ixs_str]
   refine ⟨by omega,s[i],by simpa using e1,?_⟩
   rw [e2]
   exact hK _ ((hxd _).trans (hxd _))
 · rw [if_neg (by omega)] at hK
   exact hK _ (hxd _)
theorem index_b {s:Str} {c:Nat} {w:World} {K:Value → World → Prop} (hc:c < 256) (hK:K (i64 (Lib.indexByte s (UInt8.ofNat c))) w):callF Tryz.prog 76 [str s,.int .u8 (c:Nat)] w K:=by
 refine of_calls (args:=#[str s,.int .u8 (c:Nat)]) Tryz.call76 ((Tryz.strings_IndexByte (ofL s) c w).mono ?_)
 rintro e w' ⟨rfl,rfl⟩
 rw [ofL_data]
 exact ⟨_,rfl,hK⟩
theorem blank_idx (n:Nat) (h:n < 256):decide (0 ≤ Lib.indexByte [32,9,10,13] (UInt8.ofNat n)) = isBlank (n:Int):=by
 have:∀ m:Fin 256,decide (0 ≤ Lib.indexByte [32,9,10,13] (UInt8.ofNat m.val)) = isBlank (m.val:Int):=by decide +kernel
 exact this ⟨n,h⟩
theorem blanks_p {w:World} {p i c:Nat} {s:Str} {K:Value → World → Prop} (h:Rdr w p s i c) (hi:i ≤ s.length) (hs:s.length ≤ 1000000) (hK:∀ w',Rdr w' p s (blankM s i) c → Chg (Cr p) w w' → K (.tuple #[]) w') :
   callF Tryz.prog 59 [.pointer (some ⟨p,0,none⟩)] w K:=by
 refine W59_ok ?_
 unfold W59
 refine LoopW.go (fun st w'=>st = [] ∧ ∃ j,Rdr w' p s j c ∧ Chg (Cr p) w w' ∧ j ≤ s.length ∧ blankM s j = blankM s i) (fun _ w'=>s.length - rdAt w' p) ⟨rfl,i,h,Chg.refl _ _,hi,rfl⟩ ?_
 rintro st g w2 ⟨rfl,j,h2,hc2,hj,hb⟩
 have hxd:Ext w2 w2.drew:=Chg.drew (Chg.refl (fun _=>False) w2)
 refine h2.drew.ld rfl ?_
 refine h2.drew.ld rfl ?_
 rw [lens_str,bin_lss]
 rcases Nat.lt_or_ge j s.length with hlt | hge
 · rw [decide_eq_true (by omega:(j:Int) < (s.length:Int))]
   obtain ⟨e1,e2⟩:=get_bt' hlt
   simp only [isB_t,GqW_t]
   refine ⟨_,rfl,.pointer (some ⟨p,0,none⟩),rfl,_,rfl,str s,?_,_,rfl,.pointer (some ⟨p,0,none⟩),rfl,_,rfl,i64 j,?_,.int .u8 (bt s j),?_,?_⟩
   · rw [ld_one]
     exact ⟨_,by rw [add_mk,cell_eq,h2.drew,cellO_some,Nat.zero_add]; rfl,rfl⟩
   · rw [ld_one]
     exact ⟨_,by rw [add_mk,cell_eq,h2.drew,cellO_some,Nat.zero_add]; rfl,rfl⟩
   · rw [ixs_str]
     exact ⟨by omega,s[j],by simpa using e1,by rw [e2]⟩
   refine ⟨fun _=>?_,fun e=>by cases e⟩
   have hlt256:=bt_lt s j
   refine index_b hlt256 ?_
   refine ⟨.bool (decide (0 ≤ Lib.indexByte [32,9,10,13] (UInt8.ofNat (bt s j)))),by rw [bin_geq],?_⟩
   rw [pick_t,blank_idx _ hlt256,← byteM_in hlt,condW_b]
   refine ⟨fun hbl=>?_,fun hnb=>?_⟩
   · refine h2.drew.go (k:=1) (by omega) fun w3 h3 hc3 hz3=>?_
     refine ⟨⟨trivial,j + 1,h3,(hc2.then hxd fun _ _ e=>e.elim).trans hc3,by omega,?_⟩,?_⟩
     · rw [← hb,(blank_go hbl).2]
     · rw [h3.at_,h2.at_]; omega
   · rw [blank_stop hnb] at hb
     subst hb
     exact hK _ h2.drew (hc2.then hxd fun _ _ e=>e.elim)
 · rw [decide_eq_false (by omega:¬ (j:Int) < (s.length:Int))]
   obtain rfl:j = s.length:=by omega
   have hbb:blankM s s.length = s.length:=blank_stop (by rw [byteM_out (Nat.le_refl _)]; rfl)
   rw [hbb] at hb
   simp only [isB_t,GqW_f,GeW_f]
   rw [pick_f,condW_false]
   rw [← hb] at hK
   exact hK _ h2.drew (hc2.then hxd fun _ _ e=>e.elim)
end
end Go.Proofs.YtnoepcndjljolaaGreatDoor
namespace Go.Proofs.YtnoepcndjljolaaGreatDoor
open Go Go.Eng Go.RowKit
set_option maxRecDepth 100000
section
variable [HX]
theorem take_p {w:World} {p i c n:Nat} {s:Str} {K:Value → World → Prop} (h:Rdr w p s i c) (hi:i ≤ s.length) (hs:s.length ≤ 1000000)
   (hy:byteM s i = (n:Int) → ∀ w',Rdr w' p s (i + 1) c → Chg (Cr p) w w' → K (.bool true) w') (hn:byteM s i ≠ (n:Int) → ∀ w',Rdr w' p s i c → Chg (Cr p) w w' → K (.bool false) w') :
   callF Tryz.prog 169 [.pointer (some ⟨p,0,none⟩),.int .u8 (n:Nat)] w K:=by
 refine W169_ok ?_
 unfold W169
 have hxd:Ext w w.drew:=Chg.drew (Chg.refl (fun _=>False) w)
 refine peek_p h.drew hi fun w1 hx1=>?_
 have h1:=h.drew.ext hx1
 have hx:=hxd.trans hx1
 rw [bin_neq]
 have cell:∀ (off:Nat) (v:Value),[str s,i64 i,i64 c][off]? = some v → ldW false 1 (.pointer (some ((⟨p,0,none⟩:Addr).add off))) w1 fun x=>x = v:=fun off v hv=>by
   rw [ld_one]
   exact ⟨_,by rw [add_mk,cell_eq,h1,cellO_some,Nat.zero_add]; simpa using hv,rfl⟩
 by_cases hc:pkM s i = (n:Int)
 · rw [decide_eq_false (by omega)]
   simp only [isB_f,Bool.not_false,GqW_t]
   refine ⟨_,rfl,.pointer (some ⟨p,0,none⟩),rfl,_,rfl,i64 i,cell 1 _ rfl,_,rfl,.pointer (some ⟨p,0,none⟩),rfl,_,rfl,str s,cell 0 _ rfl,_,rfl,.bool (decide ((s.length:Int) ≤ (i:Int))),?_,?_⟩
   · rw [ofL_size,bin_geq]
   rw [pick_f,condW_dec]
   refine ⟨fun hge=>?_,fun hlt=>?_⟩
   · refine hn (fun e=>?_) _ h1 (Chg.of_ext hx)
     rw [byteM_out (by omega)] at e
     omega
   · have hlt:i < s.length:=by omega
     refine h1.go (k:=1) (by omega) fun w2 h2 hc2 _=>?_
     refine hy ?_ _ h2 ((Chg.of_ext hx).trans hc2)
     rw [byteM_in hlt,← hc]
     unfold pkM
     rw [if_pos hlt]
 · rw [decide_eq_true (by omega)]
   simp only [isB_f,Bool.not_true,GqW_f]
   rw [pick_t,condW_true]
   refine hn (fun e=>hc ?_) _ h1 (Chg.of_ext hx)
   unfold pkM
   have hlt:=byte_lt (s:=s) (i:=i) (by omega)
   rw [if_pos hlt,← byteM_in hlt,e]
theorem want_p {w:World} {p i c n:Nat} {s:Str} {K:Value → World → Prop} (h:Rdr w p s i c) (hi:i ≤ s.length) (hs:s.length ≤ 1000000)
   (hy:byteM s (blankM s i) = (n:Int) → ∀ w',Rdr w' p s (blankM s i + 1) c → Chg (Cr p) w w' → K (.tuple #[]) w') (hn:byteM s (blankM s i) ≠ (n:Int) → Thr w p 30 (blankM s i)) :
   callF Tryz.prog 173 [.pointer (some ⟨p,0,none⟩),.int .u8 (n:Nat)] w K:=by
 refine W173_ok ?_
 unfold W173
 refine blanks_p h hi hs fun w1 h1 hc1=>?_
 refine take_p h1 (blank_le hi) hs (fun e w2 h2 hc2=>?_) (fun e w2 h2 hc2=>?_)
 · rw [un_not,Bool.not_true,condW_false]
   exact hy e _ h2 (hc1.trans hc2)
 · rw [un_not,Bool.not_false,condW_true]
   refine h2.ld rfl ?_
   exact fail_p ((hn e).from (hc1.trans hc2))
theorem pk_dig (s:Str) (i:Nat):(decide ((48:Int) ≤ pkM s i) && decide (pkM s i ≤ 57)) = isDig (byteM s i):=by
 unfold pkM isDig
 by_cases hlt:i < s.length
 · rw [if_pos hlt,byteM_in hlt]
 · rw [if_neg hlt,byteM_out (by omega)]; rfl
theorem digits_p {w:World} {p i c:Nat} {s:Str} {K:Value → World → Prop} (h:Rdr w p s i c) (hi:i ≤ s.length) (hs:s.length ≤ 1000000) (hK:∀ w',Rdr w' p s (digM s i) c → Chg (Cr p) w w' → K (.tuple #[]) w') :
   callF Tryz.prog 170 [.pointer (some ⟨p,0,none⟩)] w K:=by
 refine W170_ok ?_
 unfold W170
 refine LoopW.go (fun st w'=>st = [] ∧ ∃ j,Rdr w' p s j c ∧ Chg (Cr p) w w' ∧ j ≤ s.length ∧ digM s j = digM s i) (fun _ w'=>s.length - rdAt w' p) ⟨rfl,i,h,Chg.refl _ _,hi,rfl⟩ ?_
 rintro st g w2 ⟨rfl,j,h2,hc2,hj,hb⟩
 refine peek_p h2 hj fun w3 hx3=>?_
 have h3:=h2.ext hx3
 rw [bin_geq]
 refine GdW.act (decide (pkM s j ≤ 57)) (fun w'=>Ext w3 w') (fun _=>Chg.refl _ _) ?_ ?_
 · intro _ J hJ
   refine peek_p h3 hj fun w4 hx4=>?_
   rw [bin_leq]
   exact hJ w4 hx4
 intro g2 w4 hx4
 have h4:=h3.ext hx4
 have hc4:=(hc2.then hx3 fun _ _ e=>e.elim).then hx4 fun _ _ e=>e.elim
 simp only [List.getD_cons_zero,isB_t]
 rw [pick_gd_and,pk_dig,condW_b]
 refine ⟨fun hd=>?_,fun hn=>?_⟩
 · have hg:=dig_go' hd
   refine h4.go (k:=1) (by omega) fun w5 h5 hc5 _=>?_
   refine ⟨⟨trivial,j + 1,h5,hc4.trans hc5,by omega,by rw [← hb,hg.2]⟩,?_⟩
   rw [h5.at_,h2.at_]; omega
 · rw [dig_stop hn] at hb
   subst hb
   exact hK _ h4 hc4
theorem leaf_rep {G:Nat → Prop} {k:Int} {b:Bool} {t:Str} {w:World} (ht:t.length ≤ 9223372036854775807):VRepP G w (.mk k b t [] []) [i64 k,.bool b,str t,.slice none 0 0,.slice none 0 0]:=
 VRepP.mk (v:=.mk k b t [] []) (T1:=0) (T2:=0) (L:=[]) (SlAt.nil w 0) (by simp [JV.xs,VRepsP]) (SlAt.nil w 0) ⟨by simp [JV.xs],by simp [JV.ks],by simpa [JV.t] using ht,by simp [JV.ks]⟩ (fun h=>absurd rfl h) (fun h=>absurd rfl h)
theorem ret_leaf {b:Nat} {w:World} {l cs:List Value} {K:Value → World → Prop} (hb:w.heap[b]? = some (.cells cs.toArray VT (0,0))) (hc:cs.length = 5) (hl:l.length = 5) (h1:l.all one1 = true) (hK:∀ w',Chg (Cr b) w w' → K (.agg l.toArray) w') :
   stW 5 (.pointer (some ⟨b,0,none⟩)) (.agg l.toArray) w fun w5=>ldW true 5 (.pointer (some ⟨b,0,none⟩)) w5 fun r6=>K r6 w5:=ret_agg hb hl hc h1 hK
theorem Chg.newr {w w1 w2 w3:World} {p b:Nat} (h1:Ext w w1) (h2:Chg (Cr p) w1 w2) (h3:Chg (Cr b) w2 w3) (hb:w.heap.size ≤ b):Chg (Cr p) w w3:=by
 have h12:Chg (Cr p) w w2:=(Chg.of_ext h1).trans h2
 refine h12.then h3 fun k hk e=>?_
 have e:k = b:=e
 omega
theorem pk_stop {s:Str} {i:Nat}:(((decide ((48:Int) ≤ pkM s i) && decide (pkM s i ≤ 57)) || decide (pkM s i = 46)) || decide (pkM s i = 101) || decide (pkM s i = 69)) = (isDig (byteM s i) || decide (byteM s i = 46) || decide (byteM s i = 101) || decide (byteM s i = 69)):=by
 rw [pk_dig]
 unfold pkM
 by_cases hlt:i < s.length
 · rw [if_pos hlt,byteM_in hlt]
 · rw [if_neg hlt,byteM_out (by omega)]; rfl
theorem number_p {w:World} {p i c:Nat} {s:Str} {K:Value → World → Prop} (h:Rdr w p s i c) (hi:i ≤ s.length) (hs:s.length ≤ 1000000)
   (hok:∀ v j c',numM En s i c = .ok v j c' → ∀ cs w',Rdr w' p s j c' → Chg (Cr p) w w' → VRepP (From w.heap.size) w' v cs → K (.agg cs.toArray) w') (hbad:∀ e j,numM En s i c = .bad e j → Thr w p e j) :
   callF Tryz.prog 116 [.pointer (some ⟨p,0,none⟩)] w K:=by
 refine W116_ok ?_
 unfold W116
 refine alloc_new fun b w1 hb hz1 hbb hx1=>?_
 have h1:=h.ext hx1
 have hpb:p ≠ b:=by have:=h.lt; omega
 unfold numM at hok hbad
 simp only at hok hbad
 refine h1.ld rfl ?_
 -- the sign
 have sign:∀ (K2:Value → World → Prop),(∀ v w2 first,first = (if byteM s i = 45 then i + 1 else i) → first ≤ s.length → Rdr w2 p s first c → Chg (Cr p) w1 w2 → K2 v w2) →
     callF Tryz.prog 169 [.pointer (some ⟨p,0,none⟩),.int .u8 45] w1 K2:=fun K2 hK2=>by
   refine take_p (n:=45) h1 hi hs (fun e w2 h2 hc2=>have e:byteM s i = 45:=e; hK2 _ w2 (i + 1) (by rw [if_pos e]) (by have:=byte_lt (s:=s) (i:=i) (by omega); omega) h2 hc2) (fun e w2 h2 hc2=>have e:byteM s i ≠ 45:=e; hK2 _ w2 i (by rw [if_neg e]) hi h2 hc2)
 refine sign _ fun _ w2 first hf hfl h2 hc2=>?_
 rw [← hf] at hok hbad
 refine h2.ld rfl ?_
 refine JoinW.cut (fun st w'=>st = [] ∧ ∃ stop,stop = (if byteM s first = 48 then first + 1 else digM s first) ∧ stop ≤ s.length ∧ Rdr w' p s stop c ∧ Chg (Cr p) w1 w') ?_ ?_
 · refine take_p (n:=48) h2 hfl hs (fun e w3 h3 hc3=>?_) (fun e w3 h3 hc3=>?_)
   · have e:byteM s first = 48:=e
     rw [un_not,Bool.not_true,condW_false]
     exact ⟨rfl,first + 1,by rw [if_pos e],by have:=byte_lt (s:=s) (i:=first) (by omega); omega,h3,hc2.trans hc3⟩
   · have e:byteM s first ≠ 48:=e
     rw [un_not,Bool.not_false,condW_true]
     refine digits_p h3 hfl hs fun w4 h4 hc4=>?_
     exact ⟨rfl,digM s first,by rw [if_neg e],digM_le hfl,h4,(hc2.trans hc3).trans hc4⟩
 rintro st g w3 ⟨rfl,stop,hst,hsl,h3,hc3⟩
 rw [← hst] at hok hbad
 have hth:∀ {w':World} {e:Int} {j:Nat},Chg (Cr p) w1 w' → Thr w p e j → Thr w' p e j:=fun hc ht=>ht.from ((Chg.of_ext hx1).trans hc)
 refine JoinW.cut (fun st w'=>st = [] ∧ w' = w3 ∧ stop ≠ first) ?_ ?_
 · refine h3.ld rfl ?_
   rw [bin_eql,condW_dec]
   refine ⟨fun e=>?_,fun e=>⟨rfl,rfl,by omega⟩⟩
   have e:stop = first:=by omega
   rw [if_pos e] at hbad
   refine h3.ld rfl ?_
   exact fail_p (hth hc3 (hbad _ _ rfl))
 rintro st g w4 ⟨rfl,rfl,hne⟩
 rw [if_neg hne] at hok hbad
 have hge:first ≤ stop:=by rw [hst]; split; omega; exact digM_ge _ _
 refine JoinW.cut (fun st w'=>st = [] ∧ w' = w4 ∧ ¬ 100 < stop - first) ?_ ?_
 · refine h3.ld rfl ?_
   rw [bin_sub,bin_gtr,wrap_id (by omega) (by omega),condW_dec]
   refine ⟨fun e=>?_,fun e=>⟨rfl,rfl,by omega⟩⟩
   rw [if_pos (by omega)] at hbad
   exact fail_p (hth hc3 (hbad _ _ rfl))
 rintro st g w5 ⟨rfl,rfl,hfew⟩
 rw [if_neg hfew] at hok hbad
 refine JoinW.cut (fun st w'=>st = [] ∧ Ext w5 w' ∧ (isDig (byteM s stop) || decide (byteM s stop = 46) || decide (byteM s stop = 101) || decide (byteM s stop = 69)) = false) ?_ ?_
 · refine peek_p h3 hsl fun w6 hx6=>?_
   have h6:=h3.ext hx6
   rw [bin_geq]
   simp only [bin_leq,bin_eql,isB_t,isB_f,GdW_pure,List.getD_cons_zero,pick_gd_and,pick_gd_or]
   intros
   rw [pk_stop,condW_b]
   refine ⟨fun e=>?_,fun e=>⟨trivial,hx6,e⟩⟩
   rw [if_pos e] at hbad
   refine h6.ld rfl ?_
   exact fail_p (hth (hc3.then hx6 fun _ _ e=>e.elim) (hbad _ _ rfl))
 rintro st g w6 ⟨rfl,hx6,hstop⟩
 rw [if_neg (by rw [hstop]; simp)] at hok
 have h6:=h3.ext hx6
 have hc6:=hc3.then hx6 fun _ _ e=>e.elim
 obtain ⟨hg,_,hlt⟩:=num_good hf hst hne hfew
 refine h6.drew.ld rfl ?_
 refine h6.drew.ld rfl ?_
 rw [sls_str,bd_some]
 refine ⟨by omega,by omega,?_⟩
 rw [bd_some]
 refine ⟨by omega,by omega,?_⟩
 simp only [ofL_data,Int.toNat_natCast]
 have et:(s.take stop).drop i = (s.drop i).take (stop - i):=by rw [List.drop_take]
 rw [et]
 have htl:((s.drop i).take (stop - i)).length ≤ 9223372036854775807:=by rw [List.length_take]; omega
 generalize (s.drop i).take (stop - i) = t at *
 have hxd:Ext w6 w6.drew:=Chg.drew (Chg.refl (fun _=>False) w6)
 refine JoinW.cut (fun st w'=>Ext w6 w' ∧ st = [str (if t = [45,48] then [48] else t)]) ?_ ?_
 · refine numgood_ref htl fun w7 hx7=>?_
   rw [hg,un_not,condW_b]
   refine ⟨fun e=>?_,fun e=>?_⟩
   · refine ⟨hxd.trans hx7,?_⟩
     rw [if_pos (by simpa using e)]
   · refine ⟨hxd.trans hx7,?_⟩
     rw [if_neg (by simpa using e)]
 rintro st g w7 ⟨hx7,rfl⟩
 have h7:=h6.ext hx7
 have hc7:=hc6.then hx7 fun _ _ e=>e.elim
 simp only [List.getD_cons_zero]
 have hul:(if t = [45,48] then ([48]:Str) else t).length ≤ 9223372036854775807:=by split <;> simp [htl]
 generalize (if t = [45,48] then ([48]:Str) else t) = u at *
 simp only [put_int,put_str,put_nil,List.length_cons,List.length_nil,List.set_cons_zero,List.set_cons_succ]
 refine ⟨by omega,by omega,?_⟩
 refine ret_leaf (l:=[i64 3,.bool false,str u,.slice none 0 0,.slice none 0 0]) (hc7.at hbb (fun e=>hpb e.symm)) rfl rfl rfl fun w8 hc8=>?_
 exact hok _ _ _ rfl _ w8 (hc8.at h7 hpb) (Chg.newr hx1 hc7 hc8 (by omega)) (leaf_rep hul)
end
end Go.Proofs.YtnoepcndjljolaaGreatDoor
namespace Go.Proofs.YtnoepcndjljolaaGreatDoor
open Go Go.Eng
set_option maxRecDepth 100000
variable [HX]
def plan114:Plan:={ js:=[],ds:=[] }
def W114 (w:World) (K:Value → World → Prop):Prop:=
 allocW 40 [(.int .i64 0),(.bool false),(.string (ofL [])),(.slice none 0 0),(.slice none 0 0)] w fun t0 w1=>
 putW [(.int .i64 0),(.bool false),(.string (ofL [])),(.slice none 0 0),(.slice none 0 0)] [] fun c2=>
 stW 5 t0 (.agg c2.toArray) w1 fun w3=>
 ldW true 5 t0 w3 fun r4=>
 K r4 w3
theorem W114_ok {w:World} {K:Value → World → Prop} (h:W114 w K):callF Tryz.prog 114 [] w K:=
 tie _ 114 Tryz.f114 plan114 _ w K 0 _ rfl mixed Tryz.func114 (by kernel_rfl) (by kernel_rfl) Tryz.call114 h
def plan115:Plan:={ js:=[],ds:=[] }
def W115 (v0:Value) (w:World) (K:Value → World → Prop):Prop:=
 allocW 40 [(.int .i64 0),(.bool false),(.string (ofL [])),(.slice none 0 0),(.slice none 0 0)] w fun t2 w1=>
 putW [(.int .i64 0),(.bool false),(.string (ofL [])),(.slice none 0 0),(.slice none 0 0)] [(0,1,(.int .i64 2)),(1,1,v0)] fun c2=>
 stW 5 t2 (.agg c2.toArray) w1 fun w3=>
 ldW true 5 t2 w3 fun r4=>
 K r4 w3
theorem W115_ok {v0:Value} {w:World} {K:Value → World → Prop} (h:W115 v0 w K):callF Tryz.prog 115 [v0] w K:=
 tie _ 115 Tryz.f115 plan115 _ w K 1 _ rfl mixed Tryz.func115 (by kernel_rfl) (by kernel_rfl) Tryz.call115 h
def plan174:Plan:={ js:=[(2,⟨[],[],7⟩)],ds:=[(9,⟨[0,2,3],[[],[0],[],[],[0,1,3],[0,1,2,3,4],[0,1,2,3,4,5]]⟩)] }
def W174 (v0 v1 v2:Value) (w:World) (K:Value → World → Prop):Prop:=
 boxW 40 v0 w fun t3 w1=>
 boxW 40 v2 w1 fun t5 w2=>
 allocW 40 [(.int .i64 0),(.bool false),(.string (ofL [])),(.slice none 0 0),(.slice none 0 0)] w2 fun t6 w3=>
 JoinW (fun J4=>
 fldW 0 t3 fun t7=>
 ldW false 1 t7 w3 fun t8=>
 binW .neq t8 (.int .i64 6) fun t9=>
 condW t9 (
 putW [(.int .i64 0),(.bool false),(.string (ofL [])),(.slice none 0 0),(.slice none 0 0)] [(0,1,(.int .i64 6))] fun c5=>
 stW 5 t3 (.agg c5.toArray) w3 fun w6=>
 J4 [] w6) (
 J4 [] w3))
 fun s4 _ w7=>
 ldW true 5 t3 w7.drew fun t11=>
 ldW true 5 t5 w7.drew fun t14=>
 callF Tryz.prog 71 [t11] w7.drew fun t12 w8=>
 (ldW true 5 t5 w8 fun x=>x = t14) ∧
 callF Tryz.prog 71 [t14] w8 fun t15 w9=>
 callF Tryz.prog 107 [t12,v1,t15] w9 fun t16 w10=>
 stW 5 t6 t16 w10 fun w11=>
 ldW true 5 t6 w11 fun r12=>
 K r12 w11
theorem W174_ok {v0 v1 v2:Value} {w:World} {K:Value → World → Prop} (h:W174 v0 v1 v2 w K):callF Tryz.prog 174 [v0,v1,v2] w K:=
 tie _ 174 Tryz.f174 plan174 _ w K 3 _ rfl mixed Tryz.func174 (by kernel_rfl) (by kernel_rfl) Tryz.call174 h
def plan107:Plan:={ js:=[(14,⟨[],[],7⟩)],ds:=[(15,⟨[0,1,2,3,6,7,8,9,12,14],[[],[0],[],[],[3],[0,1,2,3,4],[],[6],[],[],[9],[0,1,2,3,4,5,6,7,8,9,10],[0,1,2,3,4,5,6,7],[0,1,2,3,4,5,6,7,8,9,10,11,12],[0,1,2,3,4,5,6,7,8,9,10,11,12,13],[0,1,2,3,4,5,6,7,8,9,10,11,12,13,14]]⟩)] }
def W107 (v0 v1 v2:Value) (w:World) (K:Value → World → Prop):Prop:=
 boxW 40 v0 w fun t3 w1=>
 boxW 40 v2 w1 fun t5 w2=>
 allocW 40 [(.int .i64 0),(.bool false),(.string (ofL [])),(.slice none 0 0),(.slice none 0 0)] w2 fun t6 w3=>
 fldW 4 t3 fun t10=>
 ldW false 1 t10 w3 fun t11=>
 callF Tryz.prog 161 [t11,v1] w3 fun t13 w4=>
 extW 0 t13 fun t14=>
 extW 1 t13 fun t15=>
 condW t15 (
 fldW 3 t3 fun t17=>
 ldW false 1 t17 w4 fun t18=>
 ldW true 5 t5 w4 fun t20=>
 ixaW none 5 t18 t14 fun t21=>
 stW 5 t21 t20 w4 fun w5=>
 ldW true 5 t3 w5 fun t22=>
 stW 5 t6 t22 w5 fun w6=>
 ldW true 5 t6 w6 fun r7=>
 K r7 w6) (
 JoinW (fun J8=>
 fldW 4 t3 fun t23=>
 ldW false 1 t23 w4.drew fun t24=>
 fldW 3 t3 fun t29=>
 ldW false 1 t29 w4.drew fun t30=>
 ldW true 5 t5 w4.drew fun t32=>
 (
 bslW 9 1 [(.string (ofL []))] [(0,1,v1)] w4.drew fun t27 w9=>
 (ldW true 5 t5 w9 fun x=>x = t32) ∧
 (ldW false 1 t29 w9 fun x=>x = t30) ∧
 (ldW false 1 t23 w9 fun x=>x = t24) ∧
 (
 callF Tryz.prog 162 [t24,t14,t27] w9 fun t28 w10=>
 (ldW true 5 t5 w10 fun x=>x = t32) ∧
 (ldW false 1 t29 w10 fun x=>x = t30) ∧
 fldW 4 t3 fun t35=>
 bslW 40 1 [(.int .i64 0),(.bool false),(.string (ofL [])),(.slice none 0 0),(.slice none 0 0)] [(0,5,t32)] w10 fun t33 w11=>
 (ldW false 1 t29 w11 fun x=>x = t30) ∧
 callF Tryz.prog 163 [t30,t14,t33] w11 fun t34 w12=>
 stW 1 t35 t28 w12 fun w13=>
 fldW 3 t3 fun t36=>
 stW 1 t36 t34 w13 fun w14=>
 J8 [] w14) ∧
 (
 bslW 40 1 [(.int .i64 0),(.bool false),(.string (ofL [])),(.slice none 0 0),(.slice none 0 0)] [(0,5,t32)] w9 fun t33 w15=>
 (ldW false 1 t29 w15 fun x=>x = t30) ∧
 (ldW false 1 t23 w15 fun x=>x = t24) ∧
 callF Tryz.prog 162 [t24,t14,t27] w15 fun t28 w16=>
 (ldW false 1 t29 w16 fun x=>x = t30) ∧
 fldW 4 t3 fun t35=>
 callF Tryz.prog 163 [t30,t14,t33] w16 fun t34 w17=>
 stW 1 t35 t28 w17 fun w18=>
 fldW 3 t3 fun t36=>
 stW 1 t36 t34 w18 fun w19=>
 J8 [] w19)) ∧
 (
 bslW 40 1 [(.int .i64 0),(.bool false),(.string (ofL [])),(.slice none 0 0),(.slice none 0 0)] [(0,5,t32)] w4.drew fun t33 w20=>
 (ldW false 1 t29 w20 fun x=>x = t30) ∧
 (ldW false 1 t23 w20 fun x=>x = t24) ∧
 bslW 9 1 [(.string (ofL []))] [(0,1,v1)] w20 fun t27 w21=>
 (ldW false 1 t29 w21 fun x=>x = t30) ∧
 (ldW false 1 t23 w21 fun x=>x = t24) ∧
 callF Tryz.prog 162 [t24,t14,t27] w21 fun t28 w22=>
 (ldW false 1 t29 w22 fun x=>x = t30) ∧
 fldW 4 t3 fun t35=>
 callF Tryz.prog 163 [t30,t14,t33] w22 fun t34 w23=>
 stW 1 t35 t28 w23 fun w24=>
 fldW 3 t3 fun t36=>
 stW 1 t36 t34 w24 fun w25=>
 J8 [] w25))
 fun s8 _ w26=>
 ldW true 5 t3 w26 fun t37=>
 stW 5 t6 t37 w26 fun w27=>
 ldW true 5 t6 w27 fun r28=>
 K r28 w27)
theorem W107_ok {v0 v1 v2:Value} {w:World} {K:Value → World → Prop} (h:W107 v0 v1 v2 w K):callF Tryz.prog 107 [v0,v1,v2] w K:=
 tie _ 107 Tryz.f107 plan107 _ w K 3 _ rfl mixed Tryz.func107 (by kernel_rfl) (by kernel_rfl) Tryz.call107 h
def plan162:Plan:={ js:=[],ds:=[(45,⟨[0,1,2,3,4,5,6,7],[[],[],[],[1,2],[0,1,2,3],[],[],[5,6],[0,1,2,3,4,5,6,7]]⟩),(33,⟨[0,1,2,3,4,5,6,7],[[],[],[],[1,2],[0,1,2,3],[],[],[5,6],[0,1,2,3,4,5,6,7]]⟩)] }
def W162 (v0 v1 v2:Value) (w:World) (K:Value → World → Prop):Prop:=
 sllW 1 v0 (some v1) none none fun t12=>
 lenlW v2 fun t14=>
 binW .eql t14 (.int .i64 0) fun t16=>
 condW t16 (
 K v0 w) (
 lenlW v0 fun t19=>
 binW .eql v1 t19 fun t22=>
 condW t22 (
 semE Tryz.prog (Builtin.append_ #[38,38] 38 #[v0,v2]) w fun t25 w1=>
 K t25 w1) (
 binW .add t19 t14 fun t28=>
 capW v0 fun t30=>
 binW .gtr t28 t30 fun t31=>
 condW t31 (
 sllW 1 v0 none (some v1) none fun t34=>
 binW .add t19 t14 fun t37=>
 binW .sub t37 v1 fun t39=>
 semE Tryz.prog (Builtin.append_ #[38,3] 38 #[t34,t39]) w fun t40 w2=>
 sllW 1 t40 (some v1) none none fun t43=>
 semE Tryz.prog (Builtin.copy_ #[38,38] 3 #[t43,v2]) w2 fun t45 w3=>
 binW .add v1 t14 fun t49=>
 sllW 1 t40 (some t49) none none fun t50=>
 sllW 1 v0 (some v1) none none fun t53=>
 semE Tryz.prog (Builtin.copy_ #[38,38] 3 #[t50,t53]) w3.drew fun t54 w4=>
 K t40 w4) (
 binW .add t19 t14 fun t59=>
 sllW 1 v0 none (some t59) none fun t60=>
 binW .add v1 t14 fun t65=>
 sllW 1 t60 (some t65) none none fun t66=>
 callF Tryz.prog 211 [v2,t66] w fun t67 w5=>
 unW .not t67 fun t68=>
 condW t68 (
 binW .add v1 t14 fun t72=>
 sllW 1 t60 (some t72) none none fun t73=>
 sllW 1 t60 (some v1) none none fun t76=>
 semE Tryz.prog (Builtin.copy_ #[38,38] 3 #[t73,t76]) w5.drew fun t77 w6=>
 sllW 1 t60 (some v1) none none fun t80=>
 semE Tryz.prog (Builtin.copy_ #[38,38] 3 #[t80,v2]) w6 fun t82 w7=>
 K t60 w7) (
 sllW 1 t60 (some t19) none none fun t86=>
 semE Tryz.prog (Builtin.copy_ #[38,38] 3 #[t86,v2]) w5 fun t88 w8=>
 sllW 1 t60 (some v1) none none fun t91=>
 callF Tryz.prog 212 [t91,t14] w8 fun t93 w9=>
 K t60 w9))))
theorem W162_ok {v0 v1 v2:Value} {w:World} {K:Value → World → Prop} (h:W162 v0 v1 v2 w K):callF Tryz.prog 162 [v0,v1,v2] w K:=
 tie _ 162 Tryz.f162 plan162 _ w K 3 _ rfl mixed Tryz.func162 (by kernel_rfl) (by kernel_rfl) Tryz.call162 h
def plan163:Plan:={ js:=[],ds:=[(45,⟨[0,1,2,3,4,5,6,7],[[],[],[],[1,2],[0,1,2,3],[],[],[5,6],[0,1,2,3,4,5,6,7]]⟩),(33,⟨[0,1,2,3,4,5,6,7],[[],[],[],[1,2],[0,1,2,3],[],[],[5,6],[0,1,2,3,4,5,6,7]]⟩)] }
def W163 (v0 v1 v2:Value) (w:World) (K:Value → World → Prop):Prop:=
 sllW 5 v0 (some v1) none none fun t12=>
 lenlW v2 fun t14=>
 binW .eql t14 (.int .i64 0) fun t16=>
 condW t16 (
 K v0 w) (
 lenlW v0 fun t19=>
 binW .eql v1 t19 fun t22=>
 condW t22 (
 semE Tryz.prog (Builtin.append_ #[37,37] 37 #[v0,v2]) w fun t25 w1=>
 K t25 w1) (
 binW .add t19 t14 fun t28=>
 capW v0 fun t30=>
 binW .gtr t28 t30 fun t31=>
 condW t31 (
 sllW 5 v0 none (some v1) none fun t34=>
 binW .add t19 t14 fun t37=>
 binW .sub t37 v1 fun t39=>
 semE Tryz.prog (Builtin.append_ #[37,3] 37 #[t34,t39]) w fun t40 w2=>
 sllW 5 t40 (some v1) none none fun t43=>
 semE Tryz.prog (Builtin.copy_ #[37,37] 3 #[t43,v2]) w2 fun t45 w3=>
 binW .add v1 t14 fun t49=>
 sllW 5 t40 (some t49) none none fun t50=>
 sllW 5 v0 (some v1) none none fun t53=>
 semE Tryz.prog (Builtin.copy_ #[37,37] 3 #[t50,t53]) w3.drew fun t54 w4=>
 K t40 w4) (
 binW .add t19 t14 fun t59=>
 sllW 5 v0 none (some t59) none fun t60=>
 binW .add v1 t14 fun t65=>
 sllW 5 t60 (some t65) none none fun t66=>
 callF Tryz.prog 213 [v2,t66] w fun t67 w5=>
 unW .not t67 fun t68=>
 condW t68 (
 binW .add v1 t14 fun t72=>
 sllW 5 t60 (some t72) none none fun t73=>
 sllW 5 t60 (some v1) none none fun t76=>
 semE Tryz.prog (Builtin.copy_ #[37,37] 3 #[t73,t76]) w5.drew fun t77 w6=>
 sllW 5 t60 (some v1) none none fun t80=>
 semE Tryz.prog (Builtin.copy_ #[37,37] 3 #[t80,v2]) w6 fun t82 w7=>
 K t60 w7) (
 sllW 5 t60 (some t19) none none fun t86=>
 semE Tryz.prog (Builtin.copy_ #[37,37] 3 #[t86,v2]) w5 fun t88 w8=>
 sllW 5 t60 (some v1) none none fun t91=>
 callF Tryz.prog 214 [t91,t14] w8 fun t93 w9=>
 K t60 w9))))
theorem W163_ok {v0 v1 v2:Value} {w:World} {K:Value → World → Prop} (h:W163 v0 v1 v2 w K):callF Tryz.prog 163 [v0,v1,v2] w K:=
 tie _ 163 Tryz.f163 plan163 _ w K 3 _ rfl mixed Tryz.func163 (by kernel_rfl) (by kernel_rfl) Tryz.call163 h
def plan241:Plan:={ js:=[],ds:=[] }
def W241 (v0 v1:Value) (w:World) (K:Value → World → Prop):Prop:=
 callF Tryz.prog 257 [v0,v1] w fun t7 w1=>
 binW .geq t7 (.int .i64 0) fun t8=>
 K t8 w1
theorem W241_ok {v0 v1:Value} {w:World} {K:Value → World → Prop} (h:W241 v0 v1 w K):callF Tryz.prog 241 [v0,v1] w K:=
 tie _ 241 Tryz.f241 plan241 _ w K 2 _ rfl mixed Tryz.func241 (by kernel_rfl) (by kernel_rfl) Tryz.call241 h
def plan218:Plan:={ js:=[(155004,⟨[168],[],166⟩),(98,⟨[12,13],[6,7,12,13,15,16,17],102⟩),(145004,⟨[158],[],156⟩),(104,⟨[12,16],[6,7,12,16],102⟩),(117005,⟨[128],[],126⟩),(113004,⟨[117],[],116⟩),(107003,⟨[110],[],110⟩),(91,⟨[12,13,101],[6,7,12,13,15,16,17],101⟩),(68,⟨[10],[],10⟩),(54,⟨[2],[2,6,7],10⟩),(60003,⟨[82],[],81⟩),(14,⟨[0,1],[0,1,6,7],10⟩),(42006,⟨[72],[],69⟩),(36006,⟨[60],[],57⟩),(30006,⟨[48],[],45⟩),(17004,⟨[30],[],29⟩)],ds:=[] }
def W218 (v0 v1 v2:Value) (w:World) (K:Value → World → Prop):Prop:=
 binW .eql v0 (.string (ofL [])) fun t19=>
 condW t19 (
 K (.tuple #[(.int .u64 0),(.iface 201 (.int .i64 2))]) w) (
 binW .eql v1 (.int .i64 0) fun t22=>
 JoinW (fun J1=>
 binW .leq (.int .i64 2) v1 fun t27=>
 GdW (isB t27 true) [undef] w (fun J2=>
 binW .leq v1 (.int .i64 36) fun t30=>
 J2 [t30] w)
 fun s2 _ w3=>
 pickW t27 (s2.getD 0 undef) (.bool false) fun t31=>
 condW t31 (
 J1 [v0,v1] w3) (
 binW .eql v1 (.int .i64 0) fun t34=>
 condW t34 (
 ixsW v0 (.int .i64 0) fun t36=>
 binW .eql t36 (.int .u8 48) fun t37=>
 condW t37 (
 lensW v0 fun t42=>
 binW .geq t42 (.int .i64 3) fun t43=>
 GdW (isB t43 true) [undef] w3 (fun J4=>
 ixsW v0 (.int .i64 1) fun t46=>
 callF Tryz.prog 243 [t46] w3 fun t47 w5=>
 binW .eql t47 (.int .u8 98) fun t48=>
 J4 [t48] w5)
 fun s4 _ w6=>
 pickW t43 (s4.getD 0 undef) (.bool false) fun t49=>
 condW t49 (
 slsW v0 (some (.int .i64 2)) none fun t51=>
 J1 [t51,(.int .i64 2)] w6) (
 lensW v0 fun t54=>
 binW .geq t54 (.int .i64 3) fun t55=>
 GdW (isB t55 true) [undef] w6 (fun J7=>
 ixsW v0 (.int .i64 1) fun t58=>
 callF Tryz.prog 243 [t58] w6 fun t59 w8=>
 binW .eql t59 (.int .u8 111) fun t60=>
 J7 [t60] w8)
 fun s7 _ w9=>
 pickW t55 (s7.getD 0 undef) (.bool false) fun t61=>
 condW t61 (
 slsW v0 (some (.int .i64 2)) none fun t63=>
 J1 [t63,(.int .i64 8)] w9) (
 lensW v0 fun t66=>
 binW .geq t66 (.int .i64 3) fun t67=>
 GdW (isB t67 true) [undef] w9 (fun J10=>
 ixsW v0 (.int .i64 1) fun t70=>
 callF Tryz.prog 243 [t70] w9 fun t71 w11=>
 binW .eql t71 (.int .u8 120) fun t72=>
 J10 [t72] w11)
 fun s10 _ w12=>
 pickW t67 (s10.getD 0 undef) (.bool false) fun t73=>
 condW t73 (
 slsW v0 (some (.int .i64 2)) none fun t75=>
 J1 [t75,(.int .i64 16)] w12) (
 slsW v0 (some (.int .i64 1)) none fun t39=>
 J1 [t39,(.int .i64 8)] w12)))) (
 J1 [v0,(.int .i64 10)] w3)) (
 K (.tuple #[(.int .u64 0),(.iface 201 (.int .i64 3))]) w3)))
 fun s1 _ w13=>
 JoinW (fun J14=>
 binW .eql v2 (.int .i64 0) fun t77=>
 condW t77 (
 J14 [(.int .i64 64)] w13) (
 binW .lss v2 (.int .i64 0) fun t79=>
 GdW (isB t79 false) [undef] w13 (fun J15=>
 binW .gtr v2 (.int .i64 64) fun t82=>
 J15 [t82] w13)
 fun s15 _ w16=>
 pickW t79 (.bool true) (s15.getD 0 undef) fun t83=>
 condW t83 (
 K (.tuple #[(.int .u64 0),(.iface 201 (.int .i64 4))]) w16) (
 J14 [v2] w16)))
 fun s14 _ w17=>
 JoinW (fun J18=>
 binW .eql (s1.getD 1 undef) (.int .i64 10) fun t91=>
 condW t91 (
 J18 [(.int .u64 1844674407370955162)] w17) (
 binW .eql (s1.getD 1 undef) (.int .i64 16) fun t93=>
 condW t93 (
 J18 [(.int .u64 1152921504606846976)] w17) (
 cvtW .u64 (s1.getD 1 undef) fun t87=>
 binW .quo (.int .u64 18446744073709551615) t87 fun t88=>
 binW .add t88 (.int .u64 1) fun t89=>
 J18 [t89] w17)))
 fun s18 _ w19=>
 cvtW .u64 (s14.getD 0 undef) fun t95=>
 binW .shl (.int .u64 1) t95 fun t96=>
 binW .sub t96 (.int .u64 1) fun t97=>
 semE Tryz.prog (convert 9 27 (s1.getD 0 undef)) w19 fun t99 w20=>
 lenlW t99 fun t100=>
 LoopW [(.bool false),(.int .u64 0),(.int .i64 0)] w20 fun s21 _ w22 L21=>
 binW .lss (s21.getD 2 undef) t100 fun t102=>
 condW t102 (
 JoinW (fun J23=>
 ixaW none 1 t99 (s21.getD 2 undef) fun t103=>
 ldW false 1 t103 w22 fun t104=>
 JoinW (fun J24=>
 binW .eql t104 (.int .u8 95) fun t108=>
 GdW (isB t108 true) [undef] w22 (fun J25=>
 J25 [t22] w22)
 fun s25 _ w26=>
 pickW t108 (s25.getD 0 undef) (.bool false) fun t111=>
 condW t111 (
 J23 [(.bool true),(s21.getD 1 undef)] w26) (
 binW .leq (.int .u8 48) t104 fun t114=>
 GdW (isB t114 true) [undef] w26 (fun J27=>
 binW .leq t104 (.int .u8 57) fun t117=>
 J27 [t117] w26)
 fun s27 _ w28=>
 pickW t114 (s27.getD 0 undef) (.bool false) fun t118=>
 condW t118 (
 binW .sub t104 (.int .u8 48) fun t120=>
 J24 [(s21.getD 0 undef),t120] w28) (
 callF Tryz.prog 243 [t104] w28 fun t123 w29=>
 binW .leq (.int .u8 97) t123 fun t124=>
 GdW (isB t124 true) [undef] w29 (fun J30=>
 callF Tryz.prog 243 [t104] w29 fun t127 w31=>
 binW .leq t127 (.int .u8 122) fun t128=>
 J30 [t128] w31)
 fun s30 _ w32=>
 pickW t124 (s30.getD 0 undef) (.bool false) fun t129=>
 condW t129 (
 callF Tryz.prog 243 [t104] w32 fun t131 w33=>
 binW .sub t131 (.int .u8 97) fun t132=>
 binW .add t132 (.int .u8 10) fun t133=>
 J24 [(s21.getD 0 undef),t133] w33) (
 K (.tuple #[(.int .u64 0),(.iface 201 (.int .i64 2))]) w32))))
 fun s24 _ w34=>
 cvtW .u8 (s1.getD 1 undef) fun t136=>
 binW .geq (s24.getD 1 undef) t136 fun t137=>
 condW t137 (
 K (.tuple #[(.int .u64 0),(.iface 201 (.int .i64 2))]) w34) (
 binW .geq (s21.getD 1 undef) (s18.getD 0 undef) fun t141=>
 condW t141 (
 K (.tuple #[t97,(.iface 201 (.int .i64 1))]) w34) (
 cvtW .u64 (s1.getD 1 undef) fun t146=>
 binW .mul (s21.getD 1 undef) t146 fun t147=>
 cvtW .u64 (s24.getD 1 undef) fun t150=>
 binW .add t147 t150 fun t151=>
 binW .lss t151 t147 fun t154=>
 GdW (isB t154 false) [undef] w34 (fun J35=>
 binW .gtr t151 t97 fun t158=>
 J35 [t158] w34)
 fun s35 _ w36=>
 pickW t154 (.bool true) (s35.getD 0 undef) fun t159=>
 condW t159 (
 K (.tuple #[t97,(.iface 201 (.int .i64 1))]) w36) (
 J23 [(s24.getD 0 undef),t151] w36))))
 fun s23 _ w37=>
 binW .add (s21.getD 2 undef) (.int .i64 1) fun t163=>
 L21 [(s23.getD 0 undef),(s23.getD 1 undef),t163] w37) (
 GdW (isB (s21.getD 0 undef) true) [undef] w22 (fun J38=>
 callF Tryz.prog 244 [v0] w22 fun t167 w39=>
 unW .not t167 fun t168=>
 J38 [t168] w39)
 fun s38 _ w40=>
 pickW (s21.getD 0 undef) (s38.getD 0 undef) (.bool false) fun t169=>
 condW t169 (
 K (.tuple #[(.int .u64 0),(.iface 201 (.int .i64 2))]) w40) (
 K (.tuple #[(s21.getD 1 undef),.nilIface]) w40)))
theorem W218_ok {v0 v1 v2:Value} {w:World} {K:Value → World → Prop} (h:W218 v0 v1 v2 w K):callF Tryz.prog 218 [v0,v1,v2] w K:=
 tie _ 218 Tryz.f218 plan218 _ w K 3 _ rfl mixed Tryz.func218 (by kernel_rfl) (by kernel_rfl) Tryz.call218 h
def plan257:Plan:={ js:=[(65,⟨[],[4,9,10],46⟩),(26,⟨[],[],2⟩),(39,⟨[8],[4],7⟩),(16,⟨[5],[],1⟩)],ds:=[] }
def W257 (v0 v1:Value) (w:World) (K:Value → World → Prop):Prop:=
 binW .eql v1 (.string (ofL [])) fun t12=>
 condW t12 (
 K (.int .i64 (-1)) w) (
 lensW v1 fun t14=>
 binW .eql t14 (.int .i64 1) fun t15=>
 condW t15 (
 ixsW v1 (.int .i64 0) fun t17=>
 cvtW .i32 t17 fun t18=>
 JoinW (fun J1=>
 binW .geq t18 (.int .i32 128) fun t20=>
 condW t20 (
 J1 [(.int .i32 65533)] w) (
 J1 [t18] w))
 fun s1 _ w2=>
 callF Tryz.prog 260 [v0,(s1.getD 0 undef)] w2 fun t23 w3=>
 K t23 w3) (
 JoinW (fun J4=>
 lensW v0 fun t25=>
 callF Tryz.prog 261 [t25] w fun t26 w5=>
 condW t26 (
 callF Tryz.prog 262 [v1] w5 fun t29 w6=>
 extW 0 t29 fun t30=>
 extW 1 t29 fun t31=>
 allocW 257 (List.replicate 256 (.bool false)) w6 fun t6 w7=>
 stW 256 t6 t30 w7 fun w8=>
 condW t31 (
 LoopW [(.int .i64 0)] w8 fun s9 _ w10 L9=>
 lensW v0 fun t35=>
 binW .lss (s9.getD 0 undef) t35 fun t36=>
 condW t36 (
 ixsW v0 (s9.getD 0 undef) fun t41=>
 callF Tryz.prog 263 [t6,t41] w10 fun t42 w11=>
 condW t42 (
 K (s9.getD 0 undef) w11) (
 binW .add (s9.getD 0 undef) (.int .i64 1) fun t38=>
 L9 [t38] w11)) (
 K (.int .i64 (-1)) w10)) (
 J4 [] w8)) (
 J4 [] w5))
 fun s4 _ w12=>
 semE Tryz.prog (Instr.range 9 v0) w12 fun t45 w13=>
 LoopW [] w13 fun s14 _ w15 L14=>
 semE Tryz.prog (Instr.next t45 true 0) w15 fun t46 w16=>
 extW 0 t46 fun t47=>
 condW t47 (
 extW 1 t46 fun t48=>
 extW 2 t46 fun t49=>
 callF Tryz.prog 260 [v1,t49] w16 fun t52 w17=>
 binW .geq t52 (.int .i64 0) fun t53=>
 condW t53 (
 K t48 w17) (
 L14 [] w17)) (
 K (.int .i64 (-1)) w16)))
theorem W257_ok {v0 v1:Value} {w:World} {K:Value → World → Prop} (h:W257 v0 v1 w K):callF Tryz.prog 257 [v0,v1] w K:=
 tie _ 257 Tryz.f257 plan257 _ w K 2 _ rfl mixed Tryz.func257 (by kernel_rfl) (by kernel_rfl) Tryz.call257 h
def plan260:Plan:={ js:=[(144,⟨[],[4],16⟩),(153,⟨[16],[],16⟩),(147007,⟨[138],[],133⟩),(137,⟨[9],[4,9],16⟩),(108002,⟨[97],[],85⟩),(108006,⟨[96],[],93⟩),(108008,⟨[92],[],85⟩),(108013,⟨[90],[],86⟩),(108014,⟨[85],[],85⟩),(108020,⟨[82],[],79⟩),(108026,⟨[76],[],73⟩),(82,⟨[12],[],10⟩),(62,⟨[9],[4],9⟩),(53,⟨[9],[4],9⟩),(16,⟨[],[4,5,6],176⟩),(4004,⟨[165],[],164⟩)],ds:=[(163,⟨[0,1,2,3,4,5,6,7,8,9,10],[[],[],[],[1,2],[0,1,2,3],[],[],[],[6,7],[5,6,7,8],[0,1,2,3,4,5,6,7,8,9]]⟩),(92,⟨[0,1,2,3,4,5,6,7,8,9,10],[[],[],[],[1,2],[0,1,2,3],[],[],[],[6,7],[5,6,7,8],[0,1,2,3,4,5,6,7,8,9]]⟩),(67,⟨[0,1,2,3,4,5,6,8],[[],[],[1],[0,1,2],[],[],[4,5],[0,1,2,3,4,5,6],[0,1,2,3,4,5,6,7]]⟩),(64,⟨[0,1,2,3,4,5,6],[[],[],[0,1],[],[],[3,4],[0,1,2,3,4,5]]⟩)] }
def W260 (v0 v1:Value) (w:World) (K:Value → World → Prop):Prop:=
 binW .leq (.int .i32 0) v1 fun t162=>
 GdW (isB t162 true) [undef] w (fun J1=>
 binW .lss v1 (.int .i32 128) fun t165=>
 J1 [t165] w)
 fun s1 _ w2=>
 pickW t162 (s1.getD 0 undef) (.bool false) fun t166=>
 condW t166 (
 cvtW .u8 v1 fun t169=>
 callF Tryz.prog 76 [v0,t169] w2 fun t170 w3=>
 K t170 w3) (
 binW .eql v1 (.int .i32 65533) fun t173=>
 condW t173 (
 semE Tryz.prog (Instr.range 9 v0) w2 fun t175 w4=>
 LoopW [] w4 fun s5 _ w6 L5=>
 semE Tryz.prog (Instr.next t175 true 0) w6 fun t176 w7=>
 extW 0 t176 fun t177=>
 condW t177 (
 extW 1 t176 fun t178=>
 extW 2 t176 fun t179=>
 binW .eql t179 (.int .i32 65533) fun t181=>
 condW t181 (
 K t178 w7) (
 L5 [] w7)) (
 K (.int .i64 (-1)) w7)) (
 callF Tryz.prog 264 [v1] w2 fun t185 w8=>
 unW .not t185 fun t186=>
 condW t186 (
 K (.int .i64 (-1)) w8) (
 cvsW v1 fun t18=>
 lensW t18 fun t20=>
 binW .sub t20 (.int .i64 1) fun t21=>
 LoopW [t21] w8 fun s9 _ w10 L9=>
 lensW v0 fun t25=>
 binW .lss (s9.getD 0 undef) t25 fun t26=>
 condW t26 (
 JoinW (fun J11=>
 ixsW v0 (s9.getD 0 undef) fun t29=>
 ixsW t18 t21 fun t32=>
 binW .neq t29 t32 fun t33=>
 condW t33 (
 binW .add (s9.getD 0 undef) (.int .i64 1) fun t36=>
 slsW v0 (some t36) none fun t37=>
 ixsW t18 t21 fun t40=>
 callF Tryz.prog 76 [t37,t40] w10.drew.drew fun t41 w12=>
 binW .lss t41 (.int .i64 0) fun t43=>
 condW t43 (
 K (.int .i64 (-1)) w12) (
 binW .add t41 (.int .i64 1) fun t46=>
 binW .add (s9.getD 0 undef) t46 fun t47=>
 J11 [t47] w12)) (
 J11 [(s9.getD 0 undef)] w10.drew))
 fun s11 _ w13=>
 LoopW [(.int .i64 1)] w13 fun s14 _ w15 L14=>
 lensW t18 fun t50=>
 binW .lss (s14.getD 0 undef) t50 fun t51=>
 condW t51 (
 binW .sub (s11.getD 0 undef) (s14.getD 0 undef) fun t57=>
 ixsW v0 t57 fun t58=>
 binW .sub t21 (s14.getD 0 undef) fun t62=>
 ixsW t18 t62 fun t63=>
 binW .neq t58 t63 fun t64=>
 condW t64 (
 False) (
 binW .add (s14.getD 0 undef) (.int .i64 1) fun t53=>
 L14 [t53] w15.drew)) (
 binW .sub (s11.getD 0 undef) t21 fun t67=>
 K t67 w15)) (
 K (.int .i64 (-1)) w10))))
theorem W260_ok {v0 v1:Value} {w:World} {K:Value → World → Prop} (h:W260 v0 v1 w K):callF Tryz.prog 260 [v0,v1] w K:=
 tie _ 260 Tryz.f260 plan260 _ w K 2 _ rfl mixed Tryz.func260 (by kernel_rfl) (by kernel_rfl) Tryz.call260 h
def plan121:Plan:={ js:=[],ds:=[] }
def W121 (v0 v1 v2 v3 v4:Value) (w:World) (K:Value → World → Prop):Prop:=
 eqQ Tryz.prog .eql 103 false false v4 (.iface 201 (.int .i64 2)) w fun t14=>
 condW t14 (
 callF Tryz.prog 176 [v0,v1] w fun t17 w1=>
 K (.iface 204 t17) w1) (
 eqQ Tryz.prog .eql 103 false false v4 (.iface 201 (.int .i64 1)) w fun t21=>
 condW t21 (
 callF Tryz.prog 177 [v0,v1] w fun t24 w2=>
 K (.iface 204 t24) w2) (
 eqQ Tryz.prog .eql 103 false false v4 (.iface 201 (.int .i64 3)) w fun t28=>
 condW t28 (
 callF Tryz.prog 178 [v0,v1,v2] w fun t32 w3=>
 K (.iface 204 t32) w3) (
 eqQ Tryz.prog .eql 103 false false v4 (.iface 201 (.int .i64 4)) w fun t36=>
 condW t36 (
 callF Tryz.prog 179 [v0,v1,v3] w fun t40 w4=>
 K (.iface 204 t40) w4) (
 K v4 w))))
theorem W121_ok {v0 v1 v2 v3 v4:Value} {w:World} {K:Value → World → Prop} (h:W121 v0 v1 v2 v3 v4 w K):callF Tryz.prog 121 [v0,v1,v2,v3,v4] w K:=
 tie _ 121 Tryz.f121 plan121 _ w K 5 _ rfl mixed Tryz.func121 (by kernel_rfl) (by kernel_rfl) Tryz.call121 h
def plan176:Plan:={ js:=[],ds:=[(3,⟨[0,1,3,4,6],[[],[],[1],[],[0,1,2,3],[0,1,2,3,4],[0,1,2,3,4,5]]⟩)] }
def W176 (v0 v1:Value) (w:World) (K:Value → World → Prop):Prop:=
 ldW false 1 (.pointer (some ⟨2,0,none⟩)) w.drew fun t8=>
 callF Tryz.prog 219 [v1] w.drew fun t7 w1=>
 (ldW false 1 (.pointer (some ⟨2,0,none⟩)) w1 fun x=>x = t8) ∧
 putW [(.string (ofL [])),(.string (ofL [])),.nilIface] [(0,1,v0),(1,1,t7),(2,1,t8)] fun c2=>
 boxW 232 (.agg c2.toArray) w1 fun t10 w3=>
 K t10 w3
theorem W176_ok {v0 v1:Value} {w:World} {K:Value → World → Prop} (h:W176 v0 v1 w K):callF Tryz.prog 176 [v0,v1] w K:=
 tie _ 176 Tryz.f176 plan176 _ w K 2 _ rfl mixed Tryz.func176 (by kernel_rfl) (by kernel_rfl) Tryz.call176 h
def plan243:Plan:={ js:=[],ds:=[] }
def W243 (v0:Value) (w:World) (K:Value → World → Prop):Prop:=
 binW .or v0 (.int .u8 32) fun t4=>
 K t4 w
theorem W243_ok {v0:Value} {w:World} {K:Value → World → Prop} (h:W243 v0 w K):callF Tryz.prog 243 [v0] w K:=
 tie _ 243 Tryz.f243 plan243 _ w K 1 _ rfl mixed Tryz.func243 (by kernel_rfl) (by kernel_rfl) Tryz.call243 h
end Go.Proofs.YtnoepcndjljolaaGreatDoor
namespace Go.Proofs.YtnoepcndjljolaaGreatDoor
open Go Go.Eng
set_option maxRecDepth 100000
variable [HX]
def plan261:Plan:={ js:=[],ds:=[] }
def W261 (v0:Value) (w:World) (K:Value → World → Prop):Prop:=
 binW .gtr v0 (.int .i64 8) fun t4=>
 K t4 w
theorem W261_ok {v0:Value} {w:World} {K:Value → World → Prop} (h:W261 v0 w K):callF Tryz.prog 261 [v0] w K:=
 tie _ 261 Tryz.f261 plan261 _ w K 1 _ rfl mixed Tryz.func261 (by kernel_rfl) (by kernel_rfl) Tryz.call261 h
def plan264:Plan:={ js:=[(11004,⟨[15],[],14⟩),(5004,⟨[8],[],7⟩)],ds:=[] }
def W264 (v0:Value) (w:World) (K:Value → World → Prop):Prop:=
 binW .leq (.int .i32 0) v0 fun t5=>
 GdW (isB t5 true) [undef] w (fun J1=>
 binW .lss v0 (.int .i32 55296) fun t8=>
 J1 [t8] w)
 fun s1 _ w2=>
 pickW t5 (s1.getD 0 undef) (.bool false) fun t9=>
 condW t9 (
 K (.bool true) w2) (
 binW .lss (.int .i32 57343) v0 fun t12=>
 GdW (isB t12 true) [undef] w2 (fun J3=>
 binW .leq v0 (.int .i32 1114111) fun t15=>
 J3 [t15] w2)
 fun s3 _ w4=>
 pickW t12 (s3.getD 0 undef) (.bool false) fun t16=>
 condW t16 (
 K (.bool true) w4) (
 K (.bool false) w4))
theorem W264_ok {v0:Value} {w:World} {K:Value → World → Prop} (h:W264 v0 w K):callF Tryz.prog 264 [v0] w K:=
 tie _ 264 Tryz.f264 plan264 _ w K 1 _ rfl mixed Tryz.func264 (by kernel_rfl) (by kernel_rfl) Tryz.call264 h
end Go.Proofs.YtnoepcndjljolaaGreatDoor
namespace Go.Proofs.YtnoepcndjljolaaGreatDoor
open Go Go.Eng Go.RowKit
set_option maxRecDepth 100000
def badL:Str:=[43,45,95]
def badB (c:UInt8):Bool:=decide (c = 43) || decide (c = 45) || decide (c = 95)
theorem get!_ofL (l:Str) (i:Nat):(ofL l).get! i = l.getD i 0:=by
 simp only [ofL,ByteArray.get!,List.getD_eq_getElem?_getD]
 show (l.toArray)[i]! = _
 simp only [List.getElem!_toArray,List.getElem!_eq_getElem?_getD]
 rfl
theorem dec_facts (l:Str) (pos:Nat) (hp:pos < l.length) :
   ((l.getD pos 0).toNat < 128 → Utf8.decode (ofL l) pos = ((l.getD pos 0).toNat,1)) ∧
   (128 ≤ (l.getD pos 0).toNat → 128 ≤ (Utf8.decode (ofL l) pos).1 ∧ ((Utf8.decode (ofL l) pos).1 < 55296 ∨ (57344 ≤ (Utf8.decode (ofL l) pos).1 ∧ (Utf8.decode (ofL l) pos).1 ≤ 1114111)) ∧ 1 ≤ (Utf8.decode (ofL l) pos).2 ∧
     pos + (Utf8.decode (ofL l) pos).2 ≤ l.length ∧ ∀ k,pos ≤ k → k < pos + (Utf8.decode (ofL l) pos).2 → 128 ≤ (l.getD k 0).toNat):=by
 have hd:=Lib.decode_at (ofL l) pos
 rw [ofL_size] at hd
 simp only [get!_ofL] at hd
 have hb:∀ i,(l.getD i 0).toNat < 256:=fun i=>UInt8.toNat_lt _
 have h0:=hb pos
 have h1:=hb (pos + 1)
 have h2:=hb (pos + 2)
 have h3:=hb (pos + 3)
 have hs:=Lib.decodeN_shape (l.length - pos) (l.getD pos 0).toNat (l.getD (pos + 1) 0).toNat (l.getD (pos + 2) 0).toNat (l.getD (pos + 3) 0).toNat
 rw [← hd] at hs
 have hasc:(l.getD pos 0).toNat < 128 → Utf8.decode (ofL l) pos = ((l.getD pos 0).toNat,1):=fun h=>by rw [hd]; unfold Lib.decodeN; rw [if_pos h]
 refine ⟨hasc,?_⟩
 clear hasc
 generalize Utf8.decode (ofL l) pos = d at *
 obtain ⟨c,wd⟩:=d
 clear hd hb
 have one:∀ k,pos ≤ k → k < pos + 1 → k = pos:=fun k h1 h2=>by omega
 have two:∀ k,pos ≤ k → k < pos + 2 → k = pos ∨ k = pos + 1:=fun k h1 h2=>by omega
 have three:∀ k,pos ≤ k → k < pos + 3 → k = pos ∨ k = pos + 1 ∨ k = pos + 2:=fun k h1 h2=>by omega
 have four:∀ k,pos ≤ k → k < pos + 4 → k = pos ∨ k = pos + 1 ∨ k = pos + 2 ∨ k = pos + 3:=fun k h1 h2=>by omega
 rcases hs with ⟨ha,he⟩ | ⟨ha,hn,q1,q2,he⟩ | ⟨ha,hn,q1,q2,q3,q4,he⟩ | ⟨ha,hn,q1,q2,q3,q4,q5,he⟩ | he <;> simp only [Prod.mk.injEq] at he <;> obtain ⟨rfl,rfl⟩:=he
 · exact fun h=>by omega
 · refine fun h=>⟨q2,.inl (by omega),by omega,by omega,fun k hk1 hk2=>?_⟩
   rcases two k hk1 hk2 with rfl | rfl <;> omega
 · refine fun h=>⟨by omega,by omega,by omega,by omega,fun k hk1 hk2=>?_⟩
   rcases three k hk1 hk2 with rfl | rfl | rfl <;> omega
 · refine fun h=>⟨by omega,by omega,by omega,by omega,fun k hk1 hk2=>?_⟩
   rcases four k hk1 hk2 with rfl | rfl | rfl | rfl <;> omega
 · refine fun h=>⟨by omega,by omega,by omega,by omega,fun k hk1 hk2=>?_⟩
   rw [one k hk1 hk2]; exact h
section
variable [HX]
theorem enc_facts {c:Int} (h0:128 ≤ c) (hv:c < 55296 ∨ (57344 ≤ c ∧ c ≤ 1114111)):∃ l:Str,Utf8.encode c = ofL l ∧ 2 ≤ l.length ∧ l.length ≤ 4 ∧ ∃ b,l[l.length - 1]? = some b ∧ 128 ≤ b.toNat:=by
 obtain ⟨n,rfl⟩:=Int.eq_ofNat_of_zero_le (show 0 ≤ c by omega)
 have hval:Utf8.valid (n:Int) = true:=by
   simp only [Utf8.valid,Bool.or_eq_true,Bool.and_eq_true,decide_eq_true_eq]
   omega
 have last:∀ m:Nat,128 ≤ (UInt8.ofNat (0x80 + m % 64)).toNat:=by
   intro m
   rw [UInt8.toNat_ofNat']
   omega
 unfold Utf8.encode
 simp only [hval,if_true,Int.toNat_natCast]
 rw [if_neg (by omega)]
 split
 · exact ⟨[_,_],rfl,by simp,by simp,_,rfl,last _⟩
 · split
   · exact ⟨[_,_,_],rfl,by simp,by simp,_,rfl,last _⟩
   · exact ⟨[_,_,_,_],rfl,by simp,by simp,_,rfl,last _⟩
theorem cvs_int {k:IntKind} {c:Int} {K:Value → Prop}:cvsW (.int k c) K ↔ K (.string (Utf8.encode c)):=Iff.rfl
theorem idx_none (l:Str) (b:UInt8) (h:∀ x ∈ l,x.toNat < 128) (hb:128 ≤ b.toNat):Lib.indexByte l b = -1:=by
 induction l with
 | nil=>rfl
 | cons x l ih=>
   have hx:=h x List.mem_cons_self
   have ih:=ih fun y hy=>h y (List.mem_cons_of_mem _ hy)
   have hne:(x == b) = false:=by
     rw [beq_eq_false_iff_ne]
     intro e
     subst e
     omega
   simp [Lib.indexByte,hne,ih]
theorem idx_bad (n:Nat) (hn:n < 128):0 ≤ Lib.indexByte badL (UInt8.ofNat n) → n = 43 ∨ n = 45 ∨ n = 95:=by
 have:∀ m:Fin 128,(0 ≤ Lib.indexByte badL (UInt8.ofNat m.val) → m.val = 43 ∨ m.val = 45 ∨ m.val = 95):=by decide +kernel
 exact this ⟨n,hn⟩
theorem wrap_u8 {n:Nat} (h:n < 256):IntKind.u8.wrap (n:Int) = (n:Int):=by
 have e1:(2:Int) ^ 8 = 256:=by decide
 simp only [IntKind.wrap,IntKind.bits,IntKind.signed,Bool.false_and,e1]
 simp
 omega
theorem valid_rune {n:Nat} {w:World} {K:Value → World → Prop} (hv:n < 55296 ∨ 57344 ≤ n ∧ n ≤ 1114111) (hK:K (.bool true) w):callF Tryz.prog 264 [.int .i32 (n:Nat)] w K:=by
 refine W264_ok ?_
 unfold W264
 rw [bin_leq,decide_eq_true (by omega)]
 simp only [isB_t,bin_lss,GdW_pure,cond_true,List.getD_cons_zero,pick_t]
 intro _
 rw [condW_dec]
 refine ⟨fun _=>hK,fun hn=>?_⟩
 rw [decide_eq_true (by omega)]
 simp only [isB_t,bin_leq,GdW_pure,cond_true,List.getD_cons_zero,pick_t]
 intro _
 rw [decide_eq_true (by omega),condW_true]
 exact hK
theorem index_rune {n:Nat} {w:World} {K:Value → World → Prop} (hv:n < 55296 ∨ 57344 ≤ n ∧ n ≤ 1114111)
   (hK:∀ r:Int,∀ w',(0 ≤ r → n = 43 ∨ n = 45 ∨ n = 95) → Ext w w' → K (i64 r) w'):callF Tryz.prog 260 [str badL,.int .i32 (n:Nat)] w K:=by
 refine W260_ok ?_
 unfold W260
 rw [bin_leq,decide_eq_true (by omega)]
 simp only [isB_t,bin_lss,GdW_pure,cond_true,List.getD_cons_zero,pick_t]
 intro _
 rw [condW_dec]
 refine ⟨fun hasc=>?_,fun hasc=>?_⟩
 · rw [cvt_int,wrap_u8 (by omega)]
   exact index_b (by omega) (hK _ _ (idx_bad n (by omega)) (Chg.refl _ _))
 rw [bin_eql,condW_dec]
 refine ⟨fun hF=>?_,fun hF=>?_⟩
 · refine range_str ?_
   refine LoopW.go (fun st w'=>st = [] ∧ ∃ pos,w'.heap[w.heap.size]? = some (.stringIter (ofL badL) pos) ∧ pos ≤ 3 ∧ Ext w w') (fun _ w'=>match w'.heap[w.heap.size]? with | some (.stringIter _ pos)=>3 - pos | _=>0) ?_ ?_
   · exact ⟨rfl,0,heap_anew _ _ _ rfl,by omega,Chg.alloc (Chg.refl _ _) _⟩
   · rintro s g w' ⟨rfl,pos,hw,hp,hx⟩
     refine next_str hw (fun hle=>?_) (fun hlt w1 hw1 hc _=>?_)
     · rw [ext_tuple]
       refine ⟨_,rfl,?_⟩
       rw [condW_false]
       exact hK (-1) _ (by omega) hx
     · have hlt':pos < 3:=hlt
       have hd:Utf8.decode (ofL badL) pos = ((badL.getD pos 0).toNat,1) ∧ (badL.getD pos 0).toNat < 128:=by
         have:(badL.getD pos 0).toNat < 128:=by
           rcases (show pos = 0 ∨ pos = 1 ∨ pos = 2 by omega) with rfl | rfl | rfl <;> decide
         exact ⟨(dec_facts badL pos hlt).1 this,this⟩
       have hne:¬ (((Utf8.decode (ofL badL) pos).1:Nat):Int) = 65533:=by rw [hd.1]; have:=hd.2; simp only; omega
       simp only [ext_tuple]
       refine ⟨_,rfl,?_⟩
       rw [condW_true]
       refine ⟨_,rfl,_,rfl,?_⟩
       rw [bin_eql,decide_eq_false hne,condW_false]
       have hx1:Ext w w1:=Chg.then hx hc fun k hk e=>by omega
       rw [hd.1] at hw1
       refine ⟨⟨trivial,_,hw1,by simp only; omega,hx1⟩,?_⟩
       rw [hw1,hw]
       simp only
       omega
 · refine valid_rune hv ?_
   rw [un_not,Bool.not_true,condW_false]
   obtain ⟨l,hl,hl2,hl4,b,hb,hb128⟩:=enc_facts (c:=(n:Int)) (by omega) (by omega)
   rw [cvs_int,hl,lens_str,bin_sub,wrap_id (by omega) (by omega)]
   refine LoopW.go (fun s w''=>s = [i64 ((l.length:Int) - 1)] ∧ w'' = w) (fun _ _=>0) ⟨rfl,rfl⟩ ?_
   rintro s g w'' ⟨rfl,rfl⟩
   simp only [List.getD_cons_zero]
   rw [lens_str,bin_lss,condW_dec]
   have e3:badL.length = 3:=rfl
   refine ⟨fun h3=>?_,fun _=>hK (-1) _ (by omega) (Chg.refl _ _)⟩
   rw [e3] at h3
   refine JoinW.cut (fun _ _=>False) ?_ (fun _ _ _ h=>h.elim)
   have hi:((l.length:Int) - 1).toNat = l.length - 1:=by omega
   have hbyte:∀ x:UInt8,x.toNat < 128 → ((x.toNat:Int) ≠ (b.toNat:Int)):=fun x hx e=>by omega
   have hd:∀ k,Lib.indexByte (badL.drop k) b = -1:=fun k=>idx_none _ b (fun x hx=>by
     have hx:=List.mem_of_mem_drop hx
     simp only [badL,List.mem_cons,List.not_mem_nil,or_false] at hx
     rcases hx with rfl | rfl | rfl <;> decide) hb128
   obtain ⟨x,hx,hx128⟩:∃ x,badL[l.length - 1]? = some x ∧ x.toNat < 128:=by
     rcases (show l.length = 2 ∨ l.length = 3 by omega) with h2 | h2 <;> rw [h2]
     · exact ⟨45,rfl,by decide⟩
     · exact ⟨95,rfl,by decide⟩
   rw [ixs_str]
   refine ⟨by omega,x,by rw [hi]; exact hx,?_⟩
   rw [ixs_str]
   refine ⟨by omega,b,by rw [hi]; exact hb,?_⟩
   rw [bin_neq,decide_eq_true (hbyte x hx128),condW_true,bin_add,wrap_id (by omega) (by omega),sls_str,bd_none,bd_some]
   refine ⟨by omega,by rw [e3]; omega,?_⟩
   rw [ixs_str]
   refine ⟨by omega,b,by rw [hi]; exact hb,?_⟩
   refine index_b (UInt8.toNat_lt b) ?_
   rw [List.take_length,UInt8.ofNat_toNat,hd,bin_lss,decide_eq_true (by decide),condW_true]
   have hxd:∀ w:World,Ext w w.drew:=fun w=>Chg.drew (Chg.refl (fun _=>False) w)
   exact hK (-1) _ (by omega) ((hxd _).trans (hxd _))
theorem contains_any {l:Str} {w:World} {K:Value → World → Prop} (hl:l.length ≤ 8) (hK:∀ r w',(r = true → ∃ c ∈ l,badB c = true) → Ext w w' → K (.bool r) w'):callF Tryz.prog 241 [str l,str badL] w K:=by
 refine W241_ok ?_
 unfold W241
 have fin:∀ (r:Int) (w':World),(0 ≤ r → ∃ c ∈ l,badB c = true) → Ext w w' → binW .geq (i64 r) (.int .i64 0) fun t8=>K t8 w':=fun r w' h hx=>by
   rw [bin_geq]
   exact hK _ w' (fun e=>h (of_decide_eq_true e)) hx
 refine W257_ok ?_
 unfold W257
 have e0:decide (badL = []) = false:=by decide
 have e3:((badL.length:Nat):Int) = 3:=rfl
 rw [bin_seq,e0,condW_false,lens_str,bin_eql,e3,decide_eq_false (by decide),condW_false]
 refine JoinW.cut (fun _ w'=>w' = w) ?_ ?_
 · rw [lens_str]
   refine W261_ok ?_
   unfold W261
   rw [bin_gtr,decide_eq_false (by omega)]
   dsimp only
   rw [condW_false]
 rintro _ g w' rfl
 refine range_str ?_
 refine LoopW.go (fun st w1=>st = [] ∧ ∃ pos,w1.heap[w'.heap.size]? = some (.stringIter (ofL l) pos) ∧ pos ≤ l.length ∧ Ext w' w1)
   (fun _ w1=>match w1.heap[w'.heap.size]? with | some (.stringIter _ pos)=>l.length - pos | _=>0) ?_ ?_
 · exact ⟨rfl,0,heap_anew _ _ _ rfl,by omega,Chg.alloc (Chg.refl _ _) _⟩
 rintro st g w1 ⟨rfl,pos,hw,hp,hx⟩
 refine next_str hw (fun hle=>?_) (fun hlt w2 hw2 hc _=>?_)
 · rw [ext_tuple]
   refine ⟨_,rfl,?_⟩
   rw [condW_false]
   exact fin (-1) _ (by omega) hx
 have hx2:Ext w' w2:=Chg.then hx hc fun k hk e=>by omega
 obtain ⟨f1,f2⟩:=dec_facts l pos hlt
 have hget:l[pos]? = some (l.getD pos 0):=by simp [hlt]
 simp only [ext_tuple]
 refine ⟨_,rfl,?_⟩
 rw [condW_true]
 refine ⟨_,rfl,_,rfl,?_⟩
 have hcv:(Utf8.decode (ofL l) pos).1 < 55296 ∨ 57344 ≤ (Utf8.decode (ofL l) pos).1 ∧ (Utf8.decode (ofL l) pos).1 ≤ 1114111:=by
   by_cases h:(l.getD pos 0).toNat < 128
   · rw [f1 h]; simp only; omega
   · exact (f2 (by omega)).2.1
 have hstep:pos + (Utf8.decode (ofL l) pos).2 ≤ l.length ∧ 1 ≤ (Utf8.decode (ofL l) pos).2:=by
   by_cases h1:(l.getD pos 0).toNat < 128
   · rw [f1 h1]; simp only; omega
   · exact ⟨(f2 (by omega)).2.2.2.1,(f2 (by omega)).2.2.1⟩
 refine index_rune hcv fun r w3 hr hx3=>?_
 have hx4:Ext w' w3:=hx2.trans hx3
 rw [bin_geq,condW_dec]
 refine ⟨fun h0=>?_,fun h0=>?_⟩
 · refine fin pos _ (fun _=>⟨_,List.mem_of_getElem? hget,?_⟩) hx4
   have h:=hr h0
   by_cases h1:(l.getD pos 0).toNat < 128
   · rw [f1 h1] at h
     simp only at h
     generalize l.getD pos 0 = x at *
     have:∀ y:UInt8,x.toNat = y.toNat → x = y:=fun y e=>UInt8.toNat_inj.1 e
     rcases h with h | h | h
     · rw [this 43 h]; rfl
     · rw [this 45 h]; rfl
     · rw [this 95 h]; rfl
   · have:=(f2 (by omega)).1; omega
 · have hw3:w3.heap[w'.heap.size]? = some (.stringIter (ofL l) (pos + (Utf8.decode (ofL l) pos).2)):=hx3.at hw2 id
   refine ⟨⟨trivial,_,hw3,hstep.1,hx4⟩,?_⟩
   rw [hw3,hw]
   simp only
   omega
end
end Go.Proofs.YtnoepcndjljolaaGreatDoor
namespace Go.Proofs.YtnoepcndjljolaaGreatDoor
open Go Go.Eng Go.RowKit
set_option maxRecDepth 100000
def isHex (c:UInt8):Bool:=decide (0 ≤ hexV c.toNat)
def hexD1 (c:UInt8):Nat:=(hexV c.toNat).toNat
def hexN (l:Str):Nat:=l.foldl (fun n c=>n * 16 + hexD1 c) 0
theorem hexN_snoc (l:Str) (c:UInt8):hexN (l ++ [c]) = hexN l * 16 + hexD1 c:=by unfold hexN; rw [List.foldl_append]; rfl
theorem hexD1_le (c:UInt8):hexD1 c ≤ 15:=by
 unfold hexD1
 have:=hexV_le c.toNat
 omega
theorem hexN_go (l:Str):∀ n:Nat,l.foldl (fun n c=>n * 16 + hexD1 c) n < (n + 1) * 16 ^ l.length:=by
 induction l with
 | nil=>intro n; simp
 | cons c l ih=>
   intro n
   have h:=ih (n * 16 + hexD1 c)
   have hc:=hexD1_le c
   rw [List.foldl_cons,List.length_cons,Nat.pow_succ]
   refine Nat.lt_of_lt_of_le h ?_
   rw [Nat.mul_comm (16 ^ l.length) 16,← Nat.mul_assoc]
   exact Nat.mul_le_mul_right _ (by omega)
theorem hexN_lt (l:Str):hexN l < 16 ^ l.length:=by
 have:=hexN_go l 0
 simpa [hexN] using this
theorem or32 (n:Nat) (h:n < 256):IntKind.u8.wrap (((BitVec.ofInt IntKind.u8.bits (n:Int)) ||| (BitVec.ofInt IntKind.u8.bits 32)).toNat:Int) = ((n ||| 32:Nat):Int):=by
 have:∀ m:Fin 256,IntKind.u8.wrap (((BitVec.ofInt IntKind.u8.bits (m.val:Int)) ||| (BitVec.ofInt IntKind.u8.bits 32)).toNat:Int) = ((m.val ||| 32:Nat):Int):=by decide +kernel
 exact this ⟨n,h⟩
def digW (n:Nat):Option Nat:=if 48 ≤ n ∧ n ≤ 57 then some (n - 48) else if 97 ≤ n ||| 32 ∧ n ||| 32 ≤ 122 then some ((n ||| 32) - 87) else none
def digOk (n:Nat):Bool:=match digW n with | some d=>decide (d ≤ 35) && (if d < 16 then decide (hexV n = d) else decide (hexV n = -1)) | none=>decide (hexV n = -1)
theorem digOk_all:∀ m:Fin 256,digOk m.val = true:=by decide +kernel
theorem dig_some {n d:Nat} (h:n < 256) (hd:digW n = some d):d ≤ 35 ∧ (d < 16 → hexV n = d) ∧ (16 ≤ d → hexV n = -1):=by
 have:=digOk_all ⟨n,h⟩
 simp only [digOk,hd,Bool.and_eq_true,decide_eq_true_eq] at this
 obtain ⟨h1,h2⟩:=this
 refine ⟨h1,fun h=>?_,fun h=>?_⟩
 · rw [if_pos h] at h2; exact of_decide_eq_true h2
 · rw [if_neg (by omega)] at h2; exact of_decide_eq_true h2
theorem dig_none {n:Nat} (h:n < 256) (hd:digW n = none):hexV n = -1:=by
 have:=digOk_all ⟨n,h⟩
 simp only [digOk,hd,decide_eq_true_eq] at this
 exact this
theorem or32_le (n:Nat) (h:n < 256):n ||| 32 < 256:=by
 have:∀ m:Fin 256,m.val ||| 32 < 256:=by decide +kernel
 exact this ⟨n,h⟩
section
variable [HX]
theorem lower_p {n:Nat} {w:World} {K:Value → World → Prop} (h:n < 256) (hK:K (.int .u8 ((n ||| 32:Nat):Int)) w):callF Tryz.prog 243 [.int .u8 (n:Nat)] w K:=by
 refine W243_ok ?_
 unfold W243
 show binW .or (.int .u8 (n:Int)) (.int .u8 32) _
 refine ⟨rfl,?_⟩
 rw [or32 n h]
 exact hK
abbrev eSyn:Value:=.iface 201 (.int .i64 2)
theorem uint16_p {l:Str} {w:World} {K:Value → World → Prop} (hl:l.length = 4) (hok:l.all isHex = true → ∀ w',Ext w w' → K (.tuple #[.int .u64 (hexN l:Nat),.nilIface]) w') (hno:l.all isHex = false → ∀ w',Ext w w' → K (.tuple #[.int .u64 0,eSyn]) w') :
   callF Tryz.prog 218 [str l,i64 16,i64 32] w K:=by
 refine W218_ok ?_
 unfold W218
 have hne:l ≠ []:=fun e=>by rw [e] at hl; simp at hl
 rw [bin_seq,decide_eq_false hne,condW_false,bin_eql,decide_eq_false (by decide)]
 refine JoinW.cut (fun st w'=>st = [str l,i64 16] ∧ w' = w) ?_ ?_
 · rw [bin_leq,decide_eq_true (by decide)]
   simp only [isB_t,bin_leq,GdW_pure,cond_true,List.getD_cons_zero,pick_t]
   intro _
   rw [decide_eq_true (by decide),condW_true]
   exact ⟨trivial,trivial⟩
 rintro st g w1 ⟨rfl,rfl⟩
 simp only [List.getD_cons_zero,List.getD_cons_succ]
 refine JoinW.cut (fun st w'=>st = [i64 32] ∧ w' = w1) ?_ ?_
 · rw [bin_eql,decide_eq_false (by decide),condW_false,bin_lss,decide_eq_false (by decide)]
   simp only [isB_f,bin_gtr,GdW_pure,Bool.not_false,cond_true,List.getD_cons_zero,pick_f]
   intro _
   rw [decide_eq_false (by decide),condW_false]
   exact ⟨trivial,trivial⟩
 rintro st g w2 ⟨rfl,rfl⟩
 simp only [List.getD_cons_zero]
 refine JoinW.cut (fun st w'=>st = [.int .u64 1152921504606846976] ∧ w' = w2) ?_ ?_
 · rw [bin_eql,decide_eq_false (by decide),condW_false,bin_eql,decide_eq_true rfl,condW_true]
   exact ⟨rfl,rfl⟩
 rintro st g w3 ⟨rfl,rfl⟩
 simp only [List.getD_cons_zero]
 rw [cvt_int]
 have e1:IntKind.u64.wrap (32:Int) = 32:=by decide
 have e2:IntKind.u64.wrap (1 * 2 ^ min (32:Int).toNat IntKind.u64.bits) = 4294967296:=by decide
 have e3:IntKind.u64.wrap (4294967296 - 1) = 4294967295:=by decide
 have e4:IntKind.u64.wrap (16:Int) = 16:=by decide
 have e5:IntKind.u8.wrap (16:Int) = 16:=by decide
 rw [e1,bin_shl]
 refine ⟨by decide,?_⟩
 rw [e2,bin_sub,e3]
 refine to_bytes (l:=l) (by kernel_rfl) (by kernel_rfl) (by kernel_rfl) fun v w4 hv hx4=>?_
 rw [lenl_at hv,hl]
 have hxe:∀ w',Ext w4 w' → Ext w3 w':=fun w' h=>hx4.trans h
 refine LoopW.go (fun st w'=>∃ i:Nat,i ≤ 4 ∧ st = [.bool false,.int .u64 (hexN (l.take i):Nat),i64 (i:Nat)] ∧ w' = w4 ∧ (l.take i).all isHex = true) (fun st _=>match st with | [_,_,.int _ i]=>4 - i.toNat | _=>0) ⟨0,by omega,rfl,rfl,rfl⟩ ?_
 rintro st g w5 ⟨i,hi,rfl,rfl,hall⟩
 simp only [List.getD_cons_zero,List.getD_cons_succ]
 rw [bin_lss,condW_dec]
 refine ⟨fun hlt=>?_,fun hge=>?_⟩
 · have hlt:i < 4:=by omega
   obtain ⟨c,hc⟩:∃ c,l[i]? = some c:=⟨_,List.getElem?_eq_getElem (by omega)⟩
   have hn:=UInt8.toNat_lt c
   have etake:l.take (i + 1) = l.take i ++ [c]:=by rw [List.take_add_one,hc]; rfl
   have hN:=hexN_lt (l.take i)
   have hN2:hexN (l.take i) < 65536:=by
     have h1:(l.take i).length ≤ 3:=by rw [List.length_take]; omega
     have h2:(16:Nat) ^ (l.take i).length ≤ 16 ^ 3:=Nat.pow_le_pow_right (by omega) h1
     omega
   have bad:isHex c = false → K (.tuple #[.int .u64 0,eSyn]) w5:=fun h=>hno (by
     rw [List.all_eq_false]
     exact ⟨c,List.mem_of_getElem? hc,by simp [h]⟩) _ hx4
   have eb:isHex c = decide (0 ≤ hexV c.toNat):=rfl
   have ed1:hexD1 c = (hexV c.toNat).toNat:=rfl
   refine JoinW.cut (fun st w'=>st = [.bool false,.int .u64 (hexN (l.take (i + 1)):Nat)] ∧ w' = w5 ∧ isHex c = true) ?_ ?_
   · obtain ⟨n,hcn⟩:∃ n,c.toNat = n:=⟨_,rfl⟩
     rw [hcn] at hn eb ed1
     refine ixa_ld (x:=.int .u8 (n:Nat)) hv (by rw [u8s_length]) (by rw [u8s_get,hc,← hcn]; rfl) ?_
     refine JoinW.cut (fun st w'=>∃ d,digW n = some d ∧ st = [.bool false,.int .u8 (d:Nat)] ∧ w' = w5) ?_ ?_
     · rw [bin_eql]
       simp only [isB_t,GdW_pure]
       intro _
       simp only [List.getD_cons_zero]
       rw [pick_gd_and,Bool.and_false,condW_false,bin_leq]
       simp only [isB_t,bin_leq,GdW_pure]
       intro _
       simp only [List.getD_cons_zero]
       rw [pick_gd_and,condW_b]
       refine ⟨fun h=>?_,fun h=>?_⟩
       · rw [Bool.and_eq_true,decide_eq_true_iff,decide_eq_true_iff] at h
         rw [bin_sub]
         have e:IntKind.u8.wrap ((n:Int) - 48) = ((n - 48:Nat):Int):=by
           rw [show (n:Int) - 48 = ((n - 48:Nat):Int) by omega]
           exact wrap_u8 (by omega)
         rw [e]
         exact ⟨n - 48,by unfold digW; rw [if_pos (by omega)],rfl,trivial⟩
       · have hnd:¬ (48 ≤ n ∧ n ≤ 57):=by
           rintro ⟨h1,h2⟩
           rw [decide_eq_true (by omega),decide_eq_true (by omega)] at h
           cases h
         have hor:=or32_le n hn
         refine lower_p hn ?_
         rw [bin_leq]
         refine GdW.act (decide (((n ||| 32:Nat):Int) ≤ 122)) (fun w'=>w' = w5) (fun _=>rfl) ?_ ?_
         · intro _ J hJ
           refine lower_p hn ?_
           rw [bin_leq]
           exact hJ _ rfl
         rintro g2 w6 rfl
         simp only [List.getD_cons_zero,isB_t]
         rw [pick_gd_and,condW_b]
         refine ⟨fun h=>?_,fun h=>?_⟩
         · rw [Bool.and_eq_true,decide_eq_true_iff,decide_eq_true_iff] at h
           refine lower_p hn ?_
           rw [bin_sub,bin_add]
           have e:IntKind.u8.wrap (((n ||| 32:Nat):Int) - 97) = (((n ||| 32) - 97:Nat):Int):=by
             rw [show ((n ||| 32:Nat):Int) - 97 = (((n ||| 32) - 97:Nat):Int) by omega]
             exact wrap_u8 (by omega)
           have e':IntKind.u8.wrap ((((n ||| 32) - 97:Nat):Int) + 10) = (((n ||| 32) - 87:Nat):Int):=by
             rw [show (((n ||| 32) - 97:Nat):Int) + 10 = (((n ||| 32) - 87:Nat):Int) by omega]
             exact wrap_u8 (by omega)
           rw [e,e']
           exact ⟨(n ||| 32) - 87,by unfold digW; rw [if_neg hnd,if_pos (by omega)],rfl,rfl⟩
         · refine bad ?_
           rw [eb,dig_none hn]
           · rfl
           unfold digW
           rw [if_neg hnd,if_neg]
           rintro ⟨h1,h2⟩
           rw [decide_eq_true (by omega),decide_eq_true (by omega)] at h
           cases h
     rintro st g2 w6 ⟨d,hd,rfl,rfl⟩
     obtain ⟨d1,d2,d3⟩:=dig_some hn hd
     simp only [List.getD_cons_zero,List.getD_cons_succ]
     rw [cvt_int,e5,bin_geq,condW_dec]
     refine ⟨fun h16=>?_,fun h16=>?_⟩
     · exact bad (by rw [eb,d3 (by omega)]; rfl)
     · have hv16:=d2 (by omega)
       rw [bin_geq,decide_eq_false (by omega),condW_false,cvt_int,e4,bin_mul,cvt_int]
       have em:IntKind.u64.wrap ((hexN (l.take i):Int) * 16) = ((hexN (l.take i) * 16:Nat):Int):=by
         rw [show (hexN (l.take i):Int) * 16 = ((hexN (l.take i) * 16:Nat):Int) by omega]
         exact u64_wrap (by omega) (by omega)
       have ed:IntKind.u64.wrap (d:Int) = (d:Int):=u64_wrap (by omega) (by omega)
       have ea:IntKind.u64.wrap (((hexN (l.take i) * 16:Nat):Int) + (d:Int)) = ((hexN (l.take i) * 16 + d:Nat):Int):=by
         rw [show ((hexN (l.take i) * 16:Nat):Int) + (d:Int) = ((hexN (l.take i) * 16 + d:Nat):Int) by omega]
         exact u64_wrap (by omega) (by omega)
       rw [em,ed,bin_add,ea,bin_lss,decide_eq_false (by omega)]
       simp only [isB_f,bin_gtr,GdW_pure,Bool.not_false,cond_true,List.getD_cons_zero,pick_f]
       intro _
       rw [decide_eq_false (by omega),condW_false]
       refine ⟨?_,trivial,by rw [eb,hv16]; exact decide_eq_true (by omega)⟩
       have e:hexN (l.take (i + 1)) = hexN (l.take i) * 16 + d:=by
         rw [etake,hexN_snoc,ed1,hv16]
         rfl
       rw [e]
   rintro st g2 w6 ⟨rfl,rfl,hx⟩
   simp only [List.getD_cons_zero,List.getD_cons_succ]
   rw [bin_add,up1 (by omega)]
   refine ⟨⟨i + 1,by omega,rfl,trivial,?_⟩,?_⟩
   · rw [etake,List.all_append,hall]
     simp [hx]
   · simp only [Int.toNat_natCast]; omega
 · obtain rfl:i = 4:=by omega
   rw [List.take_of_length_le (by omega)] at hall ⊢
   simp only [isB_t,GdW_f]
   intro _
   rw [pick_f,condW_false]
   exact hok hall _ hx4
end
end Go.Proofs.YtnoepcndjljolaaGreatDoor
namespace Go.Proofs.YtnoepcndjljolaaGreatDoor
open Go Go.Eng Go.RowKit
set_option maxRecDepth 100000
theorem hexM_four {s:Str} {a:Nat} (hl:a + 6 ≤ s.length) (hu:(s.drop a).take 2 = [92,117]):hexM s a = if ((s.drop (a + 2)).take 4).all isHex = true then (hexN ((s.drop (a + 2)).take 4):Int) else -1:=by
 have hlen:(s.drop a).length = s.length - a:=List.length_drop
 match hd:s.drop a,hlen with
 | [],h | [_],h | [_,_],h | [_,_,_],h | [_,_,_,_],h | [_,_,_,_,_],h=>exact absurd h (by simp; omega)
 | b0 :: b1 :: c0 :: c1 :: c2 :: c3 :: r,_=>
   have e2:s.drop (a + 2) = c0 :: c1 :: c2 :: c3 :: r:=drop_app (l:=[b0,b1]) hd
   rw [hd] at hu
   simp only [List.take_succ_cons,List.take_zero,List.cons.injEq,and_true] at hu
   obtain ⟨rfl,rfl⟩:=hu
   have e4:(s.drop (a + 2)).take 4 = [c0,c1,c2,c3]:=by rw [e2]; rfl
   rw [hexM_at hd,e4]
   unfold hexM
   rw [show byteM [92,117,c0,c1,c2,c3] 0 = 92 from rfl,show byteM [92,117,c0,c1,c2,c3] (0 + 1) = 117 from rfl,show byteM [92,117,c0,c1,c2,c3] (0 + 2) = c0.toNat from rfl,show byteM [92,117,c0,c1,c2,c3] (0 + 3) = c1.toNat from rfl,show byteM [92,117,c0,c1,c2,c3] (0 + 4) = c2.toNat from rfl,show byteM [92,117,c0,c1,c2,c3] (0 + 5) = c3.toNat from rfl]
   have ea:([c0,c1,c2,c3]:Str).all isHex = (decide (0 ≤ hexV c0.toNat) && (decide (0 ≤ hexV c1.toNat) && (decide (0 ≤ hexV c2.toNat) && (decide (0 ≤ hexV c3.toNat) && true)))):=rfl
   have en:hexN [c0,c1,c2,c3] = (((0 * 16 + hexD1 c0) * 16 + hexD1 c1) * 16 + hexD1 c2) * 16 + hexD1 c3:=rfl
   rw [en]
   by_cases h:0 ≤ hexV c0.toNat ∧ 0 ≤ hexV c1.toNat ∧ 0 ≤ hexV c2.toNat ∧ 0 ≤ hexV c3.toNat
   · obtain ⟨h0,h1,h2,h3⟩:=h
     rw [if_pos ⟨by simp,rfl,rfl,h0,h1,h2,h3⟩,if_pos (ea.trans (by rw [decide_eq_true h0,decide_eq_true h1,decide_eq_true h2,decide_eq_true h3]; rfl))]
     unfold hexD1
     omega
   · rw [if_neg fun h'=>h h'.2.2.2,if_neg]
     intro h'
     have h':=ea.symm.trans h'
     simp only [Bool.and_eq_true,decide_eq_true_eq] at h'
     exact h ⟨h'.1,h'.2.1,h'.2.2.1,h'.2.2.2.1⟩
theorem hexM_no {s:Str} {a:Nat} (h:a + 6 ≤ s.length → (s.drop a).take 2 ≠ [92,117]):hexM s a = -1:=by
 unfold hexM
 rw [if_neg]
 rintro ⟨h1,h2,h3,_⟩
 refine h h1 ?_
 have ha:a < s.length:=by omega
 have hb:a + 1 < s.length:=by omega
 rw [drop_here ha,drop_here hb]
 simp only [List.take_succ_cons,List.take_zero]
 rw [Go.Eng.byte_at (drop_here ha)] at h2
 rw [Go.Eng.byte_at (drop_here hb)] at h3
 congr 1
 · exact UInt8.toNat_inj.1 (by show s[a].toNat = 92; omega)
 · congr 1
   exact UInt8.toNat_inj.1 (by show s[a + 1].toNat = 117; omega)
theorem bad_hex {c:UInt8} (h:badB c = true):isHex c = false:=by
 unfold badB at h
 simp only [Bool.or_eq_true,decide_eq_true_eq] at h
 rcases h with (rfl | rfl) | rfl <;> decide
theorem eq_nil_err (K:Value → Prop) (w:World):eqQ Tryz.prog .neq 103 false true .nilIface .nilIface w K ↔ K (.bool false):=by
 have h:(do eqGuard .neq 103 (stand false) (stand true) .nilIface .nilIface; binOp .neq 103 .nilIface .nilIface:Sem Value).run Tryz.prog w = .ok (.bool false) w:=by kernel_rfl
 unfold eqQ semQ
 rw [h]
 exact ⟨fun ⟨v,h1,h2⟩=>by cases h1; exact h2,fun h2=>⟨_,rfl,h2⟩⟩
theorem ne_nil_err (T:TypeId) (v:Value) (w:World) (K:Value → Prop):eqQ Tryz.prog .neq 103 false true (.iface T v) .nilIface w K ↔ K (.bool true):=by
 have h:(do eqGuard .neq 103 (stand false) (stand true) (.iface T v) .nilIface; binOp .neq 103 (.iface T v) .nilIface:Sem Value).run Tryz.prog w = .ok (.bool true) w:=by kernel_rfl
 unfold eqQ semQ
 rw [h]
 exact ⟨fun ⟨v,h1,h2⟩=>by cases h1; exact h2,fun h2=>⟨_,rfl,h2⟩⟩
theorem eq_syn (w:World) (K:Value → Prop):eqQ Tryz.prog .eql 103 false false eSyn eSyn w K ↔ K (.bool true):=by
 have h:(do eqGuard .eql 103 (stand false) (stand false) eSyn eSyn; binOp .eql 103 eSyn eSyn:Sem Value).run Tryz.prog w = .ok (.bool true) w:=by kernel_rfl
 unfold eqQ semQ
 rw [h]
 exact ⟨fun ⟨v,h1,h2⟩=>by cases h1; exact h2,fun h2=>⟨_,rfl,h2⟩⟩
def TabE (w:World):Prop:=∃ T v,w.cell? ⟨2,0,none⟩ = some (.iface T v)
theorem TabE.ext {w w':World} (h:TabE w) (hx:Ext w w'):TabE w':=by
 obtain ⟨T,v,h⟩:=h
 exact ⟨T,v,cell_ext hx h⟩
section
variable [HX]
theorem sclone_p' {s:Str} {w:World} {K:Value → World → Prop} (hl:s.length ≤ 1000000) (hK:∀ w',Ext w w' → K (str s) w'):callF Tryz.prog 219 [str s] w K:=by
 refine of_calls (args:=#[str s]) Tryz.call219 ((Tryz.stringslite_Clone (ofL s) w (by rw [ofL_size]; omega)).mono ?_)
 rintro e w' ⟨rfl,hb⟩
 exact ⟨_,rfl,hK w' (Chg.of_below hb)⟩
theorem parse16_p {l:Str} {w:World} {K:Value → World → Prop} (hE:TabE w) (hl:l.length = 4) (hok:l.all isHex = true → ∀ w',Ext w w' → K (.tuple #[.int .u64 (hexN l:Nat),.nilIface]) w') (hno:l.all isHex = false → ∀ T v w',Ext w w' → K (.tuple #[.int .u64 0,.iface T v]) w') :
   callF Tryz.prog 242 [str l,i64 16,i64 32] w K:=by
 refine W242_ok ?_
 unfold W242
 refine uint16_p hl (fun h w1 hx1=>?_) (fun h w1 hx1=>?_)
 · simp only [ext_tuple]
   refine ⟨_,rfl,_,rfl,?_⟩
   rw [eq_nil_err,condW_false]
   exact hok h w1 hx1
 · simp only [ext_tuple]
   refine ⟨_,rfl,_,rfl,?_⟩
   rw [ne_nil_err,condW_true]
   refine W121_ok ?_
   unfold W121
   rw [eq_syn,condW_true]
   refine W176_ok ?_
   unfold W176
   have hxd:Ext w1 w1.drew:=Chg.drew (Chg.refl (fun _=>False) w1)
   obtain ⟨T,v,hc⟩:=hE.ext (hx1.trans hxd)
   rw [ld_one]
   refine ⟨_,hc,?_⟩
   refine sclone_p' (by omega) fun w2 hx2=>?_
   rw [ld_one]
   refine ⟨⟨_,cell_ext hx2 hc,rfl⟩,?_⟩
   rw [put_one _ _ _ _ _ rfl]
   refine ⟨by simp,?_⟩
   rw [put_one _ _ _ _ _ rfl]
   refine ⟨by simp,?_⟩
   rw [put_one _ _ _ _ _ rfl]
   refine ⟨by simp,?_⟩
   rw [put_nil]
   refine box_new fun a w3 ha hz hb hx3=>?_
   exact hno h _ _ w3 (hx1.trans (hxd.trans (hx2.trans hx3)))
theorem hex_p {w:World} {p i c a:Nat} {s:Str} {K:Value → World → Prop} (h:Rdr w p s i c) (hE:TabE w) (ha:a ≤ 2000000) (hs:s.length ≤ 1000000) (hK:∀ w',Ext w w' → K (.int .i32 (hexM s a)) w') :
   callF Tryz.prog 217 [.pointer (some ⟨p,0,none⟩),i64 (a:Nat)] w K:=by
 refine W217_ok ?_
 unfold W217
 have e6:IntKind.i64.wrap ((a:Int) + 6) = ((a + 6:Nat):Int):=upk (k:=6) (by omega)
 have e2:IntKind.i64.wrap ((a:Int) + 2) = ((a + 2:Nat):Int):=upk (k:=2) (by omega)
 rw [bin_add,e6]
 refine h.ld rfl ?_
 rw [lens_str,bin_gtr]
 refine GdW.act (decide ((s.drop a).take 2 ≠ [92,117])) (fun w'=>w' = w) (fun _=>rfl) ?_ ?_
 · intro hc J hJ
   have hle:a + 6 ≤ s.length:=by
     rw [isB_f,Bool.not_eq_true',decide_eq_false_iff_not] at hc
     omega
   refine h.ld rfl ?_
   rw [bin_add,e2,sls_str,bd_some]
   refine ⟨by omega,by omega,?_⟩
   rw [bd_some]
   refine ⟨by omega,by omega,?_⟩
   simp only [Int.toNat_natCast]
   rw [show (s.take (a + 2)).drop a = (s.drop a).take 2 by rw [List.drop_take]; congr 1; omega,bin_sne]
   exact hJ _ rfl
 rintro g w1 rfl
 simp only [List.getD_cons_zero,isB_f]
 rw [pick_gd_or]
 generalize hq:(decide ((s.length:Int) < ((a + 6:Nat):Int)) || decide ((s.drop a).take 2 ≠ [92,117])) = q
 refine ⟨fun st w'=>Ext w1 w' ∧ ((q = true ∧ st = [undef]) ∨ (q = false ∧ ∃ r:Bool,st = [.bool r] ∧ (r = true → ∃ c ∈ (s.drop (a + 2)).take 4,badB c = true))),?_,?_,?_⟩
 · intro hc
   have hq0:q = false:=by simpa [isB_f] using hc
   rw [hq0,Bool.or_eq_false_iff,decide_eq_false_iff_not] at hq
   refine h.ld rfl ?_
   rw [bin_add,e2,bin_add,e6,sls_str,bd_some]
   refine ⟨by omega,by omega,?_⟩
   rw [bd_some]
   refine ⟨by omega,by omega,?_⟩
   simp only [Int.toNat_natCast]
   rw [show (s.take (a + 6)).drop (a + 2) = (s.drop (a + 2)).take 4 by rw [List.drop_take]; congr 1; omega]
   refine contains_any (by rw [List.length_take]; omega) fun r w2 hr hx2=>?_
   exact ⟨hx2,.inr ⟨hq0,r,rfl,hr⟩⟩
 · intro hc
   have hq1:q = true:=by simpa [isB_f] using hc
   exact ⟨Chg.refl _ _,.inl ⟨hq1,rfl⟩⟩
 rintro st g2 w2 ⟨hx2,hst⟩
 rcases hst with ⟨rfl,rfl⟩ | ⟨rfl,r,rfl,hr⟩
 · rw [pick_t,condW_true]
   rw [hexM_no] at hK
   · exact hK w2 hx2
   intro hle he
   rw [decide_eq_false (by omega),decide_eq_false (by simpa using he)] at hq
   cases hq
 · rw [Bool.or_eq_false_iff,decide_eq_false_iff_not,decide_eq_false_iff_not] at hq
   have hu:(s.drop a).take 2 = [92,117]:=by simpa using hq.2
   have hle:a + 6 ≤ s.length:=by omega
   rw [hexM_four hle hu] at hK
   simp only [List.getD_cons_zero]
   rw [pick_f,condW_b]
   refine ⟨fun hr1=>?_,fun _=>?_⟩
   · obtain ⟨c,hc,hb⟩:=hr hr1
     rw [if_neg] at hK
     · exact hK w2 hx2
     intro hall
     have:=List.all_eq_true.1 hall c hc
     rw [bad_hex hb] at this
     cases this
   · refine (h.ext hx2).ld rfl ?_
     rw [bin_add,e2,bin_add,e6,sls_str,bd_some]
     refine ⟨by omega,by omega,?_⟩
     rw [bd_some]
     refine ⟨by omega,by omega,?_⟩
     simp only [Int.toNat_natCast]
     rw [show (s.take (a + 6)).drop (a + 2) = (s.drop (a + 2)).take 4 by rw [List.drop_take]; congr 1; omega]
     have h4:((s.drop (a + 2)).take 4).length = 4:=by rw [List.length_take,List.length_drop]; omega
     generalize (s.drop (a + 2)).take 4 = l4 at *
     refine parse16_p (hE.ext hx2) h4 (fun hall w3 hx3=>?_) (fun hall T v w3 hx3=>?_)
     · simp only [ext_tuple]
       refine ⟨_,rfl,_,rfl,?_⟩
       rw [eq_nil_err,condW_false,cvt_int]
       rw [if_pos hall] at hK
       have hN:=hexN_lt l4
       rw [h4] at hN
       have e:IntKind.i32.wrap (hexN l4:Int) = (hexN l4:Int):=by
         rw [IntKind.wrap_i32]
         omega
       rw [e]
       exact hK w3 (hx2.trans hx3)
     · simp only [ext_tuple]
       refine ⟨_,rfl,_,rfl,?_⟩
       rw [ne_nil_err,condW_true]
       rw [if_neg (by rw [hall]; simp)] at hK
       exact hK w3 (hx2.trans hx3)
end
end Go.Proofs.YtnoepcndjljolaaGreatDoor
namespace Go.Proofs.YtnoepcndjljolaaGreatDoor
open Go Go.Eng Go.RowKit
set_option maxRecDepth 100000
theorem pk_eq {s:Str} {i k:Nat} (hk:0 < k):pkM s i = (k:Int) ↔ byteM s i = (k:Int):=by
 unfold pkM
 by_cases h:i < s.length
 · rw [if_pos h,byteM_in h]
 · rw [if_neg h,byteM_out (by omega)]; omega
theorem bt_drop (s:Str) (i j:Nat):bt (s.drop i) j = bt s (i + j):=by
 unfold bt
 rw [List.getD_eq_getElem?_getD,List.getD_eq_getElem?_getD,List.getElem?_drop]
theorem dec_drop (s:Str) (i:Nat):Utf8.decode (ofL (s.drop i)) 0 = Utf8.decode (ofL s) i:=by
 rw [dec_ofL,dec_ofL]
 simp only [bt_drop,List.length_drop,Nat.sub_zero,Nat.add_zero,Nat.zero_add]
theorem i32_id {n:Int} (h1:-2147483648 ≤ n) (h2:n ≤ 2147483647):IntKind.i32.wrap n = n:=by
 rw [IntKind.wrap_i32]; omega
theorem bt_i32 (n:Nat) (h:n < 256):IntKind.i32.wrap (n:Int) = (n:Int):=i32_id (by omega) (by omega)
theorem cell_chg {w w':World} {p b o:Nat} {v:Value} (hc:Chg (Cr p) w w') (hb:b ≠ p) (h:w.cell? ⟨b,o,none⟩ = some v):w'.cell? ⟨b,o,none⟩ = some v:=by
 rw [cell_eq] at h ⊢
 cases hx:w.heap[b]? with
 | none=>rw [hx] at h; cases h
 | some x=>rw [hx] at h; rw [hc.at hx hb]; exact h
theorem Rdr.ne {w:World} {p i c b:Nat} {s:Str} {v:Value} (h:Rdr w p s i c) (hv:w.cell? ⟨b,0,none⟩ = some v) (hs:∀ t,v ≠ str t):b ≠ p:=fun e=>by
 subst e
 rw [cell_eq,h,cellO_some] at hv
 simp at hv
 exact hs s hv.symm
theorem TabU.rd {w w':World} {p i c:Nat} {s:Str} (hT:TabU w) (h:Rdr w p s i c) (hc:Chg (Cr p) w w'):TabU w':=
 ⟨fun k hk=>cell_chg hc (h.ne (hT.1 0 (by omega)) fun t e=>(by cases e)) (hT.1 k hk),fun k hk=>⟨cell_chg hc (h.ne (hT.2 0 (by omega)).1 fun t e=>(by cases e)) (hT.2 k hk).1,cell_chg hc (h.ne (hT.2 0 (by omega)).1 fun t e=>(by cases e)) (hT.2 k hk).2⟩⟩
theorem TabE.rd {w w':World} {p i c:Nat} {s:Str} (hE:TabE w) (h:Rdr w p s i c) (hc:Chg (Cr p) w w'):TabE w':=by
 obtain ⟨T,v,hv⟩:=hE
 exact ⟨T,v,cell_chg hc (h.ne hv fun t e=>(by cases e)) hv⟩
section
variable [HX]
theorem decode_rune {s:Str} {i:Nat} {w:World} {K:Value → World → Prop} (hT:TabU w) (hi:i < s.length) (hK:∀ w',Ext w w' → K (.tuple #[.int .i32 ((Utf8.decode (ofL s) i).1:Nat),i64 ((Utf8.decode (ofL s) i).2:Nat)]) w') :
   callF Tryz.prog 171 [str (s.drop i)] w K:=by
 refine of_calls (args:=#[str (s.drop i)]) Tryz.call171 ((Tryz.utf8_DecodeRuneInString (ofL (s.drop i)) w hT).mono ?_)
 rintro e w' ⟨rfl,hb⟩
 refine ⟨_,rfl,?_⟩
 unfold Lib.decodeGo
 rw [if_neg (by rw [ofL_size,List.length_drop]; omega),dec_drop]
 exact hK w' (Chg.of_below hb)
theorem escaped_p {w:World} {p i c:Nat} {s:Str} {K:Value → World → Prop} (h:Rdr w p s i c) (hE:TabE w) (hi:i < s.length) (hs:s.length ≤ 1000000)
   (hok:∀ t k,escM s i = some (t,k) → ∀ (n:Nat) (w':World),(n < 55296 ∨ 57343 < n ∧ n ≤ 1114111) → wrM n = t → Rdr w' p s (i + k) c → Chg (Cr p) w w' → K (.int .i32 (n:Nat)) w') (hbad:escM s i = none → Thr w p 30 i) :
   callF Tryz.prog 172 [.pointer (some ⟨p,0,none⟩)] w K:=by
 refine W172_ok ?_
 unfold W172
 rw [escM_def] at hok hbad
 refine h.ld rfl ?_
 refine JoinW.cut (fun st w'=>st = [.int .u8 (pkM s (i + 1))] ∧ w' = w) ?_ ?_
 · rw [bin_add,up1 (by omega)]
   refine h.ld rfl ?_
   rw [lens_str,bin_lss,condW_dec]
   unfold pkM
   refine ⟨fun hlt=>?_,fun hge=>?_⟩
   · have hlt:i + 1 < s.length:=by omega
     rw [if_pos hlt]
     refine h.ld rfl ?_
     obtain ⟨e1,e2⟩:=get_bt' hlt
     rw [bin_add,up1 (by omega),ixs_str]
     refine ⟨by omega,s[i + 1],by simpa using e1,?_⟩
     rw [e2]
     exact ⟨rfl,rfl⟩
   · rw [if_neg (by omega)]
     exact ⟨rfl,rfl⟩
 rintro st g w1 ⟨rfl,rfl⟩
 refine h.go (k:=2) (by omega) fun w2 h2 hc2 hz2=>?_
 simp only [List.getD_cons_zero]
 have pk:=fun (k:Nat) (hk:0 < k)=>pk_eq (s:=s) (i:=i + 1) (k:=k) hk
 have p34:pkM s (i + 1) = 34 ↔ byteM s (i + 1) = 34:=pk 34 (by omega)
 have p92:pkM s (i + 1) = 92 ↔ byteM s (i + 1) = 92:=pk 92 (by omega)
 have p47:pkM s (i + 1) = 47 ↔ byteM s (i + 1) = 47:=pk 47 (by omega)
 have p98:pkM s (i + 1) = 98 ↔ byteM s (i + 1) = 98:=pk 98 (by omega)
 have p102:pkM s (i + 1) = 102 ↔ byteM s (i + 1) = 102:=pk 102 (by omega)
 have p110:pkM s (i + 1) = 110 ↔ byteM s (i + 1) = 110:=pk 110 (by omega)
 have p114:pkM s (i + 1) = 114 ↔ byteM s (i + 1) = 114:=pk 114 (by omega)
 have p116:pkM s (i + 1) = 116 ↔ byteM s (i + 1) = 116:=pk 116 (by omega)
 have hpk0:0 ≤ pkM s (i + 1) ∧ pkM s (i + 1) < 256:=by
   unfold pkM
   split
   · have:=bt_lt s (i + 1); omega
   · omega
 generalize pkM s (i + 1) = q at *
 have two:∀ (n:Nat) (t:Str),n < 128 → wrM n = t → some (t,2) = (some (t,2):Option (Str × Nat)):=fun _ _ _ _=>rfl
 refine JoinW.cut (fun st w'=>st = [.bool (decide (q = 34) || decide (q = 92) || decide (q = 47))] ∧ w' = w2) ?_ ?_
 · rw [bin_eql,condW_dec]
   refine ⟨fun e=>⟨by rw [decide_eq_true e]; rfl,rfl⟩,fun e=>?_⟩
   rw [bin_eql,condW_dec]
   refine ⟨fun e2=>⟨by rw [decide_eq_true e2,decide_eq_false e]; rfl,rfl⟩,fun e2=>?_⟩
   rw [bin_eql]
   exact ⟨by rw [decide_eq_false e2,decide_eq_false e]; rfl,rfl⟩
 rintro st g w3 ⟨rfl,rfl⟩
 simp only [List.getD_cons_zero]
 rw [condW_b]
 refine ⟨fun e=>?_,fun e=>?_⟩
 · rw [Bool.or_eq_true,Bool.or_eq_true,decide_eq_true_iff,decide_eq_true_iff,decide_eq_true_iff] at e
   rw [cvt_int]
   obtain ⟨n,rfl⟩:=Int.eq_ofNat_of_zero_le hpk0.1
   have hn:n < 256:=by omega
   rw [show ((n:Nat):Int) = (n:Int) from rfl,bt_i32 n hn]
   have key:∀ (t:Str),wrM n = t → (if byteM s (i + 1) = 34 then some (([34]:Str),2) else if byteM s (i + 1) = 92 then some ([92],2) else if byteM s (i + 1) = 47 then some ([47],2) else none) = some (t,2) → K (.int .i32 (n:Nat)) w3:=fun t ht he=>by
     refine hok t 2 ?_ n w3 (by omega) ht h2 hc2
     split at he
     · rename_i h1; rw [if_pos h1]; exact he
     · rename_i h1; rw [if_neg h1]
       split at he
       · rename_i h1; rw [if_pos h1]; exact he
       · rename_i h1; rw [if_neg h1]
         split at he
         · rename_i h1; rw [if_pos h1]; exact he
         · cases he
   rcases e with (e | e) | e
   · obtain rfl:n = 34:=by omega
     refine key [34] (by decide) ?_
     rw [if_pos (p34.1 rfl)]
   · obtain rfl:n = 92:=by omega
     have b:=p92.1 rfl
     refine key [92] (by decide) ?_
     rw [b]; rfl
   · obtain rfl:n = 47:=by omega
     have b:=p47.1 rfl
     refine key [47] (by decide) ?_
     rw [b]; rfl
 rw [Bool.or_eq_false_iff,Bool.or_eq_false_iff,decide_eq_false_iff_not,decide_eq_false_iff_not,decide_eq_false_iff_not] at e
 obtain ⟨⟨n34,n92⟩,n47⟩:=e
 rw [if_neg (fun e=>n34 (p34.2 e)),if_neg (fun e=>n92 (p92.2 e)),if_neg (fun e=>n47 (p47.2 e))] at hok hbad
 have step:∀ {k m:Nat} {t:Str} {R:Option (Str × Nat)} {B:Prop},m < 128 → wrM m = t → (q = (k:Int) ↔ byteM s (i + 1) = (k:Int)) →
     (∀ t' k',(if byteM s (i + 1) = (k:Int) then some (t,2) else R) = some (t',k') → ∀ (n:Nat) (w':World),(n < 55296 ∨ 57343 < n ∧ n ≤ 1114111) → wrM n = t' → Rdr w' p s (i + k') c → Chg (Cr p) w1 w' → K (.int .i32 (n:Nat)) w') →
     ((if byteM s (i + 1) = (k:Int) then some (t,2) else R) = none → Thr w1 p 30 i) →
     ((∀ t' k',R = some (t',k') → ∀ (n:Nat) (w':World),(n < 55296 ∨ 57343 < n ∧ n ≤ 1114111) → wrM n = t' → Rdr w' p s (i + k') c → Chg (Cr p) w1 w' → K (.int .i32 (n:Nat)) w') → (R = none → Thr w1 p 30 i) → B) →
     binW .eql (.int .u8 q) (.int .u8 (k:Int)) fun t41=>condW t41 (K (.int .i32 (m:Nat)) w3) B:=fun {k m t R B} hm hw hq hok hbad hB=>by
   rw [bin_eql,condW_dec]
   refine ⟨fun e=>?_,fun e=>?_⟩
   · exact hok t 2 (by rw [if_pos (hq.1 e)]) m w3 (by omega) hw h2 hc2
   · rw [if_neg (fun h=>e (hq.2 h))] at hok hbad
     exact hB hok hbad
 refine step (k:=98) (m:=8) (by decide) (by decide) p98 hok hbad fun hok hbad=>?_
 refine step (k:=102) (m:=12) (by decide) (by decide) p102 hok hbad fun hok hbad=>?_
 refine step (k:=110) (m:=10) (by decide) (by decide) p110 hok hbad fun hok hbad=>?_
 refine step (k:=114) (m:=13) (by decide) (by decide) p114 hok hbad fun hok hbad=>?_
 refine step (k:=116) (m:=9) (by decide) (by decide) p116 hok hbad fun hok hbad=>?_
 clear step two
 have hr1:=hexM_range s i
 have hr2:=hexM_range s (i + 6)
 refine hex_p h2 (hE.rd h hc2) (by omega) hs fun w4 hx4=>?_
 have h4:=h2.ext hx4
 have hc4:=hc2.then hx4 fun _ _ e=>e.elim
 have e6:IntKind.i64.wrap ((i:Int) + 6) = ((i + 6:Nat):Int):=upk (k:=6) (by omega)
 rw [bin_add,e6]
 refine h4.st1 fun w5 h5 hc5 hz5=>?_
 have hc5:=hc4.trans hc5
 rw [bin_geq]
 simp only [isB_t,bin_lss,GdW_pure]
 intro _
 simp only [List.getD_cons_zero]
 rw [pick_gd_and,condW_b]
 refine ⟨fun e=>?_,fun e=>?_⟩
 · rw [Bool.and_eq_true,decide_eq_true_iff,decide_eq_true_iff] at e
   rw [if_neg (by omega),if_pos (by omega)] at hok hbad
   refine h5.ld rfl ?_
   refine hex_p h5 (hE.rd h hc5) (by omega) hs fun w6 hx6=>?_
   have h6:=h5.ext hx6
   have hc6:=hc5.then hx6 fun _ _ e=>e.elim
   refine JoinW.cut (fun st w'=>w' = w6 ∧ ¬ (hexM s (i + 6) < 56320 ∨ 57343 < hexM s (i + 6))) ?_ ?_
   · rw [bin_lss]
     simp only [isB_f,bin_gtr,GdW_pure]
     intro _
     simp only [List.getD_cons_zero]
     rw [pick_gd_or,condW_b]
     refine ⟨fun e2=>?_,fun e2=>?_⟩
     · rw [Bool.or_eq_true,decide_eq_true_iff,decide_eq_true_iff] at e2
       rw [if_pos e2] at hbad
       exact fail_p ((hbad rfl).from hc6)
     · rw [Bool.or_eq_false_iff,decide_eq_false_iff_not,decide_eq_false_iff_not] at e2
       exact ⟨trivial,by omega⟩
   rintro st g2 w7 ⟨rfl,hb2⟩
   rw [if_neg hb2] at hok
   have hb2:56320 ≤ hexM s (i + 6) ∧ hexM s (i + 6) ≤ 57343:=by omega
   refine h6.go (k:=6) (by omega) fun w8 h8 hc8 hz8=>?_
   have hc8:=hc6.trans hc8
   generalize hexM s i = x at *
   generalize hexM s (i + 6) = y at *
   have e10:(2:Int) ^ min (10:Int).toNat IntKind.i32.bits = 1024:=by decide
   rw [bin_sub,i32_id (by omega) (by omega)]
   refine ⟨by decide,?_⟩
   rw [e10,i32_id (by omega) (by omega)]
   dsimp only
   rw [bin_add,i32_id (by omega) (by omega),bin_sub,i32_id (by omega) (by omega),bin_add,i32_id (by omega) (by omega)]
   have en:(65536 + (x - 55296) * 1024 + (y - 56320)) = (((65536 + (x - 55296) * 1024 + y - 56320).toNat:Nat):Int):=by omega
   rw [en]
   refine hok _ _ rfl _ w8 (by omega) rfl ?_ hc8
   exact h8
 · have e:¬ (55296 ≤ hexM s i ∧ hexM s i < 56320):=by
     rintro ⟨e1,e2⟩
     rw [decide_eq_true e1,decide_eq_true e2] at e
     cases e
   simp only [isB_f,isB_t,isB_gd_t,bin_geq,bin_lss,GdW_pure,GdW_nest_and,List.getD_cons_zero,pick_gd_or]
   intros
   rw [condW_b]
   refine ⟨fun e2=>?_,fun e2=>?_⟩
   · rw [Bool.or_eq_true,Bool.and_eq_true,decide_eq_true_iff,decide_eq_true_iff,decide_eq_true_iff] at e2
     rw [if_pos (by omega)] at hbad
     exact fail_p ((hbad rfl).from hc5)
   · have e2:¬ (hexM s i < 0 ∨ 56320 ≤ hexM s i ∧ hexM s i < 57344):=by
       intro h
       rw [Bool.or_eq_false_iff,Bool.and_eq_false_iff,decide_eq_false_iff_not,decide_eq_false_iff_not,decide_eq_false_iff_not] at e2
       omega
     rw [if_neg (by omega),if_neg (by omega)] at hok
     have en:hexM s i = (((hexM s i).toNat:Nat):Int):=by omega
     rw [en]
     exact hok _ _ rfl _ _ (by omega) rfl h5 hc5
theorem quoted_p {w:World} {p i c:Nat} {s:Str} {K:Value → World → Prop} (h:Rdr w p s i c) (hT:TabU w) (hE:TabE w) (hi:i < s.length) (hs:s.length ≤ 1000000)
   (hok:∀ t j c',quotM En s i c = .ok t j c' → ∀ w',Rdr w' p s j c' → Chg (Cr p) w w' → K (str t) w') (hbad:∀ e j,quotM En s i c = .bad e j → Thr w p e j) :
   callF Tryz.prog 117 [.pointer (some ⟨p,0,none⟩)] w K:=by
 refine W117_ok ?_
 unfold W117
 have hplt:=h.lt
 refine h.ld rfl ?_
 refine h.go (k:=1) (by omega) fun w1 h1 hc1 hz1=>?_
 refine bnew (B:=w1.heap.size) (Nat.le_refl _) fun b w2 hb hB2 hx2=>?_
 have h2:=h1.ext hx2
 have hc2:=hc1.then hx2 fun _ _ e=>e.elim
 have hbB:=hB2.base
 generalize hBB:w1.heap.size = B at *
 have hpB:p < B:=by omega
 -- what a builder's write leaves
 have keepR:∀ {w' w'':World} {j:Nat},Chg (BCh w' B b) w' w'' → Rdr w' p s j c → Rdr w'' p s j c:=fun hc h=>BCh.keep hc h (by omega) (by decide)
 have keepC:∀ {w' w'':World},Chg (BCh w' B b) w' w'' → Chg (Cr p) w w' → Chg (Cr p) w w'':=fun hc h=>h.then hc fun k hk e=>by
   rcases e with rfl | ⟨e,_⟩
   · omega
   · omega
 have keepB:∀ {w' w'':World} {l:Str},Chg (Cr p) w' w'' → Bld w' B b l → Bld w'' B b l:=fun hc h=>h.chg hc (fun e=>by have e:b = p:=e; omega) fun k hk e=>by
   have e:k = p:=e
   have:=hk.1
   omega
 refine LoopW.go (fun st w'=>st = [] ∧ ∃ j out n,Rdr w' p s j c ∧ Bld w' B b out ∧ Chg (Cr p) w w' ∧ B ≤ w'.heap.size ∧ j ≤ s.length ∧ out.length ≤ 4 * j ∧ s.length + 1 ≤ n + j ∧ quotGo En s i n j out c = quotM En s i c) (fun _ w'=>s.length - rdAt w' p)
   ⟨rfl,i + 1,[],s.length + 1,h2,hB2,hc2,by have:=hx2.size; omega,by omega,by simp,by omega,rfl⟩ ?_
 rintro st g w3 ⟨rfl,j,out,n,h3,hB3,hc3,hz3,hj,hout,hn,hq⟩
 obtain ⟨n,rfl⟩:∃ m,n = m + 1:=⟨n - 1,by omega⟩
 rw [quotGo] at hq
 have hxd:∀ w:World,Ext w w.drew:=fun w=>Chg.drew (Chg.refl (fun _=>False) w)
 refine JoinW.cut (fun st w'=>st = [] ∧ w' = w3.drew ∧ j < s.length) ?_ ?_
 · refine h3.drew.ld rfl ?_
   refine h3.drew.ld rfl ?_
   rw [lens_str,bin_geq,condW_dec]
   refine ⟨fun e=>?_,fun e=>⟨rfl,rfl,by omega⟩⟩
   obtain rfl:j = s.length:=by omega
   rw [byteM_out (Nat.le_refl _),if_neg (by decide),if_pos (by decide)] at hq
   refine h3.drew.ld rfl ?_
   rw [lens_str]
   exact fail_p ((hbad _ _ hq.symm).from (hc3.then (hxd _) fun _ _ e=>e.elim))
 rintro st g2 w4 ⟨rfl,rfl,hlt⟩
 refine h3.drew.drew.ld rfl ?_
 refine h3.drew.drew.ld rfl ?_
 rw [sls_str,bd_none,bd_some]
 refine ⟨by omega,by omega,?_⟩
 simp only [Int.toNat_natCast,List.take_length]
 have hcd:=(hc3.then (hxd _) fun _ _ e=>e.elim).then (hxd w3.drew) fun _ _ e=>e.elim
 refine decode_rune (hT.rd h hcd) hlt fun w5 hx5=>?_
 have h5:=h3.drew.drew.ext hx5
 have hB5:Bld w5 B b out:=((hB3.ext (hxd _)).ext (hxd _)).ext hx5
 have hc5:=hcd.then hx5 fun _ _ e=>e.elim
 have hz5:B ≤ w5.heap.size:=by
   have:=hx5.size
   have e:w3.drew.drew.heap.size = w3.heap.size:=rfl
   omega
 have hbj:=byteM_in hlt
 have hb256:=bt_lt s j
 simp only [ext_tuple]
 refine ⟨_,rfl,_,rfl,?_⟩
 -- what begins at the place
 have hrune:(runeM s j = 0 ∧ 128 ≤ bt s j ∧ Utf8.decode (ofL s) j = (65533,1)) ∨ (∃ r,RuneAt s j (runeM s j) r ∧ 1 ≤ runeM s j ∧ Utf8.decode (ofL s) j = (r,runeM s j)):=by
   by_cases h0:runeM s j = 0
   · refine .inl ⟨h0,?_,rune_bad hlt h0⟩
     apply Nat.le_of_not_lt
     intro hl
     have:runeM s j = 1:=by
       unfold runeM
       rw [hbj]
       simp only
       rw [if_neg (by omega),if_pos (by omega)]
     omega
   · obtain ⟨r,hr⟩:=rune_good hlt h0
     exact .inr ⟨r,hr,by omega,hr.dec⟩
 generalize Utf8.decode (ofL s) j = dd at *
 obtain ⟨cr,sz⟩:=dd
 simp only at hrune ⊢
 -- a low byte is its own rune
 have low:∀ k:Nat,k < 128 → ((cr:Int) = (k:Int) ↔ byteM s j = (k:Int)):=fun k hk=>by
   rw [hbj]
   rcases hrune with ⟨_,hb,he⟩ | ⟨r,hr,hp,he⟩
   · cases he
     omega
   · cases he
     rcases Nat.lt_or_ge (runeM s j) 2 with h1 | h1
     · have:=hr.low (by omega)
       omega
     · have:=hr.high h1
       omega
 have low32:((cr:Int) < 32 ↔ byteM s j < 32):=by
   rw [hbj]
   rcases hrune with ⟨_,hb,he⟩ | ⟨r,hr,hp,he⟩
   · cases he
     omega
   · cases he
     rcases Nat.lt_or_ge (runeM s j) 2 with h1 | h1
     · have:=hr.low (by omega)
       omega
     · have:=hr.high h1
       omega
 have l34:(cr:Int) = 34 ↔ byteM s j = 34:=low 34 (by omega)
 have l92:(cr:Int) = 92 ↔ byteM s j = 92:=low 92 (by omega)
 refine JoinW.cut (fun st w'=>st = [] ∧ w' = w5 ∧ byteM s j ≠ 34 ∧ byteM s j ≠ 92 ∧ ¬ byteM s j < 32 ∧ runeM s j ≠ 0) ?_ ?_
 · rw [bin_eql,condW_dec]
   refine ⟨fun e=>?_,fun n34=>?_⟩
   · rw [if_pos (l34.1 e)] at hq
     refine h5.go (k:=1) (by omega) fun w6 h6 hc6 hz6=>?_
     have hB6:=keepB hc6 hB5
     have hc6':=hc5.trans hc6
     refine JoinW.cut (fun st w'=>st = [] ∧ w' = w6 ∧ ¬ 16384 < out.length) ?_ ?_
     · refine len_p hB6 ?_
       rw [bin_gtr,condW_dec]
       refine ⟨fun e2=>?_,fun e2=>⟨rfl,rfl,by omega⟩⟩
       rw [if_pos (by omega)] at hq
       exact fail_p ((hbad _ _ hq.symm).from hc6')
     rintro st g3 w7 ⟨rfl,rfl,hshort⟩
     rw [if_neg hshort] at hq
     refine string_p hB6 (by omega) fun w8 hc8=>?_
     refine hok _ _ _ hq.symm w8 (hc8.at h6 (by omega)) (hc6'.then hc8 fun k hk e=>by omega)
   rw [if_neg (fun e=>n34 (l34.2 e)),if_neg (by omega)] at hq
   rw [bin_eql,condW_dec]
   refine ⟨fun e=>?_,fun n92=>?_⟩
   · rw [if_pos (l92.1 e)] at hq
     refine escaped_p h5 (hE.rd h hc5) hlt hs (fun t k he r w6 hr ht h6 hc6=>?_) (fun he=>?_)
     · rw [he] at hq
       simp only at hq
       have hB6:=keepB hc6 hB5
       have hc6':=hc5.trans hc6
       have hfit:=escM_fits he
       have hk:=(escM_rune he).2.2
       have hrn:=rn_len (escM_rune he).1
       refine wrune_p hB6 (by have:=hc6.size; omega) (by omega) hr fun _ w7 hB7 hc7=>?_
       rw [ht] at hB7
       have h7:=keepR hc7 h6
       refine ⟨⟨(by first | rfl | trivial),j + k,out ++ t,n,h7,hB7,keepC hc7 hc6',by have:=hc7.size; have:=hc6.size; omega,hfit,by rw [List.length_append]; omega,by omega,hq⟩,?_⟩
       rw [h7.at_,h3.at_]; omega
     · rw [he] at hq
       exact (hbad _ _ hq.symm).from hc5
   rw [if_neg (fun e=>n92 (l92.2 e))] at hq
   rw [bin_lss,condW_dec]
   refine ⟨fun e=>?_,fun n32=>?_⟩
   · rw [if_pos (low32.1 e)] at hq
     refine h5.ld rfl ?_
     exact fail_p ((hbad _ _ hq.symm).from hc5)
   rw [if_neg (fun e=>n32 (low32.2 e))] at hq
   rw [bin_eql]
   simp only [isB_t,bin_lss,GdW_pure]
   intro _
   simp only [List.getD_cons_zero]
   rw [pick_gd_and,condW_b]
   refine ⟨fun e=>?_,fun e=>?_⟩
   · rw [Bool.and_eq_true,decide_eq_true_iff,decide_eq_true_iff] at e
     have h0:runeM s j = 0:=by
       rcases hrune with ⟨h0,_⟩ | ⟨r,hr,hp,he⟩
       · exact h0
       · exfalso
         cases he
         have:=hr.low (by omega)
         omega
     rw [if_pos h0] at hq
     refine h5.ld rfl ?_
     exact fail_p ((hbad _ _ hq.symm).from hc5)
   · refine ⟨(by first | rfl | trivial),(by first | rfl | trivial),fun e=>n34 (l34.2 e),fun e=>n92 (l92.2 e),fun e=>n32 (low32.2 e),fun h0=>?_⟩
     rcases hrune with ⟨_,_,he⟩ | ⟨r,hr,hp,he⟩
     · cases he
       exact absurd e (by decide)
     · omega
 rintro st g3 w6 ⟨rfl,rfl,n34,n92,n32,hr0⟩
 rw [if_neg n34,if_neg (by omega),if_neg n92,if_neg n32,if_neg hr0] at hq
 rcases hrune with ⟨h0,_⟩ | ⟨r,hr,hp,he⟩
 · exact absurd h0 hr0
 cases he
 have hw:wrM cr = (s.drop j).take (runeM s j):=by
   rw [← wr_enc (by have:=hr.val; have:=hr.top; omega)]
   exact hr.bytes
 have hfit:=hr.fits
 have hsm:=hr.small
 refine wrune_p hB5 hz5 (by omega) (by have:=hr.val; have:=hr.top; omega) fun _ w7 hB7 hc7=>?_
 rw [hw] at hB7
 have h7:=keepR hc7 h5
 have hc7':=keepC hc7 hc5
 refine h7.ld rfl ?_
 rw [bin_add,upk (by omega)]
 refine h7.st1 fun w8 h8 hc8 hz8=>?_
 refine ⟨⟨(by first | rfl | trivial),j + runeM s j,_,n,h8,keepB hc8 hB7,hc7'.trans hc8,by have:=hc8.size; have:=hc7.size; omega,hfit,?_,by omega,hq⟩,?_⟩
 · rw [List.length_append,List.length_take,List.length_drop]; omega
 · rw [h8.at_,h3.at_]; omega
end
end Go.Proofs.YtnoepcndjljolaaGreatDoor
namespace Go.Eng
open Go
theorem set_cells {b:Nat} {T:TypeId}:∀ (vs:List Value) (o:Nat) (w:World) (cs:List Value),w.heap[b]? = some (.cells cs.toArray T (0,0)) → o + vs.length ≤ cs.length →
   (w.setCells b o vs).heap[b]? = some (.cells (cs.take o ++ vs ++ cs.drop (o + vs.length)).toArray T (0,0)) ∧ Chg (fun k=>k = b) w (w.setCells b o vs) ∧ (w.setCells b o vs).heap.size = w.heap.size
 | [],o,w,cs,h,_=>by
   refine ⟨?_,Chg.refl _ _,rfl⟩
   simp only [World.setCells,List.length_nil,Nat.add_zero,List.append_nil,List.take_append_drop]
   exact h
 | v :: r,o,w,cs,h,hl=>by
   rw [List.length_cons] at hl
   have hb:(w.setCell ⟨b,o,none⟩ v).heap[b]? = some (.cells (cs.set o v).toArray T (0,0)):=by
     rw [heap_set_same,h,setO_some]; simp
   obtain ⟨h1,h2,h3⟩:=set_cells r (o + 1) (w.setCell ⟨b,o,none⟩ v) (cs.set o v) hb (by rw [List.length_set]; omega)
   have hc:Chg (fun k=>k = b) w (w.setCell ⟨b,o,none⟩ v):=Chg.set (S:=fun k=>k = b) (Chg.refl _ _) (.inl rfl) _
   simp only [World.setCells]
   refine ⟨?_,hc.trans h2,by rw [h3]; simp⟩
   rw [h1]
   have e:(cs.set o v).take (o + 1) ++ r ++ (cs.set o v).drop (o + 1 + r.length) = cs.take o ++ v :: r ++ cs.drop (o + (v :: r).length):=by
     rw [List.take_add_one,List.getElem?_set_self (by omega),List.take_set_of_le (by omega),List.drop_set_of_lt (by omega),List.length_cons]
     simp
     congr 1; omega
   rw [e]
theorem run_copy_any {P:Program} (w:World) (dT sT ty elem:TypeId) (b o dLen dCap:Nat) (a:Addr) (sLen sCap:Nat) (cs:List Value) {i:TypeInfo}
   (hu:P.underlying dT = some (.slice elem)) (hq:P.info? elem = some i) (hn:cs.length = Nat.min sLen dLen * i.size)
   (hsrc:∀ j v,cs[j]? = some v → w.cell? (a.add j) = some v) (hc:∀ j,j < cs.length → (w.cell? ⟨b,o + j,none⟩).isSome = true) (hf:∀ j,j < cs.length → w.frozen? ⟨b,o + j,none⟩ = false) (h1:∀ v ∈ cs,v.oneCell' = true) :
   (Builtin.copy_ #[dT,sT] ty #[.slice (some ⟨b,o,none⟩) dLen dCap,.slice (some a) sLen sCap]).run P w = .ok (goInt (Nat.min sLen dLen)) (w.setCells b o cs):=by
 have hl:=run_loadCells_list (P:=P) w a cs hsrc
 have hst:=run_storeCells_cells (P:=P) b o cs 0 w (by simpa using hc) (by simpa using hf) h1
 simp [Builtin.copy_,run_underlying' hu,Builtin.lenOf,Builtin.firstCells,sizeOf,typeInfo,hq,← hn,hl,hst,run_bind,run_pure]
theorem copy_q {P:Program} {dT sT ty e:TypeId} {size bytes:Nat} (hT:ElemT P dT e size bytes) {w:World} {b o dl dc sl sc:Nat} {a:Addr} {vs cs:List Value} {T:TypeId} {K:Value → World → Prop}
   (hb:w.heap[b]? = some (.cells cs.toArray T (0,0))) (hn:vs.length = Nat.min sl dl * size) (hsrc:∀ j v,vs[j]? = some v → w.cell? (a.add j) = some v) (hfit:o + vs.length ≤ cs.length) (h1:∀ v ∈ vs,one1 v = true)
   (hK:∀ r w',w'.heap[b]? = some (.cells (cs.take o ++ vs ++ cs.drop (o + vs.length)).toArray T (0,0)) → Chg (fun k=>k = b) w w' → w'.heap.size = w.heap.size → K r w') :
   semE P (Builtin.copy_ #[dT,sT] ty #[.slice (some ⟨b,o,none⟩) dl dc,.slice (some a) sl sc]) w K:=by
 obtain ⟨i,z,hi,_,hs,_,_⟩:=hT.get
 unfold semE
 rw [run_copy_any w dT sT ty e b o dl dc a sl sc vs hT.und hi (by rw [hs]; exact hn) hsrc (fun j hj=>by
     rw [cell_eq,hb,cellO_some]
     simp
     omega) (fun j hj=>by rw [frozen_eq,hb,frO_zero]) fun v hv=>one1_oneCell' (h1 v hv)]
 obtain ⟨q1,q2,q3⟩:=set_cells vs o w cs hb hfit
 exact hK _ _ q1 q2 q3
section
variable [HX]
def InsW (P:Program) (s:Nat) (t it:TypeId) (ov rep:FuncId) (v0 v1 v2:Value) (w:World) (K:Value → World → Prop):Prop:=
 sllW s v0 (some v1) none none fun _=>
 lenlW v2 fun t14=>
 binW .eql t14 (.int .i64 0) fun t16=>
 condW t16 (
   K v0 w) (
   lenlW v0 fun t19=>
   binW .eql v1 t19 fun t22=>
   condW t22 (
     semE P (Builtin.append_ #[t,t] t #[v0,v2]) w fun t25 w1=>
     K t25 w1) (
     binW .add t19 t14 fun t28=>
     capW v0 fun t30=>
     binW .gtr t28 t30 fun t31=>
     condW t31 (
       sllW s v0 none (some v1) none fun t34=>
       binW .add t19 t14 fun t37=>
       binW .sub t37 v1 fun t39=>
       semE P (Builtin.append_ #[t,it] t #[t34,t39]) w fun t40 w2=>
       sllW s t40 (some v1) none none fun t43=>
       semE P (Builtin.copy_ #[t,t] it #[t43,v2]) w2 fun _ w3=>
       binW .add v1 t14 fun t49=>
       sllW s t40 (some t49) none none fun t50=>
       sllW s v0 (some v1) none none fun t53=>
       semE P (Builtin.copy_ #[t,t] it #[t50,t53]) w3.drew fun _ w4=>
       K t40 w4) (
       binW .add t19 t14 fun t59=>
       sllW s v0 none (some t59) none fun t60=>
       binW .add v1 t14 fun t65=>
       sllW s t60 (some t65) none none fun t66=>
       callF P ov [v2,t66] w fun t67 w5=>
       unW .not t67 fun t68=>
       condW t68 (
         binW .add v1 t14 fun t72=>
         sllW s t60 (some t72) none none fun t73=>
         sllW s t60 (some v1) none none fun t76=>
         semE P (Builtin.copy_ #[t,t] it #[t73,t76]) w5.drew fun _ w6=>
         sllW s t60 (some v1) none none fun t80=>
         semE P (Builtin.copy_ #[t,t] it #[t80,v2]) w6 fun _ w7=>
         K t60 w7) (
         sllW s t60 (some t19) none none fun t86=>
         semE P (Builtin.copy_ #[t,t] it #[t86,v2]) w5 fun _ w8=>
         sllW s t60 (some v1) none none fun t91=>
         callF P rep [t91,t14] w8 fun _ w9=>
         K t60 w9))))
theorem sll_lo {s g o n cap i:Nat} {K:Value → Prop} (hi:i ≤ n) (hn:n ≤ cap) (hne:cap ≠ i):sllW s (.slice (some ⟨g,o,none⟩) n cap) (some (i64 (i:Nat))) none none K ↔ K (.slice (some ⟨g,o + i * s,none⟩) (n - i) (cap - i)):=by
 rw [sll_sl,bd_none,bd_none,bd_some]
 simp only [Int.toNat_natCast,if_neg hne,Option.map_some,add_mk]
 constructor
 · rintro ⟨_,_,h⟩; exact h
 · intro h; exact ⟨by omega,by omega,h⟩
theorem sll_hi {s g n cap i:Nat} {K:Value → Prop} (hi:i ≤ cap) (h0:0 < cap):sllW s (.slice (some ⟨g,0,none⟩) n cap) none (some (i64 (i:Nat))) none K ↔ K (.slice (some ⟨g,0,none⟩) i cap):=by
 rw [sll_sl,bd_none,bd_some,bd_none]
 simp only [Int.toNat_natCast,if_neg (show ¬ cap = 0 by omega),Option.map_some,add_mk,Nat.zero_mul,Nat.add_zero,Nat.sub_zero]
 constructor
 · rintro ⟨_,_,h⟩; exact h
 · intro h; exact ⟨by omega,by omega,h⟩
theorem insert_q {P:Program} {t it ov rep e T2:TypeId} {size bytes:Nat} (hT:ElemT P t e size bytes) (hit:P.underlying it = some (.int .i64))
   (hov:∀ {w:World} {a b oa ob la ca lb cb:Nat} {x y:List Value} {T1 T2:TypeId} {K:Value → World → Prop},a ≠ b → w.heap[a]? = some (.cells x.toArray T1 (0,0)) → w.heap[b]? = some (.cells y.toArray T2 (0,0)) → y ≠ [] → K (.bool false) w → callF P ov [.slice (some ⟨a,oa,none⟩) la ca,.slice (some ⟨b,ob,none⟩) lb cb] w K)
   {w:World} {base tb n i:Nat} {v:Value} {xs c:List Value} {K:Value → World → Prop} (hown:Own w base e size v n xs) (ht:w.heap[tb]? = some (.cells c.toArray T2 (0,0))) (hc:c.length = size) (h1:∀ u ∈ c,one1 u = true) (hx1:∀ u ∈ xs,one1 u = true)
   (hne:v.ownBlock ≠ some tb) (hi:i ≤ n) (hn:n ≤ 1000000) (hby:bytes ≤ 1000) (hbase:base ≤ w.heap.size)
   (hK:∀ v' w',Own w' base e size v' (n + 1) (xs.take (i * size) ++ c ++ xs.drop (i * size)) → Chg (fun k=>v.ownBlock = some k) w w' → (∀ k,v'.ownBlock = some k → v.ownBlock = some k ∨ w.heap.size ≤ k) → K v' w') :
   InsW P size t it ov rep v (i64 (i:Nat)) (.slice (some ⟨tb,0,none⟩) 1 1) w K:=by
 have hpos:=hT.pos
 have hmb:(n + 1) * bytes ≤ 140737488355328:=by
   have:=Nat.mul_le_mul (show n + 1 ≤ 1000001 by omega) hby
   omega
 have hsl:SlAt w T2 (.slice (some ⟨tb,0,none⟩) 1 1) 1 c:=⟨_,_,rfl,Nat.le_refl _,fun e=>(by cases e),fun _=>⟨tb,0,_,_,rfl,ht,fun j _=>by rw [Nat.zero_add]; simp⟩⟩
 have hl:=hown.1
 have hlen:lenlW v = fun K=>K (i64 (n:Nat)):=by
   funext K
   exact propext (lenl_at hown.sl K)
 unfold InsW
 -- the check of the bounds
 have chk:∀ (B:Value → Prop),(∀ x,B x) → sllW size v (some (i64 (i:Nat))) none none B:=fun B hB=>by
   obtain ⟨p,cap,rfl,hcap,_⟩:=hown.sl
   rw [sll_sl,bd_none,bd_none,bd_some]
   exact ⟨by omega,by omega,hB _⟩
 refine chk _ fun _=>?_
 rw [lenl_sl,bin_eql,decide_eq_false (by decide),condW_false,hlen]
 dsimp only
 rw [bin_eql,condW_dec]
 refine ⟨fun e1=>?_,fun e1=>?_⟩
 · obtain rfl:i = n:=by omega
   refine append_own3 hT hown hsl (by omega) h1 (by omega) hmb hbase fun v' w' hO hch hblk=>?_
   refine hK v' w' ?_ hch hblk
   have e1:xs.take (i * size) = xs:=List.take_of_length_le (by omega)
   have e2:xs.drop (i * size) = []:=List.drop_eq_nil_iff.2 (by omega)
   rw [e1,e2,List.append_nil]
   exact hO
 have hlt:i < n:=by omega
 have hsz:i * size < n * size:=Nat.mul_lt_mul_of_pos_right hlt hpos
 obtain ⟨_,⟨_,h0⟩ | ⟨g,cap,cur,rfl,hg,hgb,hnc,hcm,hcs,htake⟩⟩:=hown
 · omega
 have en1:IntKind.i64.wrap ((n:Int) + ((1:Nat):Int)) = ((n + 1:Nat):Int):=by rw [wrap_id (by omega) (by omega)]; omega
 have ei1:IntKind.i64.wrap ((i:Int) + ((1:Nat):Int)) = ((i + 1:Nat):Int):=by rw [wrap_id (by omega) (by omega)]; omega
 have hgne:tb ≠ g:=fun e=>hne (by rw [e]; rfl)
 have hgb':w.heap[g]? = some (.cells cur.toList.toArray e (0,0)):=by rw [Array.toArray_toList]; exact hgb
 have hcl:cur.toList.length = cap * size:=by rw [Array.length_toList]; exact hcs
 generalize cur.toList = L at *
 have hncap:n * size ≤ cap * size:=Nat.mul_le_mul_right _ hnc
 have hisz:i * size + size ≤ n * size:=by rw [← Nat.succ_mul]; exact Nat.mul_le_mul_right _ hlt
 -- the elements from the place on
 have hrest:(xs.drop (i * size)).length = (n - i) * size:=by rw [List.length_drop,hl,Nat.sub_mul]
 have hsrc0:∀ j u,(xs.drop (i * size))[j]? = some u → L[i * size + j]? = some u:=fun j u hj=>by
   rw [List.getElem?_drop,← htake,List.getElem?_take] at hj
   split at hj
   · exact hj
   · cases hj
 have hone:∀ u ∈ xs.drop (i * size),one1 u = true:=fun u hu=>hx1 u (List.mem_of_mem_drop hu)
 rw [bin_add,en1]
 have hcap:∀ K:Value → Prop,capW (.slice (some ⟨g,0,none⟩) n cap) K ↔ K (i64 (cap:Nat)):=fun K=>Iff.rfl
 rw [hcap,bin_gtr,condW_dec]
 refine ⟨fun hfull=>?_,fun hroom=>?_⟩
 · obtain rfl:cap = n:=by omega
   rw [sll_hi (by omega) (by omega),bin_add,en1,bin_sub,wrap_id (by omega) (by omega)]
   have ek:((cap + 1:Nat):Int) - (i:Int) = ((cap + 1 - i:Nat):Int):=by omega
   rw [ek]
   obtain ⟨inf,z,hinf,hz,h2,h3,h4⟩:=hT.get
   have hold:(Builtin.firstCells inf.size i (.slice (some ⟨g,0,none⟩) i cap)).run P w.drew = .ok (xs.take (i * size)).toArray w.drew:=by
     rw [h2]
     have hlt2:(xs.take (i * size)).length = i * size:=by rw [List.length_take]; omega
     have:=run_loadCells_list (P:=P) w.drew ⟨g,0,none⟩ (xs.take (i * size)) fun j u hj=>by
       rw [add_mk,cell_eq,heap_drew,hgb',cellO_some]
       rw [List.getElem?_take] at hj
       split at hj
       · rw [← htake,List.getElem?_take] at hj
         split at hj
         · rw [Nat.zero_add]; simpa using hj
         · cases hj
       · cases hj
     rw [hlt2] at this
     simpa [Builtin.firstCells] using this
   have hr:=Lib.run_append_grow_zeros (P:=P) w t it t e inf z .i64 .i64 hT.und hit hinf hz (some ⟨g,0,none⟩) i cap (xs.take (i * size)) hold (cap + 1 - i) (by omega) (by omega) (by omega) (by omega) (by rw [h3]; have:=Nat.mul_le_mul (show cap + 1 - i ≤ 1000001 by omega) hby; omega) (growslice_fits (by omega) (by rw [h3,show i + (cap + 1 - i) = cap + 1 by omega]; exact hmb))
   have ei:i + (cap + 1 - i) = cap + 1:=by omega
   rw [ei] at hr
   unfold semE
   rw [hr]
   dsimp only
   have hgc:cap + 1 ≤ grownCap w (cap + 1) cap e:=grownCap_ge w (cap + 1) cap e
   have hgm:grownCap w (cap + 1) cap e ≤ maxLen:=grownCap_le_maxLen _ _ _ _ (by simp [maxLen]; omega)
   generalize hN:grownCap w (cap + 1) cap e = N at *
   -- the new block
   have hzl:∀ k,(Builtin.zeroCells z.cells k).toList.length = k * size:=fun k=>by rw [Array.length_toList,size_zeroCells,h4]
   obtain ⟨Z,hZ,hZl⟩:∃ Z:List Value,(xs.take (i * size)).toArray ++ Builtin.zeroCells z.cells (cap + 1 - i) ++ Builtin.zeroCells z.cells (N - (cap + 1)) = (xs.take (i * size) ++ Z).toArray ∧ Z.length = (N - i) * size:=by
     refine ⟨(Builtin.zeroCells z.cells (cap + 1 - i)).toList ++ (Builtin.zeroCells z.cells (N - (cap + 1))).toList,?_,?_⟩
     · apply Array.ext'
       simp
     · rw [List.length_append,hzl,hzl,← Nat.add_mul]
       congr 1; omega
   rw [hZ]
   have hNi:(N - i) * size = size + (cap - i) * size + (N - (cap + 1)) * size:=by
     rw [show N - i = 1 + (cap - i) + (N - (cap + 1)) by omega,Nat.add_mul,Nat.add_mul,Nat.one_mul]
   have hx0:Ext w (w.drew.alloc (.cells (xs.take (i * size) ++ Z).toArray e)):=Chg.alloc (Chg.drew (Chg.refl _ _)) _
   have hb0:(w.drew.alloc (.cells (xs.take (i * size) ++ Z).toArray e)).heap[w.heap.size]? = some (.cells (xs.take (i * size) ++ Z).toArray e (0,0)):=heap_anew _ _ _ rfl
   have hz0:(w.drew.alloc (.cells (xs.take (i * size) ++ Z).toArray e)).heap.size = w.heap.size + 1:=by simp
   generalize (w.drew.alloc (.cells (xs.take (i * size) ++ Z).toArray e)) = w2 at *
   have hlt1:(xs.take (i * size)).length = i * size:=by rw [List.length_take]; omega
   rw [sll_lo (by omega) hgc (by omega)]
   have htlt:=at_lt ht
   have hglt:=at_lt hgb'
   refine copy_q hT (vs:=c) hb0 (by rw [hc,show Nat.min 1 (cap + 1 - i) = 1 by simp only [Nat.min_def]; split <;> omega,Nat.one_mul]) (fun j u hj=>?_) (by rw [List.length_append,hlt1,hZl,hc]; omega) h1 fun _ w3 hb3 hc3 hz3=>?_
   · rw [add_mk,cell_eq,hx0.at ht id,cellO_some,Nat.zero_add]
     simpa using hj
   rw [bin_add,ei1,sll_lo (by omega) hgc (by omega),sll_lo (by omega) (Nat.le_refl _) (by omega)]
   have hb3':w3.drew.heap[w.heap.size]? = some (.cells (xs.take (i * size) ++ c ++ Z.drop size).toArray e (0,0)):=by
     have ez:List.take (0 + i * size) (List.take (i * size) xs ++ Z) ++ c ++ List.drop (0 + i * size + c.length) (List.take (i * size) xs ++ Z) = xs.take (i * size) ++ c ++ Z.drop size:=by
       rw [Nat.zero_add,List.take_left' hlt1,← List.drop_drop,List.drop_left' hlt1,hc]
     rw [heap_drew,hb3,ez]
   have hg3:w3.drew.heap[g]? = some (.cells L.toArray e (0,0)):=by
     rw [heap_drew]
     exact hc3.at (hx0.at hgb' id) (by omega)
   have hfl:(xs.take (i * size) ++ c ++ Z.drop size).length = N * size:=by
     rw [List.length_append,List.length_append,hlt1,hc,List.length_drop,hZl,hNi,show N * size = (i + (N - i)) * size by congr 1; omega,Nat.add_mul,hNi]
     omega
   have hpre:(xs.take (i * size) ++ c).length = (i + 1) * size:=by rw [List.length_append,hlt1,hc,Nat.add_mul,Nat.one_mul]
   have hNn:(cap + 1) * size ≤ N * size:=Nat.mul_le_mul_right _ hgc
   have hsum:(i + 1) * size + (cap - i) * size = (cap + 1) * size:=by rw [← Nat.add_mul]; congr 1; omega
   refine copy_q hT (vs:=xs.drop (i * size)) hb3' (by rw [hrest,show Nat.min (cap - i) (cap + 1 - (i + 1)) = cap - i by simp only [Nat.min_def]; split <;> omega]) (fun j u hj=>?_) (by rw [hfl,hrest,Nat.zero_add]; omega) hone fun _ w4 hb4 hc4 hz4=>?_
   · rw [add_mk,cell_eq,hg3,cellO_some,Nat.zero_add]
     simpa using hsrc0 j u hj
   have hx4:Ext w w4:=(((hx0.new hc3 (Nat.le_refl _)).then (Chg.drew (Chg.refl (fun _=>False) w3)) fun _ _ e=>e.elim)).new hc4 (Nat.le_refl _)
   refine hK _ w4 ⟨?_,.inr ⟨w.heap.size,N,_,rfl,hbase,hb4,hgc,hgm,?_,?_⟩⟩ (Chg.of_ext hx4) fun k hk=>.inr ?_
   · rw [List.length_append,hpre,hrest,hsum]
   · rw [List.size_toArray,hrest,List.length_append,List.length_append,hrest,List.length_take,List.length_drop,hfl,Nat.zero_add]
     omega
   · rw [List.toList_toArray]
     rw [Nat.zero_add,List.take_left' hpre]
     refine List.take_left' ?_
     rw [List.length_append,hpre,hrest,hsum]
   · simp only [Value.ownBlock,Option.some.injEq] at hk
     omega
 · have hroom:n + 1 ≤ cap:=by omega
   rw [bin_add,en1,sll_hi hroom (by omega),bin_add,ei1,sll_lo (by omega) hroom (by omega)]
   have hLne:L ≠ []:=fun e=>by rw [e] at hcl; simp at hcl; have:=Nat.mul_lt_mul_of_pos_right (show 0 < cap by omega) hpos; omega
   refine hov hgne ht hgb' hLne ?_
   rw [un_not,Bool.not_false,condW_true,bin_add,ei1,sll_lo (by omega) hroom (by omega),sll_lo (by omega) hroom (by omega)]
   have hncap1:(n + 1) * size ≤ cap * size:=Nat.mul_le_mul_right _ hroom
   have hsum:(i + 1) * size + (n - i) * size = (n + 1) * size:=by rw [← Nat.add_mul]; congr 1; omega
   have hpre:(i + 1) * size = i * size + size:=by rw [Nat.add_mul,Nat.one_mul]
   have hgd:w.drew.heap[g]? = some (.cells L.toArray e (0,0)):=by rw [heap_drew]; exact hgb'
   refine copy_q hT (vs:=xs.drop (i * size)) hgd (by rw [hrest,show Nat.min (n + 1 - i) (n + 1 - (i + 1)) = n - i by simp only [Nat.min_def]; split <;> omega]) (fun j u hj=>?_) (by rw [hcl,hrest,Nat.zero_add]; omega) hone fun _ w3 hb3 hc3 hz3=>?_
   · rw [add_mk,cell_eq,hgd,cellO_some,Nat.zero_add]
     simpa using hsrc0 j u hj
   rw [sll_lo (by omega) hroom (by omega)]
   have htd:w.drew.heap[tb]? = some (.cells c.toArray T2 (0,0)):=by rw [heap_drew]; exact ht
   have ht3:=hc3.at htd hgne
   have hlt1:(L.take (i * size)).length = i * size:=by rw [List.length_take,hcl]; omega
   have hlt2:(L.take (0 + (i + 1) * size)).length = (i + 1) * size:=by rw [List.length_take,hcl,Nat.zero_add]; omega
   have hfl:(L.take (0 + (i + 1) * size) ++ xs.drop (i * size) ++ L.drop (0 + (i + 1) * size + (xs.drop (i * size)).length)).length = cap * size:=by
     rw [hrest,List.length_append,List.length_append,hlt2,hrest,List.length_drop,hcl,Nat.zero_add]
     omega
   refine copy_q hT (vs:=c) hb3 (by rw [hc,show Nat.min 1 (n + 1 - i) = 1 by simp only [Nat.min_def]; split <;> omega,Nat.one_mul]) (fun j u hj=>?_) (by rw [hfl,hc]; omega) h1 fun _ w4 hb4 hc4 hz4=>?_
   · rw [add_mk,cell_eq,ht3,cellO_some,Nat.zero_add]
     simpa using hj
   have hch:Chg (fun k=>(Value.slice (some ⟨g,0,none⟩) n cap).ownBlock = some k) w w4:=(((Chg.drew (Chg.refl (fun k=>k = g) w)).trans hc3).trans hc4).mono fun k _ e=>by rw [e]; rfl
   have hfin:(L.take (0 + (i + 1) * size) ++ xs.drop (i * size) ++ L.drop (0 + (i + 1) * size + (xs.drop (i * size)).length)).take (0 + i * size) ++ c ++ (L.take (0 + (i + 1) * size) ++ xs.drop (i * size) ++ L.drop (0 + (i + 1) * size + (xs.drop (i * size)).length)).drop (0 + i * size + c.length) = xs.take (i * size) ++ c ++ xs.drop (i * size) ++ L.drop ((i + 1) * size + (xs.drop (i * size)).length):=by
     rw [Nat.zero_add,Nat.zero_add,hc,← hpre,List.append_assoc (L.take ((i + 1) * size)),List.take_append_of_le_length (by rw [List.length_take,hcl]; omega),List.take_take,Nat.min_eq_left (by omega)]
     have e1:L.take (i * size) = xs.take (i * size):=by rw [← htake,List.take_take,Nat.min_eq_left (by omega)]
     have e2:(L.take ((i + 1) * size) ++ (xs.drop (i * size) ++ L.drop ((i + 1) * size + (xs.drop (i * size)).length))).drop ((i + 1) * size) = xs.drop (i * size) ++ L.drop ((i + 1) * size + (xs.drop (i * size)).length):=List.drop_left' (by rw [List.length_take,hcl]; omega)
     rw [e1,e2]
     simp
   rw [hfin] at hb4
   have hxl:(xs.take (i * size)).length = i * size:=by rw [List.length_take]; omega
   refine hK _ w4 ⟨?_,.inr ⟨g,cap,_,rfl,hg,hb4,hroom,hcm,?_,?_⟩⟩ hch fun k hk=>.inl hk
   · rw [List.length_append,List.length_append,hxl,hc,hrest]; omega
   · rw [List.size_toArray,hrest,List.length_append,List.length_append,List.length_append,hxl,hc,hrest,List.length_drop,hcl]; omega
   · rw [List.toList_toArray]
     refine List.take_left' ?_
     rw [List.length_append,List.length_append,hxl,hc,hrest]; omega
end
end Go.Eng
namespace Go.Proofs.YtnoepcndjljolaaGreatDoor
open Go Go.Eng
set_option maxRecDepth 100000
section
variable [HX]
theorem shape_of {w:World} {a:Nat} {x:List Value} {T:TypeId} (h:w.heap[a]? = some (.cells x.toArray T (0,0))):w.shape? a = some (T,x.length):=by simp [World.shape?,h]
theorem ov_s {w:World} {a b oa ob la ca lb cb:Nat} {x y:List Value} {T1 T2:TypeId} {K:Value → World → Prop} (hne:a ≠ b) (ha:w.heap[a]? = some (.cells x.toArray T1 (0,0))) (hb:w.heap[b]? = some (.cells y.toArray T2 (0,0))) (hy:y ≠ []) (hK:K (.bool false) w) :
   callF Tryz.prog 211 [.slice (some ⟨a,oa,none⟩) la ca,.slice (some ⟨b,ob,none⟩) lb cb] w K:=by
 unfold callF
 rw [run_callFunc_extern Tryz.func211 (by kernel_rfl) (by kernel_rfl) (by kernel_rfl) (e:=Extern.SlicesOverlaps.overlaps #[38,38] #[4]) (by kernel_rfl),
   Lib.run_overlaps_apart w 38 4 ST (by kernel_rfl) 1 (fun w=>by kernel_rfl) ⟨a,oa,none⟩ ⟨b,ob,none⟩ la ca lb cb hne T1 T2 x.length y.length (shape_of ha) (shape_of hb) (fun e=>hy (List.eq_nil_of_length_eq_zero e)) (by rw [frozen_eq,ha,frO_zero]) (by rw [frozen_eq,ha,frO_zero])]
 exact hK
theorem ov_v {w:World} {a b oa ob la ca lb cb:Nat} {x y:List Value} {T1 T2:TypeId} {K:Value → World → Prop} (hne:a ≠ b) (ha:w.heap[a]? = some (.cells x.toArray T1 (0,0))) (hb:w.heap[b]? = some (.cells y.toArray T2 (0,0))) (hy:y ≠ []) (hK:K (.bool false) w) :
   callF Tryz.prog 213 [.slice (some ⟨a,oa,none⟩) la ca,.slice (some ⟨b,ob,none⟩) lb cb] w K:=by
 unfold callF
 rw [run_callFunc_extern Tryz.func213 (by kernel_rfl) (by kernel_rfl) (by kernel_rfl) (e:=Extern.SlicesOverlaps.overlaps #[37,37] #[4]) (by kernel_rfl),
   Lib.run_overlaps_apart w 37 4 VT (by kernel_rfl) 5 (fun w=>by kernel_rfl) ⟨a,oa,none⟩ ⟨b,ob,none⟩ la ca lb cb hne T1 T2 x.length y.length (shape_of ha) (shape_of hb) (fun e=>hy (List.eq_nil_of_length_eq_zero e)) (by rw [frozen_eq,ha,frO_zero]) (by rw [frozen_eq,ha,frO_zero])]
 exact hK
theorem insert_s {w:World} {base tb n i:Nat} {v:Value} {xs c:List Value} {T2:TypeId} {K:Value → World → Prop} (hown:Own w base ST 1 v n xs) (ht:w.heap[tb]? = some (.cells c.toArray T2 (0,0))) (hc:c.length = 1) (h1:∀ u ∈ c,one1 u = true) (hx1:∀ u ∈ xs,one1 u = true)
   (hne:v.ownBlock ≠ some tb) (hi:i ≤ n) (hn:n ≤ 1000000) (hbase:base ≤ w.heap.size)
   (hK:∀ v' w',Own w' base ST 1 v' (n + 1) (xs.take (i * 1) ++ c ++ xs.drop (i * 1)) → Chg (fun k=>v.ownBlock = some k) w w' → (∀ k,v'.ownBlock = some k → v.ownBlock = some k ∨ w.heap.size ≤ k) → K v' w') :
   callF Tryz.prog 162 [v,i64 (i:Nat),.slice (some ⟨tb,0,none⟩) 1 1] w K:=by
 refine W162_ok ?_
 show InsW Tryz.prog 1 38 3 211 212 _ _ _ _ _
 exact insert_q elem_s (by kernel_rfl) ov_s hown ht hc h1 hx1 hne hi hn (by decide) hbase hK
theorem insert_v {w:World} {base tb n i:Nat} {v:Value} {xs c:List Value} {T2:TypeId} {K:Value → World → Prop} (hown:Own w base VT 5 v n xs) (ht:w.heap[tb]? = some (.cells c.toArray T2 (0,0))) (hc:c.length = 5) (h1:∀ u ∈ c,one1 u = true) (hx1:∀ u ∈ xs,one1 u = true)
   (hne:v.ownBlock ≠ some tb) (hi:i ≤ n) (hn:n ≤ 1000000) (hbase:base ≤ w.heap.size)
   (hK:∀ v' w',Own w' base VT 5 v' (n + 1) (xs.take (i * 5) ++ c ++ xs.drop (i * 5)) → Chg (fun k=>v.ownBlock = some k) w w' → (∀ k,v'.ownBlock = some k → v.ownBlock = some k ∨ w.heap.size ≤ k) → K v' w') :
   callF Tryz.prog 163 [v,i64 (i:Nat),.slice (some ⟨tb,0,none⟩) 1 1] w K:=by
 refine W163_ok ?_
 show InsW Tryz.prog 5 37 3 213 214 _ _ _ _ _
 exact insert_q elem_v (by kernel_rfl) ov_v hown ht hc h1 hx1 hne hi hn (by decide) hbase hK
end
end Go.Proofs.YtnoepcndjljolaaGreatDoor
namespace Go.Proofs.YtnoepcndjljolaaGreatDoor
open Go Go.Eng
set_option maxRecDepth 100000
theorem VRepsP.len {G:Nat → Prop} {w:World} {xs:List JV} {L:List Value} (h:VRepsP G w xs L):L.length = xs.length * 5:=(VRepsP.rep h).len
theorem VRepsP.app {G:Nat → Prop} {w:World}:∀ {xs ys:List JV} {L M:List Value},VRepsP G w xs L → VRepsP G w ys M → VRepsP G w (xs ++ ys) (L ++ M)
 | [],ys,L,M,h,h'=>by simp only [VRepsP] at h; subst h; exact h'
 | x :: xs,ys,L,M,h,h'=>by
   simp only [VRepsP] at h
   obtain ⟨c,r,rfl,hc,hr⟩:=h
   simp only [List.cons_append,VRepsP]
   exact ⟨c,r ++ M,by simp,hc,VRepsP.app hr h'⟩
theorem VRepsP.cut {G:Nat → Prop} {w:World}:∀ (i:Nat) {xs:List JV} {L:List Value},VRepsP G w xs L → VRepsP G w (xs.take i) (L.take (i * 5)) ∧ VRepsP G w (xs.drop i) (L.drop (i * 5))
 | 0,xs,L,h=>by simp only [Nat.zero_mul,List.take_zero,List.drop_zero,VRepsP]; exact ⟨trivial,h⟩
 | i + 1,[],L,h=>by simp only [VRepsP] at h; subst h; simp [VRepsP]
 | i + 1,x :: xs,L,h=>by
   simp only [VRepsP] at h
   obtain ⟨c,r,rfl,hc,hr⟩:=h
   have h5:=hc.rep.len
   obtain ⟨h1,h2⟩:=VRepsP.cut i hr
   have e1:(c ++ r).take ((i + 1) * 5) = c ++ r.take (i * 5):=by
     rw [show (i + 1) * 5 = c.length + i * 5 by omega,List.take_append,List.take_of_length_le (by omega),Nat.add_sub_cancel_left]
   have e2:(c ++ r).drop ((i + 1) * 5) = r.drop (i * 5):=by
     rw [show (i + 1) * 5 = c.length + i * 5 by omega,List.drop_append]
     simp
   rw [e1,e2]
   simp only [List.take_succ_cons,List.drop_succ_cons,VRepsP]
   exact ⟨⟨c,_,rfl,hc,h1⟩,h2⟩
theorem VRepsP.one' {G:Nat → Prop} {w:World} {x:JV} {cs:List Value} (h:VRepP G w x cs):VRepsP G w [x] cs:=by
 simp only [VRepsP]; exact ⟨cs,[],by simp,h,rfl⟩
theorem ins_split {l:List (Str × JV)} {k:Str} {x:JV} {i:Nat} (hk:k ∉ l.map (·.1)) (h1:∀ j a,j < i → (l.map (·.1))[j]? = some a → Op.bytesLess a k = true) (h2:∀ j a,i ≤ j → (l.map (·.1))[j]? = some a → Op.bytesLess a k = false):insP l k x = l.take i ++ (k,x) :: l.drop i:=by
 induction l generalizing i with
 | nil=>simp [insP]
 | cons q r ih=>
   obtain ⟨a,y⟩:=q
   simp only [List.map_cons,List.mem_cons,not_or] at hk
   simp only [insP]
   cases i with
   | zero=>
     have:=h2 0 a (Nat.zero_le _) rfl
     have hka:Op.bytesLess k a = true:=by
       rcases less_tri k a with h | h | h
       · exact h
       · exact absurd h hk.1
       · rw [this] at h; cases h
     rw [if_pos hka]; rfl
   | succ i=>
     have:=h1 0 a (by omega) rfl
     rw [if_neg (by rw [less_anti this]; simp),ih (i:=i) hk.2 (fun j b hj hb=>h1 (j + 1) b (by omega) hb) (fun j b hj hb=>h2 (j + 1) b (by omega) hb)]
     rfl
theorem own_chg {w w':World} {B:Nat} {e:TypeId} {size:Nat} {v:Value} {n:Nat} {xs:List Value} {S:Nat → Prop} (h:Own w B e size v n xs) (hc:Chg S w w') (hS:∀ k,v.ownBlock = some k → ¬ S k):Own w' B e size v n xs:=by
 obtain ⟨hl,h | ⟨g,cap,cur,rfl,h1,h2,h3⟩⟩:=h
 · exact ⟨hl,.inl h⟩
 · exact ⟨hl,.inr ⟨g,cap,cur,rfl,h1,hc.at h2 (hS g rfl),h3⟩⟩
theorem own_in {w:World} {B:Nat} {e:TypeId} {size:Nat} {v:Value} {n k:Nat} {xs:List Value} (h:Own w B e size v n xs) (hk:v.ownBlock = some k):B ≤ k ∧ k < w.heap.size ∧ ∃ c,w.heap[k]? = some (.cells c e (0,0)):=by
 obtain ⟨hl,⟨rfl,_⟩ | ⟨g,cap,cur,rfl,h1,h2,h3⟩⟩:=h
 · cases hk
 · simp only [Value.ownBlock,Option.some.injEq] at hk
   subst hk
   exact ⟨h1,at_lt h2,_,h2⟩
theorem own_one {w:World} {B:Nat} {e:TypeId} {size:Nat} {v:Value} {n:Nat} {xs:List Value} (h:Own w B e size v n xs):one1 v = true:=by obtain ⟨p,c,rfl,_⟩:=h.sl.shape; rfl
theorem strs_one (l:List Str):∀ u ∈ l.map str,one1 u = true:=fun u hu=>by
 obtain ⟨s,_,rfl⟩:=List.mem_map.1 hu
 rfl
section
variable [HX]
theorem clone_so {v:Value} {T:TypeId} {l:List Str} {w:World} {K:Value → World → Prop} (h:SlAt w T v l.length (l.map str)) (hl:l.length ≤ 1000000)
   (hK:∀ v' w',Ext w w' → Own w' w.heap.size ST 1 v' l.length (l.map str) → K v' w'):callF Tryz.prog 72 [v] w K:=by
 refine W72_ok ?_
 unfold W72
 obtain ⟨p,cap,rfl,hcap,hp,hc⟩:=h
 cases p with
 | none=>
   obtain ⟨h0,rfl⟩:=hp rfl
   have:l = []:=List.eq_nil_of_length_eq_zero h0
   subst this
   have e:∀ K:Value → Prop,eqW .slice false (.slice none ([]:List Str).length 0) (.slice none 0 0) K ↔ K (.bool true):=fun K=>Iff.rfl
   rw [e]
   simp only [wsv,wsg,wsh,wsl,cond_true,cond_false,exists_eq_left',wsu,Nat.reduceAdd,Nat.reduceLT,Nat.lt_add_one,Nat.zero_lt_succ,decide_true,decide_false,ne_eq,reduceCtorEq]
   exact hK _ w (Chg.refl _ _) ⟨rfl,.inl ⟨rfl,rfl⟩⟩
 | some a=>
   have e:∀ K:Value → Prop,eqW .slice false (.slice (some a) l.length cap) (.slice none 0 0) K ↔ K (.bool false):=fun K=>Iff.rfl
   rw [e]
   unfold bslW
   simp only [wsv,wsg,wsh,wsl,cond_true,cond_false,exists_eq_left',wsu,Nat.reduceAdd,Nat.reduceLT,Nat.lt_add_one,Nat.zero_lt_succ,decide_true,decide_false,ne_eq,reduceCtorEq]
   refine append_own3 elem_s (base:=w.heap.size) (own_new (w:=w) (base:=w.heap.size) (e:=ST) (size:=1) (n:=0) (cs:=[]) (Nat.le_refl _) rfl (by omega)) (x:=.slice (some a) l.length cap) (T:=T) (m:=l.length) (news:=l.map str) ?_ (by simp) ?_ (by omega) (by omega) (by rw [size_alloc]; omega) fun v' w' h' hc' hb'=>?_
   · have hx:Ext w (w.alloc (.cells ([]:List Value).toArray ST)):=(by repeat (first | assumption | exact Chg.refl _ _ | refine Chg.drew ?_ | refine Chg.alloc ?_ _ | refine Chg.set ?_ (by first | exact .inl rfl | exact .inr (by omega) | exact .inr (by simp only [size_set,size_alloc,size_drew]; omega) | (left; simp; done)) _ | exact Chg.of_ext (by assumption)))
     exact SlAt.ext ⟨some a,cap,rfl,hcap,hp,hc⟩ hx
   · exact strs_one l
   · have hx:Ext w (w.alloc (.cells ([]:List Value).toArray ST)):=(by repeat (first | assumption | exact Chg.refl _ _ | refine Chg.drew ?_ | refine Chg.alloc ?_ _ | refine Chg.set ?_ (by first | exact .inl rfl | exact .inr (by omega) | exact .inr (by simp only [size_set,size_alloc,size_drew]; omega) | (left; simp; done)) _ | exact Chg.of_ext (by assumption)))
     refine hK v' w' (hx.then hc' fun k hk e=>?_) (by simpa using h')
     simp only [Value.ownBlock,Option.some.injEq] at e
     omega
theorem clones_o {xs:List JV} (hf:∀ x ∈ xs,fewM x = true)
   {sv:Value} {w:World} {K:Value → World → Prop} (h:ItemsAt w sv xs) (hl:xs.length ≤ 1000000)
   (hK:∀ sv' w' L,Ext w w' → Own w' w.heap.size VT 5 sv' xs.length L → VRepsP (fun k=>w.heap.size ≤ k ∧ sv'.ownBlock ≠ some k) w' xs L → K sv' w'):callF Tryz.prog 130 [sv] w K:=by
 refine W130_ok ?_
 unfold W130
 rw [h.len]
 refine ⟨fun s w'=>∃ i v L,i ≤ xs.length ∧ s = [v,i64 (i:Nat)] ∧ Ext w w' ∧ Own w' w.heap.size VT 5 v i L ∧ VRepsP (fun k=>w.heap.size ≤ k ∧ v.ownBlock ≠ some k) w' (xs.take i) L,
   fun s _=>match s with | [_,.int _ i]=>xs.length - i.toNat | _=>0,⟨0,_,[],by omega,rfl,Chg.refl _ _,⟨by simp,.inl ⟨rfl,rfl⟩⟩,by simp [VRepsP]⟩,?_⟩
 rintro s g w2 ⟨i,v,L,hi,rfl,hx2,hO,hr⟩
 rcases Nat.lt_or_ge i xs.length with hlt | hge
 · obtain ⟨x,hxi⟩:∃ x,xs[i]? = some x:=⟨_,List.getElem?_eq_getElem hlt⟩
   have hltI:(i:Int) < (xs.length:Int):=by omega
   simp only [wsv,wsg,wsh,wsl,cond_true,cond_false,exists_eq_left',wsu,Nat.reduceAdd,Nat.reduceLT,Nat.lt_add_one,Nat.zero_lt_succ,decide_true,decide_false,ne_eq,reduceCtorEq,hltI]
   refine (h.ext hx2).at hxi fun cs hcs=>?_
   refine copy_new hcs fun p w3 sp kp hP hx3=>?_
   refine hP.ld fun cs2 h2=>?_
   refine clone_p x (hf x (List.mem_of_getElem? hxi)) h2 fun cs3 w4 hx4 h3=>?_
   refine row_v h3.rep.len fun t w5 ht hx5=>?_
   have hx25:=hx3.trans (hx4.trans hx5)
   have hO5:=hO.ext hx25
   have s0:=hx2.size
   have s3:=hx3.size
   have s25:=hx25.size
   have hglt:∀ k,v.ownBlock = some k → k < w2.heap.size:=fun k hk=>(World.ownsRow.lt hO k hk).2
   refine append_own3 elem_v hO5 ht (m:=1) (by rw [h3.rep.len]) h3.rep.one (by omega) (by omega) (by omega) fun v' w6 h6 hc6 hb6=>?_
   have hx6:Ext w w6:=(hx2.trans hx25).then hc6 fun k hk e=>by
     have:=(own_ge hO5 e).1; omega
   rw [up1 (by omega)]
   refine ⟨⟨i + 1,v',L ++ cs3,hlt,rfl,hx6,h6,?_⟩,by simp only [Int.toNat_natCast]; omega⟩
   have e:xs.take (i + 1) = xs.take i ++ [x]:=by rw [List.take_add_one,hxi]; rfl
   rw [e]
   have hr5:=VRepsP.chg hx25 (fun _ _ _ e=>e) hr
   have h35:=VRepP.chg hx5 (fun _ _ _ e=>e) h3
   have hall:VRepsP (fun k=>w.heap.size ≤ k ∧ v.ownBlock ≠ some k) w5 (xs.take i ++ [x]) (L ++ cs3):=
     hr5.snoc (h35.mono fun k _ hk=>⟨by have:w3.heap.size ≤ k:=hk; omega,fun e=>by have:=hglt k e; have:w3.heap.size ≤ k:=hk; omega⟩)
   have hall2:VRepsP (fun k=>(w.heap.size ≤ k ∧ v.ownBlock ≠ some k) ∧ k < w5.heap.size) w5 (xs.take i ++ [x]) (L ++ cs3):=hall.mono fun k hlt hk=>⟨hk,hlt⟩
   have hall3:=VRepsP.chg hc6 (fun k hk _ e=>hk.1.2 e) hall2
   exact hall3.mono fun k _ hk=>⟨hk.1.1,fun e=>by
     rcases hb6 k e with h | h
     · exact hk.1.2 h
     · omega⟩
 · obtain rfl:i = xs.length:=by omega
   simp only [wsv,wsg,wsh,wsl,cond_true,cond_false,exists_eq_left',wsu,Nat.reduceAdd,Nat.reduceLT,Nat.lt_add_one,Nat.zero_lt_succ,decide_true,decide_false,ne_eq,reduceCtorEq,Int.lt_irrefl]
   rw [List.take_length] at hr
   exact hK v w2 L hx2 hO hr
structure OwnP (w:World) (B:Nat) (v:JV) (sv kv:Value) (L:List Value):Prop where
 items:Own w B VT 5 sv v.xs.length L
 reps:VRepsP (fun q=>B ≤ q ∧ sv.ownBlock ≠ some q ∧ kv.ownBlock ≠ some q) w v.xs L
 keys:Own w B ST 1 kv v.ks.length (v.ks.map str)
 fits:Fits v.xs.length v.ks v.t
theorem OwnP.ext {w w':World} {B:Nat} {v:JV} {sv kv:Value} {L:List Value} (h:OwnP w B v sv kv L) (hx:Ext w w'):OwnP w' B v sv kv L:=⟨own_chg h.items hx fun _ _ e=>e,VRepsP.chg hx (fun _ _ _ e=>e) h.reps,own_chg h.keys hx fun _ _ e=>e,h.fits⟩
theorem clone_o {v:JV} {cs:List Value} {w:World} {K:Value → World → Prop} (hfew:fewM v = true) (h:VRep w v cs) (hK:∀ sv kv L w',Ext w w' → OwnP w' w.heap.size v sv kv L → K (.agg [i64 v.k,.bool v.b,str v.t,sv,kv].toArray) w') :
   callF Tryz.prog 71 [.agg cs.toArray] w K:=by
 rw [fewM_eq,fewL_all] at hfew
 simp only [Bool.and_eq_true,decide_eq_true_eq,List.all_eq_true] at hfew
 obtain ⟨⟨f1,f2⟩,f3⟩:=hfew
 refine W71_ok ?_
 unfold W71
 refine box_val h fun a w1 sv kv hB hx ha=>?_
 refine alloc_new fun b w2 hb hz2 hbb hx2=>?_
 have hxd:Ext w2 w2.drew:=Chg.drew (Chg.refl (fun _=>False) w2)
 have hB2:=hB.ext hx2
 have hBd:=hB2.ext hxd
 have hbd:=hxd.at hbb id
 have sd:w2.drew.heap.size = w2.heap.size:=rfl
 simp only [wsv,wsg,wsh,wsl,cond_true,cond_false,exists_eq_left',wsu,Nat.reduceAdd,Nat.reduceLT,Nat.lt_add_one,Nat.zero_lt_succ,decide_true,decide_false,ne_eq,reduceCtorEq,wsh,hB2.hb]
 obtain ⟨T1,k1⟩:=hBd.keys
 refine clone_so k1 (by omega) fun kv' w3 hx3 hk3=>?_
 have hB3:=hBd.ext hx3
 have hb3:=hx3.at hbd id
 have s3:=hx3.size
 simp only [wsv,wsg,wsh,wsl,cond_true,cond_false,exists_eq_left',wsu,Nat.reduceAdd,Nat.reduceLT,Nat.lt_add_one,Nat.zero_lt_succ,decide_true,decide_false,ne_eq,reduceCtorEq,wsh,hB3.hb]
 refine clones_o f3 hB3.itemsAt (by omega) fun sv' w4 L hx4 hL1 hL2=>?_
 have hB4:=hB3.ext hx4
 have hb4:=hx4.at hb3 id
 have s1:=hx.size
 have hak:=at_lt hB.hb
 have one1:one1 sv' = true ∧ one1 kv' = true:=⟨own_one hL1,own_one hk3⟩
 refine st_at hB4.hb one1.2 (by simp) fun w5 hz5 ha5 hc5=>?_
 have ha5:w5.heap[a]? = some (.cells [i64 v.k,.bool v.b,str v.t,sv,kv'].toArray VT (0,0)):=by rw [ha5]; simp
 refine st_at ha5 one1.1 (by simp) fun w6 hz6 ha6 hc6=>?_
 have ha6:w6.heap[a]? = some (.cells [i64 v.k,.bool v.b,str v.t,sv',kv'].toArray VT (0,0)):=by rw [ha6]; simp
 refine ld_all ha6 rfl ?_
 have hb6:=hc6.at (hc5.at hb4 (by omega)) (by omega)
 refine ret_agg hb6 rfl rfl (obj_one one1.1 one1.2) fun w7 hc7=>?_
 have hx1:Ext w w4:=hx.trans (hx2.trans (hxd.trans (hx3.trans hx4)))
 have hx5:Ext w w7:=((hx1.new hc5 (by omega)).new hc6 (by omega)).new hc7 (by omega)
 have hch:Chg (fun k=>k = a ∨ k = b) w4 w7:=((hc5.mono fun k _ e=>.inl e).trans (hc6.mono fun k _ e=>.inl e)).trans (hc7.mono fun k _ e=>.inr e)
 have hkb:∀ k,kv'.ownBlock = some k → w2.drew.heap.size ≤ k ∧ k < w3.heap.size:=fun k hk=>⟨(own_in hk3 hk).1,(own_in hk3 hk).2.1⟩
 have hib:∀ k,sv'.ownBlock = some k → w3.heap.size ≤ k:=fun k hk=>(own_in hL1 hk).1
 have lower:∀ {e:TypeId} {size n:Nat} {v:Value} {xs:List Value} {B B':Nat} {w:World},B' ≤ B → Own w B e size v n xs → Own w B' e size v n xs:=fun hle h=>by
   obtain ⟨hl,h | ⟨g,cap,cur,he,h1,h2⟩⟩:=h
   · exact ⟨hl,.inl h⟩
   · exact ⟨hl,.inr ⟨g,cap,cur,he,by omega,h2⟩⟩
 refine hK sv' kv' L w7 hx5 ⟨lower (by omega) (own_chg hL1 hch fun k hk e=>by have:=hib k hk; omega),?_,lower (by omega) (own_chg (hk3.ext hx4) hch fun k hk e=>by have:=hkb k hk; omega),hB.fits⟩
 refine VRepsP.mono (fun k _ hk=>?_) (VRepsP.chg (G:=fun k=>w3.heap.size ≤ k ∧ sv'.ownBlock ≠ some k) hch (fun k hk _ e=>by have:=hk.1; omega) hL2)
 exact ⟨by have:=hk.1; omega,hk.2,fun e=>by have:=hkb k e; have:=hk.1; omega⟩
end
end Go.Proofs.YtnoepcndjljolaaGreatDoor
namespace Go.Proofs.YtnoepcndjljolaaGreatDoor
open Go Go.Eng
set_option maxRecDepth 100000
def Free (B:Nat) (sv kv:Value) (q:Nat):Prop:=B ≤ q ∧ sv.ownBlock ≠ some q ∧ kv.ownBlock ≠ some q
section
variable [HX]
theorem rows_ne {w:World} {B n m:Nat} {sv kv:Value} {L M:List Value} (h:Own w B VT 5 sv n L) (h':Own w B ST 1 kv m M) {q:Nat} (h1:sv.ownBlock = some q):kv.ownBlock ≠ some q:=fun e=>by
 obtain ⟨_,_,c,hc⟩:=own_in h h1
 obtain ⟨_,_,c',hc'⟩:=own_in h' e
 rw [hc] at hc'
 simp only [Option.some.injEq,Obj.cells.injEq] at hc'
 exact absurd hc'.2.1 (by decide)
theorem rowS {w:World} {x:Str} {K:Value → World → Prop} (hK:∀ a w',a = w.heap.size → w'.heap.size = w.heap.size + 1 → w'.heap[a]? = some (.cells [str x].toArray ST (0,0)) → Ext w w' → K (.slice (some ⟨a,0,none⟩) 1 1) w'):bslW ST 1 [.string (ofL [])] [(0,1,str x)] w K:=by
 unfold bslW
 simp only [wsv,wsg,wsh,wsl,cond_true,cond_false,exists_eq_left',wsu,Nat.reduceAdd,Nat.reduceLT,Nat.lt_add_one,Nat.zero_lt_succ,decide_true,decide_false,ne_eq,reduceCtorEq]
 exact row_new fun a w' h1 h2 h3 h4 _=>hK a w' h1 h2 h3 h4
theorem rowV {w:World} {cs:List Value} {K:Value → World → Prop} (hc:cs.length = 5) (hK:∀ a w',a = w.heap.size → w'.heap.size = w.heap.size + 1 → w'.heap[a]? = some (.cells cs.toArray VT (0,0)) → Ext w w' → K (.slice (some ⟨a,0,none⟩) 1 1) w'):bslW VT 1 [(.int .i64 0),(.bool false),(.string (ofL [])),(.slice none 0 0),(.slice none 0 0)] [(0,5,.agg cs.toArray)] w K:=by
 unfold bslW
 have hp:∀ K:List Value → Prop,K cs → putW [(.int .i64 0),(.bool false),(.string (ofL [])),(.slice none 0 0),(.slice none 0 0)] [(0,5,.agg cs.toArray)] K:=by
   intro K hK
   refine ⟨by simp [Value.cells,hc],by simp,?_⟩
   have:List.take 0 [(Value.int .i64 0),(.bool false),(.string (ofL [])),(.slice none 0 0),(.slice none 0 0)] ++ ((Value.agg cs.toArray).cells.toList ++ List.drop (0 + 5) [(Value.int .i64 0),(.bool false),(.string (ofL [])),(.slice none 0 0),(.slice none 0 0)]) = cs:=by simp [Value.cells]
   rw [this]
   exact hK
 refine hp _ ?_
 exact row_new fun a w' h1 h2 h3 h4 _=>hK a w' h1 h2 h3 h4
theorem put_p {l:List (Str × JV)} {k:Str} {x:JV} {sv kv:Value} {L cs:List Value} {B:Nat} {w:World} {K:Value → World → Prop} (h:OwnP w B (mkO l) sv kv L) (hx:VRepP (Free B sv kv) w x cs) (hr:Rise (l.map (·.1))) (hk:k ∉ l.map (·.1)) (hl:l.length ≤ 99999) (hkl:k.length ≤ 9223372036854775807)
   (hB:B ≤ w.heap.size) (hK:∀ es w',Chg (fun q=>sv.ownBlock = some q ∨ kv.ownBlock = some q) w w' → VRepP (From B) w' (mkO (insP l k x)) es → K (.agg es.toArray) w') :
   callF Tryz.prog 107 [.agg [i64 6,.bool false,str [],sv,kv].toArray,str k,.agg cs.toArray] w K:=by
 have hkeys:(mkO l).ks = l.map (·.1):=rfl
 have hxs:(mkO l).xs = l.map (·.2):=rfl
 have hO:=h.items
 have hM:=h.keys
 rw [hxs] at hO
 rw [hkeys] at hM
 have hn1:(l.map (·.2)).length = l.length:=List.length_map _
 have hn2:(l.map (·.1)).length = l.length:=List.length_map _
 rw [hn1] at hO
 rw [hn2] at hM
 have hrp:=h.reps
 rw [hxs] at hrp
 have hcs5:=hx.rep.len
 have hone:=hx.rep.one
 obtain ⟨f1,f2,f3,f4⟩:=h.fits
 refine W107_ok ?_
 unfold W107
 have o1:=own_one hO
 have o2:=own_one hM
 refine box_new (z:=[i64 6,.bool false,str [],sv,kv]) fun a3 w1 ha3 hz1 hb3 hx1=>?_
 refine box_new (z:=cs) fun a5 w2 ha5 hz2 hb5 hx2=>?_
 refine alloc_new fun a6 w3 ha6 hz3 hb6 hx3=>?_
 have hb3:=(hx2.trans hx3).at hb3 id
 have hb5:=hx3.at hb5 id
 have hx03:=(hx1.trans hx2).trans hx3
 rw [fld_ptr,ld_one]
 refine ⟨kv,by rw [add_mk,cell_eq,hb3]; rfl,?_⟩
 have hsk:SlAt w3 ST kv (l.map (·.1)).length ((l.map (·.1)).map str):=by rw [hn2]; exact hM.sl.ext hx03
 refine search_p hsk (by rw [hn2]; omega) hr fun i _ hlo hhi hile=>?_
 rw [hn2] at hile
 have hnone:(idxK (l.map (·.1)) k).isSome = false:=by rw [idxK_none.2 hk]; rfl
 rw [hnone]
 simp only [ext_tuple]
 refine ⟨_,rfl,_,rfl,?_⟩
 rw [condW_false]
 have hins:=ins_split hk hlo hhi (x:=x)
 have hsvlt:∀ q,sv.ownBlock = some q → q < w.heap.size:=fun q hq=>(own_in hO hq).2.1
 have hkvlt:∀ q,kv.ownBlock = some q → q < w.heap.size:=fun q hq=>(own_in hM hq).2.1
 -- the key's row
 have insK:∀ {w4:World} {tb:Nat} {K':Value → World → Prop},Chg (fun q=>False) w w4 → w.heap.size ≤ tb → w4.heap[tb]? = some (.cells [str k].toArray ST (0,0)) →
     (∀ kv' w5,Own w5 B ST 1 kv' (l.length + 1) (((l.map (·.1)).map str).take (i * 1) ++ [str k] ++ ((l.map (·.1)).map str).drop (i * 1)) → Chg (fun q=>kv.ownBlock = some q) w4 w5 → (∀ q,kv'.ownBlock = some q → kv.ownBlock = some q ∨ w4.heap.size ≤ q) → K' kv' w5) →
     callF Tryz.prog 162 [kv,i64 (i:Nat),.slice (some ⟨tb,0,none⟩) 1 1] w4 K':=fun {w4 tb K'} hc htb ht hK'=>
   insert_s (own_chg hM hc fun _ _ e=>e) ht rfl (fun u hu=>by rw [List.mem_singleton.1 hu]; rfl) (strs_one _) (fun e=>by have:=hkvlt _ e; omega) hile (by omega) (by have:=hc.size; omega) hK'
 have insV:∀ {w4:World} {tb:Nat} {K':Value → World → Prop},Chg (fun q=>kv.ownBlock = some q) w w4 → w.heap.size ≤ tb → w4.heap[tb]? = some (.cells cs.toArray VT (0,0)) →
     (∀ sv' w5,Own w5 B VT 5 sv' (l.length + 1) (L.take (i * 5) ++ cs ++ L.drop (i * 5)) → Chg (fun q=>sv.ownBlock = some q) w4 w5 → (∀ q,sv'.ownBlock = some q → sv.ownBlock = some q ∨ w4.heap.size ≤ q) → K' sv' w5) →
     callF Tryz.prog 163 [sv,i64 (i:Nat),.slice (some ⟨tb,0,none⟩) 1 1] w4 K':=fun {w4 tb K'} hc htb ht hK'=>
   insert_v (own_chg hO hc fun q hq e=>rows_ne hO hM hq e) ht hcs5 hone hrp.rep.one (fun e=>by have:=hsvlt _ e; omega) hile (by omega) (by have:=hc.size; omega) hK'
 obtain ⟨J,hJ⟩:∃ J:List Value → World → Prop,∀ st w',J st w' ↔ ∃ sv' kv',w'.heap[a3]? = some (.cells [i64 6,.bool false,str [],sv',kv'].toArray VT (0,0)) ∧ w'.heap[a6]? = some (.cells [i64 0,.bool false,str [],.slice none 0 0,.slice none 0 0].toArray VT (0,0)) ∧ Chg (fun q=>sv.ownBlock = some q ∨ kv.ownBlock = some q) w w' ∧ a6 < w'.heap.size ∧
     one1 sv' = true ∧ one1 kv' = true ∧ VRepP (fun q=>B ≤ q ∧ q ≠ a6) w' (mkO (insP l k x)) [i64 6,.bool false,str [],sv',kv']:=⟨_,fun _ _=>Iff.rfl⟩
 refine JoinW.cut J ?_ ?_
 · have hxd:Ext w3 w3.drew:=Chg.drew (Chg.refl (fun _=>False) w3)
   have e3:∀ {w4:World},Chg (fun q=>kv.ownBlock = some q) w3 w4 → w4.heap[a3]? = some (.cells [i64 6,.bool false,str [],sv,kv].toArray VT (0,0)):=fun hc=>hc.at hb3 fun e=>by have:=hkvlt _ e; omega
   have e5:∀ {w4:World},Chg (fun q=>kv.ownBlock = some q) w3 w4 → w4.heap[a5]? = some (.cells cs.toArray VT (0,0)):=fun hc=>hc.at hb5 fun e=>by have:=hkvlt _ e; omega
   have up:∀ {w4:World},Ext w3 w4 → Chg (fun q=>kv.ownBlock = some q) w3 w4:=fun hx=>Chg.of_ext hx
   have ldk:∀ {w4:World} {K:Value → Prop},Chg (fun q=>kv.ownBlock = some q) w3 w4 → K kv → ldW false 1 (.pointer (some ((⟨a3,0,none⟩:Addr).add 4))) w4 K:=fun hc hk=>by
     rw [ld_one]; exact ⟨_,by rw [add_mk,cell_eq,e3 hc]; rfl,hk⟩
   have lds:∀ {w4:World} {K:Value → Prop},Chg (fun q=>kv.ownBlock = some q) w3 w4 → K sv → ldW false 1 (.pointer (some ((⟨a3,0,none⟩:Addr).add 3))) w4 K:=fun hc hk=>by
     rw [ld_one]; exact ⟨_,by rw [add_mk,cell_eq,e3 hc]; rfl,hk⟩
   have ldx:∀ {w4:World} {K:Value → Prop},Chg (fun q=>kv.ownBlock = some q) w3 w4 → K (.agg cs.toArray) → ldW true 5 (.pointer (some ⟨a5,0,none⟩)) w4 K:=fun hc hk=>ld_all (e5 hc) hcs5 hk
   -- both are in: the two stores
   have fin:∀ {w4 w5:World} {sv' kv':Value},Chg (fun q=>kv.ownBlock = some q) w3 w4 → Own w4 B ST 1 kv' (l.length + 1) (((l.map (·.1)).map str).take (i * 1) ++ [str k] ++ ((l.map (·.1)).map str).drop (i * 1)) → (∀ q,kv'.ownBlock = some q → kv.ownBlock = some q ∨ w3.heap.size ≤ q) →
       Chg (fun q=>sv.ownBlock = some q) w4 w5 → Own w5 B VT 5 sv' (l.length + 1) (L.take (i * 5) ++ cs ++ L.drop (i * 5)) → (∀ q,sv'.ownBlock = some q → sv.ownBlock = some q ∨ w3.heap.size ≤ q) →
       stW 1 (.pointer (some ((⟨a3,0,none⟩:Addr).add 4))) kv' w5 fun w6=>fldW 3 (.pointer (some ⟨a3,0,none⟩)) fun t36=>stW 1 t36 sv' w6 fun w7=>J [] w7:=fun {w4 w5 sv' kv'} hc4 hOk hkb hc5 hOs hsb=>by
     have hb3':=hc5.at (e3 hc4) fun e=>by have:=hsvlt _ e; omega
     have hb6':=hc5.at (hc4.at hb6 fun e=>by have:=hkvlt _ e; omega) fun e=>by have:=hsvlt _ e; omega
     rw [add_mk]
     refine st_at hb3' (own_one hOk) (by simp) fun w6 hz6 hb36 hc6=>?_
     have hb36:w6.heap[a3]? = some (.cells [i64 6,.bool false,str [],sv,kv'].toArray VT (0,0)):=by rw [hb36]; simp
     rw [fld_ptr,add_mk]
     refine st_at hb36 (own_one hOs) (by simp) fun w7 hz7 hb37 hc7=>?_
     have hb37:w7.heap[a3]? = some (.cells [i64 6,.bool false,str [],sv',kv'].toArray VT (0,0)):=by rw [hb37]; simp
     have hc67:Chg (fun q=>q = a3) w5 w7:=hc6.trans hc7
     have s45:=hc5.size
     have s34:=hc4.size
     have s57:=hc67.size
     have hcw:Chg (fun q=>sv.ownBlock = some q ∨ kv.ownBlock = some q) w w7:=by
       have h1:Chg (fun q=>sv.ownBlock = some q ∨ kv.ownBlock = some q) w w5:=(((Chg.of_ext hx03).trans (hc4.mono fun _ _ e=>.inr e)).trans (hc5.mono fun _ _ e=>.inl e))
       exact h1.then hc67 fun q hq e=>by omega
     have n3:∀ q,kv'.ownBlock = some q → q ≠ a3:=fun q hq e=>by
       rcases hkb q hq with h | h
       · have:=hkvlt _ h; omega
       · omega
     have n3':∀ q,sv'.ownBlock = some q → q ≠ a3:=fun q hq e=>by
       rcases hsb q hq with h | h
       · have:=hsvlt _ h; omega
       · omega
     have hOk5:Own w5 B ST 1 kv' (l.length + 1) (((l.map (·.1)).map str).take (i * 1) ++ [str k] ++ ((l.map (·.1)).map str).drop (i * 1)):=own_chg hOk hc5 fun q hq e=>by
       obtain ⟨_,_,c,hc⟩:=own_in hOk hq
       obtain ⟨_,_,c',hc'⟩:=own_in (own_chg hO ((Chg.of_ext hx03).trans hc4) fun q hq e=>rows_ne hO hM hq e) e
       rw [hc] at hc'
       simp only [Option.some.injEq,Obj.cells.injEq] at hc'
       exact absurd hc'.2.1 (by decide)
     have hOk7:=own_chg hOk5 hc67 fun q hq e=>n3 q hq e
     have hOs7:=own_chg hOs hc67 fun q hq e=>n3' q hq e
     refine (hJ _ w7).2 ⟨sv',kv',hb37,hc67.at hb6' (by omega),hcw,by have:=at_lt hb6; omega,own_one hOs,own_one hOk,?_⟩
     have hfree:∀ q,Free B sv kv q → q < w.heap.size → ¬ (sv.ownBlock = some q ∨ kv.ownBlock = some q):=fun q hq _ e=>by
       rcases e with e | e
       · exact hq.2.1 e
       · exact hq.2.2 e
     have hrp0:VRepsP (fun q=>Free B sv kv q ∧ q < w.heap.size) w (l.map (·.2)) L:=hrp.mono fun q hq h=>⟨h,hq⟩
     have hx0:VRepP (fun q=>Free B sv kv q ∧ q < w.heap.size) w x cs:=hx.mono fun q hq h=>⟨h,hq⟩
     have hrp7:=VRepsP.chg hcw (fun q hq h=>hfree q hq.1 h) hrp0
     have hx7:=VRepP.chg hcw (fun q hq h=>hfree q hq.1 h) hx0
     have m3:∀ q,kv'.ownBlock = some q → q ≠ a6:=fun q hq e=>by
       rcases hkb q hq with h | h
       · have:=hkvlt _ h; omega
       · omega
     have m3':∀ q,sv'.ownBlock = some q → q ≠ a6:=fun q hq e=>by
       rcases hsb q hq with h | h
       · have:=hsvlt _ h; omega
       · omega
     obtain ⟨c1,c2⟩:=hrp7.cut i
     have hall:=(c1.app (VRepsP.one' hx7)).app c2
     have ex:(mkO (insP l k x)).xs = (l.map (·.2)).take i ++ [x] ++ (l.map (·.2)).drop i:=by
       rw [hins]
       show ((l.take i ++ (k,x) :: l.drop i).map (·.2)) = _
       simp
     have ek:(mkO (insP l k x)).ks = (l.map (·.1)).take i ++ [k] ++ (l.map (·.1)).drop i:=by
       rw [hins]
       show ((l.take i ++ (k,x) :: l.drop i).map (·.1)) = _
       simp
     have exl:(mkO (insP l k x)).xs.length = l.length + 1:=by
       rw [hins]
       show ((l.take i ++ (k,x) :: l.drop i).map (·.2)).length = _
       simp; omega
     have ekl:(mkO (insP l k x)).ks.length = l.length + 1:=by
       rw [hins]
       show ((l.take i ++ (k,x) :: l.drop i).map (·.1)).length = _
       simp; omega
     have ekm:(mkO (insP l k x)).ks.map str = ((l.map (·.1)).map str).take (i * 1) ++ [str k] ++ ((l.map (·.1)).map str).drop (i * 1):=by
       rw [ek,Nat.mul_one]
       simp
     refine VRepP.mk (v:=mkO (insP l k x)) (T1:=VT) (T2:=ST) (L:=L.take (i * 5) ++ cs ++ L.drop (i * 5)) ?_ ?_ ?_ ⟨by rw [exl]; omega,by rw [ekl]; omega,by simp [mkO,JV.t],fun s hs=>?_⟩ (fun _ q hq=>⟨(own_in hOs7 hq).1,m3' q hq⟩) (fun _ q hq=>⟨(own_in hOk7 hq).1,m3 q hq⟩)
     · rw [exl]; exact hOs7.sl
     · rw [ex]; exact hall.mono fun q _ hq=>⟨hq.1.1,by have:=hq.2; omega⟩
     · rw [ekl,ekm]; exact hOk7.sl
     · rw [ek] at hs
       rcases List.mem_append.1 hs with hs | hs
       · rcases List.mem_append.1 hs with hs | hs
         · exact f4 s (List.mem_of_mem_take hs)
         · rw [List.mem_singleton.1 hs]; exact hkl
       · exact f4 s (List.mem_of_mem_drop hs)
   rw [fld_ptr]
   refine ldk (up hxd) ?_
   rw [fld_ptr]
   refine lds (up hxd) ?_
   refine ldx (up hxd) ⟨?_,?_⟩
   · refine rowS fun b27 w4 hb27 hz4 ht27 hx4=>?_
     have hx4:=hxd.trans hx4
     have sd:w3.drew.heap.size = w3.heap.size:=rfl
     refine ⟨ldx (up hx4) rfl,lds (up hx4) rfl,ldk (up hx4) rfl,?_,?_⟩
     · refine insK (hx03.trans hx4) (by omega) ht27 fun kv' w5 hOk hc5 hkb=>?_
       have hc35:Chg (fun q=>kv.ownBlock = some q) w3 w5:=(up hx4).trans hc5
       refine ⟨ldx hc35 rfl,lds hc35 rfl,?_⟩
       rw [fld_ptr]
       refine rowV hcs5 fun b33 w6 hb33 hz6 ht33 hx6=>?_
       have hc36:Chg (fun q=>kv.ownBlock = some q) w3 w6:=hc35.then hx6 fun _ _ e=>e.elim
       have s35:=hc35.size
       refine ⟨lds hc36 rfl,?_⟩
       refine insV ((Chg.of_ext hx03).trans hc36) (by omega) ht33 fun sv' w7 hOs hc7 hsb=>?_
       exact fin hc36 (own_chg hOk hx6 fun _ _ e=>e) (fun q hq=>(hkb q hq).imp id fun h=>by omega) hc7 hOs (fun q hq=>(hsb q hq).imp id fun h=>by omega)
     · refine rowV hcs5 fun b33 w5 hb33 hz5 ht33 hx5=>?_
       have hx35:=hx4.trans hx5
       refine ⟨lds (up hx35) rfl,ldk (up hx35) rfl,?_⟩
       refine insK (hx03.trans hx35) (by omega) (hx5.at ht27 id) fun kv' w6 hOk hc6 hkb=>?_
       have hc36:Chg (fun q=>kv.ownBlock = some q) w3 w6:=(up hx35).trans hc6
       refine ⟨lds hc36 rfl,?_⟩
       rw [fld_ptr]
       have s36:=hc36.size
       refine insV ((Chg.of_ext hx03).trans hc36) (by omega) (hc6.at ht33 fun e=>by have:=hkvlt _ e; omega) fun sv' w7 hOs hc7 hsb=>?_
       exact fin hc36 hOk (fun q hq=>(hkb q hq).imp id fun h=>by omega) hc7 hOs (fun q hq=>(hsb q hq).imp id fun h=>by omega)
   · refine rowV hcs5 fun b33 w4 hb33 hz4 ht33 hx4=>?_
     have hx4:=hxd.trans hx4
     have sd:w3.drew.heap.size = w3.heap.size:=rfl
     refine ⟨lds (up hx4) rfl,ldk (up hx4) rfl,?_⟩
     refine rowS fun b27 w5 hb27 hz5 ht27 hx5=>?_
     have hx35:=hx4.trans hx5
     refine ⟨lds (up hx35) rfl,ldk (up hx35) rfl,?_⟩
     refine insK (hx03.trans hx35) (by omega) ht27 fun kv' w6 hOk hc6 hkb=>?_
     have hc36:Chg (fun q=>kv.ownBlock = some q) w3 w6:=(up hx35).trans hc6
     refine ⟨lds hc36 rfl,?_⟩
     rw [fld_ptr]
     have s36:=hc36.size
     refine insV ((Chg.of_ext hx03).trans hc36) (by omega) (hc6.at (hx5.at ht33 id) fun e=>by have:=hkvlt _ e; omega) fun sv' w7 hOs hc7 hsb=>?_
     exact fin hc36 hOk (fun q hq=>(hkb q hq).imp id fun h=>by omega) hc7 hOs (fun q hq=>(hsb q hq).imp id fun h=>by omega)
 rintro st g w4 hJ4
 obtain ⟨sv',kv',hb3,hb6,hc,hlt6,o1',o2',hrep⟩:=(hJ _ _).1 hJ4
 refine ld_all hb3 rfl ?_
 refine ret_agg hb6 rfl rfl (obj_one o1' o2') fun w5 hc5=>?_
 exact hK _ w5 (hc.then hc5 fun q hq e=>by omega) ((VRepP.chg hc5 (fun q hq _ e=>hq.2 e) hrep).mono fun q _ hq=>hq.1)
theorem put_n {l:List (Str × JV)} {k:Str} {x:JV} {cs ds:List Value} {w:World} {K:Value → World → Prop} (h:VRep w (mkO l) cs) (hx:VRep w x ds) (hfew:fewM (mkO l) = true) (hfx:fewM x = true) (hr:Rise (l.map (·.1))) (hk:k ∉ l.map (·.1)) (hl:l.length ≤ 99999) (hkl:k.length ≤ 9223372036854775807)
   (hK:∀ es w',Ext w w' → VRepP (From w.heap.size) w' (mkO (insP l k x)) es → K (.agg es.toArray) w') :
   callF Tryz.prog 174 [.agg cs.toArray,str k,.agg ds.toArray] w K:=by
 refine W174_ok ?_
 unfold W174
 refine box_val h fun a3 w1 sv0 kv0 hB3 hx1 ha3=>?_
 refine box_val (hx.ext hx1) fun a5 w2 sv1 kv1 hB5 hx2 ha5=>?_
 refine alloc_new fun a6 w3 ha6 hz3 hb6 hx3=>?_
 have hB3':=(hB3.ext hx2).ext hx3
 have hB5':=hB5.ext hx3
 refine JoinW.cut (fun st w'=>w' = w3) ?_ ?_
 · rw [fld_ptr,ld_one]
   refine ⟨i64 6,by rw [add_mk,cell_eq,hB3'.hb]; rfl,?_⟩
   rw [bin_neq,decide_eq_false (by decide),condW_false]
 rintro st g w4 rfl
 have hxd:Ext w4 w4.drew:=Chg.drew (Chg.refl (fun _=>False) w4)
 have hB3d:=hB3'.ext hxd
 have hB5d:=hB5'.ext hxd
 have sd:w4.drew.heap.size = w4.heap.size:=rfl
 have s1:=hx1.size
 have s2:=hx2.size
 refine ld_all hB3d.hb rfl ?_
 refine ld_all hB5d.hb rfl ?_
 refine clone_o hfew hB3d.rep fun sv kv L w5 hx5 hO=>?_
 refine ⟨ld_all (hB5d.ext hx5).hb rfl rfl,?_⟩
 refine clone_p x hfx (hB5d.ext hx5).rep fun cs' w6 hx6 hR=>?_
 have hO6:=hO.ext hx6
 have s5:=hx5.size
 have s6:=hx6.size
 have e1:(mkO l).k = 6 ∧ (mkO l).b = false ∧ (mkO l).t = []:=⟨rfl,rfl,rfl⟩
 have hlt5:∀ q,sv.ownBlock = some q ∨ kv.ownBlock = some q → q < w5.heap.size ∧ w4.heap.size ≤ q:=fun q e=>by
   rcases e with e | e
   · exact ⟨(own_in hO.items e).2.1,(own_in hO.items e).1⟩
   · exact ⟨(own_in hO.keys e).2.1,(own_in hO.keys e).1⟩
 refine put_p hO6 (hR.mono fun q _ hq=>⟨by have:w5.heap.size ≤ q:=hq; omega,fun e=>by have:=(hlt5 q (.inl e)).1; have:w5.heap.size ≤ q:=hq; omega,fun e=>by have:=(hlt5 q (.inr e)).1; have:w5.heap.size ≤ q:=hq; omega⟩) hr hk hl hkl (by omega) fun es w7 hc7 hE=>?_
 have hx46:Ext w w6:=((hx1.trans hx2).trans hx3).trans (hxd.trans (hx5.trans hx6))
 have hb7:=hc7.at ((hx5.trans hx6).at (hxd.at hb6 id) id) fun e=>by have:=(hlt5 _ e).2; omega
 refine ret_agg hb7 hE.rep.len rfl hE.rep.all_one fun w8 hc8=>?_
 have hx7:Ext w w7:=hx46.then hc7 fun q hq e=>by have:=(hlt5 _ e).2; omega
 refine hK es w8 (hx7.new hc8 (by omega)) (VRepP.mono (fun q _ hq=>?_) (VRepP.chg (G:=From w4.drew.heap.size) hc8 (fun q hq _ e=>?_) hE))
 · have:w4.drew.heap.size ≤ q:=hq
   show w.heap.size ≤ q
   omega
 · have:w4.drew.heap.size ≤ q:=hq
   omega
end
end Go.Proofs.YtnoepcndjljolaaGreatDoor
namespace Go.Proofs.YtnoepcndjljolaaGreatDoor
open Go Go.Eng Go.RowKit
set_option maxRecDepth 100000
theorem few_cnt (v:JV):plainM v = true → cntM v ≤ 100000 → fewM v = true:=by
 induction v using JV.ind' with
 | h v ih=>
   intro hp hc
   rw [plainM_eq,Bool.and_eq_true,plainL_all,List.all_eq_true] at hp
   obtain ⟨_,_,_,_,_,k6,_,_,k9,_⟩:=headOk_out hp.1
   have hcl:cntM v = 1 + cntL v.xs:=by cases v; rfl
   have hlen:∀ xs:List JV,xs.length ≤ cntL xs:=fun xs=>by
     induction xs with
     | nil=>exact Nat.zero_le _
     | cons x xs ih2=>
       have:=cnt_pos x
       simp only [List.length_cons,cntL]
       omega
   have hmem:∀ (xs:List JV) x,x ∈ xs → cntM x ≤ cntL xs:=fun xs=>by
     induction xs with
     | nil=>intro x hx; cases hx
     | cons y xs ih2=>
       intro x hx
       simp only [cntL]
       rcases List.mem_cons.1 hx with rfl | hx
       · omega
       · have:=ih2 x hx; omega
   have h1:=hlen v.xs
   rw [fewM_eq,fewL_all]
   have e2:v.ks.length ≤ 100000:=by
     by_cases hk:v.ks = []
     · rw [hk]; simp
     · have:=k9 (k6 hk); omega
   rw [decide_eq_true (by omega:v.xs.length ≤ 100000),decide_eq_true e2]
   simp only [Bool.and_self,Bool.true_and,List.all_eq_true]
   intro x hx
   exact ih x hx (hp.2 x hx) (by have:=hmem _ _ hx; omega)
theorem word_pre (s p:Str) (i:Nat):Lib.hasPrefix (s.drop i) p = wordM s i p:=by
 have e:Lib.hasPrefix (s.drop i) p = p.isPrefixOf (s.drop i):=rfl
 rw [e]
 unfold wordM
 by_cases h:(s.drop i).take p.length = p
 · rw [decide_eq_true h,List.isPrefixOf_iff_prefix,List.prefix_iff_eq_take]
   exact h.symm
 · rw [decide_eq_false h]
   cases hb:p.isPrefixOf (s.drop i) with
   | false=>rfl
   | true=>
     rw [List.isPrefixOf_iff_prefix,List.prefix_iff_eq_take] at hb
     exact absurd hb.symm h
section
variable [HX]
theorem word_p {s p:Str} {i:Nat} {w:World} {K:Value → World → Prop} (hK:K (.bool (wordM s i p)) w):callF Tryz.prog 113 [str (s.drop i),str p] w K:=by
 refine of_calls (args:=#[str (s.drop i),str p]) Tryz.call113 ((Tryz.strings_HasPrefix (ofL (s.drop i)) (ofL p) w).mono ?_)
 rintro e w' ⟨rfl,rfl⟩
 refine ⟨_,rfl,?_⟩
 rw [ofL_data,ofL_data,word_pre]
 exact hK
def VP (n:Nat):Prop:=∀ {deep i c p:Nat} {s:Str} {w:World} {K:Value → World → Prop},Rdr w p s i c → TabU w → TabE w → i ≤ s.length → s.length ≤ 65536 → c ≤ 2000 → deep ≤ 25 → 2 * (2000 - c) + 1 ≤ n →
 (∀ v j c',valM En s n deep i c = .ok v j c' → ∀ cs w',Rdr w' p s j c' → Chg (Cr p) w w' → VRepP (From w.heap.size) w' v cs → K (.agg cs.toArray) w') → (∀ e j,valM En s n deep i c = .bad e j → Thr w p e j) →
 callF Tryz.prog 58 [.pointer (some ⟨p,0,none⟩),i64 (deep:Nat)] w K
theorem list_p {n deep i c p:Nat} {s:Str} {w:World} {K:Value → World → Prop} (ih:∀ m,m ≤ n → VP m) (h:Rdr w p s i c) (hT:TabU w) (hE:TabE w) (hi:i < s.length) (hs:s.length ≤ 65536) (hc:c ≤ 2000) (hdeep:deep ≤ 24) (hn:2 * (2000 - c) + 2 ≤ n)
   (hok:∀ v j c',(if byteM s (blankM s (i + 1)) = 93 then .ok (.mk 5 false [] [] []) (blankM s (i + 1) + 1) c else listM En s n deep (blankM s (i + 1)) c []) = RR.ok v j c' → ∀ cs w',Rdr w' p s j c' → Chg (Cr p) w w' → VRepP (From w.heap.size) w' v cs → K (.agg cs.toArray) w')
   (hbad:∀ e j,(if byteM s (blankM s (i + 1)) = 93 then .ok (.mk 5 false [] [] []) (blankM s (i + 1) + 1) c else listM En s n deep (blankM s (i + 1)) c []) = RR.bad e j → Thr w p e j) :
   callF Tryz.prog 118 [.pointer (some ⟨p,0,none⟩),i64 (deep:Nat)] w K:=by
 refine W118_ok ?_
 unfold W118
 have hp:=h.lt
 refine alloc_new fun a4 w1 ha4 hz1 hb4 hx1=>?_
 rw [put_int]
 refine ⟨by simp,?_⟩
 rw [put_nil]
 simp only [List.set_cons_zero]
 refine alloc_new fun a5 w2 ha5 hz2 hb5 hx2=>?_
 refine st_agg_at (l:=[i64 5,.bool false,str [],.slice none 0 0,.slice none 0 0]) hb5 rfl rfl rfl fun w3 hz3 hb5 hc3=>?_
 have hx3:Ext w w3:=(hx1.trans hx2).new hc3 (by omega)
 have h3:=h.ext hx3
 have hb4:=hc3.at (hx2.at hb4 id) (by omega)
 refine h3.go (k:=1) (by omega) fun w4 h4 hc4 hz4=>?_
 refine blanks_p h4 (by omega) (by omega) fun w5 h5 hc5=>?_
 have hc35:=hc4.trans hc5
 have hcw5:=(Chg.of_ext hx3).trans hc35
 have hble:blankM s (i + 1) ≤ s.length:=blank_le (by omega)
 have hbge:=blank_ge s (i + 1)
 generalize hj0:blankM s (i + 1) = j0 at *
 have keep5:∀ {w' w'':World} {a:Nat} {o:Obj},Chg (Cr p) w' w'' → w'.heap[a]? = some o → w.heap.size ≤ a → w''.heap[a]? = some o:=fun hc hb hle=>hc.at hb fun e=>by
   have e:_ = p:=e
   omega
 -- what is handed back
 have fin:∀ {w6:World} {sv:Value} {acc:List JV} {L:List Value} {B j c':Nat},Rdr w6 p s j c' → Chg (Cr p) w w6 → w6.heap[a4]? = some (.cells [i64 0,.bool false,str [],.slice none 0 0,.slice none 0 0].toArray VT (0,0)) → w6.heap[a5]? = some (.cells [i64 5,.bool false,str [],sv,.slice none 0 0].toArray VT (0,0)) →
     Own w6 B VT 5 sv acc.length L → VRepsP (From B) w6 acc L → a4 < B → w.heap.size ≤ B → acc.length ≤ 2000 → (∀ cs w',Rdr w' p s j c' → Chg (Cr p) w w' → VRepP (From w.heap.size) w' (.mk 5 false [] acc []) cs → K (.agg cs.toArray) w') →
     ldW true 5 (.pointer (some ⟨a5,0,none⟩)) w6 fun t18=>stW 5 (.pointer (some ⟨a4,0,none⟩)) t18 w6 fun w8=>ldW true 5 (.pointer (some ⟨a4,0,none⟩)) w8 fun r9=>K r9 w8:=fun {w6 sv acc L B j c'} h6 hc6 hb4 hb5 hO hR hB hwB hal hk=>by
   refine ld_all hb5 rfl ?_
   refine ret_leaf (l:=[i64 5,.bool false,str [],sv,.slice none 0 0]) hb4 rfl rfl (obj_one (own_one hO) rfl) fun w7 hc7=>?_
   refine hk _ w7 (hc7.at h6 fun e=>by have e:p = a4:=e; omega) (hc6.then hc7 fun k hk e=>by have e:k = a4:=e; omega) ?_
   have hrep:VRepP (From B) w6 (.mk 5 false [] acc []) [i64 5,.bool false,str [],sv,.slice none 0 0]:=
     VRepP.mk (v:=.mk 5 false [] acc []) (T1:=VT) (T2:=0) (L:=L) hO.sl hR (SlAt.nil w6 0) ⟨by show acc.length ≤ _; omega,by simp [JV.ks],by simp [JV.t],by simp [JV.ks]⟩ (fun _ q hq=>(own_in hO hq).1) (fun e=>absurd rfl e)
   exact (VRepP.chg hc7 (fun q hq _ e=>by have:B ≤ q:=hq; have e:q = a4:=e; omega) hrep).mono fun q _ hq=>by have:B ≤ q:=hq; show w.heap.size ≤ q; omega
 refine take_p (n:=93) h5 hble (by omega) (fun e w6 h6 hc6=>?_) (fun e w6 h6 hc6=>?_)
 · have e:byteM s j0 = 93:=e
   rw [if_pos e] at hok
   rw [condW_true]
   have hc6':=hcw5.trans hc6
   have hc36:=hc35.trans hc6
   refine fin (B:=w3.heap.size) (acc:=[]) (L:=[]) h6 hc6' (keep5 hc36 hb4 (by omega)) (keep5 hc36 hb5 (by omega)) ⟨by simp,.inl ⟨rfl,rfl⟩⟩ (by simp [VRepsP]) (by omega) (by omega) (by simp) fun cs w' h' hc' hr'=>hok _ _ _ rfl cs w' h' hc' hr'
 have e:byteM s j0 ≠ 93:=e
 rw [if_neg e] at hok hbad
 rw [condW_false]
 have hc36:=hc35.trans hc6
 refine LoopW.go (fun st w'=>st = [] ∧ ∃ m j c' acc sv L,Rdr w' p s j c' ∧ Chg (Cr p) w w' ∧ w'.heap[a4]? = some (.cells [i64 0,.bool false,str [],.slice none 0 0,.slice none 0 0].toArray VT (0,0)) ∧ w'.heap[a5]? = some (.cells [i64 5,.bool false,str [],sv,.slice none 0 0].toArray VT (0,0)) ∧
     Own w' w3.heap.size VT 5 sv acc.length L ∧ VRepsP (fun q=>w3.heap.size ≤ q ∧ sv.ownBlock ≠ some q) w' acc L ∧ m ≤ n ∧ 2 * (2000 - c') + 2 ≤ m ∧ c' ≤ 2000 ∧ acc.length ≤ c' ∧ j ≤ s.length ∧ listM En s m deep j c' acc = listM En s n deep j0 c []) (fun _ w'=>s.length + 1 - rdAt w' p)
   ⟨rfl,n,j0,c,[],.slice none 0 0,[],h6,hcw5.trans hc6,keep5 hc36 hb4 (by omega),keep5 hc36 hb5 (by omega),⟨by simp,.inl ⟨rfl,rfl⟩⟩,by simp [VRepsP],Nat.le_refl _,hn,hc,Nat.zero_le _,hble,rfl⟩ ?_
 rintro st g w7 ⟨rfl,m,j,c',acc,sv,L,h7,hc7,hb4,hb5,hO,hR,hmn,hm,hc2,hacc,hj,heq⟩
 obtain ⟨m,rfl⟩:∃ m',m = m' + 1:=⟨m - 1,by omega⟩
 rw [listM] at heq
 rw [← heq] at hok hbad
 have hxd:Ext w7 w7.drew:=Chg.drew (Chg.refl (fun _=>False) w7)
 rw [fld_ptr,add_mk,ld_one]
 refine ⟨sv,by rw [cell_eq,heap_drew,hb5]; rfl,?_⟩
 rw [bin_add,up1 (by omega)]
 have h7d:=h7.ext hxd
 have hc7d:=hc7.then hxd fun _ _ e=>e.elim
 refine ih m (by omega) h7d (hT.rd h hc7d) (hE.rd h hc7d) hj hs hc2 (by omega) (by omega) (fun x j1 c1 hv cs w8 h8 hc8 hr8=>?_) (fun e1 j1 hv=>?_)
 · rw [hv] at hok hbad
   simp only at hok hbad
   have hbk:=val_back hj hc2 hv
   have hcp:=cnt_pos x
   have hcnt:=hbk.cnt
   have hmax:=hbk.max
   have hlen:=hbk.len
   have hfit:=hbk.fits
   have hc78:Chg (Cr p) w7 w8:=(Chg.of_ext hxd).trans hc8
   have hb48:=keep5 hc78 hb4 (by omega)
   have hb58:=keep5 hc78 hb5 (by omega)
   have s3:w3.heap.size ≤ w7.heap.size:=by have:=at_lt hb5; have:=hc7.size; omega
   have nown:∀ q,sv.ownBlock = some q → q ≠ p:=fun q hq e=>by have:=(own_in hO hq).1; omega
   have hO8:=own_chg hO hc78 fun q hq e=>nown q hq e
   have hR8:=VRepsP.chg hc78 (fun q hq _ e=>by have:=hq.1; have e:q = p:=e; omega) hR
   have ld8:∀ {w':World},w'.heap[a5]? = some (.cells [i64 5,.bool false,str [],sv,.slice none 0 0].toArray VT (0,0)) → ldW false 1 (.pointer (some ⟨a5,0 + 3,none⟩)) w' fun x=>x = sv:=fun hb=>by
     rw [ld_one]; exact ⟨sv,by rw [cell_eq,hb]; rfl,rfl⟩
   refine ⟨ld8 hb58,?_⟩
   refine row_v hr8.rep.len fun t w9 ht hx9=>?_
   refine ⟨ld8 (hx9.at hb58 id),?_⟩
   have hO9:=own_chg hO8 hx9 fun _ _ e=>e
   have s78:=hc78.size
   have s9:=hx9.size
   have hglt:∀ k,sv.ownBlock = some k → k < w7.heap.size:=fun k hk=>(own_in hO hk).2.1
   refine append_own3 elem_v hO9 ht (m:=1) (by rw [hr8.rep.len]) hr8.rep.one (by omega) (by omega) (by omega) fun sv' w10 h10 hc10 hb10=>?_
   have hb410:=hc10.at (hx9.at hb48 id) fun e=>by have:=(own_in hO9 e).1; omega
   have hb510:=hc10.at (hx9.at hb58 id) fun e=>by have:=(own_in hO9 e).1; omega
   rw [fld_ptr,add_mk]
   refine st_at hb510 (own_one h10) (by simp) fun w11 hz11 hb511 hc11=>?_
   have hb511:w11.heap[a5]? = some (.cells [i64 5,.bool false,str [],sv',.slice none 0 0].toArray VT (0,0)):=by rw [hb511]; simp
   have hb411:=hc11.at hb410 (by omega)
   have h11r:Rdr w11 p s j1 c1:=hc11.at (hc10.at (h8.ext hx9) fun e=>nown _ e rfl) (by omega)
   have sv'lo:∀ q,sv'.ownBlock = some q → w3.heap.size ≤ q:=fun q hq=>(own_in h10 hq).1
   have h11:=own_chg h10 hc11 fun q hq e=>by have:=sv'lo q hq; omega
   have s10:=hc10.size
   have s11:=hc11.size
   have hc711:Chg (Cr p) w w11:=by
     have h1:Chg (Cr p) w w9:=(hc7.trans hc78).then hx9 fun _ _ e=>e.elim
     have h2:Chg (Cr p) w w10:=h1.then hc10 fun q hq e=>by have:=(own_in hO9 e).1; omega
     exact h2.then hc11 fun q hq e=>by omega
   have hall:VRepsP (fun q=>w3.heap.size ≤ q ∧ sv.ownBlock ≠ some q) w9 (acc ++ [x]) (L ++ cs):=
     VRepsP.snoc (VRepsP.chg hx9 (fun _ _ _ e=>e) hR8) ((VRepP.chg hx9 (fun _ _ _ e=>e) hr8).mono fun q _ hq=>⟨by have:w7.drew.heap.size ≤ q:=hq; have e:w7.drew.heap.size = w7.heap.size:=rfl; omega,fun e=>by have:=hglt q e; have:w7.drew.heap.size ≤ q:=hq; have e:w7.drew.heap.size = w7.heap.size:=rfl; omega⟩)
   have hall2:VRepsP (fun q=>(w3.heap.size ≤ q ∧ sv.ownBlock ≠ some q) ∧ q < w9.heap.size) w9 (acc ++ [x]) (L ++ cs):=hall.mono fun q hlt hq=>⟨hq,hlt⟩
   have hall3:=VRepsP.chg hc11 (fun q hq _ e=>by have:=hq.1.1; omega) (VRepsP.chg hc10 (fun q hq _ e=>hq.1.2 e) hall2)
   have hall4:VRepsP (fun q=>w3.heap.size ≤ q ∧ sv'.ownBlock ≠ some q) w11 (acc ++ [x]) (L ++ cs):=hall3.mono fun q _ hq=>⟨hq.1.1,fun e=>by
     rcases hb10 q e with h | h
     · exact hq.1.2 h
     · omega⟩
   have hlenx:(acc ++ [x]).length = acc.length + 1:=by simp
   have h11':Own w11 w3.heap.size VT 5 sv' (acc ++ [x]).length (L ++ cs):=by rw [hlenx]; exact h11
   refine blanks_p h11r hfit (by omega) fun w12 h12 hc12=>?_
   have hge1:=blank_ge s j1
   have hle1:=blank_le hfit
   have hidem:=blank_idem s j1
   have step:∀ {w':World},Chg (Cr p) w11 w' → Chg (Cr p) w w' ∧ w'.heap[a4]? = some (.cells [i64 0,.bool false,str [],.slice none 0 0,.slice none 0 0].toArray VT (0,0)) ∧ w'.heap[a5]? = some (.cells [i64 5,.bool false,str [],sv',.slice none 0 0].toArray VT (0,0)) ∧
       Own w' w3.heap.size VT 5 sv' (acc ++ [x]).length (L ++ cs) ∧ VRepsP (fun q=>w3.heap.size ≤ q ∧ sv'.ownBlock ≠ some q) w' (acc ++ [x]) (L ++ cs):=fun {w'} hc'=>
     ⟨hc711.trans hc',keep5 hc' hb411 (by omega),keep5 hc' hb511 (by omega),own_chg h11' hc' fun q hq e=>by have:=sv'lo q hq; have e:q = p:=e; omega,VRepsP.chg hc' (fun q hq _ e=>by have:=hq.1; have e:q = p:=e; omega) hall4⟩
   refine take_p (n:=93) h12 hle1 (by omega) (fun e w13 h13 hc13=>?_) (fun e w13 h13 hc13=>?_)
   · have e:byteM s (blankM s j1) = 93:=e
     rw [if_pos e] at hok
     rw [condW_true]
     obtain ⟨q1,q2,q3,q4,q5⟩:=step (hc12.trans hc13)
     exact fin h13 q1 q2 q3 q4 (q5.mono fun q _ hq=>hq.1) (by omega) (by omega) (by rw [hlenx]; omega) fun cs w' h' hc' hr'=>hok _ _ _ rfl cs w' h' hc' hr'
   · have e:byteM s (blankM s j1) ≠ 93:=e
     rw [if_neg e] at hok hbad
     rw [condW_false]
     refine want_p (n:=44) h13 hle1 (by omega) (fun e2 w14 h14 hc14=>?_) (fun e2=>?_)
     · rw [hidem] at e2 h14
       have e2:byteM s (blankM s j1) = 44:=e2
       rw [hv] at heq
       simp only at heq
       rw [if_neg e,if_pos e2] at heq
       obtain ⟨q1,q2,q3,q4,q5⟩:=step ((hc12.trans hc13).trans hc14)
       have hlt44:=byte_lt (s:=s) (i:=blankM s j1) (by omega)
       refine ⟨⟨rfl,m,blankM s j1 + 1,c1,acc ++ [x],sv',L ++ cs,h14,q1,q2,q3,q4,q5,by omega,by omega,by omega,by rw [hlenx]; omega,by omega,heq⟩,?_⟩
       rw [h14.at_,h7.at_]; omega
     · rw [hidem] at e2 ⊢
       have e2:byteM s (blankM s j1) ≠ 44:=e2
       rw [if_neg e2] at hbad
       exact (hbad _ _ rfl).from (step (hc12.trans hc13)).1
 · rw [hv] at hbad
   exact (hbad _ _ rfl).from hc7d
end
end Go.Proofs.YtnoepcndjljolaaGreatDoor
