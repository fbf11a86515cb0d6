/- One plain sentence: weakest preconditions, contracts and plain laws that the claim rests on, text behind text. Conditions: those that each states. -/
import Derived.Test.YtofhaneggcpdaaaDoorPB3
import Derived.Test.YtofhaneggcpdaaaDoorPB1
import Derived.Test.YtofhaneggcpdaaaDoorRows
import Derived.Below
import Derived.RowKit
import Derived.ChangeMaps5
import Derived.MakeChecks
import Derived.Lib.LaidTab
import Derived.Lib.LaidU8
import Derived.SizedLaws
import Derived.Shelf.Vars
set_option linter.all false
set_option linter.unusedSimpArgs false
set_option linter.unusedVariables false
set_option linter.unusedSectionVars false
namespace Go.Proofs.YtofhaneggcpdaaaDoor
open Go Go.Eng Go.RowKit Go.Syn Go.Lex
set_option maxRecDepth 100000
theorem blank3 (c : UInt8) : decide (0 ≤ Lib.indexByte [32,9,13] c) = (c == 32 || c == 9 || c == 13) := by
 have : ∀ m : Fin 256,decide (0 ≤ Lib.indexByte [32,9,13] (UInt8.ofNat m.val)) = (UInt8.ofNat m.val == 32 || UInt8.ofNat m.val == 9 || UInt8.ofNat m.val == 13) := by decide +kernel
 have h := this ⟨c.toNat,UInt8.toNat_lt c⟩
 rwa [UInt8.ofNat_toNat] at h
theorem esc6 (c : UInt8) : decide (Lib.indexByte [34,92,110,116,114,36] c < 0) = !Lex.escOk c := by
 have : ∀ m : Fin 256,decide (Lib.indexByte [34,92,110,116,114,36] (UInt8.ofNat m.val) < 0) = !Lex.escOk (UInt8.ofNat m.val) := by decide +kernel
 have h := this ⟨c.toNat,UInt8.toNat_lt c⟩
 rwa [UInt8.ofNat_toNat] at h
theorem sign19 (c : UInt8) : decide (0 ≤ Lib.indexByte [123,125,91,93,40,41,61,43,45,42,47,37,60,62,33,63,58,44,46] c) = signs1.contains c := by
 have : ∀ m : Fin 256,decide (0 ≤ Lib.indexByte [123,125,91,93,40,41,61,43,45,42,47,37,60,62,33,63,58,44,46] (UInt8.ofNat m.val)) = signs1.contains (UInt8.ofNat m.val) := by decide +kernel
 have h := this ⟨c.toNat,UInt8.toNat_lt c⟩
 rwa [UInt8.ofNat_toNat] at h
theorem skip_step (n : Nat) (c : UInt8) (r : Str) : skipF (n + 1) (c :: r) = (if (c == 32 || c == 9 || c == 13) = true then ((skipF n r).1 + 1,(skipF n r).2) else if (c == 35 || Lib.hasPrefix (c :: r) [47,47]) = true then ((skipF n ((c :: r).drop (runM (fun b => b != 10) (c :: r)))).1 + runM (fun b => b != 10) (c :: r),(skipF n ((c :: r).drop (runM (fun b => b != 10) (c :: r)))).2)
   else if Lib.hasPrefix (c :: r) [47,42] = true then (if Lib.index (r.drop 1) [42,47] < 0 then (0,40) else ((skipF n ((c :: r).drop ((Lib.index (r.drop 1) [42,47]).toNat + 4))).1 + ((Lib.index (r.drop 1) [42,47]).toNat + 4),(skipF n ((c :: r).drop ((Lib.index (r.drop 1) [42,47]).toNat + 4))).2)) else (0,0)) := by
 simp only [skipF,Bool.or_eq_true,beq_iff_eq]
 rfl
theorem runM_pos {q : UInt8 → Bool} {c : UInt8} {r : Str} (h : q c = true) : 1 ≤ runM q (c :: r) := by simp only [runM]; rw [if_pos h]; omega
theorem add_add (i j : Nat) (x : Nat × Int) : addM i (addM j x) = addM (i + j) x := by
 unfold addM
 by_cases h : x.2 = 0
 · simp only [h,if_true]; rw [show x.1 + j + i = x.1 + (i + j) by omega]
 · simp only [if_neg h]
section
variable [HX]
theorem skip_p {s : Str} {w : World} {K : Value → World → Prop} (hT : TabI w) (hl : s.length ≤ 1000000) (hK : K (.tuple #[i64 ((skipF (s.length + 1) s).1 : Nat),i64 (skipF (s.length + 1) s).2]) w) : callF Tryd.prog 24 [str s] w K := by
 refine W24_ok ?_
 unfold W24
 generalize hR : skipF (s.length + 1) s = R0 at hK
 refine LoopW.go (fun st w' => ∃ i n : Nat,st = [i64 (i : Nat)] ∧ i ≤ s.length ∧ w' = w ∧ ((skipF n (s.drop i)).1 + i,(skipF n (s.drop i)).2) = R0 ∧ s.length < n + i) (fun st _ => match st with | [.int _ i] => s.length - i.toNat | _ => 0) ⟨0,s.length + 1,rfl,by omega,rfl,by rw [List.drop_zero,hR]; rfl,by omega⟩ ?_
 rintro st g w' ⟨i,n,rfl,hi,rfl,hr,hn⟩
 obtain ⟨n,rfl⟩ : ∃ m,n = m + 1 := ⟨n - 1,by omega⟩
 simp only [List.getD_cons_zero]
 rw [lens_str,bin_lss,condW_dec]
 refine ⟨fun hlt => ?_,fun hge => ?_⟩
 · have hlt : i < s.length := by omega
   have hd := drop_len hlt
   rw [hd,skip_step] at hr
   rw [sls_str,bd_none,bd_some]
   refine ⟨by omega,by omega,?_⟩
   rw [List.take_length,Int.toNat_natCast]
   refine ixs_i hlt ?_
   refine indexb_p ?_
   rw [bin_geq,blank3,condW_b]
   refine ⟨fun hb => ?_,fun hb => ?_⟩
   · rw [if_pos hb] at hr
     rw [bin_add,upi (by omega)]
     refine ⟨⟨i + 1,n,rfl,by omega,rfl,?_,by omega⟩,?_⟩
     · rw [← hr]; simp only [Prod.mk.injEq,and_true]; omega
     · simp only [Int.toNat_natCast]; omega
   rw [if_neg (by rw [hb]; decide)] at hr
   have hd' := hd
   rw [hd]
   generalize hc : s[i] = c at *
   generalize hrr : s.drop (i + 1) = r at *
   have hrl : (c :: r).length = s.length - i := by rw [← hd,List.length_drop]
   simp only [List.length_cons] at hrl
   refine JoinW.cut (fun st w2 => st = [.bool (c == 35 || Lib.hasPrefix (c :: r) [47,47])] ∧ w2 = w') ?_ ?_
   · refine ixs_i hlt ?_
     rw [hc]
     have e5 : decide (((c.toNat : Nat) : Int) = 35) = (c == 35) := eq_nat 35 c
     rw [bin_eql,e5,condW_b]
     refine ⟨fun h => ⟨by rw [h]; rfl,rfl⟩,fun h => ?_⟩
     refine hasp_p ?_
     exact ⟨by rw [h,Bool.false_or],rfl⟩
   rintro st g2 w2 ⟨rfl,rfl⟩
   simp only [List.getD_cons_zero]
   rw [condW_b]
   refine ⟨fun hcm => ?_,fun hcm => ?_⟩
   · rw [if_pos hcm] at hr
     refine run_p (q := fun b => b != 10) (by simp only [List.length_cons]; omega) (fun c {w K} h => callV_fn' (line1_p h)) ?_
     have hle := run_le (fun b => b != 10) (c :: r)
     have hpos : 1 ≤ runM (fun b => b != 10) (c :: r) := runM_pos (by
       rw [Bool.or_eq_true] at hcm
       rcases hcm with h | h
       · rw [beq_iff_eq] at h; subst h; rfl
       · simp only [Lib.hasPrefix,List.isPrefixOf,Bool.and_eq_true,beq_iff_eq] at h
         rw [← h.1]; rfl)
     simp only [List.length_cons] at hle
     rw [bin_add,wrap_id (by omega) (by omega)]
     generalize runM (fun b => b != 10) (c :: r) = k at *
     refine ⟨⟨i + k,n,by simp only [List.cons.injEq,Value.int.injEq,true_and,and_true]; omega,by omega,rfl,?_,by omega⟩,?_⟩
     · rw [← hr,← drop_drop',hd']; simp only [Prod.mk.injEq,and_true]; omega
     · simp only [Int.toNat_natCast]; omega
   rw [if_neg (by rw [hcm]; decide)] at hr
   refine hasp_p ?_
   rw [condW_b]
   refine ⟨fun hcm2 => ?_,fun hcm2 => ?_⟩
   · rw [if_pos hcm2] at hr
     rw [sls_str,bd_none,bd_some]
     have h2 : 2 ≤ (c :: r).length := pre_len (p := [47,42]) (s := c :: r) hcm2
     simp only [List.length_cons] at h2
     refine ⟨by omega,by simp only [List.length_cons]; omega,?_⟩
     rw [List.take_length]
     show callF Tryd.prog 38 [str (r.drop 1),str [42,47]] w2 _
     refine index2_p hT (by rw [List.length_drop]; omega) ?_
     rw [bin_lss,condW_dec]
     refine ⟨fun hneg => ?_,fun hpos => ?_⟩
     · rw [if_pos hneg] at hr
       rw [← hr,Nat.zero_add] at hK
       exact hK
     · rw [if_neg hpos] at hr
       obtain ⟨j,hj⟩ := Int.eq_ofNat_of_zero_le (show 0 ≤ Lib.index (r.drop 1) [42,47] by omega)
       have hjl := idx_len _ _ hj
       rw [List.length_drop] at hjl
       rw [hj] at hr ⊢
       rw [bin_add,wrap_id (by omega) (by omega),bin_add,wrap_id (by omega) (by omega)]
       rw [Int.toNat_natCast] at hr
       refine ⟨⟨i + (j + 4),n,by simp only [List.cons.injEq,Value.int.injEq,true_and,and_true]; omega,by omega,rfl,?_,by omega⟩,?_⟩
       · rw [← hr,← drop_drop',hd']; simp only [Prod.mk.injEq,and_true]; omega
       · simp only [Int.toNat_natCast]; omega
   · rw [if_neg (by rw [hcm2]; decide),Nat.zero_add] at hr
     rw [← hr] at hK
     exact hK
 · obtain rfl : i = s.length := by omega
   rw [List.drop_length] at hr
   simp only [skipF,Nat.zero_add] at hr
   rw [← hr] at hK
   exact hK
def outV (x : Nat × Int) : List Value := if x.2 = 0 then [i64 ((x.1 + 1 : Nat) : Int),i64 0] else [i64 0,i64 x.2]
def TxC (n : Nat) : Prop := ∀ (c : UInt8) (r : Str) (d : Nat) (w : World) (K : Value → World → Prop),r.length < n → r.length ≤ 1000000 → d ≤ 24 → K (.tuple (outV (textX r d)).toArray) w → callF Tryd.prog 43 [str (c :: r),i64 (d : Nat)] w K
def InC (n : Nat) : Prop := ∀ (c : UInt8) (r : Str) (d : Nat) (w : World) (K : Value → World → Prop),r.length < n → r.length ≤ 1000000 → d ≤ 25 → K (.tuple (outV (if 24 < d then (0,7) else insX r d)).toArray) w → callF Tryd.prog 53 [str (c :: r),i64 (d : Nat)] w K
theorem out_add {i : Nat} {x : Nat × Int} : outV (addM i x) = if x.2 = 0 then [i64 ((i + x.1 + 1 : Nat) : Int),i64 0] else [i64 0,i64 x.2] := by
 unfold outV addM
 by_cases h : x.2 = 0
 · simp only [h,if_true]; rw [show x.1 + i + 1 = i + x.1 + 1 by omega]
 · simp only [if_neg h]
theorem tx_step {n : Nat} (hi : InC n) : TxC (n + 1) := by
 intro c r d w K hn hl hd24 hK
 refine W43_ok ?_
 unfold W43
 have hlen : (c :: r).length = r.length + 1 := rfl
 generalize hR : outV (textX r d) = R0 at hK
 have cond : ∀ {c : UInt8} (k : Nat),k < 256 → (((c.toNat : Nat) : Int) = (k : Int) ↔ c = UInt8.ofNat k) := fun {c} k hk => by
   have := u8_eq c k hk
   rwa [decide_eq_decide] at this
 refine LoopW.go (fun st w' => ∃ i : Nat,st = [i64 ((i + 1 : Nat) : Int)] ∧ w' = w ∧ i ≤ r.length ∧ outV (addM i (textX (r.drop i) d)) = R0) (fun st _ => match st with | [.int _ i] => r.length + 1 - i.toNat | _ => 0) ⟨0,rfl,rfl,by omega,by rw [List.drop_zero,out_add,← hR]; unfold outV; rw [Nat.zero_add]⟩ ?_
 rintro st g w2 ⟨i,rfl,rfl,hi',hr⟩
 simp only [List.getD_cons_zero]
 rw [lens_str,bin_lss,condW_dec,hlen]
 refine ⟨fun hlt => ?_,fun hge => ?_⟩
 · have hlt : i < r.length := by omega
   have hd := drop_len hlt
   rw [hd,textX_cons] at hr
   simp only [beq_iff_eq] at hr
   have ix : ∀ {KK : Value → Prop},KK (cv r[i]) → ixsW (str (c :: r)) (i64 ((i + 1 : Nat) : Int)) KK := fun h => ixs_i (s := c :: r) (i := i + 1) (by rw [hlen]; omega) h
   refine ix ?_
   rw [bin_eql,condW_dec]
   refine ⟨fun e => ?_,fun e => ?_⟩
   · have e : r[i] = 34 := (cond 34 (by omega)).1 e
     rw [if_pos e,out_add,if_pos rfl] at hr
     rw [bin_add,upi (by omega)]
     rw [← hr] at hK
     exact hK
   have e : ¬ r[i] = 34 := fun h => e ((cond 34 (by omega)).2 h)
   rw [if_neg e] at hr
   refine ix ?_
   rw [bin_eql,condW_dec]
   refine ⟨fun e => ?_,fun e => ?_⟩
   · have e : r[i] = 10 := (cond 10 (by omega)).1 e
     rw [if_pos e,out_add,if_neg (by simp)] at hr
     rw [← hr] at hK
     exact hK
   have e : ¬ r[i] = 10 := fun h => e ((cond 10 (by omega)).2 h)
   rw [if_neg e] at hr
   refine ix ?_
   rw [bin_eql,condW_dec]
   refine ⟨fun e => ?_,fun e => ?_⟩
   · have e : r[i] = 92 := (cond 92 (by omega)).1 e
     rw [if_pos e] at hr
     rw [bin_add,upi (by omega),lens_str,bin_geq,hlen]
     simp only [isB_f]
     by_cases hend : r.length ≤ i + 1
     · have e0 : r.drop (i + 1) = [] := List.drop_of_length_le hend
       rw [e0] at hr
       simp only at hr
       rw [out_add,if_neg (by simp)] at hr
       rw [decide_eq_true (by omega),Bool.not_true,GdW_f]
       intro g2
       rw [pick_t,condW_true]
       rw [← hr] at hK
       exact hK
     · have hlt2 : i + 1 < r.length := by omega
       have hd2 := drop_len hlt2
       rw [hd2] at hr
       simp only at hr
       rw [decide_eq_false (by omega),Bool.not_false]
       refine GdW.look (!Lex.escOk r[i + 1]) (fun _ J hJ => ?_) fun g2 => ?_
       · rw [bin_add,upi (by omega)]
         refine ixs_i (s := c :: r) (i := i + 2) (by rw [hlen]; omega) ?_
         refine indexb_p ?_
         rw [bin_lss]
         have := esc6 r[i + 1]
         rw [show (c :: r)[i + 2] = r[i + 1] from rfl,this]
         exact hJ
       simp only [List.getD_cons_zero,cond_true,pick_f]
       rw [condW_b]
       refine ⟨fun hb => ?_,fun hg => ?_⟩
       · have hb : ¬ Lex.escOk r[i + 1] = true := by simpa using hb
         rw [if_neg hb,out_add,if_neg (by simp)] at hr
         rw [← hr] at hK
         exact hK
       · have hg : Lex.escOk r[i + 1] = true := by simpa using hg
         rw [if_pos hg,add_add] at hr
         rw [bin_add,wrap_id (by omega) (by omega)]
         refine ⟨⟨i + 2,by simp only [List.cons.injEq,Value.int.injEq,true_and,and_true]; omega,trivial,by omega,hr⟩,?_⟩
         simp only [Int.toNat_natCast]; omega
   have e : ¬ r[i] = 92 := fun h => e ((cond 92 (by omega)).2 h)
   rw [if_neg e] at hr
   rw [sls_str,bd_none,bd_some]
   refine ⟨by omega,by rw [hlen]; omega,?_⟩
   rw [List.take_length,Int.toNat_natCast,List.drop_succ_cons,hd]
   refine hasp_p ?_
   rw [pre_eq,condW_b]
   refine ⟨fun e => ?_,fun e => ?_⟩
   · rw [if_pos e] at hr
     have h2 := pre_len e
     have hlt2 : i + 1 < r.length := by
       simp only [List.length_cons,List.length_nil,List.length_drop] at h2; omega
     have hd2 := drop_len hlt2
     rw [bin_add,upi (by omega),sls_str,bd_none,bd_some]
     refine ⟨by omega,by rw [hlen]; omega,?_⟩
     rw [List.take_length,Int.toNat_natCast,List.drop_succ_cons,hd2,bin_add,upi (by omega)]
     have hdd : (r.drop (i + 1)).drop 1 = r.drop (i + 2) := by rw [drop_drop']
     rw [hdd] at hr
     have hll : (r.drop (i + 2)).length = r.length - (i + 2) := List.length_drop ..
     refine hi _ _ (d + 1) _ _ (by show (r.drop (i + 2)).length < n; omega) (by show (r.drop (i + 2)).length ≤ _; omega) (by omega) ?_
     have hx' : ∃ x : Nat × Int,x = (if 24 < d + 1 then ((0 : Nat),(7 : Int)) else insX (r.drop (i + 2)) (d + 1)) ∧ outV (addM i (if x.2 = 0 then addM (x.1 + 2) (textX ((r.drop (i + 2)).drop x.1) d) else (0,x.2))) = R0 ∧ (x.2 = 0 → x.1 ≤ (r.drop (i + 2)).length) := by
       refine ⟨_,rfl,?_,?_⟩
       · by_cases h : 24 < d + 1
         · rw [if_pos h] at hr ⊢
           exact hr
         · rw [if_neg h] at hr ⊢
           exact hr
       · by_cases h : 24 < d + 1
         · rw [if_pos h]; intro h; exact absurd h (by simp)
         · rw [if_neg h]
           intro h0
           exact ((ins_bra _ (r.drop (i + 2)) (Nat.le_refl _)).2 (d + 1) _ (Prod.ext rfl h0)).1.2
     obtain ⟨x,ex,hr,hxl⟩ := hx'
     rw [show r.drop (i + 1 + 1) = r.drop (i + 2) from rfl,← ex]
     by_cases h0 : x.2 = 0
     · have eo : outV x = [i64 ((x.1 + 1 : Nat) : Int),i64 0] := by unfold outV; rw [if_pos h0]
       have hxl := hxl h0
       rw [if_pos h0,add_add,drop_drop'] at hr
       rw [eo,ext_tuple]
       refine ⟨i64 ((x.1 + 1 : Nat) : Int),rfl,?_⟩
       rw [ext_tuple]
       refine ⟨i64 0,rfl,?_⟩
       rw [bin_neq,condW_dec]
       refine ⟨fun h => absurd rfl h,fun _ => ?_⟩
       rw [bin_add,wrap_id (by omega) (by omega),bin_add,wrap_id (by omega) (by omega)]
       refine ⟨⟨i + (x.1 + 2),by simp only [List.cons.injEq,Value.int.injEq,true_and,and_true]; omega,rfl,by omega,by rw [show i + (x.1 + 2) = i + 2 + x.1 by omega] at hr ⊢; exact hr⟩,?_⟩
       simp only [Int.toNat_natCast]; omega
     · have eo : outV x = [i64 0,i64 x.2] := by unfold outV; rw [if_neg h0]
       rw [if_neg h0,out_add,if_neg h0] at hr
       rw [eo,ext_tuple]
       refine ⟨i64 0,rfl,?_⟩
       rw [ext_tuple]
       refine ⟨i64 x.2,rfl,?_⟩
       rw [bin_neq,condW_dec]
       refine ⟨fun _ => by rw [← hr] at hK; exact hK,fun h => absurd h0 h⟩
   · rw [if_neg (by rw [e]; decide),add_add] at hr
     rw [bin_add,upi (by omega)]
     refine ⟨⟨i + 1,rfl,rfl,by omega,hr⟩,?_⟩
     simp only [Int.toNat_natCast]; omega
 · obtain rfl : i = r.length := by omega
   rw [List.drop_length,textX_nil,out_add,if_neg (by simp)] at hr
   rw [← hr] at hK
   exact hK
theorem in_step {n : Nat} (hi : InC n) (htx : TxC n) : InC (n + 1) := by
 intro c r d w K hn hl hd25 hK
 refine W53_ok ?_
 unfold W53
 rw [bin_gtr,condW_dec]
 refine ⟨fun h => ?_,fun h => ?_⟩
 · rw [if_pos (by omega)] at hK
   exact hK
 have hd24 : d ≤ 24 := by omega
 rw [if_neg (by omega)] at hK
 have hlen : (c :: r).length = r.length + 1 := rfl
 generalize hR : outV (insX r d) = R0 at hK
 have cond : ∀ {c : UInt8} (k : Nat),k < 256 → (((c.toNat : Nat) : Int) = (k : Int) ↔ c = UInt8.ofNat k) := fun {c} k hk => by
   have := u8_eq c k hk
   rwa [decide_eq_decide] at this
 refine LoopW.go (fun st w' => ∃ i : Nat,st = [i64 ((i + 1 : Nat) : Int)] ∧ w' = w ∧ i ≤ r.length ∧ outV (addM i (insX (r.drop i) d)) = R0) (fun st _ => match st with | [.int _ i] => r.length + 1 - i.toNat | _ => 0) ⟨0,rfl,rfl,by omega,by rw [List.drop_zero,out_add,← hR]; unfold outV; rw [Nat.zero_add]⟩ ?_
 rintro st g w2 ⟨i,rfl,rfl,hi',hr⟩
 simp only [List.getD_cons_zero]
 rw [lens_str,bin_lss,condW_dec,hlen]
 refine ⟨fun hlt => ?_,fun hge => ?_⟩
 · have hlt : i < r.length := by omega
   have hd := drop_len hlt
   rw [hd,insX_cons] at hr
   simp only [beq_iff_eq] at hr
   have hll : (r.drop (i + 1)).length = r.length - (i + 1) := List.length_drop ..
   refine JoinW.cut (fun st w' => w' = w2 ∧ ∃ (k : Nat) (e : Int),st = [i64 (if e = 0 then ((k + 1 : Nat) : Int) else 0),i64 e] ∧ (e = 0 → i + (k + 1) ≤ r.length ∧ outV (addM (i + (k + 1)) (insX (r.drop (i + (k + 1))) d)) = R0) ∧ (e ≠ 0 → [i64 0,i64 e] = R0)) ?_ ?_
   · refine ixs_i (s := c :: r) (i := i + 1) (by rw [hlen]; omega) ?_
     show binW .eql (cv r[i]) _ _
     rw [bin_eql,condW_dec]
     refine ⟨fun e => ?_,fun e => ?_⟩
     · have e : r[i] = 125 := (cond 125 (by omega)).1 e
       rw [if_pos e,out_add,if_pos rfl] at hr
       rw [bin_add,upi (by omega)]
       rw [← hr] at hK
       exact hK
     have e : ¬ r[i] = 125 := fun h => e ((cond 125 (by omega)).2 h)
     rw [if_neg e] at hr
     rw [bin_eql,condW_dec]
     refine ⟨fun e => ?_,fun e => ?_⟩
     · have e : r[i] = 10 := (cond 10 (by omega)).1 e
       rw [if_pos e,out_add,if_neg (by simp)] at hr
       rw [← hr] at hK
       exact hK
     have e : ¬ r[i] = 10 := fun h => e ((cond 10 (by omega)).2 h)
     rw [if_neg e] at hr
     -- one that goes over k bytes behind this one
     have sub : ∀ (x : Nat × Int),outV (addM i (if x.2 = 0 then addM (x.1 + 1) (insX ((r.drop (i + 1)).drop x.1) d) else (0,x.2))) = R0 → (x.2 = 0 → x.1 ≤ (r.drop (i + 1)).length) → extW 0 (.tuple (outV x).toArray) fun t33 => extW 1 (.tuple (outV x).toArray) fun t34 => (fun (st : List Value) (w' : World) => w' = w2 ∧ ∃ (k : Nat) (e : Int),st = [i64 (if e = 0 then ((k + 1 : Nat) : Int) else 0),i64 e] ∧ (e = 0 → i + (k + 1) ≤ r.length ∧ outV (addM (i + (k + 1)) (insX (r.drop (i + (k + 1))) d)) = R0) ∧ (e ≠ 0 → [i64 0,i64 e] = R0)) [t33,t34] w2 := fun x hx hxl => by
       by_cases h0 : x.2 = 0
       · have eo : outV x = [i64 ((x.1 + 1 : Nat) : Int),i64 0] := by unfold outV; rw [if_pos h0]
         have hxl := hxl h0
         rw [if_pos h0,add_add,drop_drop'] at hx
         rw [eo,ext_tuple]
         refine ⟨i64 ((x.1 + 1 : Nat) : Int),rfl,?_⟩
         rw [ext_tuple]
         refine ⟨i64 0,rfl,rfl,x.1,0,by rw [if_pos rfl],fun _ => ⟨by omega,by rw [show i + (x.1 + 1) = i + 1 + x.1 by omega] at hx ⊢; exact hx⟩,fun h => absurd rfl h⟩
       · have eo : outV x = [i64 0,i64 x.2] := by unfold outV; rw [if_neg h0]
         rw [if_neg h0,out_add,if_neg h0] at hx
         rw [eo,ext_tuple]
         refine ⟨i64 0,rfl,?_⟩
         rw [ext_tuple]
         exact ⟨i64 x.2,rfl,rfl,0,x.2,by rw [if_neg h0],fun h => absurd h h0,fun _ => hx⟩
     rw [bin_eql,condW_dec]
     refine ⟨fun e => ?_,fun e => ?_⟩
     · have e : r[i] = 123 := (cond 123 (by omega)).1 e
       rw [if_pos e] at hr
       rw [sls_str,bd_none,bd_some]
       refine ⟨by omega,by rw [hlen]; omega,?_⟩
       rw [List.take_length,Int.toNat_natCast,List.drop_succ_cons,hd,bin_add,upi (by omega)]
       refine hi _ _ (d + 1) _ _ (by omega) (by omega) (by omega) ?_
       refine sub _ ?_ ?_
       · by_cases h : 24 < d + 1
         · rw [if_pos h] at hr ⊢
           exact hr
         · rw [if_neg h] at hr ⊢
           exact hr
       · by_cases h : 24 < d + 1
         · rw [if_pos h]; intro h; exact absurd h (by simp)
         · rw [if_neg h]
           intro h0
           exact ((ins_bra _ (r.drop (i + 1)) (Nat.le_refl _)).2 (d + 1) _ (Prod.ext rfl h0)).1.2
     have e : ¬ r[i] = 123 := fun h => e ((cond 123 (by omega)).2 h)
     rw [if_neg e] at hr
     rw [bin_eql,condW_dec]
     refine ⟨fun e => ?_,fun e => ?_⟩
     · have e : r[i] = 34 := (cond 34 (by omega)).1 e
       rw [if_pos e] at hr
       rw [sls_str,bd_none,bd_some]
       refine ⟨by omega,by rw [hlen]; omega,?_⟩
       rw [List.take_length,Int.toNat_natCast,List.drop_succ_cons,hd]
       refine htx _ _ d _ _ (by omega) (by omega) hd24 ?_
       refine sub _ hr fun h0 => ?_
       exact ((ins_bra _ (r.drop (i + 1)) (Nat.le_refl _)).1 d _ (Prod.ext rfl h0)).2.2
     · have e : ¬ r[i] = 34 := fun h => e ((cond 34 (by omega)).2 h)
       rw [if_neg e,add_add] at hr
       exact ⟨rfl,0,0,rfl,fun _ => ⟨by omega,hr⟩,fun h => absurd rfl h⟩
   rintro st g2 w3 ⟨rfl,k,e,rfl,h1,h2⟩
   simp only [List.getD_cons_zero,List.getD_cons_succ]
   rw [bin_neq,condW_dec]
   refine ⟨fun he => by rw [← h2 he] at hK; exact hK,fun he => ?_⟩
   have he : e = 0 := by
     by_cases h : e = 0
     · exact h
     · exact absurd h he
   obtain ⟨g1,g2⟩ := h1 he
   rw [if_pos he,bin_add,wrap_id (by omega) (by omega)]
   refine ⟨⟨i + (k + 1),by simp only [List.cons.injEq,Value.int.injEq,true_and,and_true]; omega,trivial,g1,g2⟩,?_⟩
   simp only [Int.toNat_natCast]; omega
 · obtain rfl : i = r.length := by omega
   rw [List.drop_length,insX_nil,out_add,if_neg (by simp)] at hr
   rw [← hr] at hK
   exact hK
theorem tx_in : ∀ n,TxC n ∧ InC n
 | 0 => ⟨fun _ _ _ _ _ h => by omega,fun _ _ _ _ _ h => by omega⟩
 | n + 1 => ⟨tx_step (tx_in n).2,in_step (tx_in n).2 (tx_in n).1⟩
theorem ltext_p {c : UInt8} {r : Str} {d : Nat} {w : World} {K : Value → World → Prop} (hl : r.length ≤ 1000000) (hd : d ≤ 24) (hK : K (.tuple (outV (textX r d)).toArray) w) : callF Tryd.prog 43 [str (c :: r),i64 (d : Nat)] w K := (tx_in (r.length + 1)).1 c r d w K (by omega) hl hd hK
end
end Go.Proofs.YtofhaneggcpdaaaDoor
namespace Go.Eng
open Go
theorem byte_at {s r : Str} {i : Nat} {c : UInt8} (h : s.drop i = c :: r) : byteM s i = c.toNat := by
 unfold byteM
 have : s[i]? = some c := by
   have := List.getElem?_drop (xs := s) (i := i) (j := 0)
   rw [h] at this
   simpa using this.symm
 rw [this]
theorem drop_app {s l r : Str} {i : Nat} (h : s.drop i = l ++ r) : s.drop (i + l.length) = r := by
 rw [← List.drop_drop,h,List.drop_left]
theorem drop_lt {s r : Str} {i : Nat} {c : UInt8} (h : s.drop i = c :: r) : i < s.length := by
 apply Nat.lt_of_not_le
 intro hle
 rw [List.drop_eq_nil_iff.2 hle] at h
 cases h
end Go.Eng
namespace Go.Eng
open Go
theorem byte_pref {s u r : Str} {i j : Nat} (h : s.drop i = u ++ r) (hj : j < u.length) : byteM s (i + j) = u[j].toNat := by
 have : s.drop (i + j) = u[j] :: (u.drop (j + 1) ++ r) := by
   rw [← List.drop_drop,h,List.drop_append_of_le_length (by omega),List.drop_eq_getElem_cons hj]; rfl
 exact byte_at this
theorem rune_same {s t : Str} {i k m : Nat} (hm : 0 < m) (h : runeM s i = m) (hb : ∀ j,j < m → byteM t (k + j) = byteM s (i + j)) : runeM t k = m := by
 have e0 : byteM t k = byteM s i := hb 0 hm
 unfold runeM at h ⊢
 dsimp only at h
 simp only [e0]
 by_cases h1 : m = 1
 · subst h1
   split at h
   · omega
   rename_i a
   split at h
   · rename_i b; rw [if_neg a,if_pos b]
   split at h
   · omega
   split at h
   · omega
   split at h <;> omega
 by_cases h2 : m = 2
 · subst h2
   have e1 := hb 1 (by omega)
   have m1 : moreM t (k + 1) = moreM s (i + 1) := by unfold moreM; rw [e1]
   simp only [m1]
   split at h
   · omega
   rename_i a
   split at h
   · omega
   rename_i b
   split at h
   · rename_i c; rw [if_neg a,if_neg b,if_pos c]
   split at h
   · omega
   split at h <;> omega
 by_cases h3 : m = 3
 · subst h3
   have e1 := hb 1 (by omega)
   have e2 := hb 2 (by omega)
   have m1 : moreM t (k + 1) = moreM s (i + 1) := by unfold moreM; rw [e1]
   have m2 : moreM t (k + 2) = moreM s (i + 2) := by unfold moreM; rw [e2]
   simp only [m1,m2,e1,e2]
   split at h
   · omega
   rename_i a
   split at h
   · omega
   rename_i b
   split at h
   · omega
   rename_i c
   split at h
   · rename_i d; rw [if_neg a,if_neg b,if_neg c,if_pos d]
   split at h <;> omega
 by_cases h4 : m = 4
 · subst h4
   have e1 := hb 1 (by omega)
   have e2 := hb 2 (by omega)
   have e3 := hb 3 (by omega)
   simp only [moreM,e1,e2,e3] at h ⊢
   exact h
 · exfalso
   split at h
   · omega
   split at h
   · omega
   split at h
   · omega
   split at h
   · omega
   split at h <;> omega
theorem rune_lt {s : Str} {i : Nat} (h : runeM s i ≠ 0) : i < s.length := by
 apply Nat.lt_of_not_le
 intro hle
 exact h (rune_end hle)
theorem rune_fits {s : Str} {i : Nat} (h : runeM s i ≠ 0) : i + runeM s i ≤ s.length := by
 obtain ⟨c,hc⟩ := rune_good (rune_lt h) h
 exact hc.fits
def Rn (u : Str) : Prop := u ≠ [] ∧ runeM u 0 = u.length
theorem Rn.pos {u : Str} (h : Rn u) : 0 < u.length := List.length_pos_iff.2 h.1
theorem Rn.at {u s r : Str} {i : Nat} (h : Rn u) (hs : s.drop i = u ++ r) : runeM s i = u.length := by
 refine rune_same (s := u) (i := 0) h.pos h.2 fun j hj => ?_
 rw [byte_pref hs hj,byte_pref (s := u) (i := 0) (u := u) (r := []) (by simp) hj]
theorem Rn.of {s : Str} {i : Nat} (h : runeM s i ≠ 0) : Rn ((s.drop i).take (runeM s i)) := by
 have hf := rune_fits h
 have hl : ((s.drop i).take (runeM s i)).length = runeM s i := by rw [List.length_take,List.length_drop]; omega
 refine ⟨fun e => by rw [e] at hl; simp at hl; omega,?_⟩
 rw [hl]
 refine rune_same (s := s) (i := i) (by omega) rfl fun j hj => ?_
 rw [byte_pref (s := s) (i := i) (u := (s.drop i).take (runeM s i)) (r := (s.drop i).drop (runeM s i)) (List.take_append_drop _ _).symm (by omega),byte_pref (s := (s.drop i).take (runeM s i)) (i := 0) (u := (s.drop i).take (runeM s i)) (r := []) (by simp) (by omega)]
inductive Utf : Str → Prop where
 | nil : Utf []
 | cons {u r : Str} : Rn u → Utf r → Utf (u ++ r)
theorem Rn.cases {u : Str} (h : Rn u) : (∃ c : UInt8,u = [c] ∧ c.toNat < 128) ∨ (∀ c ∈ u,128 ≤ c.toNat) := by
 have hr := h.2
 have hp := h.pos
 have hb : ∀ j,(hj : j < u.length) → byteM u j = u[j].toNat := fun j hj => by
   have := byte_pref (s := u) (i := 0) (u := u) (r := []) (by simp) hj
   rwa [Nat.zero_add] at this
 have hm : ∀ j,(hj : j < u.length) → moreM u j = true → 128 ≤ u[j].toNat := fun j hj hm => by
   unfold moreM at hm
   rw [hb j hj,Bool.and_eq_true,decide_eq_true_iff,decide_eq_true_iff] at hm
   omega
 unfold runeM at hr
 rw [hb 0 hp] at hr
 simp only [Nat.zero_add] at hr
 have hall : (∀ j,(hj : j < u.length) → 128 ≤ u[j].toNat) → ∀ c ∈ u,128 ≤ c.toNat := fun hj c hc => by
   obtain ⟨j,h1,rfl⟩ := List.getElem_of_mem hc
   exact hj j h1
 split at hr
 · omega
 split at hr
 · rename_i hlt
   left
   obtain ⟨c,rfl⟩ := List.length_eq_one_iff.1 hr.symm
   refine ⟨c,rfl,?_⟩
   have e : ([c] : Str)[0].toNat = c.toNat := rfl
   omega
 right
 refine hall fun j hj => ?_
 split at hr
 · rename_i c
   obtain ⟨c1,_,c2⟩ := c
   obtain rfl | rfl : j = 0 ∨ j = 1 := by omega
   · omega
   · exact hm 1 hj c2
 split at hr
 · rename_i c
   obtain ⟨c1,_,c2,c3,_⟩ := c
   obtain rfl | rfl | rfl : j = 0 ∨ j = 1 ∨ j = 2 := by omega
   · omega
   · exact hm 1 hj c2
   · exact hm 2 hj c3
 split at hr
 · rename_i c
   obtain ⟨c1,_,c2,c3,c4,_⟩ := c
   obtain rfl | rfl | rfl | rfl : j = 0 ∨ j = 1 ∨ j = 2 ∨ j = 3 := by omega
   · omega
   · exact hm 1 hj c2
   · exact hm 2 hj c3
   · exact hm 3 hj c4
 · omega
def escOk (c : UInt8) : Bool :=
 match escB c with
 | [d] => decide (d = c) && decide (c ≠ 34) && decide (c ≠ 92) && decide (32 ≤ c.toNat)
 | [a,b] => decide (a = 92) && decide (escM [a,b] 0 = some ([c],2))
 | [a,b,d,e,f,g] => decide (a = 92) && decide (b = 117) && decide (hexM [a,b,d,e,f,g] 0 = c.toNat)
 | _ => false
end Go.Eng
namespace Go.Proofs.YtofhaneggcpdaaaDoor
open Go Go.Eng Go.RowKit Go.Syn Go.Lex
set_option maxRecDepth 100000
theorem pre_one (c d : UInt8) (r : Str) : [d].isPrefixOf (c :: r) = (d == c) := by simp [List.isPrefixOf]
theorem index_run (s : Str) : Lib.index s [10] = if runM (fun b => b != 10) s < s.length then ((runM (fun b => b != 10) s : Nat) : Int) else -1 := by
 induction s with
 | nil => rfl
 | cons c r ih =>
   simp only [Lib.index,pre_one]
   by_cases h : c = 10
   · subst h
     rfl
   · have h1 : ((10 : UInt8) == c) = false := by rw [beq_eq_false_iff_ne]; exact fun e => h e.symm
     have h2 : (c != 10) = true := by simp [h]
     have e2 : runM (fun b => b != 10) (c :: r) = runM (fun b => b != 10) r + 1 := by simp only [runM]; rw [if_pos h2]
     obtain ⟨k,hk0⟩ : ∃ k,k = runM (fun b => b != 10) r := ⟨_,rfl⟩
     have ih' : Lib.index r [10] = if k < r.length then (k : Int) else -1 := by rw [hk0]; exact ih
     rw [h1,if_neg (by decide),ih',e2,← hk0]
     simp only [List.length_cons]
     by_cases hk : k < r.length
     · have e3 : (if k < r.length then (k : Int) else -1) = k := if_pos hk
       have e4 : (if k + 1 < r.length + 1 then ((k + 1 : Nat) : Int) else -1) = ((k + 1 : Nat) : Int) := if_pos (by omega)
       rw [e3,e4,if_neg (by simp only [beq_iff_eq]; omega)]
       rfl
     · have e3 : (if k < r.length then (k : Int) else -1) = -1 := if_neg hk
       have e4 : (if k + 1 < r.length + 1 then ((k + 1 : Nat) : Int) else -1) = -1 := if_neg (by omega)
       rw [e3,e4]
       rfl
theorem cut_run (s : Str) : (Lib.cut s [10]).1 = s.take (runM (fun b => b != 10) s) ∧ (Lib.cut s [10]).2.2 = decide (runM (fun b => b != 10) s < s.length) := by
 have hle := run_le (fun b => b != 10) s
 unfold Lib.cut
 rw [index_run]
 by_cases h : runM (fun b => b != 10) s < s.length
 · rw [if_pos h,if_pos (by omega),Int.toNat_natCast]
   exact ⟨rfl,by simp [h]⟩
 · rw [if_neg h,if_neg (by omega)]
   exact ⟨by rw [List.take_of_length_le (by omega)],by simp [h]⟩
theorem trim_run (l : Str) : Lib.trimLeftS l [32,9] = l.drop (runM (fun b => b == 32 || b == 9) l) := by
 unfold Lib.trimLeftS
 induction l with
 | nil => rfl
 | cons c r ih =>
   simp only [List.dropWhile_cons,runM]
   have e : ([32,9] : Str).contains c = (c == 32 || c == 9) := by simp [List.contains,List.elem]; cases (c == 32) <;> cases (c == 9) <;> rfl
   rw [e]
   by_cases hb : (c == 32 || c == 9) = true
   · rw [if_pos hb,if_pos hb]; exact ih
   · rw [if_neg hb,if_neg hb]; rfl
theorem hereL_app (a b : Str) : hereL (a ++ b) = hereL a ++ hereL b := by
 induction a with
 | nil => rfl
 | cons c r ih =>
   simp only [List.cons_append,hereL]
   (repeat' split) <;> simp only [List.cons_append,ih]
theorem hereL_high {u : Str} (h : ∀ c ∈ u,128 ≤ c.toNat) : hereL u = u := by
 induction u with
 | nil => rfl
 | cons c r ih =>
   have hc := h c List.mem_cons_self
   have n : ∀ k : UInt8,k.toNat < 128 → (c == k) = false := fun k hk => by
     rw [beq_eq_false_iff_ne]
     intro e
     subst e
     omega
   simp only [hereL,n 92 (by decide),n 34 (by decide),n 36 (by decide),n 9 (by decide),n 13 (by decide),Bool.or_self,Bool.false_eq_true,if_false,ih fun x hx => h x (List.mem_cons_of_mem _ hx)]
theorem utf_cons {c : UInt8} {r : Str} (h : Utf (c :: r)) (hc : c.toNat < 128) : Utf r := by
 generalize he : c :: r = z at h
 cases h with
 | nil => cases he
 | @cons u r' hu hr =>
   rcases hu.cases with ⟨x,rfl,_⟩ | hh
   · simp only [List.cons_append,List.nil_append,List.cons.injEq] at he
     rw [he.2]; exact hr
   · cases u with
     | nil => exact absurd rfl hu.1
     | cons y u' =>
       simp only [List.cons_append,List.cons.injEq] at he
       have := hh y List.mem_cons_self
       rw [← he.1] at this
       omega
theorem utf_split {t : Str} (h : Utf t) : ∀ {a b : Str} {c : UInt8},t = a ++ c :: b → c.toNat < 128 → Utf a ∧ Utf (c :: b) := by
 induction h with
 | nil => intro a b c e; simp at e
 | @cons u r hu hr ih =>
   intro a b c e hc
   by_cases hle : u.length ≤ a.length
   · have h1 : a = u ++ a.drop u.length := by
       have := congrArg (List.take u.length) e
       rw [List.take_left,List.take_append_of_le_length hle] at this
       have h2 := List.take_append_drop u.length a
       rw [← this] at h2
       exact h2.symm
     rw [h1,List.append_assoc] at e
     have e := List.append_cancel_left e
     obtain ⟨i1,i2⟩ := ih e hc
     rw [h1]
     exact ⟨.cons hu i1,i2⟩
   · have hmem : c ∈ u := by
       have : (u ++ r)[a.length]? = some c := by rw [e]; simp
       rw [List.getElem?_append_left (by omega)] at this
       exact List.mem_of_getElem? this
     rcases hu.cases with ⟨x,rfl,_⟩ | hh
     · have ha : a = [] := List.eq_nil_of_length_eq_zero (by simp only [List.length_cons,List.length_nil] at hle; omega)
       subst ha
       simp only [List.nil_append] at e
       rw [← e]
       exact ⟨.nil,.cons hu hr⟩
     · have := hh c hmem; omega
theorem utf_drop {t : Str} (h : Utf t) {i : Nat} {c : UInt8} {b : Str} (hd : t.drop i = c :: b) (hc : c.toNat < 128) : Utf (t.take i) ∧ Utf (c :: b) :=
 utf_split h (by rw [← hd,List.take_append_drop]) hc
theorem utf_line {s : Str} (h : Utf s) : Utf (s.take (runM (fun b => b != 10) s)) ∧ (runM (fun b => b != 10) s < s.length → Utf (s.drop (runM (fun b => b != 10) s + 1))) := by
 have stop : ∀ s : Str,∀ b,(s.drop (runM (fun b => b != 10) s)).head? = some b → b = 10 := by
   intro s
   induction s with
   | nil => intro b hb; simp [runM] at hb
   | cons c r ih =>
     intro b hb
     simp only [runM] at hb
     by_cases hc : (c != 10) = true
     · rw [if_pos hc,List.drop_succ_cons] at hb; exact ih b hb
     · rw [if_neg hc] at hb
       simp only [List.drop_zero,List.head?_cons,Option.some.injEq] at hb
       rw [← hb]; simpa using hc
 by_cases hk : runM (fun b => b != 10) s < s.length
 · have hd := drop_len hk
   have h10 := stop s s[runM (fun b => b != 10) s] (by rw [hd]; rfl)
   obtain ⟨h1,h2⟩ := utf_drop h hd (by rw [h10]; decide)
   exact ⟨h1,fun _ => utf_cons h2 (by rw [h10]; decide)⟩
 · exact ⟨by rw [List.take_of_length_le (by omega)]; exact h,fun e => absurd e hk⟩
theorem TabI.ext {w w' : World} (h : TabI w) (hx : Ext w w') : TabI w' := by
 obtain ⟨m,h⟩ := h
 refine ⟨m,?_⟩
 rw [cell_eq] at h ⊢
 cases hh : w.heap[0]? with
 | none => rw [hh] at h; cases h
 | some o => rw [hx.at hh id]; rw [hh] at h; exact h
section
variable [HX]
theorem lrange_str {l : Str} {w : World} {K : Value → World → Prop} (hK : K (.pointer (some ⟨w.heap.size,0,none⟩)) (w.alloc (.stringIter (ofL l) 0))) : semE Tryd.prog (Instr.range 9 (str l)) w K := by
 have hT : Tryd.prog.underlying 9 = some .string := by kernel_rfl
 have hr : (Instr.range 9 (str l)).run Tryd.prog w = .ok (.pointer (some ⟨w.heap.size,0,none⟩)) (w.alloc (.stringIter (ofL l) 0)) := by
   simp [Instr.range,run_bind,run_underlying' hT,run_pure,newObj,Sem.run]
 unfold semE
 rw [hr]
 exact hK
theorem lset_chg {w : World} {r : Nat} {o : Obj} (h : r < w.heap.size) : Chg (· = r) w { w with heap := w.heap.setIfInBounds r o } :=
 ⟨rfl,rfl,rfl,by simp,fun k _ hk => by
   show (w.heap.setIfInBounds r o)[k]? = _
   rw [Array.getElem?_setIfInBounds_ne (by omega)]⟩
theorem lnext_str {r pos : Nat} {l : Str} {T : TypeId} {w : World} {K : Value → World → Prop} (hw : w.heap[r]? = some (.stringIter (ofL l) pos))
   (h0 : l.length ≤ pos → K (.tuple #[.bool false]) w)
   (h1 : pos < l.length → ∀ w',w'.heap[r]? = some (.stringIter (ofL l) (pos + (Utf8.decode (ofL l) pos).2)) → Chg (· = r) w w' → w'.heap.size = w.heap.size → K (.tuple #[.bool true,i64 pos,.int .i32 (Utf8.decode (ofL l) pos).1]) w') :
   semE Tryd.prog (Instr.next (.pointer (some ⟨r,0,none⟩)) true T) w K := by
 have hg : (getObj r).run Tryd.prog w = .ok (.stringIter (ofL l) pos) w := by simp [getObj,Sem.run,hw]
 have hlt : r < w.heap.size := (Array.getElem?_eq_some_iff.1 hw).1
 unfold semE
 simp only [Instr.next,run_bind,hg,ofL_size]
 by_cases hp : pos < l.length
 · have hset : (setObj r (.stringIter (ofL l) (pos + (Utf8.decode (ofL l) pos).2))).run Tryd.prog w = .ok () { w with heap := w.heap.setIfInBounds r (.stringIter (ofL l) (pos + (Utf8.decode (ofL l) pos).2)) } := by simp [setObj,Sem.run,hw]
   rw [if_pos hp]
   simp only [run_bind,hset,run_pure]
   exact h1 hp _ (by simp [hlt]) (lset_chg hlt) (by simp)
 · rw [if_neg hp]
   simp only [run_pure]
   exact h0 (by omega)
theorem sign_ref {c : UInt8} {r : Str} {w : World} {K : Value → World → Prop} (hl : r.length ≤ 1000000) (hK : K (str (signM (c :: r))) w) : callF Tryd.prog 45 [str (c :: r)] w K := by
 refine W45_ok ?_
 unfold W45
 unfold signM at hK
 refine JoinW.cut (fun _ w' => w' = w ∧ signs2.contains ((c :: r).take 2) = false) ?_ ?_
 · rw [lens_str,bin_gtr,condW_dec]
   refine ⟨fun hlen => ?_,fun hlen => ⟨rfl,?_⟩⟩
   · rw [sls_str,bd_some]
     refine ⟨by omega,by omega,?_⟩
     rw [bd_none,List.drop_zero]
     rw [show (c :: r).take (Int.toNat 2) = (c :: r).take 2 from rfl]
     generalize hx : (c :: r).take 2 = x at hK ⊢
     refine JoinW.cut (fun st w' => st = [.bool (signs2.contains x)] ∧ w' = w) ?_ ?_
     · unfold signs2
       simp only [List.contains_cons,List.contains_nil,Bool.or_false]
       have eqd : ∀ y : Str,decide (x = y) = (x == y) := fun y => by rw [Bool.eq_iff_iff]; simp
       simp only [bin_seq,eqd]
       generalize (x == [61,61]) = a1
       generalize (x == [33,61]) = a2
       generalize (x == [60,61]) = a3
       generalize (x == [62,61]) = a4
       generalize (x == [38,38]) = a5
       generalize (x == [124,124]) = a6
       cases a1 <;> simp only [condW_true,condW_false,Bool.true_or,Bool.false_or,and_self]
       cases a2 <;> simp only [condW_true,condW_false,Bool.true_or,Bool.false_or,and_self]
       cases a3 <;> simp only [condW_true,condW_false,Bool.true_or,Bool.false_or,and_self]
       cases a4 <;> simp only [condW_true,condW_false,Bool.true_or,Bool.false_or,and_self]
       cases a5 <;> simp only [condW_true,condW_false,Bool.true_or,Bool.false_or,and_self]
     rintro st g w' ⟨rfl,rfl⟩
     simp only [List.getD_cons_zero]
     rw [condW_b]
     refine ⟨fun hy => ?_,fun hn => ⟨trivial,hn⟩⟩
     rw [if_pos hy] at hK
     rw [sls_str,bd_some]
     refine ⟨by omega,by omega,?_⟩
     rw [bd_none,List.drop_zero]
     show K (str ((c :: r).take 2)) w'
     rw [hx]
     exact hK
   · have : r = [] := List.eq_nil_of_length_eq_zero (by simp only [List.length_cons] at hlen; omega)
     subst this
     simp [signs2]
 rintro _ g w' ⟨rfl,hn⟩
 rw [if_neg (by rw [hn]; decide)] at hK
 refine ixs_i (s := c :: r) (i := 0) (by simp) ?_
 show callF Tryd.prog 35 [_,cv c] w' _
 refine indexb_p ?_
 rw [bin_geq,sign19,condW_b]
 have hK : K (str (if signs1.contains c = true then (c :: r).take 1 else [])) w' := hK
 refine ⟨fun hy => ?_,fun hy => ?_⟩
 · rw [if_pos hy] at hK
   rw [sls_str,bd_some]
   refine ⟨by omega,by simp only [List.length_cons]; omega,?_⟩
   rw [bd_none,List.drop_zero]
   exact hK
 · rw [if_neg (by rw [hy]; decide)] at hK
   exact hK
theorem cutl_p {t : Str} {w : World} {K : Value → World → Prop} (hT : TabI w) (hl : t.length ≤ 1000000) (hK : ∀ x w',Ext w w' → K (.tuple #[str (t.take (runM (fun b => b != 10) t)),x,.bool (decide (runM (fun b => b != 10) t < t.length))]) w') : callF Tryd.prog 55 [str t,str [10]] w K := by
 obtain ⟨m,hm⟩ := hT
 refine of_calls (args := #[str t,str [10]]) Tryd.call55 ((Tryd.strings_Cut (ofL t) (ofL [10]) m w (by rw [ofL_size]; omega) hm).mono ?_)
 rintro e w' ⟨rfl,n,rfl⟩
 obtain ⟨h1,h2⟩ := cut_run t
 rw [ofL_data,ofL_data]
 refine ⟨_,rfl,?_⟩
 rw [show (⟨(Lib.cut t [10]).1.toArray⟩ : ByteArray) = ofL (t.take (runM (fun b => b != 10) t)) from by rw [h1]; rfl,h2]
 refine hK _ _ ?_
 exact ⟨rfl,rfl,rfl,Nat.le_refl _,fun _ _ _ => rfl⟩
theorem triml_p {t : Str} {w : World} {K : Value → World → Prop} (hl : t.length ≤ 1000000) (hK : ∀ w',Ext w w' → K (str (t.drop (runM (fun b => b == 32 || b == 9) t))) w') : callF Tryd.prog 56 [str t,str [32,9]] w K := by
 refine of_calls (args := #[str t,str [32,9]]) Tryd.call56 ((Tryd.strings_TrimLeft_laid (ofL t) (ofL [32,9]) w (by rw [ofL_size]; decide) (fun j b hb => ?_)).mono ?_)
 · rw [ofL_data] at hb
   have := List.mem_of_getElem? hb
   simp only [List.mem_cons,List.not_mem_nil,or_false] at this
   rcases this with rfl | rfl <;> decide
 rintro e w' ⟨rfl,hb⟩
 rw [ofL_data,ofL_data,trim_run]
 exact ⟨_,rfl,hK w' (Chg.of_below hb)⟩
end
end Go.Proofs.YtofhaneggcpdaaaDoor
namespace Go.Proofs.YtofhaneggcpdaaaDoor
open Go Go.Eng Go.RowKit Go.Syn Go.Lex
set_option maxRecDepth 100000
theorem hereL_len (s : Str) : (hereL s).length ≤ 2 * s.length := by
 induction s with
 | nil => simp [hereL]
 | cons c r ih => simp only [hereL]; (repeat' split) <;> simp only [List.length_cons] <;> omega
def hereR (c : Nat) : Str × Nat := if c = 92 ∨ c = 34 ∨ c = 36 then ([92],c) else if c = 9 then ([92],116) else if c = 13 then ([92],114) else ([],c)
theorem hereR_one (x : UInt8) (h : wrM x.toNat = [x]) : hereL [x] = (hereR x.toNat).1 ++ wrM (hereR x.toNat).2 := by
 have e : ∀ k : UInt8,(x == k) = decide (x.toNat = k.toNat) := fun k => by
   rw [Bool.eq_iff_iff,beq_iff_eq,decide_eq_true_iff,UInt8.toNat_inj]
 simp only [hereL,e]
 unfold hereR
 by_cases h1 : x.toNat = 92 ∨ x.toNat = 34 ∨ x.toNat = 36
 · rw [if_pos (by simp only [Bool.or_eq_true,decide_eq_true_iff]; rcases h1 with h | h | h; exact .inl (.inl h); exact .inl (.inr h); exact .inr h),if_pos h1]
   show _ = [92] ++ wrM x.toNat
   rw [h]; rfl
 rw [if_neg (by simp only [Bool.or_eq_true,decide_eq_true_iff]; rintro ((h | h) | h); exact h1 (.inl h); exact h1 (.inr (.inl h)); exact h1 (.inr (.inr h))),if_neg h1]
 by_cases h2 : x.toNat = 9
 · rw [if_pos (by simpa using h2),if_pos h2]; rfl
 rw [if_neg (by simpa using h2),if_neg h2]
 by_cases h3 : x.toNat = 13
 · rw [if_pos (by simpa using h3),if_pos h3]; rfl
 rw [if_neg (by simpa using h3),if_neg h3]
 exact h.symm
theorem hereR_high {c : Nat} (h : 128 ≤ c) : hereR c = ([],c) := by
 unfold hereR
 rw [if_neg (by omega),if_neg (by omega),if_neg (by omega)]
theorem hereR_ok {c : Nat} (h : c < 55296 ∨ 57343 < c ∧ c ≤ 1114111) : (hereR c).2 < 55296 ∨ 57343 < (hereR c).2 ∧ (hereR c).2 ≤ 1114111 := by
 unfold hereR
 (repeat' split) <;> (dsimp only; omega)
theorem hereR_len (c : Nat) : (hereR c).1.length ≤ 1 := by unfold hereR; (repeat' split) <;> simp
def hfin (l : Str) (at_ : Nat) (x : Str × Nat × Int) : Str × Nat × Int := if x.2.2 = 0 then (l ++ x.1,x.2.1 + at_,0) else ([],0,x.2.2)
theorem hfin_hfin (l m : Str) (a b : Nat) (x : Str × Nat × Int) : hfin l a (if x.2.2 = 0 then (m ++ x.1,x.2.1 + b,0) else ([],0,x.2.2)) = hfin (l ++ m) (a + b) x := by
 unfold hfin
 by_cases h : x.2.2 = 0
 · simp only [h,if_true,List.append_assoc]; rw [show x.2.1 + b + a = x.2.1 + (a + b) by omega]
 · simp only [if_neg h]
theorem here_step (n : Nat) (name s : Str) : hereF (n + 1) name s = (if (s.take (runM (fun b => b != 10) s)).drop (runM (fun b => b == 32 || b == 9) (s.take (runM (fun b => b != 10) s))) = name then ([],runM (fun b => b != 10) s,0) else if s.length ≤ runM (fun b => b != 10) s then ([],0,40) else
 (if (hereF n name (s.drop (runM (fun b => b != 10) s + 1))).2.2 = 0 then (hereL (s.take (runM (fun b => b != 10) s)) ++ [92,110] ++ (hereF n name (s.drop (runM (fun b => b != 10) s + 1))).1,(hereF n name (s.drop (runM (fun b => b != 10) s + 1))).2.1 + (runM (fun b => b != 10) s + 1),0) else ([],0,(hereF n name (s.drop (runM (fun b => b != 10) s + 1))).2.2))) := rfl
section
variable [HX]
theorem heredoc_p {s : Str} {w : World} {K : Value → World → Prop} (hT : TabI w) (hU : Utf s) (hl : s.length ≤ 1000000) (h2 : 2 ≤ s.length)
   (hK : ∀ w',Ext w w' → K (.tuple #[str (heredocM s).1,i64 ((heredocM s).2.1 : Nat),i64 (heredocM s).2.2]) w') : callF Tryd.prog 44 [str s] w K := by
 refine W44_ok ?_
 unfold W44
 unfold heredocM at hK
 dsimp only at hK
 generalize hn : (if isLetter ((s.drop 2).headD 0) then runM isName (s.drop 2) else 0) = n at hK
 have hnl : n + 2 ≤ s.length := by
   have := run_le isName (s.drop 2)
   rw [List.length_drop] at this
   rw [← hn]; split <;> omega
 refine JoinW.cut (fun st w' => st = [i64 (n : Nat)] ∧ w' = w) ?_ ?_
 · rw [lens_str,bin_gtr]
   refine GdW.look (isLetter ((s.drop 2).headD 0)) (fun hg J hJ => ?_) fun g => ?_
   · rw [isB_t,decide_eq_true_iff] at hg
     have hlt : 2 < s.length := by omega
     refine ixs_i (i := 2) hlt ?_
     refine letter_p ?_
     rw [drop_len hlt] at hJ
     exact hJ
   · simp only [List.getD_cons_zero,isB_t]
     rw [pick_gd_and,condW_b]
     refine ⟨fun hy => ?_,fun hno => ?_⟩
     · rw [Bool.and_eq_true] at hy
       rw [if_pos hy.2] at hn
       rw [sls_str,bd_none,bd_some]
       refine ⟨by omega,by omega,?_⟩
       rw [List.take_length]
       show callF Tryd.prog 36 [str (s.drop 2),_] w _
       refine run_p (q := isName) (by rw [List.length_drop]; omega) (fun c {w K} h => callV_fn' (name2_p h)) ?_
       rw [hn]
       exact ⟨rfl,rfl⟩
     · have : n = 0 := by
         rw [← hn]
         by_cases hlet : isLetter ((s.drop 2).headD 0) = true
         · rw [hlet,Bool.and_true,decide_eq_false_iff_not] at hno
           rw [if_pos hlet,List.drop_eq_nil_of_le (by omega)]; rfl
         · rw [if_neg hlet]
       rw [this]
       exact ⟨rfl,trivial⟩
 rintro st g w' ⟨rfl,rfl⟩
 simp only [List.getD_cons_zero]
 rw [bin_add,wrap_id (by omega) (by omega)]
 rw [sls_str,bd_some,bd_some]
 refine ⟨by omega,by omega,by omega,by omega,?_⟩
 have hnm : (s.take (Int.toNat (2 + (n : Nat)))).drop (Int.toNat 2) = (s.drop 2).take n := by
   rw [show Int.toNat (2 + (n : Nat)) = 2 + n by omega,show Int.toNat 2 = 2 from rfl,List.drop_take]
   rw [show 2 + n - 2 = n by omega]
 rw [hnm,bin_add,wrap_id (by omega) (by omega),show (2 + (n : Nat) : Int) = ((2 + n : Nat) : Int) by omega]
 generalize (s.drop 2).take n = nm at *
 rw [bin_eql]
 simp only [isB_f]
 refine GdW.look (decide (s.length ≤ 2 + n)) (fun _ J hJ => ?_) fun g1 => ?_
 · rw [lens_str,bin_geq,show decide (((s.length : Nat) : Int) ≤ ((2 + n : Nat) : Int)) = decide (s.length ≤ 2 + n) by rw [decide_eq_decide]; omega]
   exact hJ
 simp only [List.getD_cons_zero]
 rw [pick_gd_or]
 simp only [isB_f]
 refine GdW.look (decide ((s.drop (2 + n)).head? ≠ some 10)) (fun hg J hJ => ?_) fun g2 => ?_
 · have hlt : 2 + n < s.length := by
     simp only [Bool.not_eq_true',Bool.or_eq_false_iff,decide_eq_false_iff_not] at hg
     omega
   refine ixs_i hlt ?_
   have e5 : decide (((s[2 + n].toNat : Nat) : Int) = 10) = (s[2 + n] == 10) := eq_nat 10 _
   rw [bin_neq]
   rw [drop_len hlt] at hJ
   have : decide (((s[2 + n].toNat : Nat) : Int) ≠ 10) = decide ((s[2 + n] :: s.drop (2 + n + 1)).head? ≠ some 10) := by
     have e6 : ∀ (c : UInt8) (r : Str),(c == 10) = decide ((c :: r).head? = some 10) := fun c r => by rw [Bool.eq_iff_iff]; simp
     rw [decide_not,e5,decide_not,e6 _ (s.drop (2 + n + 1))]
   rw [this]
   exact hJ
 simp only [List.getD_cons_zero]
 rw [pick_gd_or,condW_b]
 refine ⟨fun hbad => ?_,fun hok => ?_⟩
 · have hb : n = 0 ∨ ¬ (s.drop (2 + n)).head? = some 10 := by
     simp only [Bool.or_eq_true,decide_eq_true_iff] at hbad
     rcases hbad with (h | h) | h
     · exact .inl (by omega)
     · right; rw [List.drop_eq_nil_of_le (by omega)]; simp
     · exact .inr h
   have hK := hK w' (Chg.refl _ _)
   rcases hb with h | h
   · rw [if_pos h] at hK; exact hK
   · rw [if_neg h] at hK
     split at hK <;> exact hK
 simp only [Bool.or_eq_false_iff,decide_eq_false_iff_not,ne_eq,Decidable.not_not] at hok
 obtain ⟨⟨hn0,hlt⟩,h10⟩ := hok
 have hlt : 2 + n < s.length := by omega
 rw [if_neg (by omega),if_pos h10] at hK
 rw [bin_add,upi (by omega)]
 have hUs : Utf (s.drop (2 + n + 1)) := by
   have hd := drop_len hlt
   rw [hd] at h10
   simp only [List.head?_cons,Option.some.injEq] at h10
   exact utf_cons (utf_drop hU hd (by rw [h10]; decide)).2 (by rw [h10]; decide)
 generalize hR : hereF (s.length + 1) nm (s.drop (2 + n + 1)) = X at hK
 have hR2 : hfin [] (2 + n + 1) X = if X.2.2 = 0 then (X.1,X.2.1 + (2 + n + 1),0) else ([],0,X.2.2) := by unfold hfin; rw [List.nil_append]
 rw [← hR2] at hK
 refine bnew (B := w'.heap.size) (Nat.le_refl _) fun b w1 hb h1 hx1 => ?_
 generalize hR0 : hfin [] (2 + n + 1) X = R0 at hK
 refine LoopW.go (fun st w2 => ∃ (i m : Nat) (l : Str),st = [i64 (i : Nat)] ∧ i ≤ s.length ∧ Utf (s.drop i) ∧ Bld w2 w'.heap.size b l ∧ Ext w' w2 ∧ l.length ≤ 2 * i ∧ hfin l i (hereF m nm (s.drop i)) = R0 ∧ s.length < m + i) (fun st _ => match st with | [.int _ i] => s.length + 1 - i.toNat | _ => 0) ⟨2 + n + 1,s.length + 1,[],rfl,by omega,hUs,h1,hx1,by simp,by rw [hR,hR0],by omega⟩ ?_
 rintro st g3 w2 ⟨i,m,l,rfl,hi,hu,hB,hx,hll,hr,hm⟩
 obtain ⟨m,rfl⟩ : ∃ k,m = k + 1 := ⟨m - 1,by omega⟩
 rw [here_step] at hr
 simp only [List.getD_cons_zero]
 rw [sls_str,bd_none,bd_some]
 refine ⟨by omega,by omega,?_⟩
 rw [List.take_length,Int.toNat_natCast]
 have hsl : (s.drop i).length = s.length - i := List.length_drop
 refine cutl_p (hT.ext hx) (by omega) fun x w3 hx3 => ?_
 rw [ext_tuple]; refine ⟨_,rfl,?_⟩
 rw [ext_tuple]; refine ⟨_,rfl,?_⟩
 rw [ext_tuple]; refine ⟨_,rfl,?_⟩
 obtain ⟨ul,ur⟩ := utf_line hu
 have hkl := run_le (fun b => b != 10) (s.drop i)
 have htk : ((s.drop i).take (runM (fun b => b != 10) (s.drop i))).length = runM (fun b => b != 10) (s.drop i) := by rw [List.length_take]; omega
 generalize runM (fun b => b != 10) (s.drop i) = k at *
 generalize hln : (s.drop i).take k = ln at *
 refine triml_p (by omega) fun w4 hx4 => ?_
 have hx' : Ext w' w4 := (hx.trans hx3).trans hx4
 have hB4 : Bld w4 w'.heap.size b l := (hB.ext hx3).ext hx4
 rw [bin_seq,condW_dec]
 refine ⟨fun hy => ?_,fun hno => ?_⟩
 · rw [if_pos hy] at hr
   refine bstring_p hB4 hx'.size fun w5 hc5 => ?_
   rw [lens_str,bin_add,wrap_id (by omega) (by omega)]
   have hfx : Ext w' w5 := hx'.then hc5 fun k hk e => by omega
   have hK := hK w5 hfx
   rw [← hr] at hK
   simp only [hfin,if_true,List.append_nil] at hK
   rw [show (i : Int) + (ln.length : Nat) = ((k + i : Nat) : Int) by omega]
   exact hK
 rw [if_neg hno] at hr
 rw [un_not,condW_b]
 refine ⟨fun hend => ?_,fun hmore => ?_⟩
 · rw [if_pos (by simpa using hend)] at hr
   have hK := hK w4 hx'
   rw [← hr] at hK
   exact hK
 have hk : k < (s.drop i).length := by simpa using hmore
 rw [if_neg (by omega)] at hr
 rw [hfin_hfin] at hr
 have hun := ur hk
 clear ur
 have hlk : (s.drop i).length = s.length - i := List.length_drop
 refine lrange_str ?_
 have hz4 := hx'.size
 have hbb := hB4.lt
 refine LoopW.go (fun st w5 => ∃ p,p ≤ ln.length ∧ st = [] ∧ Utf (ln.drop p) ∧ w5.heap[w4.heap.size]? = some (.stringIter (ofL ln) p) ∧ Bld w5 w'.heap.size b (l ++ hereL (ln.take p)) ∧ Ext w' w5)
   (fun _ w5 => match w5.heap[w4.heap.size]? with | some (.stringIter _ p) => ln.length - p | _ => 0)
   ⟨0,Nat.zero_le _,rfl,by rw [List.drop_zero]; exact ul,heap_anew _ _ _ rfl,by rw [List.take_zero]; show Bld _ _ _ (l ++ []); rw [List.append_nil]; exact hB4.ext (Chg.alloc (Chg.refl _ _) _),hx'.trans (Chg.alloc (Chg.refl _ _) _)⟩ ?_
 rintro st g4 w5 ⟨p,hp,rfl,hup,hit,hB5,hx5⟩
 have hz5 := hx5.size
 have hl5 : (l ++ hereL (ln.take p)).length ≤ 2 * i + 2 * k := by
   have := hereL_len (ln.take p)
   have : (ln.take p).length ≤ k := by rw [List.length_take]; omega
   rw [List.length_append]; omega
 refine lnext_str hit (fun hpe => ?_) (fun hpl w6 hit6 hc6 hz6 => ?_)
 · rw [ext_tuple]
   refine ⟨.bool false,rfl,?_⟩
   rw [condW_false]
   obtain rfl : p = ln.length := by omega
   rw [List.take_length] at hB5 hl5
   refine wstr_p hB5 hz5 (by simp only [List.length_cons,List.length_nil]; omega) fun v w6 h6 hc6 => ?_
   have hx6 : Ext w' w6 := BCh.new hx5 (Nat.le_refl _) (by omega) hc6
   rw [lens_str,bin_add,wrap_id (by omega) (by omega),bin_add,wrap_id (by omega) (by omega)]
   have hgl := hereL_len ln
   refine ⟨⟨i + (k + 1),m,l ++ hereL ln ++ [92,110],by simp only [List.cons.injEq,Value.int.injEq,true_and,and_true]; omega,by omega,?_,h6,hx6,?_,?_,by omega⟩,?_⟩
   · rw [← drop_drop']; exact hun
   · simp only [List.length_append,List.length_cons,List.length_nil]; omega
   · rw [← hr,drop_drop',List.append_assoc]
   · simp only [Int.toNat_natCast]; omega
 · have hne : ln.drop p ≠ [] := fun e => by have := List.drop_eq_nil_iff.1 e; omega
   obtain ⟨u,r,hru,hur,hdr⟩ : ∃ u r,Rn u ∧ Utf r ∧ ln.drop p = u ++ r := by
     cases hd : ln.drop p with
     | nil => exact absurd hd hne
     | cons x y =>
       rw [hd] at hup
       generalize he : x :: y = z at hup
       cases hup with
       | nil => cases he
       | cons h1 h2 => exact ⟨_,_,h1,h2,rfl⟩
   have hrm : runeM ln p = u.length := hru.at hdr
   have huz := hru.pos
   obtain ⟨c,hc⟩ := rune_good hpl (by omega)
   rw [hrm] at hc
   have htk2 : (ln.drop p).take u.length = u := by rw [hdr,List.take_left]
   have hnext : ln.take (p + u.length) = ln.take p ++ u := by rw [List.take_add,htk2]
   have hdr2 : ln.drop (p + u.length) = r := drop_app hdr
   have hdec := hc.dec
   have hct := hc.top
   have hcv := hc.val
   have hcu : wrM c = u := by rw [← wr_enc (by omega),hc.bytes,htk2]
   rw [hdec] at hit6
   have hfit := hc.fits
   have hB6 : Bld w6 w'.heap.size b (l ++ hereL (ln.take p)) := hB5.chg hc6 (fun e => by have := e; omega) fun k hk e => by
     obtain ⟨_,c',hc'⟩ := hk
     have e : k = w4.heap.size := e
     rw [e,hit] at hc'; cases hc'
   have hx6 : Ext w' w6 := hx5.then hc6 fun k hk e => by omega
   have hu2 : hereL u = (hereR c).1 ++ wrM (hereR c).2 := by
     rcases hru.cases with ⟨x,hx,hxl⟩ | hh
     · subst hx
       have hcx : c = x.toNat := by
         have := (hc.low rfl).1
         rw [this]
         have e := byteM_in hpl
         rw [Go.Eng.byte_at (show ln.drop p = x :: r from hdr)] at e
         omega
       subst hcx
       exact hereR_one x hcu
     · have hc128 : 128 ≤ c := by
         have hb0 := byte_pref (j := 0) hdr huz
         have h128 := hh u[0] (List.getElem_mem ..)
         rw [Nat.add_zero,byteM_in hpl] at hb0
         by_cases h1 : u.length = 1
         · have := hc.low h1; omega
         · exact (hc.high (by omega)).1
       rw [hereR_high hc128,hereL_high hh,hcu]; rfl
   have hok := hereR_ok (c := c) (by omega)
   have hl1 := hereR_len c
   rw [ext_tuple]
   refine ⟨.bool true,rfl,?_⟩
   rw [condW_true,ext_tuple]
   refine ⟨.int .i32 (c : Int),by rw [hdec]; rfl,?_⟩
   refine JoinW.cut (fun st w7 => st = [.int .i32 ((hereR c).2 : Nat)] ∧ Bld w7 w'.heap.size b (l ++ hereL (ln.take p) ++ (hereR c).1) ∧ w7.heap[w4.heap.size]? = some (.stringIter (ofL ln) (p + u.length)) ∧ Ext w' w7) ?_ ?_
   · have wr : ∀ (x : Nat) (w7 : World),hereR c = ([92],x) → Bld w7 w'.heap.size b (l ++ hereL (ln.take p) ++ [92]) → Chg (BCh w6 w'.heap.size b) w6 w7 → [Value.int .i32 (x : Int)] = [.int .i32 ((hereR c).2 : Nat)] ∧ Bld w7 w'.heap.size b (l ++ hereL (ln.take p) ++ (hereR c).1) ∧ w7.heap[w4.heap.size]? = some (.stringIter (ofL ln) (p + u.length)) ∧ Ext w' w7 := by
       intro x w7 e h7 hc7
       rw [e]
       exact ⟨rfl,h7,BCh.iter hc7 hit6 (by omega),BCh.new hx6 (Nat.le_refl _) (by omega) hc7⟩
     refine JoinW.cut (fun st w7 => st = [.bool (decide (c = 92 ∨ c = 34 ∨ c = 36))] ∧ w7 = w6) ?_ ?_
     · rw [bin_eql,condW_dec]
       refine ⟨fun h => ?_,fun h => ?_⟩
       · rw [decide_eq_true h,decide_eq_true (.inl (by omega))]; exact ⟨rfl,rfl⟩
       rw [bin_eql,condW_dec]
       refine ⟨fun h' => ?_,fun h' => ?_⟩
       · rw [decide_eq_true h',decide_eq_true (.inr (.inl (by omega)))]; exact ⟨rfl,rfl⟩
       rw [bin_eql]
       rw [show decide (((c : Nat) : Int) = 36) = decide (c = 92 ∨ c = 34 ∨ c = 36) by rw [decide_eq_decide]; omega]
       exact ⟨rfl,rfl⟩
     rintro st g5 w7 ⟨rfl,rfl⟩
     simp only [List.getD_cons_zero]
     rw [condW_dec]
     refine ⟨fun h => ?_,fun h => ?_⟩
     · refine wbyte_p (n := 92) hB6 (by omega) (by omega) (by omega) fun w8 h8 hc8 => ?_
       exact wr c w8 (by unfold hereR; rw [if_pos h]) h8 hc8
     rw [bin_eql,condW_dec]
     refine ⟨fun h' => ?_,fun h' => ?_⟩
     · refine wbyte_p (n := 92) hB6 (by omega) (by omega) (by omega) fun w8 h8 hc8 => ?_
       exact wr 116 w8 (by unfold hereR; rw [if_neg h,if_pos (by omega)]) h8 hc8
     rw [bin_eql,condW_dec]
     refine ⟨fun h'' => ?_,fun h'' => ?_⟩
     · refine wbyte_p (n := 92) hB6 (by omega) (by omega) (by omega) fun w8 h8 hc8 => ?_
       exact wr 114 w8 (by unfold hereR; rw [if_neg h,if_neg (by omega),if_pos (by omega)]) h8 hc8
     have e : hereR c = ([],c) := by unfold hereR; rw [if_neg h,if_neg (by omega),if_neg (by omega)]
     rw [e,List.append_nil]
     exact ⟨rfl,hB6,hit6,hx6⟩
   rintro st g5 w7 ⟨rfl,hB7,hit7,hx7⟩
   simp only [List.getD_cons_zero]
   have hz7 := hx7.size
   refine wrune_p hB7 hz7 (by rw [List.length_append]; omega) hok fun v w8 h8 hc8 => ?_
   have hit8 := BCh.iter hc8 hit7 (by omega)
   refine ⟨⟨p + u.length,hfit,trivial,by rw [hdr2]; exact hur,hit8,?_,BCh.new hx7 (Nat.le_refl _) (by omega) hc8⟩,?_⟩
   · rw [hnext,hereL_app,hu2,← List.append_assoc,← List.append_assoc]; exact h8
   · rw [hit8,hit]
     show ln.length - (p + u.length) < ln.length - p
     omega
end
end Go.Proofs.YtofhaneggcpdaaaDoor
namespace Go.Proofs.YtofhaneggcpdaaaDoor
open Go Go.Eng Go.RowKit Go.Syn Go.Lex
set_option maxRecDepth 100000
theorem textX_fits {r : Str} {d : Nat} (h : (textX r d).2 = 0) : 1 ≤ (textX r d).1 ∧ (textX r d).1 ≤ r.length := by
 exact ((ins_bra _ r (Nat.le_refl _)).1 d _ (Prod.ext rfl h)).2
theorem one_cons (c : UInt8) (r : Str) : oneM (c :: r) =
 (if (c == 10) = true then (⟨5,[10],0⟩,1,0)
 else if isLetter c = true then (⟨1,(c :: r).take (runM isName (c :: r)),0⟩,runM isName (c :: r),if 32 < runM isName (c :: r) then 3 else 0)
 else if isDigit c = true then
   (⟨2,(c :: r).take (runM isDigit (c :: r)),0⟩,runM isDigit (c :: r),if ((runM isDigit (c :: r) < (c :: r).length && isLetter (((c :: r).drop (runM isDigit (c :: r))).headD 0)) || (c == 48 && 1 < runM isDigit (c :: r))) = true then 40 else if Num.goodN ((c :: r).take (runM isDigit (c :: r))) = true then 0 else 3)
 else if (c == 34) = true then
   (if (textF ((c :: r).length + 1) r 0).2 = 0 then (⟨3,r.take ((textF ((c :: r).length + 1) r 0).1 - 1),0⟩,(textF ((c :: r).length + 1) r 0).1 + 1,0) else (⟨0,[],0⟩,0,(textF ((c :: r).length + 1) r 0).2))
 else if preM [60,60] (c :: r) = true then (⟨3,(heredocM (c :: r)).1,0⟩,(heredocM (c :: r)).2.1,(heredocM (c :: r)).2.2)
 else (⟨4,signM (c :: r),0⟩,(signM (c :: r)).length,if (signM (c :: r)).length = 0 then 40 else 0)) := rfl
section
variable [HX]
theorem one_p {c : UInt8} {r : Str} {w : World} {K : Value → World → Prop} (hT : TabI w) (hU : Utf (c :: r)) (hl : r.length ≤ 100000)
   (hK : ∀ w',Ext w w' → K (.tuple #[.agg (tokc (oneM (c :: r)).1).toArray,i64 ((oneM (c :: r)).2.1 : Nat),i64 (oneM (c :: r)).2.2]) w') : callF Tryd.prog 25 [str (c :: r)] w K := by
 refine W25_ok ?_
 unfold W25
 have hlen : (c :: r).length = r.length + 1 := rfl
 refine alloc_new fun a w1 ha hz1 hab1 hx1 => ?_
 refine alloc_new fun b w2 hb hz2 hbb2 hx2 => ?_
 have hx02 := hx1.trans hx2
 have hab2 := hx2.at hab1 id
 have cond : ∀ (k : Nat),k < 256 → (((c.toNat : Nat) : Int) = (k : Int) ↔ c = UInt8.ofNat k) := fun k hk => by
   have := u8_eq c k hk
   rwa [decide_eq_decide] at this
 generalize ho : oneM (c :: r) = o at hK
 rw [one_cons] at ho
 refine JoinW.cut (fun st w' => st = [i64 o.2.2,i64 (o.2.1 : Nat)] ∧ Ext w w' ∧ w'.heap[a]? = some (.cells [i64 0,str [],i64 0].toArray TkT (0,0)) ∧ w'.heap[b]? = some (.cells (tokc o.1).toArray TkT (0,0))) ?_ ?_
 · -- a token laid in b at a later world
   have put : ∀ {w3 : World} {t : Tok} {old : List Value} {K' : World → Prop},Ext w w3 → w3.heap[a]? = some (.cells [i64 0,str [],i64 0].toArray TkT (0,0)) → w3.heap[b]? = some (.cells old.toArray TkT (0,0)) → old.length = 3 →
       (∀ w4,Ext w w4 → w4.heap[a]? = some (.cells [i64 0,str [],i64 0].toArray TkT (0,0)) → w4.heap[b]? = some (.cells (tokc t).toArray TkT (0,0)) → K' w4) → stW 3 (.pointer (some ⟨b,0,none⟩)) (.agg (tokc t).toArray) w3 K' := by
     intro w3 t old K' hx ha3 hb3 ho3 h
     refine st_agg_at hb3 rfl ho3 rfl fun w4 hz4 hb4 hc4 => ?_
     exact h w4 (hx.new hc4 (by omega)) (hc4.at ha3 (by omega)) hb4
   refine ixs_i (i := 0) (by rw [hlen]; omega) ?_
   simp only [List.getElem_cons_zero]
   rw [bin_eql,condW_dec]
   refine ⟨fun e => ?_,fun e => ?_⟩
   · have e : c = 10 := (cond 10 (by omega)).1 e
     subst e
     simp only [beq_self_eq_true,if_true] at ho
     subst ho
     simp only [put_int,put_str,List.length_cons,List.length_nil,List.set_cons_zero,List.set_cons_succ,Nat.reduceAdd,Nat.reduceLT,true_and,Nat.zero_lt_succ]
     refine st_agg_at (l := [i64 5,str [10],i64 0]) hab2 rfl rfl rfl fun w3 hz3 hab3 hc3 => ?_
     refine ld_all hab3 rfl ?_
     exact hK w3 (hx02.new hc3 (by omega))
   have e : ¬ (c == 10) = true := fun h => e ((cond 10 (by omega)).2 (by simpa using h))
   rw [if_neg e] at ho
   refine letter_p ?_
   rw [condW_b]
   refine ⟨fun hy => ?_,fun hno => ?_⟩
   · rw [if_pos hy] at ho
     refine run_p (q := isName) (by rw [hlen]; omega) (fun c {w K} h => callV_fn' (name1_p h)) ?_
     have hle := run_le isName (c :: r)
     rw [hlen] at hle
     generalize runM isName (c :: r) = n at *
     rw [sls_str,bd_some]
     refine ⟨by omega,by rw [hlen]; omega,?_⟩
     rw [bd_none,List.drop_zero,Int.toNat_natCast]
     simp only [put_int,put_str,List.length_cons,List.length_nil,List.set_cons_zero,List.set_cons_succ,Nat.reduceAdd,Nat.reduceLT,true_and,Nat.zero_lt_succ]
     refine put (t := ⟨1,(c :: r).take n,0⟩) hx02 hab2 hbb2 rfl fun w4 hx4 ha4 hb4 => ?_
     rw [bin_gtr,condW_dec]
     subst ho
     refine ⟨fun h => ?_,fun h => ?_⟩
     · exact ⟨by rw [if_pos (by omega)],hx4,ha4,hb4⟩
     · exact ⟨by rw [if_neg (by omega)],hx4,ha4,hb4⟩
   rw [if_neg (by rw [hno]; decide)] at ho
   refine digit_p ?_
   rw [condW_b]
   refine ⟨fun hy => ?_,fun hno => ?_⟩
   · rw [if_pos hy] at ho
     refine run_p (q := isDigit) (by rw [hlen]; omega) (fun c {w K} h => callV_fn' (digit_p h)) ?_
     have hle := run_le isDigit (c :: r)
     rw [hlen] at hle
     generalize runM isDigit (c :: r) = n at *
     rw [sls_str,bd_some]
     refine ⟨by omega,by rw [hlen]; omega,?_⟩
     rw [bd_none,List.drop_zero,Int.toNat_natCast]
     simp only [put_int,put_str,List.length_cons,List.length_nil,List.set_cons_zero,List.set_cons_succ,Nat.reduceAdd,Nat.reduceLT,true_and,Nat.zero_lt_succ]
     refine put (t := ⟨2,(c :: r).take n,0⟩) hx02 hab2 hbb2 rfl fun w4 hx4 ha4 hb4 => ?_
     refine JoinW.cut (fun st w' => st = [.bool ((n < (c :: r).length && isLetter (((c :: r).drop n).headD 0)) || (c == 48 && 1 < n))] ∧ w' = w4) ?_ ?_
     · rw [lens_str,bin_lss,show decide (((n : Nat) : Int) < (((c :: r).length : Nat) : Int)) = decide (n < (c :: r).length) by rw [decide_eq_decide]; omega]
       simp only [isB_t]
       refine GdW.look (isLetter (((c :: r).drop n).headD 0)) (fun hg J hJ => ?_) fun g => ?_
       · have hlt : n < (c :: r).length := by simpa using hg
         refine ixs_i hlt ?_
         refine letter_p ?_
         rw [drop_len hlt] at hJ
         exact hJ
       simp only [List.getD_cons_zero]
       rw [pick_gd_and,condW_b]
       refine ⟨fun h => by rw [h,Bool.true_or]; exact ⟨rfl,trivial⟩,fun h => ?_⟩
       have e5 : decide (((c.toNat : Nat) : Int) = 48) = (c == 48) := eq_nat 48 c
       rw [bin_eql,e5]
       simp only [isB_t,bin_gtr,GdW_pure,List.getD_cons_zero]
       intro g2
       rw [pick_gd_and,h,Bool.false_or]
       refine ⟨?_,trivial⟩
       rw [show decide ((1 : Int) < ((n : Nat) : Int)) = decide (1 < n) by rw [decide_eq_decide]; omega]
     rintro st g w5 ⟨rfl,rfl⟩
     simp only [List.getD_cons_zero]
     rw [condW_b]
     refine ⟨fun h => ?_,fun h => ?_⟩
     · rw [if_pos h] at ho
       subst ho
       exact ⟨rfl,hx4,ha4,hb4⟩
     rw [if_neg (by rw [h]; decide)] at ho
     rw [fld_ptr,ld_one]
     refine ⟨str ((c :: r).take n),by rw [add_mk,cell_eq,hb4]; rfl,?_⟩
     refine numgood_ref (by have : ((c :: r).take n).length ≤ n := (by rw [List.length_take]; omega); omega) fun w6 hx6 => ?_
     rw [un_not,condW_b]
     subst ho
     refine ⟨fun h => ?_,fun h => ?_⟩
     · exact ⟨by rw [if_neg (by simpa using h)],hx4.trans hx6,hx6.at ha4 id,hx6.at hb4 id⟩
     · exact ⟨by rw [if_pos (by simpa using h)],hx4.trans hx6,hx6.at ha4 id,hx6.at hb4 id⟩
   rw [if_neg (by rw [hno]; decide)] at ho
   rw [bin_eql,condW_dec]
   refine ⟨fun e => ?_,fun e => ?_⟩
   · have e : c = 34 := (cond 34 (by omega)).1 e
     rw [if_pos (by rw [e]; rfl),textF_x (by omega)] at ho
     refine ltext_p (d := 0) (by omega) (by omega) ?_
     by_cases h0 : (textX r 0).2 = 0
     · rw [if_pos h0] at ho
       have hf := textX_fits h0
       unfold outV
       rw [if_pos h0,ext_tuple]
       refine ⟨_,rfl,?_⟩
       rw [ext_tuple]
       refine ⟨_,rfl,?_⟩
       rw [bin_eql,condW_dec]
       refine ⟨fun _ => ?_,fun h => absurd rfl h⟩
       rw [bin_sub,wrap_id (by omega) (by omega),sls_str,bd_some,bd_some]
       refine ⟨by omega,by rw [hlen]; omega,by omega,by omega,?_⟩
       have et : ((c :: r).take (Int.toNat (((textX r 0).1 + 1 : Nat) - 1))).drop (Int.toNat 1) = r.take ((textX r 0).1 - 1) := by
         rw [show Int.toNat ((((textX r 0).1 + 1 : Nat) : Int) - 1) = ((textX r 0).1 - 1) + 1 by omega]
         rfl
       rw [et]
       simp only [put_int,put_str,List.length_cons,List.length_nil,List.set_cons_zero,List.set_cons_succ,Nat.reduceAdd,Nat.reduceLT,true_and,Nat.zero_lt_succ]
       refine put (t := ⟨3,r.take ((textX r 0).1 - 1),0⟩) hx02 hab2 hbb2 rfl fun w4 hx4 ha4 hb4 => ?_
       subst ho
       exact ⟨rfl,hx4,ha4,hb4⟩
     · rw [if_neg h0] at ho
       unfold outV
       rw [if_neg h0,ext_tuple]
       refine ⟨_,rfl,?_⟩
       rw [ext_tuple]
       refine ⟨_,rfl,?_⟩
       rw [bin_eql,condW_dec]
       refine ⟨fun h => absurd h h0,fun h => ?_⟩
       subst ho
       exact ⟨rfl,hx02,hab2,hbb2⟩
   have e : ¬ (c == 34) = true := fun h => e ((cond 34 (by omega)).2 (by simpa using h))
   rw [if_neg e] at ho
   refine hasp_p ?_
   rw [condW_b]
   refine ⟨fun hy => ?_,fun hno => ?_⟩
   · rw [if_pos (show preM [60,60] (c :: r) = true from hy)] at ho
     have h2 : 2 ≤ (c :: r).length := pre_len (p := [60,60]) (s := c :: r) hy
     rw [fld_ptr,add_mk,Nat.zero_add]
     refine st_at hbb2 rfl (by simp) fun w3 hz3 hb3 hc3 => ?_
     have hx3 := hx02.new hc3 (by omega)
     have ha3 := hc3.at hab2 (by omega)
     refine heredoc_p (hT.ext hx3) hU (by rw [hlen]; omega) h2 fun w4 hx4 => ?_
     rw [ext_tuple]; refine ⟨_,rfl,?_⟩
     rw [ext_tuple]; refine ⟨_,rfl,?_⟩
     rw [ext_tuple]; refine ⟨_,rfl,?_⟩
     have hb4 := hx4.at hb3 id
     rw [fld_ptr,add_mk,Nat.zero_add]
     refine st_at hb4 rfl (by simp) fun w5 hz5 hb5 hc5 => ?_
     subst ho
     exact ⟨rfl,(hx3.trans hx4).new hc5 (by omega),hc5.at (hx4.at ha3 id) (by omega),by rw [hb5]; simp [tokc]⟩
   · rw [if_neg (show ¬ preM [60,60] (c :: r) = true from by rw [show preM [60,60] (c :: r) = false from hno]; decide)] at ho
     refine sign_ref (by omega) ?_
     simp only [put_int,put_str,List.length_cons,List.length_nil,List.set_cons_zero,List.set_cons_succ,Nat.reduceAdd,Nat.reduceLT,true_and,Nat.zero_lt_succ]
     refine put (t := ⟨4,signM (c :: r),0⟩) hx02 hab2 hbb2 rfl fun w4 hx4 ha4 hb4 => ?_
     rw [fld_ptr,ld_one]
     refine ⟨str (signM (c :: r)),by rw [add_mk,cell_eq,hb4]; rfl,?_⟩
     rw [lens_str,bin_eql,condW_dec]
     subst ho
     refine ⟨fun h => ?_,fun h => ?_⟩
     · exact ⟨by rw [if_pos (by omega)],hx4,ha4,hb4⟩
     · exact ⟨by rw [if_neg (by omega)],hx4,ha4,hb4⟩
 rintro st g w3 ⟨rfl,hx3,ha3,hb3⟩
 refine ld_all hb3 rfl ?_
 refine st_agg_at (l := tokc o.1) ha3 rfl rfl rfl fun w4 hz4 ha4 hc4 => ?_
 refine ld_all ha4 rfl ?_
 exact hK w4 (hx3.new hc4 (by omega))
end
end Go.Proofs.YtofhaneggcpdaaaDoor
namespace Go.Proofs.YtofhaneggcpdaaaDoor
open Go Go.Eng Go.RowKit Go.Syn Go.Lex
set_option maxRecDepth 100000
theorem utf_at {s : Str} {k : Nat} (h : Utf s) (hc : ∀ c,(s.drop k).head? = some c → c.toNat < 128) : Utf (s.drop k) := by
 cases hd : s.drop k with
 | nil => exact .nil
 | cons c b => exact (utf_drop h hd (hc c (by rw [hd]; rfl))).2
theorem utf_past {s : Str} {k : Nat} {c : UInt8} (h : Utf s) (hk : s[k]? = some c) (hc : c.toNat < 128) : Utf (s.drop (k + 1)) := by
 obtain ⟨hlt,e⟩ := List.getElem?_eq_some_iff.1 hk
 have hd := drop_len hlt
 rw [e] at hd
 exact utf_cons (utf_drop h hd hc).2 hc
theorem run_stop (q : UInt8 → Bool) : ∀ (s : Str) (b : UInt8),(s.drop (runM q s)).head? = some b → q b = false
 | [],b,h => by simp [runM] at h
 | c :: r,b,h => by
   simp only [runM] at h
   by_cases hc : q c = true
   · rw [if_pos hc,List.drop_succ_cons] at h; exact run_stop q r b h
   · rw [if_neg hc] at h
     simp only [List.drop_zero,List.head?_cons,Option.some.injEq] at h
     rw [← h]; simpa using hc
theorem run_last (q : UInt8 → Bool) : ∀ (s : Str) (k : Nat),runM q s = k + 1 → ∃ c,s[k]? = some c ∧ q c = true
 | [],k,h => by simp [runM] at h
 | c :: r,k,h => by
   simp only [runM] at h
   by_cases hc : q c = true
   · rw [if_pos hc] at h
     cases k with
     | zero => exact ⟨c,rfl,hc⟩
     | succ k =>
       obtain ⟨x,h1,h2⟩ := run_last q r k (by omega)
       exact ⟨x,by simpa using h1,h2⟩
   · rw [if_neg hc] at h; omega
theorem idx_end : ∀ (s : Str) (i : Nat),Lib.index s [42,47] = (i : Int) → s[i + 1]? = some 47
 | [],i,h => by
   unfold Lib.index at h
   simp at h
 | b :: l,i,h => by
   unfold Lib.index at h
   split at h
   · rename_i hp
     have hi : i = 0 := by omega
     subst hi
     cases l with
     | nil => simp [List.isPrefixOf] at hp
     | cons c l =>
       simp only [List.isPrefixOf,Bool.and_eq_true,beq_iff_eq,Bool.and_true] at hp
       simp [hp.2]
   · split at h
     · omega
     · rename_i hq
       have h1 : Lib.index l [42,47] ≠ -1 := by simpa using hq
       have hg := Lib.index_ge l [42,47]
       have := idx_end l (i - 1) (by omega)
       have hi : 1 ≤ i := by omega
       rw [show i - 1 + 1 = i by omega] at this
       simpa using this
theorem utf_line2 {s : Str} (h : Utf s) : Utf (s.drop (runM (fun b => b != 10) s)) :=
 utf_at h fun c hc => by
   have := run_stop _ _ _ hc
   have : c = 10 := by simpa using this
   subst this; decide
theorem skip_utf : ∀ (n : Nat) (s : Str),Utf s → Utf (s.drop (skipF n s).1)
 | 0,s,h => by simpa [skipF] using h
 | n + 1,[],h => by simpa [skipF] using h
 | n + 1,c :: r,h => by
   rw [skip_step]
   split
   · rename_i hb
     have hc : c.toNat < 128 := by
       simp only [Bool.or_eq_true,beq_iff_eq] at hb
       rcases hb with (rfl | rfl) | rfl <;> decide
     rw [List.drop_succ_cons]
     exact skip_utf n r (utf_cons h hc)
   split
   · have := skip_utf n _ (utf_line2 h)
     rw [drop_drop'] at this
     rw [Nat.add_comm]; exact this
   split
   · rename_i hp
     split
     · simpa using h
     · rename_i hn
       obtain ⟨j,hj⟩ := Int.eq_ofNat_of_zero_le (show 0 ≤ Lib.index (r.drop 1) [42,47] by omega)
       have he := idx_end _ _ hj
       have hu : Utf ((c :: r).drop ((Lib.index (r.drop 1) [42,47]).toNat + 4)) := by
         rw [hj,Int.toNat_natCast]
         refine utf_past (k := j + 3) (c := 47) h ?_ (by decide)
         rw [List.getElem?_drop] at he
         rw [List.getElem?_cons_succ,← he]
         congr 1; omega
       have := skip_utf n _ hu
       rw [drop_drop'] at this
       rw [Nat.add_comm]; exact this
   · simpa using h
theorem hereF_stop : ∀ (n : Nat) (name s : Str) (c : UInt8),(hereF n name s).2.2 = 0 → (s.drop (hereF n name s).2.1).head? = some c → c = 10
 | 0,_,_,_,h,_ => by simp [hereF] at h
 | n + 1,name,s,c,h,hc => by
   rw [here_step] at h hc
   split at h
   · rename_i h1
     rw [if_pos h1] at hc
     have := run_stop _ _ _ hc
     simpa using this
   rename_i h1
   rw [if_neg h1] at hc
   split at h
   · cases h
   rename_i h2
   rw [if_neg h2] at hc
   split at h
   · rename_i h3
     rw [if_pos h3] at hc
     refine hereF_stop n name _ c h3 ?_
     rw [drop_drop']
     rw [show runM (fun b => b != 10) s + 1 + (hereF n name (s.drop (runM (fun b => b != 10) s + 1))).2.1 = (hereF n name (s.drop (runM (fun b => b != 10) s + 1))).2.1 + (runM (fun b => b != 10) s + 1) by omega]
     exact hc
   · rename_i h3; exact absurd h h3
theorem heredoc_stop {s : Str} {c : UInt8} (h : (heredocM s).2.2 = 0) (hc : (s.drop (heredocM s).2.1).head? = some c) : c = 10 := by
 unfold heredocM at h hc
 simp only at h hc
 generalize (if isLetter ((s.drop 2).headD 0) = true then runM isName (s.drop 2) else 0) = n at h hc
 split at h
 · cases h
 rename_i h1
 rw [if_neg h1] at hc
 split at h
 · rename_i h2
   rw [if_pos h2] at hc
   split at h
   · rename_i h3
     rw [if_pos h3] at hc
     refine hereF_stop _ _ _ c h3 ?_
     rw [drop_drop',Nat.add_comm]
     exact hc
   · rename_i h3; exact absurd h h3
 · cases h
theorem name_low {c : UInt8} (h : isName c = true) : c.toNat < 128 := by
 have : ∀ m : Fin 256,isName (UInt8.ofNat m.val) = true → (UInt8.ofNat m.val).toNat < 128 := by decide +kernel
 have h' := this ⟨c.toNat,UInt8.toNat_lt c⟩
 rw [UInt8.ofNat_toNat] at h'
 exact h' h
theorem digit_low {c : UInt8} (h : isDigit c = true) : c.toNat < 128 := name_low (by unfold isName; rw [h]; simp)
theorem sign_low {c : UInt8} (h : signs1.contains c = true) : c.toNat < 128 := by
 have : ∀ m : Fin 256,signs1.contains (UInt8.ofNat m.val) = true → (UInt8.ofNat m.val).toNat < 128 := by decide +kernel
 have h' := this ⟨c.toNat,UInt8.toNat_lt c⟩
 rw [UInt8.ofNat_toNat] at h'
 exact h' h
theorem sign2_low {x : Str} (h : signs2.contains x = true) : x.length = 2 ∧ ∃ c,x[1]? = some c ∧ c.toNat < 128 := by
 have : x ∈ signs2 := by simpa using h
 simp only [signs2,List.mem_cons,List.not_mem_nil,or_false] at this
 rcases this with rfl | rfl | rfl | rfl | rfl | rfl <;> exact ⟨rfl,_,rfl,by decide⟩
theorem one_utf {c : UInt8} {r : Str} (h : Utf (c :: r)) (h0 : (oneM (c :: r)).2.2 = 0) : Utf ((c :: r).drop (oneM (c :: r)).2.1) := by
 have run : ∀ q : UInt8 → Bool,(∀ c,q c = true → c.toNat < 128) → Utf ((c :: r).drop (runM q (c :: r))) := fun q hq => by
   cases hk : runM q (c :: r) with
   | zero => exact h
   | succ k =>
     obtain ⟨x,h1,h2⟩ := run_last q _ _ hk
     exact utf_past h h1 (hq x h2)
 rw [one_cons] at h0 ⊢
 split
 · rename_i e
   have e : c = 10 := by simpa using e
   exact utf_cons h (by rw [e]; decide)
 rename_i n1
 rw [if_neg n1] at h0
 split
 · exact run _ fun c => name_low
 rename_i n2
 rw [if_neg n2] at h0
 split
 · exact run _ fun c => digit_low
 rename_i n3
 rw [if_neg n3] at h0
 split
 · rename_i e
   rw [if_pos e] at h0
   split
   · rename_i h1
     rw [textF_x (by simp only [List.length_cons]; omega)] at h1 ⊢
     have hf := textX_fits h1
     have he := text_end _ r 0 _ (Nat.le_refl _) (Prod.ext rfl h1 : textX r 0 = ((textX r 0).1,0))
     refine utf_past (c := 34) h ?_ (by decide)
     rw [show (textX r 0).1 = (textX r 0).1 - 1 + 1 by omega,List.getElem?_cons_succ]
     exact he
   · rename_i h1
     rw [if_neg h1] at h0
     exact absurd h0 h1
 rename_i n4
 rw [if_neg n4] at h0
 split
 · rename_i h1
   rw [if_pos h1] at h0
   exact utf_at h fun x hx => by rw [heredoc_stop h0 hx]; decide
 rename_i n5
 rw [if_neg n5] at h0
 show Utf ((c :: r).drop (signM (c :: r)).length)
 unfold signM
 split
 · rename_i h1
   obtain ⟨e1,x,e2,e3⟩ := sign2_low h1
   rw [e1]
   refine utf_past (k := 1) (c := x) h ?_ e3
   rw [← e2,List.getElem?_take_of_lt (by omega)]
 split
 · rename_i h1
   exact utf_cons h (sign_low h1)
 · exact h
theorem badF_utf {s : Str} : ∀ (n i : Nat),s.length < n + i → badF n s i = none → Utf (s.drop i)
 | 0,i,hl,_ => by rw [List.drop_of_length_le (by omega)]; exact .nil
 | n + 1,i,hl,h => by
   rw [badF] at h
   split at h
   · rename_i hi; rw [List.drop_of_length_le hi]; exact .nil
   split at h
   · cases h
   · rename_i hi h0
     have hs : stepM s i = runeM s i := by unfold stepM; omega
     rw [hs] at h
     have := Utf.cons (Rn.of h0) (badF_utf n (i + runeM s i) (by omega) h)
     rwa [← List.drop_drop,List.take_append_drop] at this
theorem bad_pref {s : Str} {i : Nat} (h : runeM s i = 0) : Lib.hasPrefix (s.drop i) [239,191,189] = false := by
 rw [Bool.eq_false_iff]
 intro hp
 obtain ⟨r,hr⟩ := List.isPrefixOf_iff_prefix.1 hp
 have hn : Rn [239,191,189] := ⟨by decide,by decide⟩
 have := hn.at hr.symm
 rw [h] at this
 cases this
theorem good_pref {s : Str} {i n : Nat} (h : RuneAt s i n 65533) : Lib.hasPrefix (s.drop i) [239,191,189] = true := by
 have hb := h.bytes
 refine List.isPrefixOf_iff_prefix.2 ?_
 have e : Lib.encodeRune ((65533 : Nat) : Int) = [239,191,189] := by decide
 rw [e] at hb
 rw [hb]
 exact List.take_prefix _ _
end Go.Proofs.YtofhaneggcpdaaaDoor
namespace Go.Proofs.YtofhaneggcpdaaaDoor
open Go Go.Eng Go.RowKit Go.Syn Go.Lex
set_option maxRecDepth 100000
def sfin (acc : List Tok) : RS → RS
 | .ok l => .ok (acc ++ l)
 | .bad c a => .bad c a
theorem sfin_sfin (acc : List Tok) (t : Tok) (x : RS) : sfin acc (match x with | .ok l => .ok (t :: l) | x => x) = sfin (acc ++ [t]) x := by
 cases x <;> simp [sfin]
theorem toks_app (a : List Tok) (t : Tok) : toks (a ++ [t]) = toks a ++ tokc t := by simp [toks,tokc]
section
variable [HX]
theorem scan_p : ScanP := by
 intro w K s hT hl hok hbad
 refine W15_ok ?_
 unfold W15
 rw [lens_str,bin_gtr,condW_dec]
 unfold scanM at hok hbad
 -- what is wrong is handed back in a block of its own
 have bad : ∀ {w1 : World} (c : Int) (i : Nat) {K' : Value → World → Prop},(∀ d w',Ext w w' → w.heap.size ≤ d → w'.heap[d]? = some (.cells [i64 c,str [],i64 (i : Nat)].toArray 34 (0,0)) → K (.tuple #[.slice none 0 0,.pointer (some ⟨d,0,none⟩)]) w') → Ext w w1 →
     boxW 34 (.agg [i64 c,str [],i64 (i : Nat)].toArray) w1 fun t16 w2 => K (.tuple #[.slice none 0 0,t16]) w2 := by
   intro w1 c i _ h hx
   refine box_new (z := [i64 c,str [],i64 (i : Nat)]) fun d w2 hd hz hdb hx2 => ?_
   have := hx.size
   exact h d w2 (hx.trans hx2) (by omega) hdb
 refine ⟨fun h => ?_,fun h => ?_⟩
 · rw [if_pos (by omega)] at hbad
   simp only [put_int,put_str,List.length_cons,List.length_nil,List.set_cons_zero,List.set_cons_succ,Nat.reduceAdd,Nat.reduceLT,true_and,Nat.zero_lt_succ]
   exact bad (K' := K) 3 0 (fun d w' => hbad 3 0 rfl d w') (Chg.refl _ _)
 have hls : s.length ≤ 16384 := by omega
 rw [if_neg (by omega)] at hok hbad
 generalize hB : badF (s.length + 1) s 0 = Bd at hok hbad
 refine lrange_str ?_
 refine LoopW.go (fun st w5 => ∃ p m,p ≤ s.length ∧ st = [] ∧ w5.heap[w.heap.size]? = some (.stringIter (ofL s) p) ∧ Ext w w5 ∧ badF m s p = Bd ∧ s.length < m + p)
   (fun _ w5 => match w5.heap[w.heap.size]? with | some (.stringIter _ p) => s.length - p | _ => 0)
   ⟨0,s.length + 1,Nat.zero_le _,rfl,heap_anew _ _ _ rfl,Chg.alloc (Chg.refl _ _) _,hB,by omega⟩ ?_
 rintro st g w5 ⟨p,m,hp,rfl,hit,hx5,hbf,hm⟩
 obtain ⟨m,rfl⟩ : ∃ k,m = k + 1 := ⟨m - 1,by omega⟩
 rw [badF] at hbf
 have hz5 := hx5.size
 refine lnext_str hit (fun hpe => ?_) (fun hpl w6 hit6 hc6 hz6 => ?_)
 · -- it is UTF-8
   rw [ext_tuple]
   refine ⟨.bool false,rfl,?_⟩
   rw [condW_false]
   rw [if_pos hpe] at hbf
   subst hbf
   simp only at hok hbad
   have hU : Utf s := by
     have := badF_utf (s := s) (s.length + 1) 0 (by omega) hB
     rwa [List.drop_zero] at this
   generalize hR : scanF (s.length + 1) s 0 0 = R0 at hok hbad
   refine LoopW.go (fun st w7 => ∃ (i m : Nat) (acc : List Tok) (v : Value),st = [v,i64 (i : Nat)] ∧ i ≤ s.length ∧ Utf (s.drop i) ∧ Ext w w7 ∧ Own w7 w.heap.size TkT 3 v acc.length (toks acc) ∧ sfin acc (scanF m (s.drop i) i acc.length) = R0 ∧ s.length < m + i ∧ acc.length ≤ 4096)
     (fun st _ => match st with | [_,.int _ i] => s.length - i.toNat | _ => 0)
     ⟨0,s.length + 1,[],_,rfl,Nat.zero_le _,by rw [List.drop_zero]; exact hU,hx5,⟨by simp [toks],.inl ⟨rfl,rfl⟩⟩,by rw [List.drop_zero,List.length_nil,hR]; cases R0 <;> rfl,by omega,by simp⟩ ?_
   rintro st g2 w7 ⟨i,m2,acc,v,rfl,hi,hu,hx7,hO,hr,hm2,hcnt⟩
   obtain ⟨m2,rfl⟩ : ∃ k,m2 = k + 1 := ⟨m2 - 1,by omega⟩
   simp only [scanF] at hr
   simp only [List.getD_cons_zero,List.getD_cons_succ]
   have hz7 := hx7.size
   have hsl : (s.drop i).length = s.length - i := List.length_drop
   rw [sls_str,bd_none,bd_some]
   refine ⟨by omega,by omega,?_⟩
   rw [List.take_length,Int.toNat_natCast]
   refine skip_p (hT.ext hx7) (by omega) ?_
   have hku := skip_utf ((s.drop i).length + 1) _ hu
   have hkl := skip_le ((s.drop i).length + 1) (s.drop i)
   rw [drop_drop'] at hku hr
   generalize skipF ((s.drop i).length + 1) (s.drop i) = k at *
   obtain ⟨k,kc⟩ := k
   simp only at hku hkl hr ⊢
   rw [ext_tuple]; refine ⟨_,rfl,?_⟩
   rw [ext_tuple]; refine ⟨_,rfl,?_⟩
   rw [bin_add,wrap_id (by omega) (by omega),show (i : Int) + (k : Nat) = ((i + k : Nat) : Int) by omega,bin_eql]
   simp only [isB_t]
   refine GdW.look (decide (i + k = s.length)) (fun _ J hJ => ?_) fun g3 => ?_
   · rw [lens_str,bin_eql,show decide (((i + k : Nat) : Int) = ((s.length : Nat) : Int)) = decide (i + k = s.length) by rw [decide_eq_decide]; omega]
     exact hJ
   simp only [List.getD_cons_zero]
   rw [pick_gd_and,condW_b]
   refine ⟨fun hend => ?_,fun hgo => ?_⟩
   · simp only [Bool.and_eq_true,decide_eq_true_iff] at hend
     rw [if_neg (by rw [hend.1]; simp),if_pos (List.drop_eq_nil_of_le (by omega))] at hr
     simp only [put_int,put_str,List.length_cons,List.length_nil,List.set_cons_zero,List.set_cons_succ,Nat.reduceAdd,Nat.reduceLT,true_and,Nat.zero_lt_succ]
     rw [put_nil]
     refine bsl_agg (d := tokc ⟨0,[],((i + k : Nat) : Int)⟩) rfl rfl fun b w8 hb hz8 hbb hx8 => ?_
     refine append_own3 el_tk (hO.ext hx8) (slat_new' (n := 1) hbb) rfl (fun u hu => by simp only [tokc,List.mem_cons,List.not_mem_nil,or_false] at hu; rcases hu with rfl | rfl | rfl <;> rfl) (by omega) (by omega) (by have := hx8.size; omega) fun v' w9 hO9 hc9 hv9 => ?_
     have e : toks acc ++ tokc ⟨0,[],((i + k : Nat) : Int)⟩ = toks (acc ++ [⟨0,[],((i + k : Nat) : Int)⟩]) := (toks_app _ _).symm
     rw [e] at hO9
     have hx9 : Ext w w9 := (hx7.trans hx8).then hc9 fun q hq e => by have := (own_lt hO e).2; omega
     refine hok (acc ++ [⟨0,[],((i + k : Nat) : Int)⟩]) (by rw [← hr]; rfl) v' w9 hx9 (by rw [List.length_append]; exact hO9.sl) fun q hq => ⟨(own_lt hO9 hq).2,(own_lt hO9 hq).1⟩
   · have hgo : ¬ (kc = 0 ∧ i + k = s.length) := by
       rintro ⟨h1,h2⟩
       rw [h1,h2] at hgo
       simp at hgo
     refine alloc_new fun a w8 ha hz8 hab8 hx8 => ?_
     have hx78 := hx7.trans hx8
     -- the token
     refine JoinW.cut (fun st w9 => Ext w w9 ∧ Own w9 w.heap.size TkT 3 v acc.length (toks acc) ∧ w8.heap.size ≤ w9.heap.size ∧ v.ownBlock ≠ some a ∧ ∃ (t : Tok) (n : Nat) (e : Int),st = [i64 e,i64 (n : Nat)] ∧ w9.heap[a]? = some (.cells (tokc t).toArray TkT (0,0)) ∧
       ((e ≠ 0 ∧ R0 = .bad e ((i + k : Nat) : Int)) ∨ (e = 0 ∧ 1 ≤ n ∧ i + k + n ≤ s.length ∧ Utf (s.drop (i + k + n)) ∧ sfin acc (if acc.length = 4096 then .bad 3 ((i + k : Nat) : Int) else match scanF m2 (s.drop (i + k + n)) (i + k + n) (acc.length + 1) with | .ok l => .ok (⟨t.k,t.t,((i + k : Nat) : Int)⟩ :: l) | x => x) = R0))) ?_ ?_
     · have hva : v.ownBlock ≠ some a := fun e => by have := (own_lt hO e).1; omega
       rw [bin_eql,condW_dec]
       refine ⟨fun h0 => ?_,fun h0 => ?_⟩
       · rw [if_neg (by rw [h0]; simp)] at hr
         have hlt : i + k < s.length := by
           rcases Nat.lt_or_ge (i + k) s.length with h | h
           · exact h
           · exact absurd ⟨h0,by omega⟩ hgo
         have hd := drop_len hlt
         rw [if_neg (fun e => by rw [hd] at e; cases e)] at hr
         rw [sls_str,bd_none,bd_some]
         refine ⟨by omega,by omega,?_⟩
         rw [List.take_length,Int.toNat_natCast]
         have hrl : (s.drop (i + k + 1)).length = s.length - (i + k + 1) := List.length_drop
         rw [hd] at hr hku ⊢
         generalize s[i + k] = c at *
         generalize hrr : s.drop (i + k + 1) = r at *
         refine one_p (hT.ext hx78) hku (by omega) fun w9 hx9 => ?_
         rw [ext_tuple]; refine ⟨_,rfl,?_⟩
         rw [ext_tuple]; refine ⟨_,rfl,?_⟩
         rw [ext_tuple]; refine ⟨_,rfl,?_⟩
         have hou := one_utf hku
         have hok1 := @one_ok (c :: r)
         generalize oneM (c :: r) = o at *
         obtain ⟨t,n,e⟩ := o
         simp only at hou hr ⊢
         refine st_agg_at (l := tokc t) (hx9.at hab8 id) rfl rfl rfl fun w10 hz10 ha10 hc10 => ?_
         have hO9 := (hO.ext hx8).ext hx9
         refine ⟨(hx78.trans hx9).new hc10 (by omega),own_at hO9 hc10 fun q hq e => hva (e ▸ hq),by have := hx9.size; omega,hva,?_⟩
         by_cases he : e = 0
         · subst he
           rw [if_neg (by simp)] at hr
           obtain ⟨n1,n2,_⟩ := hok1 (t := t) (k := n) (by simp) rfl
           simp only [List.length_cons] at n2
           refine ⟨t,n,0,rfl,ha10,.inr ⟨rfl,n1,by omega,?_,?_⟩⟩
           · rw [← drop_drop',hd]; exact hou rfl
           · rw [← drop_drop',hd]; exact hr
         · rw [if_pos he] at hr
           exact ⟨t,n,e,rfl,ha10,.inl ⟨he,hr.symm⟩⟩
       · rw [if_pos h0] at hr
         exact ⟨hx78,hO.ext hx8,Nat.le_refl _,hva,⟨0,[],0⟩,0,kc,rfl,hab8,.inl ⟨h0,hr.symm⟩⟩
     rintro st g4 w9 ⟨hx9,hO9,hz9,hva,t,n,e,rfl,ha9,hcase⟩
     simp only [List.getD_cons_zero,List.getD_cons_succ]
     refine JoinW.cut (fun st w' => w' = w9 ∧ ∃ e' : Int,st = [i64 e'] ∧ ((e' ≠ 0 ∧ R0 = .bad e' ((i + k : Nat) : Int)) ∨ (e' = 0 ∧ 1 ≤ n ∧ i + k + n ≤ s.length ∧ Utf (s.drop (i + k + n)) ∧ acc.length < 4096 ∧ sfin acc (match scanF m2 (s.drop (i + k + n)) (i + k + n) (acc.length + 1) with | .ok l => .ok (⟨t.k,t.t,((i + k : Nat) : Int)⟩ :: l) | x => x) = R0))) ?_ ?_
     · rw [bin_eql]
       simp only [isB_t]
       refine GdW.look (decide (acc.length = 4096)) (fun _ J hJ => ?_) fun g5 => ?_
       · obtain ⟨q,cap,ev,_⟩ := hO9.sl.shape
         rw [ev,lenl_sl,bin_eql,show decide (((acc.length : Nat) : Int) = 4096) = decide (acc.length = 4096) by rw [decide_eq_decide]; omega]
         exact hJ
       simp only [List.getD_cons_zero]
       rw [pick_gd_and,condW_b]
       refine ⟨fun hb => ?_,fun hb => ?_⟩
       · simp only [Bool.and_eq_true,decide_eq_true_iff] at hb
         refine ⟨trivial,3,rfl,.inl ⟨by decide,?_⟩⟩
         rcases hcase with ⟨h1,h2⟩ | ⟨h1,h2,h3,h4,h5⟩
         · exact absurd hb.1 h1
         · rw [if_pos hb.2] at h5; exact h5.symm
       · refine ⟨trivial,e,rfl,?_⟩
         rcases hcase with h | ⟨h1,h2,h3,h4,h5⟩
         · exact .inl h
         · have : acc.length ≠ 4096 := fun h => by rw [h1,h] at hb; simp at hb
           rw [if_neg this] at h5
           exact .inr ⟨h1,h2,h3,h4,by omega,h5⟩
     rintro st g5 w10 ⟨rfl,e',rfl,hcase⟩
     simp only [List.getD_cons_zero]
     rw [bin_neq,condW_dec]
     refine ⟨fun hne => ?_,fun heq => ?_⟩
     · rcases hcase with ⟨h1,h2⟩ | ⟨h1,_⟩
       · simp only [put_int,put_str,List.length_cons,List.length_nil,List.set_cons_zero,List.set_cons_succ,Nat.reduceAdd,Nat.reduceLT,true_and,Nat.zero_lt_succ]
         exact bad (K' := K) e' (i + k) (fun d w' => hbad e' _ h2 d w') hx9
       · exact absurd h1 hne
     · rcases hcase with ⟨h1,_⟩ | ⟨h1,n1,n2,hu2,hc4,hr⟩
       · exact absurd (by simpa using heq) h1
       rw [fld_ptr,add_mk,Nat.zero_add]
       refine st_at ha9 rfl (by simp [tokc]) fun w11 hz11 ha11 hc11 => ?_
       have ha11 : w11.heap[a]? = some (.cells (tokc ⟨t.k,t.t,((i + k : Nat) : Int)⟩).toArray TkT (0,0)) := by rw [ha11]; simp [tokc]
       have hO11 := own_at hO9 hc11 fun q hq e => hva (e ▸ hq)
       have hx11 := hx9.new hc11 (by omega)
       refine ld_all ha11 rfl ?_
       refine bsl_agg (d := tokc ⟨t.k,t.t,((i + k : Nat) : Int)⟩) rfl rfl fun b w12 hb hz12 hbb hx12 => ?_
       refine append_own3 el_tk (hO11.ext hx12) (slat_new' (n := 1) hbb) rfl (fun u hu => by simp only [tokc,List.mem_cons,List.not_mem_nil,or_false] at hu; rcases hu with rfl | rfl | rfl <;> rfl) (by omega) (by omega) (by have := hx11.size; have := hx12.size; omega) fun v' w13 hO13 hc13 hv13 => ?_
       rw [← toks_app] at hO13
       rw [bin_add,wrap_id (by omega) (by omega)]
       refine ⟨⟨i + k + n,m2,acc ++ [⟨t.k,t.t,((i + k : Nat) : Int)⟩],v',by simp only [List.cons.injEq,Value.int.injEq,true_and,and_true]; omega,by omega,hu2,(hx11.trans hx12).then hc13 fun q hq e => ?_,by rw [List.length_append]; exact hO13,?_,by omega,by rw [List.length_append,List.length_cons,List.length_nil]; omega⟩,?_⟩
       · have := (own_lt hO11 e).2; omega
       · rw [List.length_append,← sfin_sfin]; exact hr
       · simp only [Int.toNat_natCast]; omega
 · -- the next rune
   have hge : ¬ s.length ≤ p := by omega
   rw [if_neg hge] at hbf
   have hx6 : Ext w w6 := hx5.then hc6 fun q hq e => by have e : q = w.heap.size := e; omega
   rw [ext_tuple]
   refine ⟨.bool true,rfl,?_⟩
   rw [condW_true,ext_tuple]
   refine ⟨i64 (p : Nat),rfl,?_⟩
   rw [ext_tuple]
   refine ⟨_,rfl,?_⟩
   have hdc : (Utf8.decode (ofL s) p).1 = 65533 ∧ Lib.hasPrefix (s.drop p) [239,191,189] = false ↔ runeM s p = 0 := by
     constructor
     · rintro ⟨h1,h2⟩
       by_cases h0 : runeM s p = 0
       · exact h0
       · obtain ⟨c,hc⟩ := rune_good hpl h0
         have hd := hc.dec
         rw [hd] at h1
         have h1 : c = 65533 := h1
         subst h1
         rw [good_pref hc] at h2
         cases h2
     · intro h0
       rw [rune_bad hpl h0]
       exact ⟨rfl,bad_pref h0⟩
   rw [dec_step hpl] at hit6
   generalize (Utf8.decode (ofL s) p).1 = c at *
   rw [bin_eql,show decide (((c : Nat) : Int) = 65533) = decide (c = 65533) by rw [decide_eq_decide]; omega]
   simp only [isB_t]
   refine GdW.look (!Lib.hasPrefix (s.drop p) [239,191,189]) (fun _ J hJ => ?_) fun g3 => ?_
   · rw [sls_str,bd_none,bd_some]
     refine ⟨by omega,by omega,?_⟩
     rw [List.take_length,Int.toNat_natCast]
     refine hasp_p ?_
     rw [un_not]
     exact hJ
   simp only [List.getD_cons_zero]
   rw [pick_gd_and,condW_b]
   refine ⟨fun hb => ?_,fun hb => ?_⟩
   · have h0 : runeM s p = 0 := hdc.1 (by simpa using hb)
     rw [if_pos h0] at hbf
     subst hbf
     simp only [put_int,put_str,List.length_cons,List.length_nil,List.set_cons_zero,List.set_cons_succ,Nat.reduceAdd,Nat.reduceLT,true_and,Nat.zero_lt_succ]
     exact bad (K' := K) 31 p (fun d w' => hbad 31 _ rfl d w') hx6
   · have h0 : runeM s p ≠ 0 := fun h => by
       have := hdc.2 h
       rw [decide_eq_true this.1,this.2] at hb
       cases hb
     rw [if_neg h0] at hbf
     have hfit := step_fits hpl
     have hpos := step_pos s p
     refine ⟨⟨p + stepM s p,m,hfit,trivial,hit6,hx6,hbf,by omega⟩,?_⟩
     rw [hit6,hit]
     show s.length - (p + stepM s p) < s.length - p
     omega
end
end Go.Proofs.YtofhaneggcpdaaaDoor
namespace Go.Proofs.YtofhaneggcpdaaaDoor
open Go Go.Eng Go.RowKit Go.Syn Go.Lex
set_option maxRecDepth 100000
abbrev DgT : TypeId := 34
def flOf : Syn.PR → Fl
 | .ok f => f
 | .bad _ _ => ⟨[],[],[]⟩
def okP : Syn.PR → Bool
 | .ok _ => true
 | .bad _ _ => false
def PRep (w : World) (d : Value) : Syn.PR → Prop
 | .ok _ => d = .pointer none
 | .bad c a => ∃ b,d = .pointer (some ⟨b,0,none⟩) ∧ w.heap[b]? = some (.cells [i64 c,str [],i64 a].toArray DgT (0,0))
theorem PRep.ext {w w' : World} {d : Value} {r : Syn.PR} (h : PRep w d r) (hx : Ext w w') : PRep w' d r := by
 cases r with
 | ok f => exact h
 | bad c a => obtain ⟨b,h1,h2⟩ := h; exact ⟨b,h1,hx.at h2 id⟩
theorem PRep.eq {w : World} {d : Value} {r : Syn.PR} (h : PRep w d r) (n : Bool) (K : Value → Prop) : eqW .ptr n d (.pointer none) K ↔ K (.bool (n ^^ okP r)) := by
 cases r with
 | ok f => have h : d = .pointer none := h; rw [h]; cases n <;> exact Iff.rfl
 | bad c a => obtain ⟨b,rfl,_⟩ := h; cases n <;> exact Iff.rfl
theorem FO.ext {w w' : World} {B : Nat} {M : Lay} {fl : Fl} (h : FO w B M fl) (hx : Ext w w') : FO w' B M fl := h.keep hx fun _ _ _ _ e => e
theorem fo_nil (w : World) (B : Nat) : FO w B ⟨.slice none 0 0,.slice none 0 0,.slice none 0 0,[],[]⟩ ⟨[],[],[]⟩ :=
 ⟨⟨by simp,.inl ⟨rfl,rfl⟩⟩,⟨by simp,.inl ⟨rfl,rfl⟩⟩,⟨by simp [ints],.inl ⟨rfl,rfl⟩⟩,RowsR.nil _ _,RowsR.nil _ _,List.nodup_nil,fun k hk => by simp [ub,Value.ownBlock] at hk,fun k hk => by simp [ub,Value.ownBlock] at hk⟩
def isP (r : Syn.PR) (code a : Int) : Bool := match r with
 | .ok _ => decide (code = 0)
 | .bad c i => decide (code ≠ 0) && decide (c = code) && decide (i = a)
section
variable [HX]
theorem parse_r {t : Str} {w : World} {K : Value → World → Prop} (hT : TabI w) (hl : t.length ≤ 1000000)
   (hK : ∀ M d w',Ext w w' → FO w' w.heap.size M (flOf (parseM t)) → PRep w' d (parseM t) → ((flOf (parseM t)).ex.length ≤ 100000 ∧ (flOf (parseM t)).bl.length ≤ 100000 ∧ (flOf (parseM t)).top.length ≤ 100000) → K (.tuple #[.agg [M.vE,M.vB,M.vT].toArray,d]) w') : callF Tryd.prog 10 [str t] w K := by
 refine parse_p (fun {_} => scan_p) hT hl (fun fl h M w' hx hF hfew => ?_) (fun c a h d w' hx hd hdb => ?_)
 · rw [h] at hK
   exact hK M _ w' hx hF rfl hfew
 · rw [h] at hK
   exact hK ⟨.slice none 0 0,.slice none 0 0,.slice none 0 0,[],[]⟩ _ w' hx (fo_nil _ _) ⟨d,rfl,hdb⟩ (by simp [flOf])
theorem is5_p {w : World} {d : Value} {r : Syn.PR} {code a : Int} {K : Value → World → Prop} (h : PRep w d r) (hK : K (.bool (isP r code a)) w) : callF Tryd.prog 14 [d,i64 code,i64 a] w K := by
 refine W14_ok ?_
 unfold W14
 rw [bin_eql,condW_dec]
 refine ⟨fun e => ?_,fun e => ?_⟩
 · rw [h.eq]
   cases r with
   | ok f => simp only [isP,e,decide_true,okP] at hK ⊢; exact hK
   | bad e1 i => simp only [isP,e,ne_eq,not_true,decide_false,Bool.false_and,okP] at hK ⊢; exact hK
 · rw [h.eq]
   cases r with
   | ok f =>
     simp only [isP,decide_eq_false e,okP,Bool.xor_self] at hK ⊢
     simp only [isB_t,isB_f,GdW_f,List.getD_cons_zero,pick_f]
     intros
     exact hK
   | bad e1 i =>
     obtain ⟨b,rfl,hb⟩ := h
     simp only [isP,decide_eq_true e,okP,Bool.xor_false,Bool.true_and,ne_eq] at hK ⊢
     have ld : ∀ {off : Nat} {v : Value} {K : Value → Prop},[i64 e1,str [],i64 i][off]? = some v → K v → nilW (.pointer (some ⟨b,0,none⟩)) fun t => fldW off t fun t => ldW false 1 t w K := fun hv hk => by
       rw [nil_ptr,fld_ptr,ld_one]
       refine ⟨_,?_,hk⟩
       rw [add_mk,cell_eq,hb,cellO_some,Nat.zero_add]
       simpa using hv
     refine GdW.act (decide (e1 = code)) (fun w' => w' = w) (fun e => by cases e) ?_ ?_
     · intro _ J hJ
       refine ld rfl ?_
       rw [bin_eql]
       exact hJ _ rfl
     rintro g w2 rfl
     simp only [cond_true,List.getD_cons_zero,pick_t,isB_t]
     refine GdW.act (decide (i = a)) (fun w' => w' = w2) (fun _ => rfl) ?_ ?_
     · intro _ J hJ
       refine ld rfl ?_
       rw [bin_eql]
       exact hJ _ rfl
     rintro g2 w3 rfl
     simp only [List.getD_cons_zero]
     rw [pick_gd_and]
     simp only [isB_t]
     refine GdW.act true (fun w' => w' = w3) (fun _ => rfl) ?_ ?_
     · intro _ J hJ
       refine ld rfl ?_
       rw [bin_seq]
       exact hJ _ rfl
     rintro g3 w4 rfl
     simp only [List.getD_cons_zero]
     rw [pick_gd_and,Bool.and_true]
     simpa using hK
end
def ex1 : Str := [114,32,34,116,34,32,34,110,34,32,123,32,120,32,61,32,49,32,43,32,121,46,122,32,125]
def ex2 : Str := [97,32,123,32,120,32,61,32,49,32,121,32,61,32,50,32,125]
theorem ex1_ok : okP (parseM ex1) = true ∧ (flOf (parseM ex1)).bl.length = 1 ∧ (flOf (parseM ex1)).ex.length = 4 ∧ ((flOf (parseM ex1)).ex.getD 3 ⟨0,[],[],[],0⟩).k = 15 ∧ ((flOf (parseM ex1)).bl.getD 0 ⟨[],[],[],[],0⟩).labels.length = 2 := by decide +kernel
theorem ex2_bad : isP (parseM ex2) 50 10 = true := by decide +kernel
section
variable [HX]
theorem awake5_p {w : World} {K : Value → World → Prop} (hT : TabI w) (hK : ∀ w',Ext w w' → K (.bool true) w') : callF Tryd.prog 8 [] w K := by
 refine W8_ok ?_
 unfold W8
 obtain ⟨x1,x2,x3,x4,x5⟩ := ex1_ok
 refine parse_r (t := ex1) hT (by decide) fun M d w1 hx1 hF1 hd1 _ => ?_
 generalize hr1 : parseM ex1 = r1 at *
 rw [ext_tuple]; refine ⟨_,rfl,?_⟩
 rw [ext_tuple]; refine ⟨_,rfl,?_⟩
 refine alloc_new fun a w2 ha hz2 hab2 hx2 => ?_
 obtain ⟨p1,c1,e1,_⟩ := hF1.oE.sl.shape
 obtain ⟨p2,c2,e2,_⟩ := hF1.oB.sl.shape
 obtain ⟨p3,c3,e3,_⟩ := hF1.oT.sl.shape
 refine st_agg_at (l := [M.vE,M.vB,M.vT]) hab2 rfl rfl (by rw [e1,e2,e3]; rfl) fun w3 hz3 ha3 hc3 => ?_
 have hx13 : Ext w1 w3 := hx2.new hc3 (by omega)
 have hx3 := hx1.trans hx13
 refine parse_r (t := ex2) (hT.ext hx3) (by decide) fun M2 d2 w4 hx4 hF4 hd4 _ => ?_
 have hb2 := ex2_bad
 generalize parseM ex2 = r2 at *
 rw [ext_tuple]; refine ⟨_,rfl,?_⟩
 rw [ext_tuple]; refine ⟨_,rfl,?_⟩
 refine alloc_new fun b w5 hb hz5 hab5 hx5 => ?_
 obtain ⟨q1,k1,f1,_⟩ := hF4.oE.sl.shape
 obtain ⟨q2,k2,f2,_⟩ := hF4.oB.sl.shape
 obtain ⟨q3,k3,f3,_⟩ := hF4.oT.sl.shape
 refine st_agg_at (l := [M2.vE,M2.vB,M2.vT]) hab5 rfl rfl (by rw [f1,f2,f3]; rfl) fun w6 hz6 ha6 hc6 => ?_
 have hx46 : Ext w4 w6 := hx5.new hc6 (by omega)
 have hx36 := hx4.trans hx46
 have hF := (hF1.ext hx13).ext hx36
 have ha := hx36.at ha3 id
 have hd6 := hd4.ext hx46
 have hK := hK w6 (hx3.trans hx36)
 clear hF1 hF4 hd4
 have ld : ∀ {off : Nat} {v : Value} {K : Value → Prop},[M.vE,M.vB,M.vT][off]? = some v → K v → fldW off (.pointer (some ⟨a,0,none⟩)) fun t => ldW false 1 t w6 K := fun hv hk => by
   rw [fld_ptr,ld_one]
   refine ⟨_,?_,hk⟩
   rw [add_mk,cell_eq,ha,cellO_some,Nat.zero_add]
   simpa using hv
 rw [hd1.eq,x1]
 simp only [isB_t,Bool.xor_true,Bool.not_false]
 refine GdW.look true (fun _ J hJ => ?_) fun g => ?_
 · refine ld (off := 1) rfl ?_
   rw [lenl_at hF.oB.sl,bin_eql,x2]
   exact hJ
 simp only [List.getD_cons_zero,cond_true,pick_t,isB_t]
 refine GdW.look true (fun _ J hJ => ?_) fun g => ?_
 · refine ld (off := 0) rfl ?_
   rw [lenl_at hF.oE.sl,bin_eql,x3]
   exact hJ
 simp only [List.getD_cons_zero,cond_true,pick_t,isB_t]
 refine GdW.look true (fun _ J hJ => ?_) fun g => ?_
 · refine ld (off := 0) rfl ?_
   refine ixa_at (i := 3) hF.oE.sl (by rw [hF.ee.1]) (by omega) (by omega) fun bb o c fr hbb hcs => ?_
   have hlt : 3 < (flOf r1).ex.length := by omega
   obtain ⟨va,vk,ec,_,_⟩ := hF.ee.2 3 _ (List.getElem?_eq_getElem hlt)
   rw [fld_ptr,ld_one]
   have h0 := hcs 0 (by omega)
   have h1 := congrArg (fun l => l[0]?) ec
   simp only [List.getElem?_take_of_lt (show 0 < 5 by omega),List.getElem?_drop,List.getElem?_cons_zero] at h1
   refine ⟨_,by rw [add_mk,cell_eq,hbb,cellO_some,h0]; exact h1,?_⟩
   rw [List.getD_eq_getElem?_getD,List.getElem?_eq_getElem hlt] at x4
   rw [bin_eql]
   have x4 : (flOf r1).ex[3].k = 15 := x4
   rw [x4]
   exact hJ
 simp only [List.getD_cons_zero,cond_true,pick_t,isB_t]
 refine GdW.look true (fun _ J hJ => ?_) fun g => ?_
 · refine ld (off := 1) rfl ?_
   refine ixa_at (i := 0) hF.oB.sl (by rw [hF.bb.1]) (by omega) (by omega) fun bb o c fr hbb hcs => ?_
   have hlt : 0 < (flOf r1).bl.length := by omega
   obtain ⟨vl,va,vb,ec,hL,_,_⟩ := hF.bb.2 0 _ (List.getElem?_eq_getElem hlt)
   rw [fld_ptr,ld_one]
   have h0 := hcs 1 (by omega)
   have h1 := congrArg (fun l => l[1]?) ec
   simp only [List.getElem?_take_of_lt (show 1 < 5 by omega),List.getElem?_drop,List.getElem?_cons_zero,List.getElem?_cons_succ] at h1
   refine ⟨vl,by rw [add_mk,cell_eq,hbb,cellO_some,h0]; exact h1,?_⟩
   rw [List.getD_eq_getElem?_getD,List.getElem?_eq_getElem hlt] at x5
   have x5 : (flOf r1).bl[0].labels.length = 2 := x5
   rw [lenl_at hL.sl,bin_eql,x5]
   exact hJ
 simp only [List.getD_cons_zero,cond_true,pick_t,isB_t]
 refine GdW.look true (fun _ J hJ => ?_) fun g => ?_
 · refine is5_p hd6 ?_
   rw [hb2]
   exact hJ
 simp only [List.getD_cons_zero,cond_true,pick_t]
 exact hK
end
end Go.Proofs.YtofhaneggcpdaaaDoor
namespace Go.Proofs.YtofhaneggcpdaaaDoor
open Go Go.Eng Go.RowKit Go.Syn Go.Lex
set_option maxRecDepth 100000
def cnt (n : Nat) (l : List Nat) : List Nat := (List.range n).map fun j => l.count j
section
variable [HX]
end
variable {w0 w w' : World} {B a ea eb : Nat} {M : Lay} {fl : Fl} {lE lB : List Nat}
end Go.Proofs.YtofhaneggcpdaaaDoor
namespace Go.Proofs.YtofhaneggcpdaaaDoor
open Go Go.Eng Go.RowKit Go.Syn Go.Lex
set_option maxRecDepth 100000
theorem cells_row {w : World} {b o : Nat} {c : Array Value} {T : TypeId} {fr : Nat × Nat} {d : List Value} (hb : w.heap[b]? = some (.cells c T fr)) (hd : ∀ j,j < d.length → c[o + j]? = d[j]?) : ∀ (n i : Nat),i + n = d.length → cellsAt w ⟨b,o,none⟩ i n = some (d.drop i)
 | 0,i,h => by simp only [cellsAt]; rw [List.drop_of_length_le (by omega)]
 | n + 1,i,h => by
   have hi : i < d.length := by omega
   simp only [cellsAt,add_mk,cell_eq,hb,cellO_some,hd i hi,List.getElem?_eq_getElem hi]
   rw [cells_row hb hd n (i + 1) (by omega)]
   simp
theorem ixa_row {w : World} {T : TypeId} {v : Value} {n size : Nat} {cs d : List Value} {k : IntKind} {i : Nat} {K : Value → Prop} (h : SlAt w T v n cs) (hl : cs.length = n * size) (hs : 0 < size) (hi : i < n) (hd : (cs.drop (i * size)).take size = d) (hK : K (.agg d.toArray)) :
   ixaW none size v (.int k i) fun t => ldW true size t w K := by
 have hlt : i * size + size ≤ n * size := by rw [← Nat.succ_mul]; exact Nat.mul_le_mul_right _ hi
 have hdl : d.length = size := by rw [← hd,List.length_take,List.length_drop]; omega
 refine ixa_at h hl hs hi fun b o c fr hb hc => ?_
 rw [ld_agg]
 refine ⟨d,?_,hK⟩
 have := cells_row (d := d) hb (fun j hj => by rw [hc j (by omega),← hd,List.getElem?_take_of_lt (by omega),List.getElem?_drop]) size 0 (by omega)
 simpa using this
theorem FO.exI {w : World} {B : Nat} {M : Lay} {fl : Fl} {i : Nat} {e : Ex} {k : IntKind} {K : Value → Prop} (h : FO w B M fl) (hi : fl.ex[i]? = some e) (hK : ∀ va vk,va ∈ M.cE → Own w B IntT 1 va e.args.length (ints e.args) → Own w B StT 1 vk e.keys.length (strs e.keys) → K (.agg [i64 e.k,str e.t,va,vk,i64 e.a].toArray)) :
   ixaW none 5 M.vE (.int k i) fun t => ldW true 5 t w K := by
 obtain ⟨va,vk,ec,h1,h2⟩ := h.ee.2 i e hi
 exact ixa_row h.oE.sl h.ee.1 (by omega) (List.getElem?_eq_some_iff.1 hi).1 ec (hK va vk (List.mem_of_mem_drop (List.mem_of_mem_take (by rw [ec]; simp))) h1 h2)
variable [HX]
end Go.Proofs.YtofhaneggcpdaaaDoor
namespace Go.Proofs.YtofhaneggcpdaaaDoor
open Go Go.Eng Go.RowKit Go.Syn Go.Lex
set_option maxRecDepth 100000
def sgnL : List Str := [[124,124],[38,38],[61,61],[33,61],[60],[62],[60,61],[62,61],[43],[45],[42],[47],[37]]
def levL : List Nat := [0,1,2,2,3,3,3,3,4,4,5,5,5]
def kindL : List Nat := [27,26,20,21,22,23,24,25,15,16,17,18,19]
def bindT (i k : Nat) : Str := [97,32,123,10,120,32,61,32,112,32] ++ sgnL.getD i [] ++ [32,113,32] ++ sgnL.getD k [] ++ [32,114,10,125]
def noEx : Ex := ⟨0,[],[],[],0⟩
def chkB (i k : Nat) : Syn.PR → Bool
 | .bad _ _ => false
 | .ok f => decide (f.ex.length = 5) && decide ((f.ex.getD 4 noEx).args.length = 2) && decide ((f.ex.getD 4 noEx).args.getD 0 9 < 5) && decide ((f.ex.getD 4 noEx).args.getD 1 9 < 5) &&
   (if levL.getD i 0 < levL.getD k 0 then decide ((f.ex.getD 4 noEx).k = kindL.getD i 0) && decide ((f.ex.getD ((f.ex.getD 4 noEx).args.getD 1 9) noEx).k = kindL.getD k 0) && decide ((f.ex.getD ((f.ex.getD 4 noEx).args.getD 0 9) noEx).t = [112])
    else decide ((f.ex.getD 4 noEx).k = kindL.getD k 0) && decide ((f.ex.getD ((f.ex.getD 4 noEx).args.getD 0 9) noEx).k = kindL.getD i 0) && decide ((f.ex.getD ((f.ex.getD 4 noEx).args.getD 1 9) noEx).t = [114]))
theorem binds_x : ∀ i : Fin 13,∀ k : Fin 13,chkB i.val k.val (parseM (bindT i.val k.val)) = true := by decide +kernel
theorem ixg_m {len k : Nat} {l : List Value} {x : Value} {K : Value → Prop} (hk : k < len) (hx : l[k]? = some x) (h : K x) : ixgW len false 1 (.agg l.toArray) (i64 (k : Nat)) K := by
 refine ⟨by omega,by omega,?_⟩
 show ∃ c,l.toArray[((k : Nat) : Int).toNat * 1]? = some c ∧ K c
 exact ⟨x,by rw [Int.toNat_natCast,Nat.mul_one,List.getElem?_toArray]; exact hx,h⟩
theorem urem2 {a : Int} {m : Nat} (hm : 0 < m) (hm2 : m < 1000) : ∃ n : Nat,n < m ∧ IntKind.i64.wrap ((IntKind.u64.wrap a).tmod (m : Nat)) = (n : Int) := by
 obtain ⟨u,hu⟩ : ∃ u : Nat,IntKind.u64.wrap a = (u : Int) := ⟨(IntKind.u64.wrap a).toNat,by rw [IntKind.wrap_u64]; omega⟩
 have hlt := Nat.mod_lt u hm
 refine ⟨u % m,hlt,?_⟩
 have e : ((u : Nat) : Int).tmod (m : Nat) = ((u % m : Nat) : Int) := by rw [Int.tmod_eq_emod_of_nonneg (by omega)]; omega
 rw [hu,e,wrap_id (by omega) (by omega)]
theorem nats_get {l : List Nat} {k : Nat} (h : k < l.length) : (ints l)[k]? = some (i64 ((l.getD k 0 : Nat) : Int)) := by
 rw [ints,List.getElem?_map,List.getElem?_eq_getElem h,List.getD_eq_getElem?_getD,List.getElem?_eq_getElem h]; rfl
theorem strs_get {l : List Str} {k : Nat} (h : k < l.length) : (strs l)[k]? = some (str (l.getD k [])) := by
 rw [strs,List.getElem?_map,List.getElem?_eq_getElem h,List.getD_eq_getElem?_getD,List.getElem?_eq_getElem h]; rfl
theorem gq_fld (off : Nat) (ad : Addr) (B : Value → Prop) : GqW true (fun k => fldW off (.pointer (some ad)) k) B ↔ B (.pointer (some (ad.add off))) := by
 rw [GqW_t]
 constructor
 · rintro ⟨v,h,hb⟩
   have h : Value.pointer (some (ad.add off)) = v := h
   rw [h]; exact hb
 · intro h; exact ⟨_,rfl,h⟩
theorem gq_of {A : (Value → Prop) → Prop} {B : Value → Prop} {v : Value} (h1 : A (fun x => x = v)) (h2 : B v) : GqW true A B := (GqW_t A B).2 ⟨v,h1,h2⟩
theorem GeW_tt {w : World} {A : (Value → World → Prop) → Prop} {B : Value → World → Prop} (h : A B) : GeW true w A B := ⟨fun _ => h,(fun e => by cases e)⟩
theorem ixa_split {s : Nat} {v i : Value} {F : Value → Prop} (h : ixaW none s v i F) : ∃ p,ixaW none s v i (fun x => x = p) ∧ F p := by
 unfold ixaW at h ⊢
 split at h
 all_goals first
   | exact h.elim
   | exact ⟨_,⟨h.1,h.2.1,rfl⟩,h.2.2⟩
theorem fld_split {off : Nat} {v : Value} {F : Value → Prop} (h : fldW off v F) : ∃ p,fldW off v (fun x => x = p) ∧ F p := by
 unfold fldW at h ⊢
 split at h
 · exact ⟨_,rfl,h⟩
 · exact h.elim
section
variable [HX]
theorem kind5_p {k : Nat} {w : World} {K : Value → World → Prop} (hk : k < 13) (hK : K (i64 ((kindL.getD k 0 : Nat) : Int)) w) : callF Tryd.prog 13 [i64 (k : Nat)] w K := by
 refine W13_ok ?_
 unfold W13
 simp only [List.replicate_succ,List.replicate_zero,put_int,put_nil,List.length_cons,List.length_nil,List.set_cons_zero,List.set_cons_succ,Nat.reduceAdd,Nat.reduceLT,true_and,Nat.zero_lt_succ]
 exact ixg_m (l := ints kindL) hk (nats_get hk) hK
theorem signs5_p {k : Nat} {w : World} {K : Value → World → Prop} (hk : k < 13) (hK : ∀ w',Ext w w' → K (.tuple #[str (sgnL.getD k []),i64 ((levL.getD k 0 : Nat) : Int)]) w') : callF Tryd.prog 12 [i64 (k : Nat)] w K := by
 refine W12_ok ?_
 unfold W12
 simp only [List.replicate_succ,List.replicate_zero,put_int,put_str,put_nil,List.length_cons,List.length_nil,List.set_cons_zero,List.set_cons_succ,Nat.reduceAdd,Nat.reduceLT,true_and,Nat.zero_lt_succ]
 refine alloc_new fun a w1 ha hz1 hb1 hx1 => ?_
 refine st_agg_at (l := strs sgnL) hb1 rfl rfl rfl fun w2 hz2 hb2 hc2 => ?_
 refine alloc_new fun b w3 hb hz3 hb3 hx3 => ?_
 refine st_agg_at (l := ints levL) hb3 rfl rfl rfl fun w4 hz4 hb4 hc4 => ?_
 have hx2 : Ext w w2 := hx1.new hc2 (by omega)
 have hx4 : Ext w w4 := (hx2.trans hx3).new hc4 (by omega)
 have ha4 := hc4.at (hx3.at hb2 id) (by omega)
 rw [ixa_arr]
 refine ⟨by omega,by omega,?_⟩
 rw [add_mk,Int.toNat_natCast,Nat.mul_one,Nat.zero_add,ld_one]
 refine ⟨_,by rw [cell_eq,heap_drew,ha4,cellO_some,List.getElem?_toArray]; exact strs_get hk,?_⟩
 rw [ixa_arr]
 refine ⟨by omega,by omega,?_⟩
 rw [add_mk,Int.toNat_natCast,Nat.mul_one,Nat.zero_add,ld_one]
 refine ⟨_,by rw [cell_eq,heap_drew,hb4,cellO_some,List.getElem?_toArray]; exact nats_get hk,?_⟩
 exact hK _ (hx4.trans (ext_drew _))
theorem FO.kt {w : World} {B : Nat} {M : Lay} {fl : Fl} {i : Nat} {k : IntKind} {K : Value → Prop} (h : FO w B M fl) (hi : i < fl.ex.length) :
   (K (i64 (fl.ex.getD i noEx).k) → ixaW none 5 M.vE (.int k (i : Nat)) fun t => fldW 0 t fun t => ldW false 1 t w K) ∧ (K (str (fl.ex.getD i noEx).t) → ixaW none 5 M.vE (.int k (i : Nat)) fun t => fldW 1 t fun t => ldW false 1 t w K) := by
 have hg := List.getElem?_eq_getElem hi
 have hd : fl.ex.getD i noEx = fl.ex[i] := by rw [List.getD_eq_getElem?_getD,hg]; rfl
 obtain ⟨va,vk,ec,_,_⟩ := h.ee.2 i _ hg
 rw [hd]
 constructor
 · intro hK
   refine ixa_at h.oE.sl h.ee.1 (by omega) hi fun bb o c fr hbb hcs => ?_
   rw [fld_ptr,ld_one]
   have h0 := hcs 0 (by omega)
   have h1 := congrArg (fun l => l[0]?) ec
   simp only [List.getElem?_take_of_lt (show 0 < 5 by omega),List.getElem?_drop,List.getElem?_cons_zero] at h1
   exact ⟨_,by rw [add_mk,cell_eq,hbb,cellO_some,h0]; exact h1,hK⟩
 · intro hK
   refine ixa_at h.oE.sl h.ee.1 (by omega) hi fun bb o c fr hbb hcs => ?_
   rw [fld_ptr,ld_one]
   have h0 := hcs 1 (by omega)
   have h1 := congrArg (fun l => l[1]?) ec
   simp only [List.getElem?_take_of_lt (show 1 < 5 by omega),List.getElem?_drop,List.getElem?_cons_zero,List.getElem?_cons_succ] at h1
   exact ⟨_,by rw [add_mk,cell_eq,hbb,cellO_some,h0]; exact h1,hK⟩
theorem binds_true {a b : Int} {w : World} {K : Value → World → Prop} (hT : TabI w) (_ha : -9223372036854775808 ≤ a ∧ a ≤ 9223372036854775807) (_hb : -9223372036854775808 ≤ b ∧ b ≤ 9223372036854775807) (hK : ∀ w',Ext w w' → K (.bool true) w') : callF Tryd.prog 6 [i64 a,i64 b] w K := by
 refine W6_ok ?_
 unfold W6
 refine awake5_p hT fun w1 hx1 => ?_
 rw [un_not,Bool.not_true,condW_false,cvt_int,bin_rem]
 refine ⟨by decide,?_⟩
 obtain ⟨i,hi,ei⟩ := urem2 (a := a) (m := 13) (by omega) (by omega)
 rw [cvt_int,show IntKind.i64.wrap ((IntKind.u64.wrap a).tmod 13) = (i : Int) from ei,cvt_int,bin_rem]
 refine ⟨by decide,?_⟩
 obtain ⟨k,hk,ek⟩ := urem2 (a := b) (m := 13) (by omega) (by omega)
 rw [cvt_int,show IntKind.i64.wrap ((IntKind.u64.wrap b).tmod 13) = (k : Int) from ek]
 refine signs5_p hi fun w2 hx2 => ?_
 rw [ext_tuple]; refine ⟨_,rfl,?_⟩
 rw [ext_tuple]; refine ⟨_,rfl,?_⟩
 refine signs5_p hk fun w3 hx3 => ?_
 rw [ext_tuple]; refine ⟨_,rfl,?_⟩
 rw [ext_tuple]; refine ⟨_,rfl,?_⟩
 have sl : ∀ {q : Nat},q < 13 → (sgnL.getD q []).length ≤ 2 := fun {q} hq => by
   have : ∀ k : Fin 13,(sgnL.getD k.val []).length ≤ 2 := by decide
   exact this ⟨q,hq⟩
 have l1 := sl hi
 have l2 := sl hk
 have hc := binds_x ⟨i,hi⟩ ⟨k,hk⟩
 simp only at hc
 unfold bindT at hc
 generalize sgnL.getD i [] = A at *
 generalize sgnL.getD k [] = B at *
 have emax : ∀ k : Nat,k ≤ 100000 → ((k : Nat) : Int) ≤ IntKind.i64.max := fun k hk => by
   have : IntKind.i64.max = 9223372036854775807 := by decide
   omega
 rw [bin_sadd]
 refine ⟨emax _ (by simp only [List.length_cons,List.length_nil]; omega),?_⟩
 rw [bin_sadd]
 refine ⟨emax _ (by simp only [List.length_append,List.length_cons,List.length_nil]; omega),?_⟩
 rw [bin_sadd]
 refine ⟨emax _ (by simp only [List.length_append,List.length_cons,List.length_nil]; omega),?_⟩
 rw [bin_sadd]
 refine ⟨emax _ (by simp only [List.length_append,List.length_cons,List.length_nil]; omega),?_⟩
 refine parse_r (((hT.ext hx1).ext hx2).ext hx3) (by simp only [List.length_append,List.length_cons,List.length_nil]; omega) fun M d w4 hx4 hF4 hd4 _ => ?_
 generalize parseM ([97,32,123,10,120,32,61,32,112,32] ++ A ++ [32,113,32] ++ B ++ [32,114,10,125]) = r1 at *
 cases r1 with
 | bad c p => cases hc
 | ok fl =>
 simp only [flOf] at hF4
 simp only [chkB,Bool.and_eq_true,decide_eq_true_iff] at hc
 obtain ⟨⟨⟨⟨h5,h2⟩,hlt0⟩,hlt1⟩,hif⟩ := hc
 rw [ext_tuple]; refine ⟨_,rfl,?_⟩
 rw [ext_tuple]; refine ⟨_,rfl,?_⟩
 refine alloc_new fun q w5 hq hz5 hqq5 hx5 => ?_
 obtain ⟨p1,c1,e1,_⟩ := hF4.oE.sl.shape
 obtain ⟨p2,c2,e2,_⟩ := hF4.oB.sl.shape
 obtain ⟨p3,c3,e3,_⟩ := hF4.oT.sl.shape
 refine st_agg_at (l := [M.vE,M.vB,M.vT]) hqq5 rfl rfl (by rw [e1,e2,e3]; rfl) fun w6 hz6 hq6 hc6 => ?_
 clear e1 e2 e3
 have hx46 : Ext w4 w6 := hx5.new hc6 (by omega)
 have hF6 := hF4.ext hx46
 have hd6 := hd4.ext hx46
 have hx6 : Ext w w6 := (((hx1.trans hx2).trans hx3).trans hx4).trans hx46
 have fld : ∀ {w' : World} {off : Nat} {v : Value} {K : Value → Prop},w'.heap[q]? = some (.cells [M.vE,M.vB,M.vT].toArray FlT (0,0)) → [M.vE,M.vB,M.vT][off]? = some v → K v → fldW off (.pointer (some ⟨q,0,none⟩)) fun t => ldW false 1 t w' K := fun hw hv hk => by
   rw [fld_ptr,ld_one]
   refine ⟨_,?_,hk⟩
   rw [add_mk,cell_eq,hw,cellO_some,Nat.zero_add]
   simpa using hv
 rw [hd6.eq,isB_f]
 refine GdW.look false (fun _ J hJ => ?_) fun _ => ?_
 · refine fld (off := 0) hq6 rfl ?_
   rw [lenl_at hF6.oE.sl,bin_neq,h5]
   exact hJ
 simp only [List.getD_cons_zero,okP,Bool.true_xor,Bool.not_true,Bool.not_false,cond_true]
 rw [pick_f,condW_false]
 refine fld (off := 0) hq6 rfl ?_
 have h4 := List.getElem?_eq_getElem (show 4 < fl.ex.length by omega)
 have hg4 : fl.ex.getD 4 noEx = fl.ex[4] := by rw [List.getD_eq_getElem?_getD,h4]; rfl
 refine hF6.exI (i := 4) h4 fun va vk hmv ho1 ho2 => ?_
 rw [hg4] at h2 hlt0 hlt1 hif
 generalize fl.ex[4] = e at *
 obtain ⟨q1,k1,f1,_⟩ := ho1.sl.shape
 obtain ⟨q2,k2,f2,_⟩ := ho2.sl.shape
 refine alloc_new fun t w7 ht hz7 htt7 hx7 => ?_
 refine st_agg_at (l := [i64 e.k,str e.t,va,vk,i64 e.a]) htt7 rfl rfl (by rw [f1,f2]; rfl) fun w8 hz8 ht8 hc8 => ?_
 clear f1 f2
 have hx68 : Ext w6 w8 := hx7.new hc8 (by omega)
 have hF8 := (hF6.ext hx68).ext (ext_drew w8)
 have ho8 := (ho1.ext hx68).ext (ext_drew w8)
 have hq8 := hx68.at hq6 id
 have hK := hK _ ((hx6.trans hx68).trans (ext_drew w8))
 have ht8 : w8.drew.heap[t]? = some (.cells [i64 e.k,str e.t,va,vk,i64 e.a].toArray ExT (0,0)) := ht8
 have hq8 : w8.drew.heap[q]? = some (.cells [M.vE,M.vB,M.vT].toArray FlT (0,0)) := hq8
 have ldt : ∀ {off : Nat} {v : Value} {K : Value → Prop},[i64 e.k,str e.t,va,vk,i64 e.a][off]? = some v → K v → fldW off (.pointer (some ⟨t,0,none⟩)) fun t => ldW false 1 t w8.drew K := fun hv hk => by
   rw [fld_ptr,ld_one]
   refine ⟨_,?_,hk⟩
   rw [add_mk,cell_eq,ht8,cellO_some,Nat.zero_add]
   simpa using hv
 -- one of its two
 have arg : ∀ {j : Nat} {K : Value → Prop},j < 2 → K (i64 ((e.args.getD j 9 : Nat) : Int)) → ixaW none 1 va (i64 (j : Nat)) fun t => ldW false 1 t w8.drew K := fun {j} {K} hj hk => by
   refine ixa_ld ho8.sl (by simp [ints]) (x := i64 ((e.args.getD j 9 : Nat) : Int)) ?_ hk
   rw [ints,List.getElem?_map,List.getElem?_eq_getElem (by omega),List.getD_eq_getElem?_getD,List.getElem?_eq_getElem (by omega)]; rfl
 have k0 := fun (KK : Value → Prop) => hF8.kt (i := e.args.getD 0 9) (k := .i64) (K := KK) (by omega)
 have k1' := fun (KK : Value → Prop) => hF8.kt (i := e.args.getD 1 9) (k := .i64) (K := KK) (by omega)
 have ldt' : ∀ {off : Nat} {v : Value},[i64 e.k,str e.t,va,vk,i64 e.a][off]? = some v → ldW false 1 (.pointer (some ((⟨t,0,none⟩ : Addr).add off))) w8.drew fun x => x = v := fun hv => by
   have := ldt (K := fun x => x = _) hv rfl
   rwa [fld_ptr] at this
 have ldq : ∀ {off : Nat} {v : Value},[M.vE,M.vB,M.vT][off]? = some v → ldW false 1 (.pointer (some ((⟨q,0,none⟩ : Addr).add off))) w8.drew fun x => x = v := fun hv => by
   have := fld (K := fun x => x = _) hq8 hv rfl
   rwa [fld_ptr] at this
 rw [bin_gtr,condW_dec]
 refine ⟨fun hgt => ?_,fun hgt => ?_⟩
 · rw [if_pos (by omega)] at hif
   simp only [Bool.and_eq_true,decide_eq_true_iff] at hif
   obtain ⟨⟨g1,g2⟩,g3⟩ := hif
   refine ldt (off := 0) rfl ?_
   refine kind5_p hi ?_
   refine ⟨ldt' (off := 0) rfl,?_⟩
   rw [bin_eql,g1,decide_eq_true rfl]
   simp only [isB_t]
   rw [gq_fld]
   refine gq_of (v := M.vE) (ldq (off := 0) rfl) ?_
   rw [gq_fld]
   refine gq_of (v := va) (ldt' (off := 2) rfl) ?_
   obtain ⟨p1,a1,a2⟩ := ixa_split (arg (j := 1) (K := fun x => x = i64 ((e.args.getD 1 9 : Nat) : Int)) (by omega) rfl)
   refine gq_of (v := p1) a1 ?_
   refine gq_of a2 ?_
   obtain ⟨p2,b1,b2⟩ := ixa_split ((k1' (fun x => x = i64 _)).1 rfl)
   refine gq_of (v := p2) b1 ?_
   obtain ⟨p3,b3,b4⟩ := fld_split b2
   refine gq_of (v := p3) b3 ?_
   refine gq_of b4 ?_
   refine gq_of rfl ?_
   refine GeW_tt (kind5_p hk ?_)
   refine ⟨fun _ => b4,fun _ => a2,fun _ => ldt' (off := 2) rfl,fun _ => ldq (off := 0) rfl,?_⟩
   refine gq_of (v := .bool true) (by rw [bin_eql,g2,decide_eq_true rfl]) ?_
   rw [pick_t]
   simp only [isB_t]
   rw [gq_fld]
   refine gq_of (v := M.vE) (ldq (off := 0) rfl) ?_
   rw [gq_fld]
   refine gq_of (v := va) (ldt' (off := 2) rfl) ?_
   obtain ⟨p4,d1,d2⟩ := ixa_split (arg (j := 0) (K := fun x => x = i64 ((e.args.getD 0 9 : Nat) : Int)) (by omega) rfl)
   refine gq_of (v := p4) d1 ?_
   refine gq_of d2 ?_
   obtain ⟨p5,m1,m2⟩ := ixa_split ((k0 (fun x => x = str _)).2 rfl)
   refine gq_of (v := p5) m1 ?_
   obtain ⟨p6,m3,m4⟩ := fld_split m2
   refine gq_of (v := p6) m3 ?_
   refine gq_of m4 ?_
   refine gq_of (v := .bool true) (by rw [g3,bin_seq]; rfl) ?_
   rw [pick_t]
   exact hK
 · rw [if_neg (by omega)] at hif
   simp only [Bool.and_eq_true,decide_eq_true_iff] at hif
   obtain ⟨⟨g1,g2⟩,g3⟩ := hif
   refine ldt (off := 0) rfl ?_
   refine kind5_p hk ?_
   refine ⟨ldt' (off := 0) rfl,?_⟩
   rw [bin_eql,g1,decide_eq_true rfl]
   simp only [isB_t]
   rw [gq_fld]
   refine gq_of (v := M.vE) (ldq (off := 0) rfl) ?_
   rw [gq_fld]
   refine gq_of (v := va) (ldt' (off := 2) rfl) ?_
   obtain ⟨p1,a1,a2⟩ := ixa_split (arg (j := 0) (K := fun x => x = i64 ((e.args.getD 0 9 : Nat) : Int)) (by omega) rfl)
   refine gq_of (v := p1) a1 ?_
   refine gq_of a2 ?_
   obtain ⟨p2,b1,b2⟩ := ixa_split ((k0 (fun x => x = i64 _)).1 rfl)
   refine gq_of (v := p2) b1 ?_
   obtain ⟨p3,b3,b4⟩ := fld_split b2
   refine gq_of (v := p3) b3 ?_
   refine gq_of b4 ?_
   refine gq_of rfl ?_
   refine GeW_tt (kind5_p hi ?_)
   refine ⟨fun _ => b4,fun _ => a2,fun _ => ldt' (off := 2) rfl,fun _ => ldq (off := 0) rfl,?_⟩
   refine gq_of (v := .bool true) (by rw [bin_eql,g2,decide_eq_true rfl]) ?_
   rw [pick_t]
   simp only [isB_t]
   rw [gq_fld]
   refine gq_of (v := M.vE) (ldq (off := 0) rfl) ?_
   rw [gq_fld]
   refine gq_of (v := va) (ldt' (off := 2) rfl) ?_
   obtain ⟨p4,d1,d2⟩ := ixa_split (arg (j := 1) (K := fun x => x = i64 ((e.args.getD 1 9 : Nat) : Int)) (by omega) rfl)
   refine gq_of (v := p4) d1 ?_
   refine gq_of d2 ?_
   obtain ⟨p5,m1,m2⟩ := ixa_split ((k1' (fun x => x = str _)).2 rfl)
   refine gq_of (v := p5) m1 ?_
   obtain ⟨p6,m3,m4⟩ := fld_split m2
   refine gq_of (v := p6) m3 ?_
   refine gq_of m4 ?_
   refine gq_of (v := .bool true) (by rw [g3,bin_seq]; rfl) ?_
   rw [pick_t]
   exact hK
end
end Go.Proofs.YtofhaneggcpdaaaDoor
namespace Go.Proofs.YtofhaneggcpdaaaDoor
open Go Go.RowKit Go.Eng
set_option maxRecDepth 100000
theorem tabi_of {w : World} (hsh : w.ShapedOpen Tryd.prog) : TabI w :=
 Go.Proofs.cell_of_shapedOpen_int (t := 3) (zero := #[.int .i64 0]) hsh (of_decide_eq_true (by kernel_rfl)) (by kernel_rfl) rfl (by kernel_rfl) (by kernel_rfl) Tryd.underlying3
theorem handed_and_shaped {H : Type} {enc : TypeId × Value → H} {a : Assume} {C : Checked} {os : Os} {f : FuncId} {fn : Func} {s : ChangeSpec} {conds : List PathCond} {apart fresh handsOn again : Bool} {X : World → Array Value → Prop}
   (hX : ∀ (w w' : World) (args : Array Value),w.heap = w'.heap → X w args → X w' args)
   (own : ownKnob C.prog.godebug = none) (started : os.Started) (noInit : C.prog.inits.idxOf? f = none) (hfn : C.prog.funcs[f]? = some fn)
   (witness : ∃ (w : World) (tape : Tape) (i : Input),w.os = os ∧ (w.forCall tape i).Shaped C.prog ∧ i.vars = [] ∧ Input.okWide C.prog (w.forCall tape i) .any w.heap.size f i ∧
     ((s.pre enc C.prog fn conds apart (w.forCall tape i).memory i.args ∧ X (w.forCall tape i).memory i.args) ∧ sizedMet enc C.prog fn (OpenSpec.ofChange s) apart (w.forCall tape i).memory i.args) ∧ a.holds C.prog (lone (Frame.enter C.prog f i.args .normal) [] (w.forCall tape i)))
   (contract : ∀ (W : World) (base : Nat) (args : Array Value) (ds gs : List (DataW H)) (before : List MemPlace),
     (∀ (j : Nat) t v,fn.params[j]? = some t → args[j]? = some v → Value.okWide C.prog W .any base t v) →
     DataW.Whole enc C.prog fn.params.toList s.vars apart W args.toList ds gs before →
     conds.all (PathCond.test C.prog ⟨fn.params.toList,ds,s.plain.varTypes C.prog,gs⟩) = true →
     (DataW.weightsEach C.prog (fn.params.toList ++ s.plain.varTypes C.prog) (ds ++ gs)).all (· ≤ reachBytes) = true → X W args → W.ShapedOpen C.prog →
     a.holds C.prog (lone (Frame.enter C.prog f args .normal) [] W) →
     Calls C.prog f args W fun e W' => ∃ v,e = .returned v ∧ s.post enc C.prog fn apart fresh handsOn again W args v W') :
   ReturnsInHanded a C os f .any (fun w args => (s.pre enc C.prog fn conds apart w args ∧ X w args) ∧ sizedMet enc C.prog fn (OpenSpec.ofChange s) apart w args) (s.post enc C.prog fn apart fresh handsOn again) := by
 refine returnsInHanded_of_calls own started noInit witness ?_
 intro w tape i _ hsh _ hok hpre hholds
 obtain ⟨_,_,_,fn',hfn',_,_,_,_,hval⟩ := hok
 have e : fn' = fn := Option.some.inj (hfn'.symm.trans hfn)
 subst e
 obtain ⟨⟨⟨ds,gs,before,hw,hc⟩,hx⟩,hz⟩ := hpre
 have hw' := DataW.Whole.of_heap (w' := w.forCall tape i) (by rfl) hw
 refine (contract (w.forCall tape i) w.heap.size i.args ds gs before hval hw' hc (hz.weights hw) (hX _ _ _ (by rfl) hx) hsh hholds).mono fun e W' ⟨v,he,hp⟩ => ?_
 subst he
 exact ChangeSpec.post_blind hp
section
variable {H : Type} {enc : TypeId × Value → H} {w : World} {base : Nat} {spare : Nat → Bool} {held : Bool}
theorem fopen_i {v : Value} {d : DataW H} {ps : List MemPlace} {r : Reach} {b0 : Nat} (hval : Value.okWide Tryd.prog w r b0 3 v) (h : DataW.Trod enc Tryd.prog w base spare held 3 v d ps) : ∃ n : Int,v = i64 n ∧ -9223372036854775808 ≤ n ∧ n ≤ 9223372036854775807 := by
 obtain ⟨n,rfl,_,_,hw⟩ := Go.ChangeShapes.open_int Tryd.underlying3 hval h
 refine ⟨n,rfl,?_⟩
 have e1 : IntKind.i64.min = -9223372036854775808 := by decide
 have e2 : IntKind.i64.max = 9223372036854775807 := by decide
 simp only [Lit.wf,Bool.and_eq_true,decide_eq_true_eq,e1,e2] at hw
 exact hw
end
end Go.Proofs.YtofhaneggcpdaaaDoor
