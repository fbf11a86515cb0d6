/- One plain sentence: weakest preconditions, contracts and plain laws that the claim rests on, text behind text. Conditions: those that each states. -/
import Derived.Test.YtofhaneggcpdaaaDoorPK3
import Derived.Test.YtofhaneggcpdaaaDoorPK1
import Derived.Test.YtofhaneggcpdaaaDoorRows
import Derived.Below
import Derived.RowKit
import Derived.ChangeMaps5
import Derived.MakeChecks
import Derived.Lib.LaidTab
import Derived.Lib.LaidU8
import Derived.SizedLaws
import Derived.Shelf.Vars
import Derived.Deep.Slices
import Derived.DataReads
import Derived.ChangeArms
set_option linter.all false
set_option linter.unusedSimpArgs false
set_option linter.unusedVariables false
set_option linter.unusedSectionVars false
namespace Go.Proofs.YtofhaneggcpdaaaDoor
open Go Go.Eng Go.RowKit Go.Syn Go.Lex
set_option maxRecDepth 100000
theorem blank3 (c : UInt8) : decide (0 ≤ Lib.indexByte [32,9,13] c) = (c == 32 || c == 9 || c == 13) := by
 have : ∀ m : Fin 256,decide (0 ≤ Lib.indexByte [32,9,13] (UInt8.ofNat m.val)) = (UInt8.ofNat m.val == 32 || UInt8.ofNat m.val == 9 || UInt8.ofNat m.val == 13) := by decide +kernel
 have h := this ⟨c.toNat,UInt8.toNat_lt c⟩
 rwa [UInt8.ofNat_toNat] at h
theorem esc6 (c : UInt8) : decide (Lib.indexByte [34,92,110,116,114,36] c < 0) = !Lex.escOk c := by
 have : ∀ m : Fin 256,decide (Lib.indexByte [34,92,110,116,114,36] (UInt8.ofNat m.val) < 0) = !Lex.escOk (UInt8.ofNat m.val) := by decide +kernel
 have h := this ⟨c.toNat,UInt8.toNat_lt c⟩
 rwa [UInt8.ofNat_toNat] at h
theorem sign19 (c : UInt8) : decide (0 ≤ Lib.indexByte [123,125,91,93,40,41,61,43,45,42,47,37,60,62,33,63,58,44,46] c) = signs1.contains c := by
 have : ∀ m : Fin 256,decide (0 ≤ Lib.indexByte [123,125,91,93,40,41,61,43,45,42,47,37,60,62,33,63,58,44,46] (UInt8.ofNat m.val)) = signs1.contains (UInt8.ofNat m.val) := by decide +kernel
 have h := this ⟨c.toNat,UInt8.toNat_lt c⟩
 rwa [UInt8.ofNat_toNat] at h
theorem skip_step (n : Nat) (c : UInt8) (r : Str) : skipF (n + 1) (c :: r) = (if (c == 32 || c == 9 || c == 13) = true then ((skipF n r).1 + 1,(skipF n r).2) else if (c == 35 || Lib.hasPrefix (c :: r) [47,47]) = true then ((skipF n ((c :: r).drop (runM (fun b => b != 10) (c :: r)))).1 + runM (fun b => b != 10) (c :: r),(skipF n ((c :: r).drop (runM (fun b => b != 10) (c :: r)))).2)
   else if Lib.hasPrefix (c :: r) [47,42] = true then (if Lib.index (r.drop 1) [42,47] < 0 then (0,40) else ((skipF n ((c :: r).drop ((Lib.index (r.drop 1) [42,47]).toNat + 4))).1 + ((Lib.index (r.drop 1) [42,47]).toNat + 4),(skipF n ((c :: r).drop ((Lib.index (r.drop 1) [42,47]).toNat + 4))).2)) else (0,0)) := by
 simp only [skipF,Bool.or_eq_true,beq_iff_eq]
 rfl
theorem runM_pos {q : UInt8 → Bool} {c : UInt8} {r : Str} (h : q c = true) : 1 ≤ runM q (c :: r) := by simp only [runM]; rw [if_pos h]; omega
theorem add_add (i j : Nat) (x : Nat × Int) : addM i (addM j x) = addM (i + j) x := by
 unfold addM
 by_cases h : x.2 = 0
 · simp only [h,if_true]; rw [show x.1 + j + i = x.1 + (i + j) by omega]
 · simp only [if_neg h]
section
variable [HX]
theorem skip_p {s : Str} {w : World} {K : Value → World → Prop} (hT : TabI w) (hl : s.length ≤ 1000000) (hK : K (.tuple #[i64 ((skipF (s.length + 1) s).1 : Nat),i64 (skipF (s.length + 1) s).2]) w) : callF Tryd.prog 24 [str s] w K := by
 refine W24_ok ?_
 unfold W24
 generalize hR : skipF (s.length + 1) s = R0 at hK
 refine LoopW.go (fun st w' => ∃ i n : Nat,st = [i64 (i : Nat)] ∧ i ≤ s.length ∧ w' = w ∧ ((skipF n (s.drop i)).1 + i,(skipF n (s.drop i)).2) = R0 ∧ s.length < n + i) (fun st _ => match st with | [.int _ i] => s.length - i.toNat | _ => 0) ⟨0,s.length + 1,rfl,by omega,rfl,by rw [List.drop_zero,hR]; rfl,by omega⟩ ?_
 rintro st g w' ⟨i,n,rfl,hi,rfl,hr,hn⟩
 obtain ⟨n,rfl⟩ : ∃ m,n = m + 1 := ⟨n - 1,by omega⟩
 simp only [List.getD_cons_zero]
 rw [lens_str,bin_lss,condW_dec]
 refine ⟨fun hlt => ?_,fun hge => ?_⟩
 · have hlt : i < s.length := by omega
   have hd := drop_len hlt
   rw [hd,skip_step] at hr
   rw [sls_str,bd_none,bd_some]
   refine ⟨by omega,by omega,?_⟩
   rw [List.take_length,Int.toNat_natCast]
   refine ixs_i hlt ?_
   refine indexb_p ?_
   rw [bin_geq,blank3,condW_b]
   refine ⟨fun hb => ?_,fun hb => ?_⟩
   · rw [if_pos hb] at hr
     rw [bin_add,upi (by omega)]
     refine ⟨⟨i + 1,n,rfl,by omega,rfl,?_,by omega⟩,?_⟩
     · rw [← hr]; simp only [Prod.mk.injEq,and_true]; omega
     · simp only [Int.toNat_natCast]; omega
   rw [if_neg (by rw [hb]; decide)] at hr
   have hd' := hd
   rw [hd]
   generalize hc : s[i] = c at *
   generalize hrr : s.drop (i + 1) = r at *
   have hrl : (c :: r).length = s.length - i := by rw [← hd,List.length_drop]
   simp only [List.length_cons] at hrl
   refine JoinW.cut (fun st w2 => st = [.bool (c == 35 || Lib.hasPrefix (c :: r) [47,47])] ∧ w2 = w') ?_ ?_
   · refine ixs_i hlt ?_
     rw [hc]
     have e5 : decide (((c.toNat : Nat) : Int) = 35) = (c == 35) := eq_nat 35 c
     rw [bin_eql,e5,condW_b]
     refine ⟨fun h => ⟨by rw [h]; rfl,rfl⟩,fun h => ?_⟩
     refine hasp_p ?_
     exact ⟨by rw [h,Bool.false_or],rfl⟩
   rintro st g2 w2 ⟨rfl,rfl⟩
   simp only [List.getD_cons_zero]
   rw [condW_b]
   refine ⟨fun hcm => ?_,fun hcm => ?_⟩
   · rw [if_pos hcm] at hr
     refine run_p (q := fun b => b != 10) (by simp only [List.length_cons]; omega) (fun c {w K} h => callV_fn' (line1_p h)) ?_
     have hle := run_le (fun b => b != 10) (c :: r)
     have hpos : 1 ≤ runM (fun b => b != 10) (c :: r) := runM_pos (by
       rw [Bool.or_eq_true] at hcm
       rcases hcm with h | h
       · rw [beq_iff_eq] at h; subst h; rfl
       · simp only [Lib.hasPrefix,List.isPrefixOf,Bool.and_eq_true,beq_iff_eq] at h
         rw [← h.1]; rfl)
     simp only [List.length_cons] at hle
     rw [bin_add,wrap_id (by omega) (by omega)]
     generalize runM (fun b => b != 10) (c :: r) = k at *
     refine ⟨⟨i + k,n,by simp only [List.cons.injEq,Value.int.injEq,true_and,and_true]; omega,by omega,rfl,?_,by omega⟩,?_⟩
     · rw [← hr,← drop_drop',hd']; simp only [Prod.mk.injEq,and_true]; omega
     · simp only [Int.toNat_natCast]; omega
   rw [if_neg (by rw [hcm]; decide)] at hr
   refine hasp_p ?_
   rw [condW_b]
   refine ⟨fun hcm2 => ?_,fun hcm2 => ?_⟩
   · rw [if_pos hcm2] at hr
     rw [sls_str,bd_none,bd_some]
     have h2 : 2 ≤ (c :: r).length := pre_len (p := [47,42]) (s := c :: r) hcm2
     simp only [List.length_cons] at h2
     refine ⟨by omega,by simp only [List.length_cons]; omega,?_⟩
     rw [List.take_length]
     show callF Tryd.prog 38 [str (r.drop 1),str [42,47]] w2 _
     refine index2_p hT (by rw [List.length_drop]; omega) ?_
     rw [bin_lss,condW_dec]
     refine ⟨fun hneg => ?_,fun hpos => ?_⟩
     · rw [if_pos hneg] at hr
       rw [← hr,Nat.zero_add] at hK
       exact hK
     · rw [if_neg hpos] at hr
       obtain ⟨j,hj⟩ := Int.eq_ofNat_of_zero_le (show 0 ≤ Lib.index (r.drop 1) [42,47] by omega)
       have hjl := idx_len _ _ hj
       rw [List.length_drop] at hjl
       rw [hj] at hr ⊢
       rw [bin_add,wrap_id (by omega) (by omega),bin_add,wrap_id (by omega) (by omega)]
       rw [Int.toNat_natCast] at hr
       refine ⟨⟨i + (j + 4),n,by simp only [List.cons.injEq,Value.int.injEq,true_and,and_true]; omega,by omega,rfl,?_,by omega⟩,?_⟩
       · rw [← hr,← drop_drop',hd']; simp only [Prod.mk.injEq,and_true]; omega
       · simp only [Int.toNat_natCast]; omega
   · rw [if_neg (by rw [hcm2]; decide),Nat.zero_add] at hr
     rw [← hr] at hK
     exact hK
 · obtain rfl : i = s.length := by omega
   rw [List.drop_length] at hr
   simp only [skipF,Nat.zero_add] at hr
   rw [← hr] at hK
   exact hK
def outV (x : Nat × Int) : List Value := if x.2 = 0 then [i64 ((x.1 + 1 : Nat) : Int),i64 0] else [i64 0,i64 x.2]
def TxC (n : Nat) : Prop := ∀ (c : UInt8) (r : Str) (d : Nat) (w : World) (K : Value → World → Prop),r.length < n → r.length ≤ 1000000 → d ≤ 24 → K (.tuple (outV (textX r d)).toArray) w → callF Tryd.prog 43 [str (c :: r),i64 (d : Nat)] w K
def InC (n : Nat) : Prop := ∀ (c : UInt8) (r : Str) (d : Nat) (w : World) (K : Value → World → Prop),r.length < n → r.length ≤ 1000000 → d ≤ 25 → K (.tuple (outV (if 24 < d then (0,7) else insX r d)).toArray) w → callF Tryd.prog 53 [str (c :: r),i64 (d : Nat)] w K
theorem out_add {i : Nat} {x : Nat × Int} : outV (addM i x) = if x.2 = 0 then [i64 ((i + x.1 + 1 : Nat) : Int),i64 0] else [i64 0,i64 x.2] := by
 unfold outV addM
 by_cases h : x.2 = 0
 · simp only [h,if_true]; rw [show x.1 + i + 1 = i + x.1 + 1 by omega]
 · simp only [if_neg h]
theorem tx_step {n : Nat} (hi : InC n) : TxC (n + 1) := by
 intro c r d w K hn hl hd24 hK
 refine W43_ok ?_
 unfold W43
 have hlen : (c :: r).length = r.length + 1 := rfl
 generalize hR : outV (textX r d) = R0 at hK
 have cond : ∀ {c : UInt8} (k : Nat),k < 256 → (((c.toNat : Nat) : Int) = (k : Int) ↔ c = UInt8.ofNat k) := fun {c} k hk => by
   have := u8_eq c k hk
   rwa [decide_eq_decide] at this
 refine LoopW.go (fun st w' => ∃ i : Nat,st = [i64 ((i + 1 : Nat) : Int)] ∧ w' = w ∧ i ≤ r.length ∧ outV (addM i (textX (r.drop i) d)) = R0) (fun st _ => match st with | [.int _ i] => r.length + 1 - i.toNat | _ => 0) ⟨0,rfl,rfl,by omega,by rw [List.drop_zero,out_add,← hR]; unfold outV; rw [Nat.zero_add]⟩ ?_
 rintro st g w2 ⟨i,rfl,rfl,hi',hr⟩
 simp only [List.getD_cons_zero]
 rw [lens_str,bin_lss,condW_dec,hlen]
 refine ⟨fun hlt => ?_,fun hge => ?_⟩
 · have hlt : i < r.length := by omega
   have hd := drop_len hlt
   rw [hd,textX_cons] at hr
   simp only [beq_iff_eq] at hr
   have ix : ∀ {KK : Value → Prop},KK (cv r[i]) → ixsW (str (c :: r)) (i64 ((i + 1 : Nat) : Int)) KK := fun h => ixs_i (s := c :: r) (i := i + 1) (by rw [hlen]; omega) h
   refine ix ?_
   rw [bin_eql,condW_dec]
   refine ⟨fun e => ?_,fun e => ?_⟩
   · have e : r[i] = 34 := (cond 34 (by omega)).1 e
     rw [if_pos e,out_add,if_pos rfl] at hr
     rw [bin_add,upi (by omega)]
     rw [← hr] at hK
     exact hK
   have e : ¬ r[i] = 34 := fun h => e ((cond 34 (by omega)).2 h)
   rw [if_neg e] at hr
   refine ix ?_
   rw [bin_eql,condW_dec]
   refine ⟨fun e => ?_,fun e => ?_⟩
   · have e : r[i] = 10 := (cond 10 (by omega)).1 e
     rw [if_pos e,out_add,if_neg (by simp)] at hr
     rw [← hr] at hK
     exact hK
   have e : ¬ r[i] = 10 := fun h => e ((cond 10 (by omega)).2 h)
   rw [if_neg e] at hr
   refine ix ?_
   rw [bin_eql,condW_dec]
   refine ⟨fun e => ?_,fun e => ?_⟩
   · have e : r[i] = 92 := (cond 92 (by omega)).1 e
     rw [if_pos e] at hr
     rw [bin_add,upi (by omega),lens_str,bin_geq,hlen]
     simp only [isB_f]
     by_cases hend : r.length ≤ i + 1
     · have e0 : r.drop (i + 1) = [] := List.drop_of_length_le hend
       rw [e0] at hr
       simp only at hr
       rw [out_add,if_neg (by simp)] at hr
       rw [decide_eq_true (by omega),Bool.not_true,GdW_f]
       intro g2
       rw [pick_t,condW_true]
       rw [← hr] at hK
       exact hK
     · have hlt2 : i + 1 < r.length := by omega
       have hd2 := drop_len hlt2
       rw [hd2] at hr
       simp only at hr
       rw [decide_eq_false (by omega),Bool.not_false]
       refine GdW.look (!Lex.escOk r[i + 1]) (fun _ J hJ => ?_) fun g2 => ?_
       · rw [bin_add,upi (by omega)]
         refine ixs_i (s := c :: r) (i := i + 2) (by rw [hlen]; omega) ?_
         refine indexb_p ?_
         rw [bin_lss]
         have := esc6 r[i + 1]
         rw [show (c :: r)[i + 2] = r[i + 1] from rfl,this]
         exact hJ
       simp only [List.getD_cons_zero,cond_true,pick_f]
       rw [condW_b]
       refine ⟨fun hb => ?_,fun hg => ?_⟩
       · have hb : ¬ Lex.escOk r[i + 1] = true := by simpa using hb
         rw [if_neg hb,out_add,if_neg (by simp)] at hr
         rw [← hr] at hK
         exact hK
       · have hg : Lex.escOk r[i + 1] = true := by simpa using hg
         rw [if_pos hg,add_add] at hr
         rw [bin_add,wrap_id (by omega) (by omega)]
         refine ⟨⟨i + 2,by simp only [List.cons.injEq,Value.int.injEq,true_and,and_true]; omega,trivial,by omega,hr⟩,?_⟩
         simp only [Int.toNat_natCast]; omega
   have e : ¬ r[i] = 92 := fun h => e ((cond 92 (by omega)).2 h)
   rw [if_neg e] at hr
   rw [sls_str,bd_none,bd_some]
   refine ⟨by omega,by rw [hlen]; omega,?_⟩
   rw [List.take_length,Int.toNat_natCast,List.drop_succ_cons,hd]
   refine hasp_p ?_
   rw [pre_eq,condW_b]
   refine ⟨fun e => ?_,fun e => ?_⟩
   · rw [if_pos e] at hr
     have h2 := pre_len e
     have hlt2 : i + 1 < r.length := by
       simp only [List.length_cons,List.length_nil,List.length_drop] at h2; omega
     have hd2 := drop_len hlt2
     rw [bin_add,upi (by omega),sls_str,bd_none,bd_some]
     refine ⟨by omega,by rw [hlen]; omega,?_⟩
     rw [List.take_length,Int.toNat_natCast,List.drop_succ_cons,hd2,bin_add,upi (by omega)]
     have hdd : (r.drop (i + 1)).drop 1 = r.drop (i + 2) := by rw [drop_drop']
     rw [hdd] at hr
     have hll : (r.drop (i + 2)).length = r.length - (i + 2) := List.length_drop ..
     refine hi _ _ (d + 1) _ _ (by show (r.drop (i + 2)).length < n; omega) (by show (r.drop (i + 2)).length ≤ _; omega) (by omega) ?_
     have hx' : ∃ x : Nat × Int,x = (if 24 < d + 1 then ((0 : Nat),(7 : Int)) else insX (r.drop (i + 2)) (d + 1)) ∧ outV (addM i (if x.2 = 0 then addM (x.1 + 2) (textX ((r.drop (i + 2)).drop x.1) d) else (0,x.2))) = R0 ∧ (x.2 = 0 → x.1 ≤ (r.drop (i + 2)).length) := by
       refine ⟨_,rfl,?_,?_⟩
       · by_cases h : 24 < d + 1
         · rw [if_pos h] at hr ⊢
           exact hr
         · rw [if_neg h] at hr ⊢
           exact hr
       · by_cases h : 24 < d + 1
         · rw [if_pos h]; intro h; exact absurd h (by simp)
         · rw [if_neg h]
           intro h0
           exact ((ins_bra _ (r.drop (i + 2)) (Nat.le_refl _)).2 (d + 1) _ (Prod.ext rfl h0)).1.2
     obtain ⟨x,ex,hr,hxl⟩ := hx'
     rw [show r.drop (i + 1 + 1) = r.drop (i + 2) from rfl,← ex]
     by_cases h0 : x.2 = 0
     · have eo : outV x = [i64 ((x.1 + 1 : Nat) : Int),i64 0] := by unfold outV; rw [if_pos h0]
       have hxl := hxl h0
       rw [if_pos h0,add_add,drop_drop'] at hr
       rw [eo,ext_tuple]
       refine ⟨i64 ((x.1 + 1 : Nat) : Int),rfl,?_⟩
       rw [ext_tuple]
       refine ⟨i64 0,rfl,?_⟩
       rw [bin_neq,condW_dec]
       refine ⟨fun h => absurd rfl h,fun _ => ?_⟩
       rw [bin_add,wrap_id (by omega) (by omega),bin_add,wrap_id (by omega) (by omega)]
       refine ⟨⟨i + (x.1 + 2),by simp only [List.cons.injEq,Value.int.injEq,true_and,and_true]; omega,rfl,by omega,by rw [show i + (x.1 + 2) = i + 2 + x.1 by omega] at hr ⊢; exact hr⟩,?_⟩
       simp only [Int.toNat_natCast]; omega
     · have eo : outV x = [i64 0,i64 x.2] := by unfold outV; rw [if_neg h0]
       rw [if_neg h0,out_add,if_neg h0] at hr
       rw [eo,ext_tuple]
       refine ⟨i64 0,rfl,?_⟩
       rw [ext_tuple]
       refine ⟨i64 x.2,rfl,?_⟩
       rw [bin_neq,condW_dec]
       refine ⟨fun _ => by rw [← hr] at hK; exact hK,fun h => absurd h0 h⟩
   · rw [if_neg (by rw [e]; decide),add_add] at hr
     rw [bin_add,upi (by omega)]
     refine ⟨⟨i + 1,rfl,rfl,by omega,hr⟩,?_⟩
     simp only [Int.toNat_natCast]; omega
 · obtain rfl : i = r.length := by omega
   rw [List.drop_length,textX_nil,out_add,if_neg (by simp)] at hr
   rw [← hr] at hK
   exact hK
theorem in_step {n : Nat} (hi : InC n) (htx : TxC n) : InC (n + 1) := by
 intro c r d w K hn hl hd25 hK
 refine W53_ok ?_
 unfold W53
 rw [bin_gtr,condW_dec]
 refine ⟨fun h => ?_,fun h => ?_⟩
 · rw [if_pos (by omega)] at hK
   exact hK
 have hd24 : d ≤ 24 := by omega
 rw [if_neg (by omega)] at hK
 have hlen : (c :: r).length = r.length + 1 := rfl
 generalize hR : outV (insX r d) = R0 at hK
 have cond : ∀ {c : UInt8} (k : Nat),k < 256 → (((c.toNat : Nat) : Int) = (k : Int) ↔ c = UInt8.ofNat k) := fun {c} k hk => by
   have := u8_eq c k hk
   rwa [decide_eq_decide] at this
 refine LoopW.go (fun st w' => ∃ i : Nat,st = [i64 ((i + 1 : Nat) : Int)] ∧ w' = w ∧ i ≤ r.length ∧ outV (addM i (insX (r.drop i) d)) = R0) (fun st _ => match st with | [.int _ i] => r.length + 1 - i.toNat | _ => 0) ⟨0,rfl,rfl,by omega,by rw [List.drop_zero,out_add,← hR]; unfold outV; rw [Nat.zero_add]⟩ ?_
 rintro st g w2 ⟨i,rfl,rfl,hi',hr⟩
 simp only [List.getD_cons_zero]
 rw [lens_str,bin_lss,condW_dec,hlen]
 refine ⟨fun hlt => ?_,fun hge => ?_⟩
 · have hlt : i < r.length := by omega
   have hd := drop_len hlt
   rw [hd,insX_cons] at hr
   simp only [beq_iff_eq] at hr
   have hll : (r.drop (i + 1)).length = r.length - (i + 1) := List.length_drop ..
   refine JoinW.cut (fun st w' => w' = w2 ∧ ∃ (k : Nat) (e : Int),st = [i64 (if e = 0 then ((k + 1 : Nat) : Int) else 0),i64 e] ∧ (e = 0 → i + (k + 1) ≤ r.length ∧ outV (addM (i + (k + 1)) (insX (r.drop (i + (k + 1))) d)) = R0) ∧ (e ≠ 0 → [i64 0,i64 e] = R0)) ?_ ?_
   · refine ixs_i (s := c :: r) (i := i + 1) (by rw [hlen]; omega) ?_
     show binW .eql (cv r[i]) _ _
     rw [bin_eql,condW_dec]
     refine ⟨fun e => ?_,fun e => ?_⟩
     · have e : r[i] = 125 := (cond 125 (by omega)).1 e
       rw [if_pos e,out_add,if_pos rfl] at hr
       rw [bin_add,upi (by omega)]
       rw [← hr] at hK
       exact hK
     have e : ¬ r[i] = 125 := fun h => e ((cond 125 (by omega)).2 h)
     rw [if_neg e] at hr
     rw [bin_eql,condW_dec]
     refine ⟨fun e => ?_,fun e => ?_⟩
     · have e : r[i] = 10 := (cond 10 (by omega)).1 e
       rw [if_pos e,out_add,if_neg (by simp)] at hr
       rw [← hr] at hK
       exact hK
     have e : ¬ r[i] = 10 := fun h => e ((cond 10 (by omega)).2 h)
     rw [if_neg e] at hr
     -- one that goes over k bytes behind this one
     have sub : ∀ (x : Nat × Int),outV (addM i (if x.2 = 0 then addM (x.1 + 1) (insX ((r.drop (i + 1)).drop x.1) d) else (0,x.2))) = R0 → (x.2 = 0 → x.1 ≤ (r.drop (i + 1)).length) → extW 0 (.tuple (outV x).toArray) fun t33 => extW 1 (.tuple (outV x).toArray) fun t34 => (fun (st : List Value) (w' : World) => w' = w2 ∧ ∃ (k : Nat) (e : Int),st = [i64 (if e = 0 then ((k + 1 : Nat) : Int) else 0),i64 e] ∧ (e = 0 → i + (k + 1) ≤ r.length ∧ outV (addM (i + (k + 1)) (insX (r.drop (i + (k + 1))) d)) = R0) ∧ (e ≠ 0 → [i64 0,i64 e] = R0)) [t33,t34] w2 := fun x hx hxl => by
       by_cases h0 : x.2 = 0
       · have eo : outV x = [i64 ((x.1 + 1 : Nat) : Int),i64 0] := by unfold outV; rw [if_pos h0]
         have hxl := hxl h0
         rw [if_pos h0,add_add,drop_drop'] at hx
         rw [eo,ext_tuple]
         refine ⟨i64 ((x.1 + 1 : Nat) : Int),rfl,?_⟩
         rw [ext_tuple]
         refine ⟨i64 0,rfl,rfl,x.1,0,by rw [if_pos rfl],fun _ => ⟨by omega,by rw [show i + (x.1 + 1) = i + 1 + x.1 by omega] at hx ⊢; exact hx⟩,fun h => absurd rfl h⟩
       · have eo : outV x = [i64 0,i64 x.2] := by unfold outV; rw [if_neg h0]
         rw [if_neg h0,out_add,if_neg h0] at hx
         rw [eo,ext_tuple]
         refine ⟨i64 0,rfl,?_⟩
         rw [ext_tuple]
         exact ⟨i64 x.2,rfl,rfl,0,x.2,by rw [if_neg h0],fun h => absurd h h0,fun _ => hx⟩
     rw [bin_eql,condW_dec]
     refine ⟨fun e => ?_,fun e => ?_⟩
     · have e : r[i] = 123 := (cond 123 (by omega)).1 e
       rw [if_pos e] at hr
       rw [sls_str,bd_none,bd_some]
       refine ⟨by omega,by rw [hlen]; omega,?_⟩
       rw [List.take_length,Int.toNat_natCast,List.drop_succ_cons,hd,bin_add,upi (by omega)]
       refine hi _ _ (d + 1) _ _ (by omega) (by omega) (by omega) ?_
       refine sub _ ?_ ?_
       · by_cases h : 24 < d + 1
         · rw [if_pos h] at hr ⊢
           exact hr
         · rw [if_neg h] at hr ⊢
           exact hr
       · by_cases h : 24 < d + 1
         · rw [if_pos h]; intro h; exact absurd h (by simp)
         · rw [if_neg h]
           intro h0
           exact ((ins_bra _ (r.drop (i + 1)) (Nat.le_refl _)).2 (d + 1) _ (Prod.ext rfl h0)).1.2
     have e : ¬ r[i] = 123 := fun h => e ((cond 123 (by omega)).2 h)
     rw [if_neg e] at hr
     rw [bin_eql,condW_dec]
     refine ⟨fun e => ?_,fun e => ?_⟩
     · have e : r[i] = 34 := (cond 34 (by omega)).1 e
       rw [if_pos e] at hr
       rw [sls_str,bd_none,bd_some]
       refine ⟨by omega,by rw [hlen]; omega,?_⟩
       rw [List.take_length,Int.toNat_natCast,List.drop_succ_cons,hd]
       refine htx _ _ d _ _ (by omega) (by omega) hd24 ?_
       refine sub _ hr fun h0 => ?_
       exact ((ins_bra _ (r.drop (i + 1)) (Nat.le_refl _)).1 d _ (Prod.ext rfl h0)).2.2
     · have e : ¬ r[i] = 34 := fun h => e ((cond 34 (by omega)).2 h)
       rw [if_neg e,add_add] at hr
       exact ⟨rfl,0,0,rfl,fun _ => ⟨by omega,hr⟩,fun h => absurd rfl h⟩
   rintro st g2 w3 ⟨rfl,k,e,rfl,h1,h2⟩
   simp only [List.getD_cons_zero,List.getD_cons_succ]
   rw [bin_neq,condW_dec]
   refine ⟨fun he => by rw [← h2 he] at hK; exact hK,fun he => ?_⟩
   have he : e = 0 := by
     by_cases h : e = 0
     · exact h
     · exact absurd h he
   obtain ⟨g1,g2⟩ := h1 he
   rw [if_pos he,bin_add,wrap_id (by omega) (by omega)]
   refine ⟨⟨i + (k + 1),by simp only [List.cons.injEq,Value.int.injEq,true_and,and_true]; omega,trivial,g1,g2⟩,?_⟩
   simp only [Int.toNat_natCast]; omega
 · obtain rfl : i = r.length := by omega
   rw [List.drop_length,insX_nil,out_add,if_neg (by simp)] at hr
   rw [← hr] at hK
   exact hK
theorem tx_in : ∀ n,TxC n ∧ InC n
 | 0 => ⟨fun _ _ _ _ _ h => by omega,fun _ _ _ _ _ h => by omega⟩
 | n + 1 => ⟨tx_step (tx_in n).2,in_step (tx_in n).2 (tx_in n).1⟩
theorem ltext_p {c : UInt8} {r : Str} {d : Nat} {w : World} {K : Value → World → Prop} (hl : r.length ≤ 1000000) (hd : d ≤ 24) (hK : K (.tuple (outV (textX r d)).toArray) w) : callF Tryd.prog 43 [str (c :: r),i64 (d : Nat)] w K := (tx_in (r.length + 1)).1 c r d w K (by omega) hl hd hK
end
end Go.Proofs.YtofhaneggcpdaaaDoor
namespace Go.Eng
open Go
theorem byte_at {s r : Str} {i : Nat} {c : UInt8} (h : s.drop i = c :: r) : byteM s i = c.toNat := by
 unfold byteM
 have : s[i]? = some c := by
   have := List.getElem?_drop (xs := s) (i := i) (j := 0)
   rw [h] at this
   simpa using this.symm
 rw [this]
theorem drop_app {s l r : Str} {i : Nat} (h : s.drop i = l ++ r) : s.drop (i + l.length) = r := by
 rw [← List.drop_drop,h,List.drop_left]
theorem drop_lt {s r : Str} {i : Nat} {c : UInt8} (h : s.drop i = c :: r) : i < s.length := by
 apply Nat.lt_of_not_le
 intro hle
 rw [List.drop_eq_nil_iff.2 hle] at h
 cases h
end Go.Eng
namespace Go.Eng
open Go
theorem byte_pref {s u r : Str} {i j : Nat} (h : s.drop i = u ++ r) (hj : j < u.length) : byteM s (i + j) = u[j].toNat := by
 have : s.drop (i + j) = u[j] :: (u.drop (j + 1) ++ r) := by
   rw [← List.drop_drop,h,List.drop_append_of_le_length (by omega),List.drop_eq_getElem_cons hj]; rfl
 exact byte_at this
theorem rune_same {s t : Str} {i k m : Nat} (hm : 0 < m) (h : runeM s i = m) (hb : ∀ j,j < m → byteM t (k + j) = byteM s (i + j)) : runeM t k = m := by
 have e0 : byteM t k = byteM s i := hb 0 hm
 unfold runeM at h ⊢
 dsimp only at h
 simp only [e0]
 by_cases h1 : m = 1
 · subst h1
   split at h
   · omega
   rename_i a
   split at h
   · rename_i b; rw [if_neg a,if_pos b]
   split at h
   · omega
   split at h
   · omega
   split at h <;> omega
 by_cases h2 : m = 2
 · subst h2
   have e1 := hb 1 (by omega)
   have m1 : moreM t (k + 1) = moreM s (i + 1) := by unfold moreM; rw [e1]
   simp only [m1]
   split at h
   · omega
   rename_i a
   split at h
   · omega
   rename_i b
   split at h
   · rename_i c; rw [if_neg a,if_neg b,if_pos c]
   split at h
   · omega
   split at h <;> omega
 by_cases h3 : m = 3
 · subst h3
   have e1 := hb 1 (by omega)
   have e2 := hb 2 (by omega)
   have m1 : moreM t (k + 1) = moreM s (i + 1) := by unfold moreM; rw [e1]
   have m2 : moreM t (k + 2) = moreM s (i + 2) := by unfold moreM; rw [e2]
   simp only [m1,m2,e1,e2]
   split at h
   · omega
   rename_i a
   split at h
   · omega
   rename_i b
   split at h
   · omega
   rename_i c
   split at h
   · rename_i d; rw [if_neg a,if_neg b,if_neg c,if_pos d]
   split at h <;> omega
 by_cases h4 : m = 4
 · subst h4
   have e1 := hb 1 (by omega)
   have e2 := hb 2 (by omega)
   have e3 := hb 3 (by omega)
   simp only [moreM,e1,e2,e3] at h ⊢
   exact h
 · exfalso
   split at h
   · omega
   split at h
   · omega
   split at h
   · omega
   split at h
   · omega
   split at h <;> omega
theorem rune_lt {s : Str} {i : Nat} (h : runeM s i ≠ 0) : i < s.length := by
 apply Nat.lt_of_not_le
 intro hle
 exact h (rune_end hle)
theorem rune_fits {s : Str} {i : Nat} (h : runeM s i ≠ 0) : i + runeM s i ≤ s.length := by
 obtain ⟨c,hc⟩ := rune_good (rune_lt h) h
 exact hc.fits
def Rn (u : Str) : Prop := u ≠ [] ∧ runeM u 0 = u.length
theorem Rn.pos {u : Str} (h : Rn u) : 0 < u.length := List.length_pos_iff.2 h.1
theorem Rn.at {u s r : Str} {i : Nat} (h : Rn u) (hs : s.drop i = u ++ r) : runeM s i = u.length := by
 refine rune_same (s := u) (i := 0) h.pos h.2 fun j hj => ?_
 rw [byte_pref hs hj,byte_pref (s := u) (i := 0) (u := u) (r := []) (by simp) hj]
theorem Rn.of {s : Str} {i : Nat} (h : runeM s i ≠ 0) : Rn ((s.drop i).take (runeM s i)) := by
 have hf := rune_fits h
 have hl : ((s.drop i).take (runeM s i)).length = runeM s i := by rw [List.length_take,List.length_drop]; omega
 refine ⟨fun e => by rw [e] at hl; simp at hl; omega,?_⟩
 rw [hl]
 refine rune_same (s := s) (i := i) (by omega) rfl fun j hj => ?_
 rw [byte_pref (s := s) (i := i) (u := (s.drop i).take (runeM s i)) (r := (s.drop i).drop (runeM s i)) (List.take_append_drop _ _).symm (by omega),byte_pref (s := (s.drop i).take (runeM s i)) (i := 0) (u := (s.drop i).take (runeM s i)) (r := []) (by simp) (by omega)]
inductive Utf : Str → Prop where
 | nil : Utf []
 | cons {u r : Str} : Rn u → Utf r → Utf (u ++ r)
theorem Utf.app {a b : Str} (h : Utf a) (h' : Utf b) : Utf (a ++ b) := by
 induction h with
 | nil => exact h'
 | cons hu _ ih => rw [List.append_assoc]; exact .cons hu ih
theorem Utf.one {u : Str} (h : Rn u) : Utf u := by have := Utf.cons h .nil; rwa [List.append_nil] at this
theorem utf_of {s : Str} : ∀ {n i : Nat},utfGo s n i = true → Utf (s.drop i) := by
 intro n
 induction n with
 | zero =>
   intro i h
   rw [utfGo,decide_eq_true_eq] at h
   rw [List.drop_of_length_le h]
   exact .nil
 | succ n ih =>
   intro i h
   rw [utfGo] at h
   split at h
   · rename_i hl; rw [List.drop_of_length_le hl]; exact .nil
   · split at h
     · cases h
     · rename_i h0
       have := Utf.cons (Rn.of h0) (ih h)
       rwa [← List.drop_drop,List.take_append_drop] at this
theorem Rn.cases {u : Str} (h : Rn u) : (∃ c : UInt8,u = [c] ∧ c.toNat < 128) ∨ (∀ c ∈ u,128 ≤ c.toNat) := by
 have hr := h.2
 have hp := h.pos
 have hb : ∀ j,(hj : j < u.length) → byteM u j = u[j].toNat := fun j hj => by
   have := byte_pref (s := u) (i := 0) (u := u) (r := []) (by simp) hj
   rwa [Nat.zero_add] at this
 have hm : ∀ j,(hj : j < u.length) → moreM u j = true → 128 ≤ u[j].toNat := fun j hj hm => by
   unfold moreM at hm
   rw [hb j hj,Bool.and_eq_true,decide_eq_true_iff,decide_eq_true_iff] at hm
   omega
 unfold runeM at hr
 rw [hb 0 hp] at hr
 simp only [Nat.zero_add] at hr
 have hall : (∀ j,(hj : j < u.length) → 128 ≤ u[j].toNat) → ∀ c ∈ u,128 ≤ c.toNat := fun hj c hc => by
   obtain ⟨j,h1,rfl⟩ := List.getElem_of_mem hc
   exact hj j h1
 split at hr
 · omega
 split at hr
 · rename_i hlt
   left
   obtain ⟨c,rfl⟩ := List.length_eq_one_iff.1 hr.symm
   refine ⟨c,rfl,?_⟩
   have e : ([c] : Str)[0].toNat = c.toNat := rfl
   omega
 right
 refine hall fun j hj => ?_
 split at hr
 · rename_i c
   obtain ⟨c1,_,c2⟩ := c
   obtain rfl | rfl : j = 0 ∨ j = 1 := by omega
   · omega
   · exact hm 1 hj c2
 split at hr
 · rename_i c
   obtain ⟨c1,_,c2,c3,_⟩ := c
   obtain rfl | rfl | rfl : j = 0 ∨ j = 1 ∨ j = 2 := by omega
   · omega
   · exact hm 1 hj c2
   · exact hm 2 hj c3
 split at hr
 · rename_i c
   obtain ⟨c1,_,c2,c3,c4,_⟩ := c
   obtain rfl | rfl | rfl | rfl : j = 0 ∨ j = 1 ∨ j = 2 ∨ j = 3 := by omega
   · omega
   · exact hm 1 hj c2
   · exact hm 2 hj c3
   · exact hm 3 hj c4
 · omega
def escOk (c : UInt8) : Bool :=
 match escB c with
 | [d] => decide (d = c) && decide (c ≠ 34) && decide (c ≠ 92) && decide (32 ≤ c.toNat)
 | [a,b] => decide (a = 92) && decide (escM [a,b] 0 = some ([c],2))
 | [a,b,d,e,f,g] => decide (a = 92) && decide (b = 117) && decide (hexM [a,b,d,e,f,g] 0 = c.toNat)
 | _ => false
end Go.Eng
namespace Go.Proofs.YtofhaneggcpdaaaDoor
open Go Go.Eng Go.RowKit Go.Syn Go.Lex
set_option maxRecDepth 100000
theorem pre_one (c d : UInt8) (r : Str) : [d].isPrefixOf (c :: r) = (d == c) := by simp [List.isPrefixOf]
theorem index_run (s : Str) : Lib.index s [10] = if runM (fun b => b != 10) s < s.length then ((runM (fun b => b != 10) s : Nat) : Int) else -1 := by
 induction s with
 | nil => rfl
 | cons c r ih =>
   simp only [Lib.index,pre_one]
   by_cases h : c = 10
   · subst h
     rfl
   · have h1 : ((10 : UInt8) == c) = false := by rw [beq_eq_false_iff_ne]; exact fun e => h e.symm
     have h2 : (c != 10) = true := by simp [h]
     have e2 : runM (fun b => b != 10) (c :: r) = runM (fun b => b != 10) r + 1 := by simp only [runM]; rw [if_pos h2]
     obtain ⟨k,hk0⟩ : ∃ k,k = runM (fun b => b != 10) r := ⟨_,rfl⟩
     have ih' : Lib.index r [10] = if k < r.length then (k : Int) else -1 := by rw [hk0]; exact ih
     rw [h1,if_neg (by decide),ih',e2,← hk0]
     simp only [List.length_cons]
     by_cases hk : k < r.length
     · have e3 : (if k < r.length then (k : Int) else -1) = k := if_pos hk
       have e4 : (if k + 1 < r.length + 1 then ((k + 1 : Nat) : Int) else -1) = ((k + 1 : Nat) : Int) := if_pos (by omega)
       rw [e3,e4,if_neg (by simp only [beq_iff_eq]; omega)]
       rfl
     · have e3 : (if k < r.length then (k : Int) else -1) = -1 := if_neg hk
       have e4 : (if k + 1 < r.length + 1 then ((k + 1 : Nat) : Int) else -1) = -1 := if_neg (by omega)
       rw [e3,e4]
       rfl
theorem cut_run (s : Str) : (Lib.cut s [10]).1 = s.take (runM (fun b => b != 10) s) ∧ (Lib.cut s [10]).2.2 = decide (runM (fun b => b != 10) s < s.length) := by
 have hle := run_le (fun b => b != 10) s
 unfold Lib.cut
 rw [index_run]
 by_cases h : runM (fun b => b != 10) s < s.length
 · rw [if_pos h,if_pos (by omega),Int.toNat_natCast]
   exact ⟨rfl,by simp [h]⟩
 · rw [if_neg h,if_neg (by omega)]
   exact ⟨by rw [List.take_of_length_le (by omega)],by simp [h]⟩
theorem trim_run (l : Str) : Lib.trimLeftS l [32,9] = l.drop (runM (fun b => b == 32 || b == 9) l) := by
 unfold Lib.trimLeftS
 induction l with
 | nil => rfl
 | cons c r ih =>
   simp only [List.dropWhile_cons,runM]
   have e : ([32,9] : Str).contains c = (c == 32 || c == 9) := by simp [List.contains,List.elem]; cases (c == 32) <;> cases (c == 9) <;> rfl
   rw [e]
   by_cases hb : (c == 32 || c == 9) = true
   · rw [if_pos hb,if_pos hb]; exact ih
   · rw [if_neg hb,if_neg hb]; rfl
theorem hereL_app (a b : Str) : hereL (a ++ b) = hereL a ++ hereL b := by
 induction a with
 | nil => rfl
 | cons c r ih =>
   simp only [List.cons_append,hereL]
   (repeat' split) <;> simp only [List.cons_append,ih]
theorem hereL_high {u : Str} (h : ∀ c ∈ u,128 ≤ c.toNat) : hereL u = u := by
 induction u with
 | nil => rfl
 | cons c r ih =>
   have hc := h c List.mem_cons_self
   have n : ∀ k : UInt8,k.toNat < 128 → (c == k) = false := fun k hk => by
     rw [beq_eq_false_iff_ne]
     intro e
     subst e
     omega
   simp only [hereL,n 92 (by decide),n 34 (by decide),n 36 (by decide),n 9 (by decide),n 13 (by decide),Bool.or_self,Bool.false_eq_true,if_false,ih fun x hx => h x (List.mem_cons_of_mem _ hx)]
theorem utf_cons {c : UInt8} {r : Str} (h : Utf (c :: r)) (hc : c.toNat < 128) : Utf r := by
 generalize he : c :: r = z at h
 cases h with
 | nil => cases he
 | @cons u r' hu hr =>
   rcases hu.cases with ⟨x,rfl,_⟩ | hh
   · simp only [List.cons_append,List.nil_append,List.cons.injEq] at he
     rw [he.2]; exact hr
   · cases u with
     | nil => exact absurd rfl hu.1
     | cons y u' =>
       simp only [List.cons_append,List.cons.injEq] at he
       have := hh y List.mem_cons_self
       rw [← he.1] at this
       omega
theorem utf_split {t : Str} (h : Utf t) : ∀ {a b : Str} {c : UInt8},t = a ++ c :: b → c.toNat < 128 → Utf a ∧ Utf (c :: b) := by
 induction h with
 | nil => intro a b c e; simp at e
 | @cons u r hu hr ih =>
   intro a b c e hc
   by_cases hle : u.length ≤ a.length
   · have h1 : a = u ++ a.drop u.length := by
       have := congrArg (List.take u.length) e
       rw [List.take_left,List.take_append_of_le_length hle] at this
       have h2 := List.take_append_drop u.length a
       rw [← this] at h2
       exact h2.symm
     rw [h1,List.append_assoc] at e
     have e := List.append_cancel_left e
     obtain ⟨i1,i2⟩ := ih e hc
     rw [h1]
     exact ⟨.cons hu i1,i2⟩
   · have hmem : c ∈ u := by
       have : (u ++ r)[a.length]? = some c := by rw [e]; simp
       rw [List.getElem?_append_left (by omega)] at this
       exact List.mem_of_getElem? this
     rcases hu.cases with ⟨x,rfl,_⟩ | hh
     · have ha : a = [] := List.eq_nil_of_length_eq_zero (by simp only [List.length_cons,List.length_nil] at hle; omega)
       subst ha
       simp only [List.nil_append] at e
       rw [← e]
       exact ⟨.nil,.cons hu hr⟩
     · have := hh c hmem; omega
theorem utf_drop {t : Str} (h : Utf t) {i : Nat} {c : UInt8} {b : Str} (hd : t.drop i = c :: b) (hc : c.toNat < 128) : Utf (t.take i) ∧ Utf (c :: b) :=
 utf_split h (by rw [← hd,List.take_append_drop]) hc
theorem utf_line {s : Str} (h : Utf s) : Utf (s.take (runM (fun b => b != 10) s)) ∧ (runM (fun b => b != 10) s < s.length → Utf (s.drop (runM (fun b => b != 10) s + 1))) := by
 have stop : ∀ s : Str,∀ b,(s.drop (runM (fun b => b != 10) s)).head? = some b → b = 10 := by
   intro s
   induction s with
   | nil => intro b hb; simp [runM] at hb
   | cons c r ih =>
     intro b hb
     simp only [runM] at hb
     by_cases hc : (c != 10) = true
     · rw [if_pos hc,List.drop_succ_cons] at hb; exact ih b hb
     · rw [if_neg hc] at hb
       simp only [List.drop_zero,List.head?_cons,Option.some.injEq] at hb
       rw [← hb]; simpa using hc
 by_cases hk : runM (fun b => b != 10) s < s.length
 · have hd := drop_len hk
   have h10 := stop s s[runM (fun b => b != 10) s] (by rw [hd]; rfl)
   obtain ⟨h1,h2⟩ := utf_drop h hd (by rw [h10]; decide)
   exact ⟨h1,fun _ => utf_cons h2 (by rw [h10]; decide)⟩
 · exact ⟨by rw [List.take_of_length_le (by omega)]; exact h,fun e => absurd e hk⟩
theorem TabI.ext {w w' : World} (h : TabI w) (hx : Ext w w') : TabI w' := by
 obtain ⟨m,h⟩ := h
 refine ⟨m,?_⟩
 rw [cell_eq] at h ⊢
 cases hh : w.heap[0]? with
 | none => rw [hh] at h; cases h
 | some o => rw [hx.at hh id]; rw [hh] at h; exact h
section
variable [HX]
theorem lrange_str {l : Str} {w : World} {K : Value → World → Prop} (hK : K (.pointer (some ⟨w.heap.size,0,none⟩)) (w.alloc (.stringIter (ofL l) 0))) : semE Tryd.prog (Instr.range 9 (str l)) w K := by
 have hT : Tryd.prog.underlying 9 = some .string := by kernel_rfl
 have hr : (Instr.range 9 (str l)).run Tryd.prog w = .ok (.pointer (some ⟨w.heap.size,0,none⟩)) (w.alloc (.stringIter (ofL l) 0)) := by
   simp [Instr.range,run_bind,run_underlying' hT,run_pure,newObj,Sem.run]
 unfold semE
 rw [hr]
 exact hK
theorem lset_chg {w : World} {r : Nat} {o : Obj} (h : r < w.heap.size) : Chg (· = r) w { w with heap := w.heap.setIfInBounds r o } :=
 ⟨rfl,rfl,rfl,by simp,fun k _ hk => by
   show (w.heap.setIfInBounds r o)[k]? = _
   rw [Array.getElem?_setIfInBounds_ne (by omega)]⟩
theorem lnext_str {r pos : Nat} {l : Str} {T : TypeId} {w : World} {K : Value → World → Prop} (hw : w.heap[r]? = some (.stringIter (ofL l) pos))
   (h0 : l.length ≤ pos → K (.tuple #[.bool false]) w)
   (h1 : pos < l.length → ∀ w',w'.heap[r]? = some (.stringIter (ofL l) (pos + (Utf8.decode (ofL l) pos).2)) → Chg (· = r) w w' → w'.heap.size = w.heap.size → K (.tuple #[.bool true,i64 pos,.int .i32 (Utf8.decode (ofL l) pos).1]) w') :
   semE Tryd.prog (Instr.next (.pointer (some ⟨r,0,none⟩)) true T) w K := by
 have hg : (getObj r).run Tryd.prog w = .ok (.stringIter (ofL l) pos) w := by simp [getObj,Sem.run,hw]
 have hlt : r < w.heap.size := (Array.getElem?_eq_some_iff.1 hw).1
 unfold semE
 simp only [Instr.next,run_bind,hg,ofL_size]
 by_cases hp : pos < l.length
 · have hset : (setObj r (.stringIter (ofL l) (pos + (Utf8.decode (ofL l) pos).2))).run Tryd.prog w = .ok () { w with heap := w.heap.setIfInBounds r (.stringIter (ofL l) (pos + (Utf8.decode (ofL l) pos).2)) } := by simp [setObj,Sem.run,hw]
   rw [if_pos hp]
   simp only [run_bind,hset,run_pure]
   exact h1 hp _ (by simp [hlt]) (lset_chg hlt) (by simp)
 · rw [if_neg hp]
   simp only [run_pure]
   exact h0 (by omega)
theorem sign_ref {c : UInt8} {r : Str} {w : World} {K : Value → World → Prop} (hl : r.length ≤ 1000000) (hK : K (str (signM (c :: r))) w) : callF Tryd.prog 45 [str (c :: r)] w K := by
 refine W45_ok ?_
 unfold W45
 unfold signM at hK
 refine JoinW.cut (fun _ w' => w' = w ∧ signs2.contains ((c :: r).take 2) = false) ?_ ?_
 · rw [lens_str,bin_gtr,condW_dec]
   refine ⟨fun hlen => ?_,fun hlen => ⟨rfl,?_⟩⟩
   · rw [sls_str,bd_some]
     refine ⟨by omega,by omega,?_⟩
     rw [bd_none,List.drop_zero]
     rw [show (c :: r).take (Int.toNat 2) = (c :: r).take 2 from rfl]
     generalize hx : (c :: r).take 2 = x at hK ⊢
     refine JoinW.cut (fun st w' => st = [.bool (signs2.contains x)] ∧ w' = w) ?_ ?_
     · unfold signs2
       simp only [List.contains_cons,List.contains_nil,Bool.or_false]
       have eqd : ∀ y : Str,decide (x = y) = (x == y) := fun y => by rw [Bool.eq_iff_iff]; simp
       simp only [bin_seq,eqd]
       generalize (x == [61,61]) = a1
       generalize (x == [33,61]) = a2
       generalize (x == [60,61]) = a3
       generalize (x == [62,61]) = a4
       generalize (x == [38,38]) = a5
       generalize (x == [124,124]) = a6
       cases a1 <;> simp only [condW_true,condW_false,Bool.true_or,Bool.false_or,and_self]
       cases a2 <;> simp only [condW_true,condW_false,Bool.true_or,Bool.false_or,and_self]
       cases a3 <;> simp only [condW_true,condW_false,Bool.true_or,Bool.false_or,and_self]
       cases a4 <;> simp only [condW_true,condW_false,Bool.true_or,Bool.false_or,and_self]
       cases a5 <;> simp only [condW_true,condW_false,Bool.true_or,Bool.false_or,and_self]
     rintro st g w' ⟨rfl,rfl⟩
     simp only [List.getD_cons_zero]
     rw [condW_b]
     refine ⟨fun hy => ?_,fun hn => ⟨trivial,hn⟩⟩
     rw [if_pos hy] at hK
     rw [sls_str,bd_some]
     refine ⟨by omega,by omega,?_⟩
     rw [bd_none,List.drop_zero]
     show K (str ((c :: r).take 2)) w'
     rw [hx]
     exact hK
   · have : r = [] := List.eq_nil_of_length_eq_zero (by simp only [List.length_cons] at hlen; omega)
     subst this
     simp [signs2]
 rintro _ g w' ⟨rfl,hn⟩
 rw [if_neg (by rw [hn]; decide)] at hK
 refine ixs_i (s := c :: r) (i := 0) (by simp) ?_
 show callF Tryd.prog 35 [_,cv c] w' _
 refine indexb_p ?_
 rw [bin_geq,sign19,condW_b]
 have hK : K (str (if signs1.contains c = true then (c :: r).take 1 else [])) w' := hK
 refine ⟨fun hy => ?_,fun hy => ?_⟩
 · rw [if_pos hy] at hK
   rw [sls_str,bd_some]
   refine ⟨by omega,by simp only [List.length_cons]; omega,?_⟩
   rw [bd_none,List.drop_zero]
   exact hK
 · rw [if_neg (by rw [hy]; decide)] at hK
   exact hK
theorem cutl_p {t : Str} {w : World} {K : Value → World → Prop} (hT : TabI w) (hl : t.length ≤ 1000000) (hK : ∀ x w',Ext w w' → K (.tuple #[str (t.take (runM (fun b => b != 10) t)),x,.bool (decide (runM (fun b => b != 10) t < t.length))]) w') : callF Tryd.prog 55 [str t,str [10]] w K := by
 obtain ⟨m,hm⟩ := hT
 refine of_calls (args := #[str t,str [10]]) Tryd.call55 ((Tryd.strings_Cut (ofL t) (ofL [10]) m w (by rw [ofL_size]; omega) hm).mono ?_)
 rintro e w' ⟨rfl,n,rfl⟩
 obtain ⟨h1,h2⟩ := cut_run t
 rw [ofL_data,ofL_data]
 refine ⟨_,rfl,?_⟩
 rw [show (⟨(Lib.cut t [10]).1.toArray⟩ : ByteArray) = ofL (t.take (runM (fun b => b != 10) t)) from by rw [h1]; rfl,h2]
 refine hK _ _ ?_
 exact ⟨rfl,rfl,rfl,Nat.le_refl _,fun _ _ _ => rfl⟩
theorem triml_p {t : Str} {w : World} {K : Value → World → Prop} (hl : t.length ≤ 1000000) (hK : ∀ w',Ext w w' → K (str (t.drop (runM (fun b => b == 32 || b == 9) t))) w') : callF Tryd.prog 56 [str t,str [32,9]] w K := by
 refine of_calls (args := #[str t,str [32,9]]) Tryd.call56 ((Tryd.strings_TrimLeft_laid (ofL t) (ofL [32,9]) w (by rw [ofL_size]; decide) (fun j b hb => ?_)).mono ?_)
 · rw [ofL_data] at hb
   have := List.mem_of_getElem? hb
   simp only [List.mem_cons,List.not_mem_nil,or_false] at this
   rcases this with rfl | rfl <;> decide
 rintro e w' ⟨rfl,hb⟩
 rw [ofL_data,ofL_data,trim_run]
 exact ⟨_,rfl,hK w' (Chg.of_below hb)⟩
end
end Go.Proofs.YtofhaneggcpdaaaDoor
namespace Go.Proofs.YtofhaneggcpdaaaDoor
open Go Go.Eng Go.RowKit Go.Syn Go.Lex
set_option maxRecDepth 100000
theorem hereL_len (s : Str) : (hereL s).length ≤ 2 * s.length := by
 induction s with
 | nil => simp [hereL]
 | cons c r ih => simp only [hereL]; (repeat' split) <;> simp only [List.length_cons] <;> omega
def hereR (c : Nat) : Str × Nat := if c = 92 ∨ c = 34 ∨ c = 36 then ([92],c) else if c = 9 then ([92],116) else if c = 13 then ([92],114) else ([],c)
theorem hereR_one (x : UInt8) (h : wrM x.toNat = [x]) : hereL [x] = (hereR x.toNat).1 ++ wrM (hereR x.toNat).2 := by
 have e : ∀ k : UInt8,(x == k) = decide (x.toNat = k.toNat) := fun k => by
   rw [Bool.eq_iff_iff,beq_iff_eq,decide_eq_true_iff,UInt8.toNat_inj]
 simp only [hereL,e]
 unfold hereR
 by_cases h1 : x.toNat = 92 ∨ x.toNat = 34 ∨ x.toNat = 36
 · rw [if_pos (by simp only [Bool.or_eq_true,decide_eq_true_iff]; rcases h1 with h | h | h; exact .inl (.inl h); exact .inl (.inr h); exact .inr h),if_pos h1]
   show _ = [92] ++ wrM x.toNat
   rw [h]; rfl
 rw [if_neg (by simp only [Bool.or_eq_true,decide_eq_true_iff]; rintro ((h | h) | h); exact h1 (.inl h); exact h1 (.inr (.inl h)); exact h1 (.inr (.inr h))),if_neg h1]
 by_cases h2 : x.toNat = 9
 · rw [if_pos (by simpa using h2),if_pos h2]; rfl
 rw [if_neg (by simpa using h2),if_neg h2]
 by_cases h3 : x.toNat = 13
 · rw [if_pos (by simpa using h3),if_pos h3]; rfl
 rw [if_neg (by simpa using h3),if_neg h3]
 exact h.symm
theorem hereR_high {c : Nat} (h : 128 ≤ c) : hereR c = ([],c) := by
 unfold hereR
 rw [if_neg (by omega),if_neg (by omega),if_neg (by omega)]
theorem hereR_ok {c : Nat} (h : c < 55296 ∨ 57343 < c ∧ c ≤ 1114111) : (hereR c).2 < 55296 ∨ 57343 < (hereR c).2 ∧ (hereR c).2 ≤ 1114111 := by
 unfold hereR
 (repeat' split) <;> (dsimp only; omega)
theorem hereR_len (c : Nat) : (hereR c).1.length ≤ 1 := by unfold hereR; (repeat' split) <;> simp
def hfin (l : Str) (at_ : Nat) (x : Str × Nat × Int) : Str × Nat × Int := if x.2.2 = 0 then (l ++ x.1,x.2.1 + at_,0) else ([],0,x.2.2)
theorem hfin_hfin (l m : Str) (a b : Nat) (x : Str × Nat × Int) : hfin l a (if x.2.2 = 0 then (m ++ x.1,x.2.1 + b,0) else ([],0,x.2.2)) = hfin (l ++ m) (a + b) x := by
 unfold hfin
 by_cases h : x.2.2 = 0
 · simp only [h,if_true,List.append_assoc]; rw [show x.2.1 + b + a = x.2.1 + (a + b) by omega]
 · simp only [if_neg h]
theorem here_step (n : Nat) (name s : Str) : hereF (n + 1) name s = (if (s.take (runM (fun b => b != 10) s)).drop (runM (fun b => b == 32 || b == 9) (s.take (runM (fun b => b != 10) s))) = name then ([],runM (fun b => b != 10) s,0) else if s.length ≤ runM (fun b => b != 10) s then ([],0,40) else
 (if (hereF n name (s.drop (runM (fun b => b != 10) s + 1))).2.2 = 0 then (hereL (s.take (runM (fun b => b != 10) s)) ++ [92,110] ++ (hereF n name (s.drop (runM (fun b => b != 10) s + 1))).1,(hereF n name (s.drop (runM (fun b => b != 10) s + 1))).2.1 + (runM (fun b => b != 10) s + 1),0) else ([],0,(hereF n name (s.drop (runM (fun b => b != 10) s + 1))).2.2))) := rfl
section
variable [HX]
theorem heredoc_p {s : Str} {w : World} {K : Value → World → Prop} (hT : TabI w) (hU : Utf s) (hl : s.length ≤ 1000000) (h2 : 2 ≤ s.length)
   (hK : ∀ w',Ext w w' → K (.tuple #[str (heredocM s).1,i64 ((heredocM s).2.1 : Nat),i64 (heredocM s).2.2]) w') : callF Tryd.prog 44 [str s] w K := by
 refine W44_ok ?_
 unfold W44
 unfold heredocM at hK
 dsimp only at hK
 generalize hn : (if isLetter ((s.drop 2).headD 0) then runM isName (s.drop 2) else 0) = n at hK
 have hnl : n + 2 ≤ s.length := by
   have := run_le isName (s.drop 2)
   rw [List.length_drop] at this
   rw [← hn]; split <;> omega
 refine JoinW.cut (fun st w' => st = [i64 (n : Nat)] ∧ w' = w) ?_ ?_
 · rw [lens_str,bin_gtr]
   refine GdW.look (isLetter ((s.drop 2).headD 0)) (fun hg J hJ => ?_) fun g => ?_
   · rw [isB_t,decide_eq_true_iff] at hg
     have hlt : 2 < s.length := by omega
     refine ixs_i (i := 2) hlt ?_
     refine letter_p ?_
     rw [drop_len hlt] at hJ
     exact hJ
   · simp only [List.getD_cons_zero,isB_t]
     rw [pick_gd_and,condW_b]
     refine ⟨fun hy => ?_,fun hno => ?_⟩
     · rw [Bool.and_eq_true] at hy
       rw [if_pos hy.2] at hn
       rw [sls_str,bd_none,bd_some]
       refine ⟨by omega,by omega,?_⟩
       rw [List.take_length]
       show callF Tryd.prog 36 [str (s.drop 2),_] w _
       refine run_p (q := isName) (by rw [List.length_drop]; omega) (fun c {w K} h => callV_fn' (name2_p h)) ?_
       rw [hn]
       exact ⟨rfl,rfl⟩
     · have : n = 0 := by
         rw [← hn]
         by_cases hlet : isLetter ((s.drop 2).headD 0) = true
         · rw [hlet,Bool.and_true,decide_eq_false_iff_not] at hno
           rw [if_pos hlet,List.drop_eq_nil_of_le (by omega)]; rfl
         · rw [if_neg hlet]
       rw [this]
       exact ⟨rfl,trivial⟩
 rintro st g w' ⟨rfl,rfl⟩
 simp only [List.getD_cons_zero]
 rw [bin_add,wrap_id (by omega) (by omega)]
 rw [sls_str,bd_some,bd_some]
 refine ⟨by omega,by omega,by omega,by omega,?_⟩
 have hnm : (s.take (Int.toNat (2 + (n : Nat)))).drop (Int.toNat 2) = (s.drop 2).take n := by
   rw [show Int.toNat (2 + (n : Nat)) = 2 + n by omega,show Int.toNat 2 = 2 from rfl,List.drop_take]
   rw [show 2 + n - 2 = n by omega]
 rw [hnm,bin_add,wrap_id (by omega) (by omega),show (2 + (n : Nat) : Int) = ((2 + n : Nat) : Int) by omega]
 generalize (s.drop 2).take n = nm at *
 rw [bin_eql]
 simp only [isB_f]
 refine GdW.look (decide (s.length ≤ 2 + n)) (fun _ J hJ => ?_) fun g1 => ?_
 · rw [lens_str,bin_geq,show decide (((s.length : Nat) : Int) ≤ ((2 + n : Nat) : Int)) = decide (s.length ≤ 2 + n) by rw [decide_eq_decide]; omega]
   exact hJ
 simp only [List.getD_cons_zero]
 rw [pick_gd_or]
 simp only [isB_f]
 refine GdW.look (decide ((s.drop (2 + n)).head? ≠ some 10)) (fun hg J hJ => ?_) fun g2 => ?_
 · have hlt : 2 + n < s.length := by
     simp only [Bool.not_eq_true',Bool.or_eq_false_iff,decide_eq_false_iff_not] at hg
     omega
   refine ixs_i hlt ?_
   have e5 : decide (((s[2 + n].toNat : Nat) : Int) = 10) = (s[2 + n] == 10) := eq_nat 10 _
   rw [bin_neq]
   rw [drop_len hlt] at hJ
   have : decide (((s[2 + n].toNat : Nat) : Int) ≠ 10) = decide ((s[2 + n] :: s.drop (2 + n + 1)).head? ≠ some 10) := by
     have e6 : ∀ (c : UInt8) (r : Str),(c == 10) = decide ((c :: r).head? = some 10) := fun c r => by rw [Bool.eq_iff_iff]; simp
     rw [decide_not,e5,decide_not,e6 _ (s.drop (2 + n + 1))]
   rw [this]
   exact hJ
 simp only [List.getD_cons_zero]
 rw [pick_gd_or,condW_b]
 refine ⟨fun hbad => ?_,fun hok => ?_⟩
 · have hb : n = 0 ∨ ¬ (s.drop (2 + n)).head? = some 10 := by
     simp only [Bool.or_eq_true,decide_eq_true_iff] at hbad
     rcases hbad with (h | h) | h
     · exact .inl (by omega)
     · right; rw [List.drop_eq_nil_of_le (by omega)]; simp
     · exact .inr h
   have hK := hK w' (Chg.refl _ _)
   rcases hb with h | h
   · rw [if_pos h] at hK; exact hK
   · rw [if_neg h] at hK
     split at hK <;> exact hK
 simp only [Bool.or_eq_false_iff,decide_eq_false_iff_not,ne_eq,Decidable.not_not] at hok
 obtain ⟨⟨hn0,hlt⟩,h10⟩ := hok
 have hlt : 2 + n < s.length := by omega
 rw [if_neg (by omega),if_pos h10] at hK
 rw [bin_add,upi (by omega)]
 have hUs : Utf (s.drop (2 + n + 1)) := by
   have hd := drop_len hlt
   rw [hd] at h10
   simp only [List.head?_cons,Option.some.injEq] at h10
   exact utf_cons (utf_drop hU hd (by rw [h10]; decide)).2 (by rw [h10]; decide)
 generalize hR : hereF (s.length + 1) nm (s.drop (2 + n + 1)) = X at hK
 have hR2 : hfin [] (2 + n + 1) X = if X.2.2 = 0 then (X.1,X.2.1 + (2 + n + 1),0) else ([],0,X.2.2) := by unfold hfin; rw [List.nil_append]
 rw [← hR2] at hK
 refine bnew (B := w'.heap.size) (Nat.le_refl _) fun b w1 hb h1 hx1 => ?_
 generalize hR0 : hfin [] (2 + n + 1) X = R0 at hK
 refine LoopW.go (fun st w2 => ∃ (i m : Nat) (l : Str),st = [i64 (i : Nat)] ∧ i ≤ s.length ∧ Utf (s.drop i) ∧ Bld w2 w'.heap.size b l ∧ Ext w' w2 ∧ l.length ≤ 2 * i ∧ hfin l i (hereF m nm (s.drop i)) = R0 ∧ s.length < m + i) (fun st _ => match st with | [.int _ i] => s.length + 1 - i.toNat | _ => 0) ⟨2 + n + 1,s.length + 1,[],rfl,by omega,hUs,h1,hx1,by simp,by rw [hR,hR0],by omega⟩ ?_
 rintro st g3 w2 ⟨i,m,l,rfl,hi,hu,hB,hx,hll,hr,hm⟩
 obtain ⟨m,rfl⟩ : ∃ k,m = k + 1 := ⟨m - 1,by omega⟩
 rw [here_step] at hr
 simp only [List.getD_cons_zero]
 rw [sls_str,bd_none,bd_some]
 refine ⟨by omega,by omega,?_⟩
 rw [List.take_length,Int.toNat_natCast]
 have hsl : (s.drop i).length = s.length - i := List.length_drop
 refine cutl_p (hT.ext hx) (by omega) fun x w3 hx3 => ?_
 rw [ext_tuple]; refine ⟨_,rfl,?_⟩
 rw [ext_tuple]; refine ⟨_,rfl,?_⟩
 rw [ext_tuple]; refine ⟨_,rfl,?_⟩
 obtain ⟨ul,ur⟩ := utf_line hu
 have hkl := run_le (fun b => b != 10) (s.drop i)
 have htk : ((s.drop i).take (runM (fun b => b != 10) (s.drop i))).length = runM (fun b => b != 10) (s.drop i) := by rw [List.length_take]; omega
 generalize runM (fun b => b != 10) (s.drop i) = k at *
 generalize hln : (s.drop i).take k = ln at *
 refine triml_p (by omega) fun w4 hx4 => ?_
 have hx' : Ext w' w4 := (hx.trans hx3).trans hx4
 have hB4 : Bld w4 w'.heap.size b l := (hB.ext hx3).ext hx4
 rw [bin_seq,condW_dec]
 refine ⟨fun hy => ?_,fun hno => ?_⟩
 · rw [if_pos hy] at hr
   refine bstring_p hB4 hx'.size fun w5 hc5 => ?_
   rw [lens_str,bin_add,wrap_id (by omega) (by omega)]
   have hfx : Ext w' w5 := hx'.then hc5 fun k hk e => by omega
   have hK := hK w5 hfx
   rw [← hr] at hK
   simp only [hfin,if_true,List.append_nil] at hK
   rw [show (i : Int) + (ln.length : Nat) = ((k + i : Nat) : Int) by omega]
   exact hK
 rw [if_neg hno] at hr
 rw [un_not,condW_b]
 refine ⟨fun hend => ?_,fun hmore => ?_⟩
 · rw [if_pos (by simpa using hend)] at hr
   have hK := hK w4 hx'
   rw [← hr] at hK
   exact hK
 have hk : k < (s.drop i).length := by simpa using hmore
 rw [if_neg (by omega)] at hr
 rw [hfin_hfin] at hr
 have hun := ur hk
 clear ur
 have hlk : (s.drop i).length = s.length - i := List.length_drop
 refine lrange_str ?_
 have hz4 := hx'.size
 have hbb := hB4.lt
 refine LoopW.go (fun st w5 => ∃ p,p ≤ ln.length ∧ st = [] ∧ Utf (ln.drop p) ∧ w5.heap[w4.heap.size]? = some (.stringIter (ofL ln) p) ∧ Bld w5 w'.heap.size b (l ++ hereL (ln.take p)) ∧ Ext w' w5)
   (fun _ w5 => match w5.heap[w4.heap.size]? with | some (.stringIter _ p) => ln.length - p | _ => 0)
   ⟨0,Nat.zero_le _,rfl,by rw [List.drop_zero]; exact ul,heap_anew _ _ _ rfl,by rw [List.take_zero]; show Bld _ _ _ (l ++ []); rw [List.append_nil]; exact hB4.ext (Chg.alloc (Chg.refl _ _) _),hx'.trans (Chg.alloc (Chg.refl _ _) _)⟩ ?_
 rintro st g4 w5 ⟨p,hp,rfl,hup,hit,hB5,hx5⟩
 have hz5 := hx5.size
 have hl5 : (l ++ hereL (ln.take p)).length ≤ 2 * i + 2 * k := by
   have := hereL_len (ln.take p)
   have : (ln.take p).length ≤ k := by rw [List.length_take]; omega
   rw [List.length_append]; omega
 refine lnext_str hit (fun hpe => ?_) (fun hpl w6 hit6 hc6 hz6 => ?_)
 · rw [ext_tuple]
   refine ⟨.bool false,rfl,?_⟩
   rw [condW_false]
   obtain rfl : p = ln.length := by omega
   rw [List.take_length] at hB5 hl5
   refine wstr_p hB5 hz5 (by simp only [List.length_cons,List.length_nil]; omega) fun v w6 h6 hc6 => ?_
   have hx6 : Ext w' w6 := BCh.new hx5 (Nat.le_refl _) (by omega) hc6
   rw [lens_str,bin_add,wrap_id (by omega) (by omega),bin_add,wrap_id (by omega) (by omega)]
   have hgl := hereL_len ln
   refine ⟨⟨i + (k + 1),m,l ++ hereL ln ++ [92,110],by simp only [List.cons.injEq,Value.int.injEq,true_and,and_true]; omega,by omega,?_,h6,hx6,?_,?_,by omega⟩,?_⟩
   · rw [← drop_drop']; exact hun
   · simp only [List.length_append,List.length_cons,List.length_nil]; omega
   · rw [← hr,drop_drop',List.append_assoc]
   · simp only [Int.toNat_natCast]; omega
 · have hne : ln.drop p ≠ [] := fun e => by have := List.drop_eq_nil_iff.1 e; omega
   obtain ⟨u,r,hru,hur,hdr⟩ : ∃ u r,Rn u ∧ Utf r ∧ ln.drop p = u ++ r := by
     cases hd : ln.drop p with
     | nil => exact absurd hd hne
     | cons x y =>
       rw [hd] at hup
       generalize he : x :: y = z at hup
       cases hup with
       | nil => cases he
       | cons h1 h2 => exact ⟨_,_,h1,h2,rfl⟩
   have hrm : runeM ln p = u.length := hru.at hdr
   have huz := hru.pos
   obtain ⟨c,hc⟩ := rune_good hpl (by omega)
   rw [hrm] at hc
   have htk2 : (ln.drop p).take u.length = u := by rw [hdr,List.take_left]
   have hnext : ln.take (p + u.length) = ln.take p ++ u := by rw [List.take_add,htk2]
   have hdr2 : ln.drop (p + u.length) = r := drop_app hdr
   have hdec := hc.dec
   have hct := hc.top
   have hcv := hc.val
   have hcu : wrM c = u := by rw [← wr_enc (by omega),hc.bytes,htk2]
   rw [hdec] at hit6
   have hfit := hc.fits
   have hB6 : Bld w6 w'.heap.size b (l ++ hereL (ln.take p)) := hB5.chg hc6 (fun e => by have := e; omega) fun k hk e => by
     obtain ⟨_,c',hc'⟩ := hk
     have e : k = w4.heap.size := e
     rw [e,hit] at hc'; cases hc'
   have hx6 : Ext w' w6 := hx5.then hc6 fun k hk e => by omega
   have hu2 : hereL u = (hereR c).1 ++ wrM (hereR c).2 := by
     rcases hru.cases with ⟨x,hx,hxl⟩ | hh
     · subst hx
       have hcx : c = x.toNat := by
         have := (hc.low rfl).1
         rw [this]
         have e := byteM_in hpl
         rw [Go.Eng.byte_at (show ln.drop p = x :: r from hdr)] at e
         omega
       subst hcx
       exact hereR_one x hcu
     · have hc128 : 128 ≤ c := by
         have hb0 := byte_pref (j := 0) hdr huz
         have h128 := hh u[0] (List.getElem_mem ..)
         rw [Nat.add_zero,byteM_in hpl] at hb0
         by_cases h1 : u.length = 1
         · have := hc.low h1; omega
         · exact (hc.high (by omega)).1
       rw [hereR_high hc128,hereL_high hh,hcu]; rfl
   have hok := hereR_ok (c := c) (by omega)
   have hl1 := hereR_len c
   rw [ext_tuple]
   refine ⟨.bool true,rfl,?_⟩
   rw [condW_true,ext_tuple]
   refine ⟨.int .i32 (c : Int),by rw [hdec]; rfl,?_⟩
   refine JoinW.cut (fun st w7 => st = [.int .i32 ((hereR c).2 : Nat)] ∧ Bld w7 w'.heap.size b (l ++ hereL (ln.take p) ++ (hereR c).1) ∧ w7.heap[w4.heap.size]? = some (.stringIter (ofL ln) (p + u.length)) ∧ Ext w' w7) ?_ ?_
   · have wr : ∀ (x : Nat) (w7 : World),hereR c = ([92],x) → Bld w7 w'.heap.size b (l ++ hereL (ln.take p) ++ [92]) → Chg (BCh w6 w'.heap.size b) w6 w7 → [Value.int .i32 (x : Int)] = [.int .i32 ((hereR c).2 : Nat)] ∧ Bld w7 w'.heap.size b (l ++ hereL (ln.take p) ++ (hereR c).1) ∧ w7.heap[w4.heap.size]? = some (.stringIter (ofL ln) (p + u.length)) ∧ Ext w' w7 := by
       intro x w7 e h7 hc7
       rw [e]
       exact ⟨rfl,h7,BCh.iter hc7 hit6 (by omega),BCh.new hx6 (Nat.le_refl _) (by omega) hc7⟩
     refine JoinW.cut (fun st w7 => st = [.bool (decide (c = 92 ∨ c = 34 ∨ c = 36))] ∧ w7 = w6) ?_ ?_
     · rw [bin_eql,condW_dec]
       refine ⟨fun h => ?_,fun h => ?_⟩
       · rw [decide_eq_true h,decide_eq_true (.inl (by omega))]; exact ⟨rfl,rfl⟩
       rw [bin_eql,condW_dec]
       refine ⟨fun h' => ?_,fun h' => ?_⟩
       · rw [decide_eq_true h',decide_eq_true (.inr (.inl (by omega)))]; exact ⟨rfl,rfl⟩
       rw [bin_eql]
       rw [show decide (((c : Nat) : Int) = 36) = decide (c = 92 ∨ c = 34 ∨ c = 36) by rw [decide_eq_decide]; omega]
       exact ⟨rfl,rfl⟩
     rintro st g5 w7 ⟨rfl,rfl⟩
     simp only [List.getD_cons_zero]
     rw [condW_dec]
     refine ⟨fun h => ?_,fun h => ?_⟩
     · refine wbyte_p (n := 92) hB6 (by omega) (by omega) (by omega) fun w8 h8 hc8 => ?_
       exact wr c w8 (by unfold hereR; rw [if_pos h]) h8 hc8
     rw [bin_eql,condW_dec]
     refine ⟨fun h' => ?_,fun h' => ?_⟩
     · refine wbyte_p (n := 92) hB6 (by omega) (by omega) (by omega) fun w8 h8 hc8 => ?_
       exact wr 116 w8 (by unfold hereR; rw [if_neg h,if_pos (by omega)]) h8 hc8
     rw [bin_eql,condW_dec]
     refine ⟨fun h'' => ?_,fun h'' => ?_⟩
     · refine wbyte_p (n := 92) hB6 (by omega) (by omega) (by omega) fun w8 h8 hc8 => ?_
       exact wr 114 w8 (by unfold hereR; rw [if_neg h,if_neg (by omega),if_pos (by omega)]) h8 hc8
     have e : hereR c = ([],c) := by unfold hereR; rw [if_neg h,if_neg (by omega),if_neg (by omega)]
     rw [e,List.append_nil]
     exact ⟨rfl,hB6,hit6,hx6⟩
   rintro st g5 w7 ⟨rfl,hB7,hit7,hx7⟩
   simp only [List.getD_cons_zero]
   have hz7 := hx7.size
   refine wrune_p hB7 hz7 (by rw [List.length_append]; omega) hok fun v w8 h8 hc8 => ?_
   have hit8 := BCh.iter hc8 hit7 (by omega)
   refine ⟨⟨p + u.length,hfit,trivial,by rw [hdr2]; exact hur,hit8,?_,BCh.new hx7 (Nat.le_refl _) (by omega) hc8⟩,?_⟩
   · rw [hnext,hereL_app,hu2,← List.append_assoc,← List.append_assoc]; exact h8
   · rw [hit8,hit]
     show ln.length - (p + u.length) < ln.length - p
     omega
end
end Go.Proofs.YtofhaneggcpdaaaDoor
namespace Go.Proofs.YtofhaneggcpdaaaDoor
open Go Go.Eng Go.RowKit Go.Syn Go.Lex
set_option maxRecDepth 100000
theorem textX_fits {r : Str} {d : Nat} (h : (textX r d).2 = 0) : 1 ≤ (textX r d).1 ∧ (textX r d).1 ≤ r.length := by
 exact ((ins_bra _ r (Nat.le_refl _)).1 d _ (Prod.ext rfl h)).2
theorem one_cons (c : UInt8) (r : Str) : oneM (c :: r) =
 (if (c == 10) = true then (⟨5,[10],0⟩,1,0)
 else if isLetter c = true then (⟨1,(c :: r).take (runM isName (c :: r)),0⟩,runM isName (c :: r),if 32 < runM isName (c :: r) then 3 else 0)
 else if isDigit c = true then
   (⟨2,(c :: r).take (runM isDigit (c :: r)),0⟩,runM isDigit (c :: r),if ((runM isDigit (c :: r) < (c :: r).length && isLetter (((c :: r).drop (runM isDigit (c :: r))).headD 0)) || (c == 48 && 1 < runM isDigit (c :: r))) = true then 40 else if Num.goodN ((c :: r).take (runM isDigit (c :: r))) = true then 0 else 3)
 else if (c == 34) = true then
   (if (textF ((c :: r).length + 1) r 0).2 = 0 then (⟨3,r.take ((textF ((c :: r).length + 1) r 0).1 - 1),0⟩,(textF ((c :: r).length + 1) r 0).1 + 1,0) else (⟨0,[],0⟩,0,(textF ((c :: r).length + 1) r 0).2))
 else if preM [60,60] (c :: r) = true then (⟨3,(heredocM (c :: r)).1,0⟩,(heredocM (c :: r)).2.1,(heredocM (c :: r)).2.2)
 else (⟨4,signM (c :: r),0⟩,(signM (c :: r)).length,if (signM (c :: r)).length = 0 then 40 else 0)) := rfl
section
variable [HX]
theorem one_p {c : UInt8} {r : Str} {w : World} {K : Value → World → Prop} (hT : TabI w) (hU : Utf (c :: r)) (hl : r.length ≤ 100000)
   (hK : ∀ w',Ext w w' → K (.tuple #[.agg (tokc (oneM (c :: r)).1).toArray,i64 ((oneM (c :: r)).2.1 : Nat),i64 (oneM (c :: r)).2.2]) w') : callF Tryd.prog 25 [str (c :: r)] w K := by
 refine W25_ok ?_
 unfold W25
 have hlen : (c :: r).length = r.length + 1 := rfl
 refine alloc_new fun a w1 ha hz1 hab1 hx1 => ?_
 refine alloc_new fun b w2 hb hz2 hbb2 hx2 => ?_
 have hx02 := hx1.trans hx2
 have hab2 := hx2.at hab1 id
 have cond : ∀ (k : Nat),k < 256 → (((c.toNat : Nat) : Int) = (k : Int) ↔ c = UInt8.ofNat k) := fun k hk => by
   have := u8_eq c k hk
   rwa [decide_eq_decide] at this
 generalize ho : oneM (c :: r) = o at hK
 rw [one_cons] at ho
 refine JoinW.cut (fun st w' => st = [i64 o.2.2,i64 (o.2.1 : Nat)] ∧ Ext w w' ∧ w'.heap[a]? = some (.cells [i64 0,str [],i64 0].toArray TkT (0,0)) ∧ w'.heap[b]? = some (.cells (tokc o.1).toArray TkT (0,0))) ?_ ?_
 · -- a token laid in b at a later world
   have put : ∀ {w3 : World} {t : Tok} {old : List Value} {K' : World → Prop},Ext w w3 → w3.heap[a]? = some (.cells [i64 0,str [],i64 0].toArray TkT (0,0)) → w3.heap[b]? = some (.cells old.toArray TkT (0,0)) → old.length = 3 →
       (∀ w4,Ext w w4 → w4.heap[a]? = some (.cells [i64 0,str [],i64 0].toArray TkT (0,0)) → w4.heap[b]? = some (.cells (tokc t).toArray TkT (0,0)) → K' w4) → stW 3 (.pointer (some ⟨b,0,none⟩)) (.agg (tokc t).toArray) w3 K' := by
     intro w3 t old K' hx ha3 hb3 ho3 h
     refine st_agg_at hb3 rfl ho3 rfl fun w4 hz4 hb4 hc4 => ?_
     exact h w4 (hx.new hc4 (by omega)) (hc4.at ha3 (by omega)) hb4
   refine ixs_i (i := 0) (by rw [hlen]; omega) ?_
   simp only [List.getElem_cons_zero]
   rw [bin_eql,condW_dec]
   refine ⟨fun e => ?_,fun e => ?_⟩
   · have e : c = 10 := (cond 10 (by omega)).1 e
     subst e
     simp only [beq_self_eq_true,if_true] at ho
     subst ho
     simp only [put_int,put_str,List.length_cons,List.length_nil,List.set_cons_zero,List.set_cons_succ,Nat.reduceAdd,Nat.reduceLT,true_and,Nat.zero_lt_succ]
     refine st_agg_at (l := [i64 5,str [10],i64 0]) hab2 rfl rfl rfl fun w3 hz3 hab3 hc3 => ?_
     refine ld_all hab3 rfl ?_
     exact hK w3 (hx02.new hc3 (by omega))
   have e : ¬ (c == 10) = true := fun h => e ((cond 10 (by omega)).2 (by simpa using h))
   rw [if_neg e] at ho
   refine letter_p ?_
   rw [condW_b]
   refine ⟨fun hy => ?_,fun hno => ?_⟩
   · rw [if_pos hy] at ho
     refine run_p (q := isName) (by rw [hlen]; omega) (fun c {w K} h => callV_fn' (name1_p h)) ?_
     have hle := run_le isName (c :: r)
     rw [hlen] at hle
     generalize runM isName (c :: r) = n at *
     rw [sls_str,bd_some]
     refine ⟨by omega,by rw [hlen]; omega,?_⟩
     rw [bd_none,List.drop_zero,Int.toNat_natCast]
     simp only [put_int,put_str,List.length_cons,List.length_nil,List.set_cons_zero,List.set_cons_succ,Nat.reduceAdd,Nat.reduceLT,true_and,Nat.zero_lt_succ]
     refine put (t := ⟨1,(c :: r).take n,0⟩) hx02 hab2 hbb2 rfl fun w4 hx4 ha4 hb4 => ?_
     rw [bin_gtr,condW_dec]
     subst ho
     refine ⟨fun h => ?_,fun h => ?_⟩
     · exact ⟨by rw [if_pos (by omega)],hx4,ha4,hb4⟩
     · exact ⟨by rw [if_neg (by omega)],hx4,ha4,hb4⟩
   rw [if_neg (by rw [hno]; decide)] at ho
   refine digit_p ?_
   rw [condW_b]
   refine ⟨fun hy => ?_,fun hno => ?_⟩
   · rw [if_pos hy] at ho
     refine run_p (q := isDigit) (by rw [hlen]; omega) (fun c {w K} h => callV_fn' (digit_p h)) ?_
     have hle := run_le isDigit (c :: r)
     rw [hlen] at hle
     generalize runM isDigit (c :: r) = n at *
     rw [sls_str,bd_some]
     refine ⟨by omega,by rw [hlen]; omega,?_⟩
     rw [bd_none,List.drop_zero,Int.toNat_natCast]
     simp only [put_int,put_str,List.length_cons,List.length_nil,List.set_cons_zero,List.set_cons_succ,Nat.reduceAdd,Nat.reduceLT,true_and,Nat.zero_lt_succ]
     refine put (t := ⟨2,(c :: r).take n,0⟩) hx02 hab2 hbb2 rfl fun w4 hx4 ha4 hb4 => ?_
     refine JoinW.cut (fun st w' => st = [.bool ((n < (c :: r).length && isLetter (((c :: r).drop n).headD 0)) || (c == 48 && 1 < n))] ∧ w' = w4) ?_ ?_
     · rw [lens_str,bin_lss,show decide (((n : Nat) : Int) < (((c :: r).length : Nat) : Int)) = decide (n < (c :: r).length) by rw [decide_eq_decide]; omega]
       simp only [isB_t]
       refine GdW.look (isLetter (((c :: r).drop n).headD 0)) (fun hg J hJ => ?_) fun g => ?_
       · have hlt : n < (c :: r).length := by simpa using hg
         refine ixs_i hlt ?_
         refine letter_p ?_
         rw [drop_len hlt] at hJ
         exact hJ
       simp only [List.getD_cons_zero]
       rw [pick_gd_and,condW_b]
       refine ⟨fun h => by rw [h,Bool.true_or]; exact ⟨rfl,trivial⟩,fun h => ?_⟩
       have e5 : decide (((c.toNat : Nat) : Int) = 48) = (c == 48) := eq_nat 48 c
       rw [bin_eql,e5]
       simp only [isB_t,bin_gtr,GdW_pure,List.getD_cons_zero]
       intro g2
       rw [pick_gd_and,h,Bool.false_or]
       refine ⟨?_,trivial⟩
       rw [show decide ((1 : Int) < ((n : Nat) : Int)) = decide (1 < n) by rw [decide_eq_decide]; omega]
     rintro st g w5 ⟨rfl,rfl⟩
     simp only [List.getD_cons_zero]
     rw [condW_b]
     refine ⟨fun h => ?_,fun h => ?_⟩
     · rw [if_pos h] at ho
       subst ho
       exact ⟨rfl,hx4,ha4,hb4⟩
     rw [if_neg (by rw [h]; decide)] at ho
     rw [fld_ptr,ld_one]
     refine ⟨str ((c :: r).take n),by rw [add_mk,cell_eq,hb4]; rfl,?_⟩
     refine numgood_ref (by have : ((c :: r).take n).length ≤ n := (by rw [List.length_take]; omega); omega) fun w6 hx6 => ?_
     rw [un_not,condW_b]
     subst ho
     refine ⟨fun h => ?_,fun h => ?_⟩
     · exact ⟨by rw [if_neg (by simpa using h)],hx4.trans hx6,hx6.at ha4 id,hx6.at hb4 id⟩
     · exact ⟨by rw [if_pos (by simpa using h)],hx4.trans hx6,hx6.at ha4 id,hx6.at hb4 id⟩
   rw [if_neg (by rw [hno]; decide)] at ho
   rw [bin_eql,condW_dec]
   refine ⟨fun e => ?_,fun e => ?_⟩
   · have e : c = 34 := (cond 34 (by omega)).1 e
     rw [if_pos (by rw [e]; rfl),textF_x (by omega)] at ho
     refine ltext_p (d := 0) (by omega) (by omega) ?_
     by_cases h0 : (textX r 0).2 = 0
     · rw [if_pos h0] at ho
       have hf := textX_fits h0
       unfold outV
       rw [if_pos h0,ext_tuple]
       refine ⟨_,rfl,?_⟩
       rw [ext_tuple]
       refine ⟨_,rfl,?_⟩
       rw [bin_eql,condW_dec]
       refine ⟨fun _ => ?_,fun h => absurd rfl h⟩
       rw [bin_sub,wrap_id (by omega) (by omega),sls_str,bd_some,bd_some]
       refine ⟨by omega,by rw [hlen]; omega,by omega,by omega,?_⟩
       have et : ((c :: r).take (Int.toNat (((textX r 0).1 + 1 : Nat) - 1))).drop (Int.toNat 1) = r.take ((textX r 0).1 - 1) := by
         rw [show Int.toNat ((((textX r 0).1 + 1 : Nat) : Int) - 1) = ((textX r 0).1 - 1) + 1 by omega]
         rfl
       rw [et]
       simp only [put_int,put_str,List.length_cons,List.length_nil,List.set_cons_zero,List.set_cons_succ,Nat.reduceAdd,Nat.reduceLT,true_and,Nat.zero_lt_succ]
       refine put (t := ⟨3,r.take ((textX r 0).1 - 1),0⟩) hx02 hab2 hbb2 rfl fun w4 hx4 ha4 hb4 => ?_
       subst ho
       exact ⟨rfl,hx4,ha4,hb4⟩
     · rw [if_neg h0] at ho
       unfold outV
       rw [if_neg h0,ext_tuple]
       refine ⟨_,rfl,?_⟩
       rw [ext_tuple]
       refine ⟨_,rfl,?_⟩
       rw [bin_eql,condW_dec]
       refine ⟨fun h => absurd h h0,fun h => ?_⟩
       subst ho
       exact ⟨rfl,hx02,hab2,hbb2⟩
   have e : ¬ (c == 34) = true := fun h => e ((cond 34 (by omega)).2 (by simpa using h))
   rw [if_neg e] at ho
   refine hasp_p ?_
   rw [condW_b]
   refine ⟨fun hy => ?_,fun hno => ?_⟩
   · rw [if_pos (show preM [60,60] (c :: r) = true from hy)] at ho
     have h2 : 2 ≤ (c :: r).length := pre_len (p := [60,60]) (s := c :: r) hy
     rw [fld_ptr,add_mk,Nat.zero_add]
     refine st_at hbb2 rfl (by simp) fun w3 hz3 hb3 hc3 => ?_
     have hx3 := hx02.new hc3 (by omega)
     have ha3 := hc3.at hab2 (by omega)
     refine heredoc_p (hT.ext hx3) hU (by rw [hlen]; omega) h2 fun w4 hx4 => ?_
     rw [ext_tuple]; refine ⟨_,rfl,?_⟩
     rw [ext_tuple]; refine ⟨_,rfl,?_⟩
     rw [ext_tuple]; refine ⟨_,rfl,?_⟩
     have hb4 := hx4.at hb3 id
     rw [fld_ptr,add_mk,Nat.zero_add]
     refine st_at hb4 rfl (by simp) fun w5 hz5 hb5 hc5 => ?_
     subst ho
     exact ⟨rfl,(hx3.trans hx4).new hc5 (by omega),hc5.at (hx4.at ha3 id) (by omega),by rw [hb5]; simp [tokc]⟩
   · rw [if_neg (show ¬ preM [60,60] (c :: r) = true from by rw [show preM [60,60] (c :: r) = false from hno]; decide)] at ho
     refine sign_ref (by omega) ?_
     simp only [put_int,put_str,List.length_cons,List.length_nil,List.set_cons_zero,List.set_cons_succ,Nat.reduceAdd,Nat.reduceLT,true_and,Nat.zero_lt_succ]
     refine put (t := ⟨4,signM (c :: r),0⟩) hx02 hab2 hbb2 rfl fun w4 hx4 ha4 hb4 => ?_
     rw [fld_ptr,ld_one]
     refine ⟨str (signM (c :: r)),by rw [add_mk,cell_eq,hb4]; rfl,?_⟩
     rw [lens_str,bin_eql,condW_dec]
     subst ho
     refine ⟨fun h => ?_,fun h => ?_⟩
     · exact ⟨by rw [if_pos (by omega)],hx4,ha4,hb4⟩
     · exact ⟨by rw [if_neg (by omega)],hx4,ha4,hb4⟩
 rintro st g w3 ⟨rfl,hx3,ha3,hb3⟩
 refine ld_all hb3 rfl ?_
 refine st_agg_at (l := tokc o.1) ha3 rfl rfl rfl fun w4 hz4 ha4 hc4 => ?_
 refine ld_all ha4 rfl ?_
 exact hK w4 (hx3.new hc4 (by omega))
end
end Go.Proofs.YtofhaneggcpdaaaDoor
namespace Go.Proofs.YtofhaneggcpdaaaDoor
open Go Go.Eng Go.RowKit Go.Syn Go.Lex
set_option maxRecDepth 100000
theorem utf_at {s : Str} {k : Nat} (h : Utf s) (hc : ∀ c,(s.drop k).head? = some c → c.toNat < 128) : Utf (s.drop k) := by
 cases hd : s.drop k with
 | nil => exact .nil
 | cons c b => exact (utf_drop h hd (hc c (by rw [hd]; rfl))).2
theorem utf_past {s : Str} {k : Nat} {c : UInt8} (h : Utf s) (hk : s[k]? = some c) (hc : c.toNat < 128) : Utf (s.drop (k + 1)) := by
 obtain ⟨hlt,e⟩ := List.getElem?_eq_some_iff.1 hk
 have hd := drop_len hlt
 rw [e] at hd
 exact utf_cons (utf_drop h hd hc).2 hc
theorem run_stop (q : UInt8 → Bool) : ∀ (s : Str) (b : UInt8),(s.drop (runM q s)).head? = some b → q b = false
 | [],b,h => by simp [runM] at h
 | c :: r,b,h => by
   simp only [runM] at h
   by_cases hc : q c = true
   · rw [if_pos hc,List.drop_succ_cons] at h; exact run_stop q r b h
   · rw [if_neg hc] at h
     simp only [List.drop_zero,List.head?_cons,Option.some.injEq] at h
     rw [← h]; simpa using hc
theorem run_last (q : UInt8 → Bool) : ∀ (s : Str) (k : Nat),runM q s = k + 1 → ∃ c,s[k]? = some c ∧ q c = true
 | [],k,h => by simp [runM] at h
 | c :: r,k,h => by
   simp only [runM] at h
   by_cases hc : q c = true
   · rw [if_pos hc] at h
     cases k with
     | zero => exact ⟨c,rfl,hc⟩
     | succ k =>
       obtain ⟨x,h1,h2⟩ := run_last q r k (by omega)
       exact ⟨x,by simpa using h1,h2⟩
   · rw [if_neg hc] at h; omega
theorem idx_end : ∀ (s : Str) (i : Nat),Lib.index s [42,47] = (i : Int) → s[i + 1]? = some 47
 | [],i,h => by
   unfold Lib.index at h
   simp at h
 | b :: l,i,h => by
   unfold Lib.index at h
   split at h
   · rename_i hp
     have hi : i = 0 := by omega
     subst hi
     cases l with
     | nil => simp [List.isPrefixOf] at hp
     | cons c l =>
       simp only [List.isPrefixOf,Bool.and_eq_true,beq_iff_eq,Bool.and_true] at hp
       simp [hp.2]
   · split at h
     · omega
     · rename_i hq
       have h1 : Lib.index l [42,47] ≠ -1 := by simpa using hq
       have hg := Lib.index_ge l [42,47]
       have := idx_end l (i - 1) (by omega)
       have hi : 1 ≤ i := by omega
       rw [show i - 1 + 1 = i by omega] at this
       simpa using this
theorem utf_line2 {s : Str} (h : Utf s) : Utf (s.drop (runM (fun b => b != 10) s)) :=
 utf_at h fun c hc => by
   have := run_stop _ _ _ hc
   have : c = 10 := by simpa using this
   subst this; decide
theorem skip_utf : ∀ (n : Nat) (s : Str),Utf s → Utf (s.drop (skipF n s).1)
 | 0,s,h => by simpa [skipF] using h
 | n + 1,[],h => by simpa [skipF] using h
 | n + 1,c :: r,h => by
   rw [skip_step]
   split
   · rename_i hb
     have hc : c.toNat < 128 := by
       simp only [Bool.or_eq_true,beq_iff_eq] at hb
       rcases hb with (rfl | rfl) | rfl <;> decide
     rw [List.drop_succ_cons]
     exact skip_utf n r (utf_cons h hc)
   split
   · have := skip_utf n _ (utf_line2 h)
     rw [drop_drop'] at this
     rw [Nat.add_comm]; exact this
   split
   · rename_i hp
     split
     · simpa using h
     · rename_i hn
       obtain ⟨j,hj⟩ := Int.eq_ofNat_of_zero_le (show 0 ≤ Lib.index (r.drop 1) [42,47] by omega)
       have he := idx_end _ _ hj
       have hu : Utf ((c :: r).drop ((Lib.index (r.drop 1) [42,47]).toNat + 4)) := by
         rw [hj,Int.toNat_natCast]
         refine utf_past (k := j + 3) (c := 47) h ?_ (by decide)
         rw [List.getElem?_drop] at he
         rw [List.getElem?_cons_succ,← he]
         congr 1; omega
       have := skip_utf n _ hu
       rw [drop_drop'] at this
       rw [Nat.add_comm]; exact this
   · simpa using h
theorem hereF_stop : ∀ (n : Nat) (name s : Str) (c : UInt8),(hereF n name s).2.2 = 0 → (s.drop (hereF n name s).2.1).head? = some c → c = 10
 | 0,_,_,_,h,_ => by simp [hereF] at h
 | n + 1,name,s,c,h,hc => by
   rw [here_step] at h hc
   split at h
   · rename_i h1
     rw [if_pos h1] at hc
     have := run_stop _ _ _ hc
     simpa using this
   rename_i h1
   rw [if_neg h1] at hc
   split at h
   · cases h
   rename_i h2
   rw [if_neg h2] at hc
   split at h
   · rename_i h3
     rw [if_pos h3] at hc
     refine hereF_stop n name _ c h3 ?_
     rw [drop_drop']
     rw [show runM (fun b => b != 10) s + 1 + (hereF n name (s.drop (runM (fun b => b != 10) s + 1))).2.1 = (hereF n name (s.drop (runM (fun b => b != 10) s + 1))).2.1 + (runM (fun b => b != 10) s + 1) by omega]
     exact hc
   · rename_i h3; exact absurd h h3
theorem heredoc_stop {s : Str} {c : UInt8} (h : (heredocM s).2.2 = 0) (hc : (s.drop (heredocM s).2.1).head? = some c) : c = 10 := by
 unfold heredocM at h hc
 simp only at h hc
 generalize (if isLetter ((s.drop 2).headD 0) = true then runM isName (s.drop 2) else 0) = n at h hc
 split at h
 · cases h
 rename_i h1
 rw [if_neg h1] at hc
 split at h
 · rename_i h2
   rw [if_pos h2] at hc
   split at h
   · rename_i h3
     rw [if_pos h3] at hc
     refine hereF_stop _ _ _ c h3 ?_
     rw [drop_drop',Nat.add_comm]
     exact hc
   · rename_i h3; exact absurd h h3
 · cases h
theorem name_low {c : UInt8} (h : isName c = true) : c.toNat < 128 := by
 have : ∀ m : Fin 256,isName (UInt8.ofNat m.val) = true → (UInt8.ofNat m.val).toNat < 128 := by decide +kernel
 have h' := this ⟨c.toNat,UInt8.toNat_lt c⟩
 rw [UInt8.ofNat_toNat] at h'
 exact h' h
theorem digit_low {c : UInt8} (h : isDigit c = true) : c.toNat < 128 := name_low (by unfold isName; rw [h]; simp)
theorem sign_low {c : UInt8} (h : signs1.contains c = true) : c.toNat < 128 := by
 have : ∀ m : Fin 256,signs1.contains (UInt8.ofNat m.val) = true → (UInt8.ofNat m.val).toNat < 128 := by decide +kernel
 have h' := this ⟨c.toNat,UInt8.toNat_lt c⟩
 rw [UInt8.ofNat_toNat] at h'
 exact h' h
theorem sign2_low {x : Str} (h : signs2.contains x = true) : x.length = 2 ∧ ∃ c,x[1]? = some c ∧ c.toNat < 128 := by
 have : x ∈ signs2 := by simpa using h
 simp only [signs2,List.mem_cons,List.not_mem_nil,or_false] at this
 rcases this with rfl | rfl | rfl | rfl | rfl | rfl <;> exact ⟨rfl,_,rfl,by decide⟩
theorem one_utf {c : UInt8} {r : Str} (h : Utf (c :: r)) (h0 : (oneM (c :: r)).2.2 = 0) : Utf ((c :: r).drop (oneM (c :: r)).2.1) := by
 have run : ∀ q : UInt8 → Bool,(∀ c,q c = true → c.toNat < 128) → Utf ((c :: r).drop (runM q (c :: r))) := fun q hq => by
   cases hk : runM q (c :: r) with
   | zero => exact h
   | succ k =>
     obtain ⟨x,h1,h2⟩ := run_last q _ _ hk
     exact utf_past h h1 (hq x h2)
 rw [one_cons] at h0 ⊢
 split
 · rename_i e
   have e : c = 10 := by simpa using e
   exact utf_cons h (by rw [e]; decide)
 rename_i n1
 rw [if_neg n1] at h0
 split
 · exact run _ fun c => name_low
 rename_i n2
 rw [if_neg n2] at h0
 split
 · exact run _ fun c => digit_low
 rename_i n3
 rw [if_neg n3] at h0
 split
 · rename_i e
   rw [if_pos e] at h0
   split
   · rename_i h1
     rw [textF_x (by simp only [List.length_cons]; omega)] at h1 ⊢
     have hf := textX_fits h1
     have he := text_end _ r 0 _ (Nat.le_refl _) (Prod.ext rfl h1 : textX r 0 = ((textX r 0).1,0))
     refine utf_past (c := 34) h ?_ (by decide)
     rw [show (textX r 0).1 = (textX r 0).1 - 1 + 1 by omega,List.getElem?_cons_succ]
     exact he
   · rename_i h1
     rw [if_neg h1] at h0
     exact absurd h0 h1
 rename_i n4
 rw [if_neg n4] at h0
 split
 · rename_i h1
   rw [if_pos h1] at h0
   exact utf_at h fun x hx => by rw [heredoc_stop h0 hx]; decide
 rename_i n5
 rw [if_neg n5] at h0
 show Utf ((c :: r).drop (signM (c :: r)).length)
 unfold signM
 split
 · rename_i h1
   obtain ⟨e1,x,e2,e3⟩ := sign2_low h1
   rw [e1]
   refine utf_past (k := 1) (c := x) h ?_ e3
   rw [← e2,List.getElem?_take_of_lt (by omega)]
 split
 · rename_i h1
   exact utf_cons h (sign_low h1)
 · exact h
theorem badF_utf {s : Str} : ∀ (n i : Nat),s.length < n + i → badF n s i = none → Utf (s.drop i)
 | 0,i,hl,_ => by rw [List.drop_of_length_le (by omega)]; exact .nil
 | n + 1,i,hl,h => by
   rw [badF] at h
   split at h
   · rename_i hi; rw [List.drop_of_length_le hi]; exact .nil
   split at h
   · cases h
   · rename_i hi h0
     have hs : stepM s i = runeM s i := by unfold stepM; omega
     rw [hs] at h
     have := Utf.cons (Rn.of h0) (badF_utf n (i + runeM s i) (by omega) h)
     rwa [← List.drop_drop,List.take_append_drop] at this
theorem bad_pref {s : Str} {i : Nat} (h : runeM s i = 0) : Lib.hasPrefix (s.drop i) [239,191,189] = false := by
 rw [Bool.eq_false_iff]
 intro hp
 obtain ⟨r,hr⟩ := List.isPrefixOf_iff_prefix.1 hp
 have hn : Rn [239,191,189] := ⟨by decide,by decide⟩
 have := hn.at hr.symm
 rw [h] at this
 cases this
theorem good_pref {s : Str} {i n : Nat} (h : RuneAt s i n 65533) : Lib.hasPrefix (s.drop i) [239,191,189] = true := by
 have hb := h.bytes
 refine List.isPrefixOf_iff_prefix.2 ?_
 have e : Lib.encodeRune ((65533 : Nat) : Int) = [239,191,189] := by decide
 rw [e] at hb
 rw [hb]
 exact List.take_prefix _ _
end Go.Proofs.YtofhaneggcpdaaaDoor

namespace Go.Proofs.YtofhaneggcpdaaaDoor
open Go Go.Eng Go.RowKit Go.Syn Go.Lex
set_option maxRecDepth 100000
theorem scan_step (n : Nat) (s : Str) (at_ cnt : Nat) : scanF (n + 1) s at_ cnt = (if (skipF (s.length + 1) s).2 ≠ 0 then .bad (skipF (s.length + 1) s).2 ((at_ + (skipF (s.length + 1) s).1 : Nat) : Int)
   else if s.drop (skipF (s.length + 1) s).1 = [] then .ok [⟨0,[],((at_ + (skipF (s.length + 1) s).1 : Nat) : Int)⟩]
   else if (oneM (s.drop (skipF (s.length + 1) s).1)).2.2 ≠ 0 then .bad (oneM (s.drop (skipF (s.length + 1) s).1)).2.2 ((at_ + (skipF (s.length + 1) s).1 : Nat) : Int)
   else if cnt = 4096 then .bad 3 ((at_ + (skipF (s.length + 1) s).1 : Nat) : Int)
   else match scanF n ((s.drop (skipF (s.length + 1) s).1).drop (oneM (s.drop (skipF (s.length + 1) s).1)).2.1) (at_ + (skipF (s.length + 1) s).1 + (oneM (s.drop (skipF (s.length + 1) s).1)).2.1) (cnt + 1) with
       | .ok l => .ok (⟨(oneM (s.drop (skipF (s.length + 1) s).1)).1.k,(oneM (s.drop (skipF (s.length + 1) s).1)).1.t,((at_ + (skipF (s.length + 1) s).1 : Nat) : Int)⟩ :: l)
       | x => x) := rfl
theorem badF_of : ∀ {t : Str},Utf t → ∀ {s : Str} {n i : Nat},s.drop i = t → badF n s i = none := by
 intro t h
 induction h with
 | nil =>
   intro s n i hs
   have hl := List.drop_eq_nil_iff.1 hs
   cases n with
   | zero => rfl
   | succ n => rw [badF,if_pos hl]
 | @cons u r hu hr ih =>
   intro s n i hs
   have hat := hu.at hs
   have hp := hu.pos
   cases n with
   | zero => rfl
   | succ n =>
     rw [badF]
     split
     · rfl
     · rw [if_neg (by omega)]
       refine ih ?_
       rw [show stepM s i = u.length by unfold stepM; omega]
       exact drop_app hs
end Go.Proofs.YtofhaneggcpdaaaDoor
namespace Go.Proofs.YtofhaneggcpdaaaDoor
open Go Go.Eng Go.Lex
def WL : List Str := [[32],[10],[40],[41],[91],[93],[123],[125],[61],[44],[45],[46],[97],[120],[49],[50],[98],[99],[100],[101],[102],[103],[122],
 [124,124],[38,38],[61,61],[33,61],[60],[62],[60,61],[62,61],[43],[42],[47],[37]]
def kW (w : Str) : Int := (oneM w).1.k
def okC (w v : Str) : Bool := w == [32] || w == [10] || w == [40] || v == [32] || v == [10]
def tkW : Nat → List Str → List Tok
 | _,[] => []
 | at_,w :: ws => if w = [32] then tkW (at_ + 1) ws else ⟨kW w,w,(at_ : Nat)⟩ :: tkW (at_ + w.length) ws
theorem tkW_app : ∀ (u v : List Str) (at_ : Nat),tkW at_ (u ++ v) = tkW at_ u ++ tkW (at_ + u.flatten.length) v
 | [],v,at_ => by simp [tkW]
 | w :: u,v,at_ => by
   rw [List.cons_append]
   simp only [tkW,List.flatten_cons,List.length_append]
   by_cases h : w = [32]
   · rw [if_pos h,if_pos h,tkW_app u v,h]
     simp only [List.length_cons,List.length_nil]
     rw [Nat.add_assoc,Nat.zero_add]
   · rw [if_neg h,if_neg h,tkW_app u v,List.cons_append,Nat.add_assoc]
theorem tkW_mv : ∀ (u : List Str) (at_ b : Nat),tkW (at_ + b) u = (tkW at_ u).map fun t => ⟨t.k,t.t,t.a + (b : Nat)⟩
 | [],_,_ => rfl
 | w :: u,at_,b => by
   simp only [tkW]
   by_cases h : w = [32]
   · rw [if_pos h,if_pos h,show at_ + b + 1 = at_ + 1 + b by omega,tkW_mv u]
   · rw [if_neg h,if_neg h,show at_ + b + w.length = at_ + w.length + b by omega,tkW_mv u]
     simp
theorem tkW_len : ∀ (u : List Str) (at_ : Nat),(tkW at_ u).length ≤ u.length
 | [],_ => Nat.le_refl _
 | w :: u,at_ => by
   simp only [tkW]
   split
   · have := tkW_len u (at_ + 1); simp only [List.length_cons]; omega
   · have := tkW_len u (at_ + w.length); simp only [List.length_cons]; omega
theorem scan_blank (n : Nat) (s : Str) (at_ cnt : Nat) : scanF n (32 :: s) at_ cnt = scanF n s (at_ + 1) cnt := by
 cases n with
 | zero => rfl
 | succ n =>
   rw [scan_step,scan_step]
   have e : skipF ((32 :: s).length + 1) (32 :: s) = ((skipF (s.length + 1) s).1 + 1,(skipF (s.length + 1) s).2) := rfl
   rw [e]
   generalize skipF (s.length + 1) s = k
   simp only [List.drop_succ_cons]
   rw [show at_ + (k.1 + 1) = at_ + 1 + k.1 by omega]
theorem word_sep (w : Str) (hw : w ∈ WL) (h0 : w ≠ [32]) (c : UInt8) (hc : c = 32 ∨ c = 10) (r : Str) : oneM (w ++ c :: r) = (⟨kW w,w,0⟩,w.length,0) ∧ ∀ m,skipF (m + 1) (w ++ c :: r) = (0,0) := by
 simp only [WL,List.mem_cons,List.not_mem_nil,or_false] at hw
 rcases hc with rfl | rfl <;> rcases hw with rfl | rfl | rfl | rfl | rfl | rfl | rfl | rfl | rfl | rfl | rfl | rfl | rfl | rfl | rfl | rfl | rfl | rfl | rfl | rfl | rfl | rfl | rfl | rfl | rfl | rfl | rfl | rfl | rfl | rfl | rfl | rfl | rfl | rfl | rfl <;> first
   | exact absurd rfl h0
   | exact ⟨rfl,fun _ => rfl⟩
theorem word_any (w : Str) (hw : w = [10] ∨ w = [40]) (r : Str) : oneM (w ++ r) = (⟨kW w,w,0⟩,w.length,0) ∧ ∀ m,skipF (m + 1) (w ++ r) = (0,0) := by
 rcases hw with rfl | rfl
 · exact ⟨rfl,fun _ => rfl⟩
 · cases r with
   | nil => exact ⟨rfl,fun _ => rfl⟩
   | cons c r => exact ⟨rfl,fun _ => rfl⟩
end Go.Proofs.YtofhaneggcpdaaaDoor
namespace Go.Proofs.YtofhaneggcpdaaaDoor
open Go Go.Eng Go.Lex
def sepW (w : Str) : Bool := w == [32] || w == [10] || w == [40]
def gwB : List Str → Bool
 | [] => false
 | [w] => w == [125]
 | w :: v :: r => WL.contains w && okC w v && gwB (v :: r)
def guB : List Str → Bool
 | [] => true
 | [w] => WL.contains w && sepW w
 | w :: v :: r => WL.contains w && okC w v && guB (v :: r)
theorem gu_app : ∀ {u v : List Str},guB u = true → gwB v = true → gwB (u ++ v) = true
 | [],v,_,h => h
 | [w],[],_,h => by cases h
 | [w],v :: r,hu,h => by
   simp only [guB,Bool.and_eq_true] at hu
   show (WL.contains w && okC w v && gwB (v :: r)) = true
   have : okC w v = true := by
     have := hu.2
     simp only [sepW,okC,Bool.or_eq_true] at this ⊢
     exact .inl (.inl this)
   rw [hu.1,this,h]; rfl
 | w :: x :: u,v,hu,h => by
   simp only [guB,Bool.and_eq_true] at hu
   have := gu_app (u := x :: u) hu.2 h
   show (WL.contains w && okC w x && gwB (x :: u ++ v)) = true
   rw [hu.1.1,hu.1.2,this]; rfl
theorem wl_utf : ∀ w ∈ WL,utfGo w 3 0 = true := by decide
theorem words_utf : ∀ {ws : List Str},gwB ws = true → Utf ws.flatten
 | [],h => by cases h
 | [w],h => by
   simp only [gwB,beq_iff_eq] at h
   subst h
   exact Utf.one ⟨by decide,by decide⟩
 | w :: v :: r,h => by
   simp only [gwB,Bool.and_eq_true] at h
   have hw := wl_utf w (List.contains_iff_mem.1 h.1.1)
   have := utf_of hw
   rw [List.drop_zero] at this
   rw [List.flatten_cons]
   exact this.app (words_utf h.2)
theorem tkW_cons (at_ : Nat) (w : Str) (ws : List Str) : tkW at_ (w :: ws) = if w = [32] then tkW (at_ + 1) ws else ⟨kW w,w,(at_ : Nat)⟩ :: tkW (at_ + w.length) ws := rfl
theorem words_scanF : ∀ (ws : List Str),gwB ws = true → ∀ (n at_ cnt : Nat),ws.flatten.length < n → cnt + (tkW at_ ws).length ≤ 4096 → scanF n ws.flatten at_ cnt = .ok (tkW at_ ws ++ [⟨0,[],((at_ + ws.flatten.length : Nat) : Int)⟩])
 | [],h,_,_,_,_,_ => by cases h
 | [w],h,n,at_,cnt,hn,hc => by
   simp only [gwB,beq_iff_eq] at h
   subst h
   obtain ⟨n,rfl⟩ : ∃ m,n = m + 2 := ⟨n - 2,by simp at hn; omega⟩
   have hc : cnt + 1 ≤ 4096 := hc
   rw [scan_step]
   show (if (0 : Int) ≠ 0 then _ else if ([125] : Str) = [] then _ else if (0 : Int) ≠ 0 then _ else if cnt = 4096 then _ else match scanF (n + 1) [] (at_ + 0 + 1) (cnt + 1) with | .ok l => RS.ok (⟨4,[125],((at_ + 0 : Nat) : Int)⟩ :: l) | x => x) = _
   rw [if_neg (by decide),if_neg (by decide),if_neg (by decide),if_neg (by omega)]
   rfl
 | w :: v :: r,h,n,at_,cnt,hn,hc => by
   simp only [gwB,Bool.and_eq_true] at h
   obtain ⟨⟨h1,h2⟩,h3⟩ := h
   have hw := List.contains_iff_mem.1 h1
   rw [List.flatten_cons] at hn ⊢
   rw [tkW_cons] at hc ⊢
   by_cases hb : w = [32]
   · rw [if_pos hb] at hc ⊢
     subst hb
     rw [List.cons_append,List.nil_append,scan_blank]
     rw [List.length_append] at hn
     have := words_scanF (v :: r) h3 n (at_ + 1) cnt (by omega) hc
     rw [this,List.length_cons,show at_ + ((v :: r).flatten.length + 1) = at_ + 1 + (v :: r).flatten.length by omega]
   · rw [if_neg hb] at hc ⊢
     obtain ⟨n,rfl⟩ : ∃ m,n = m + 1 := ⟨n - 1,by omega⟩
     have hwl : 0 < w.length := by
       have : ∀ w ∈ WL,0 < w.length := by decide
       exact this w hw
     rw [List.length_append] at hn
     obtain ⟨g1,g2⟩ : oneM (w ++ (v :: r).flatten) = (⟨kW w,w,0⟩,w.length,0) ∧ ∀ m,skipF (m + 1) (w ++ (v :: r).flatten) = (0,0) := by
       simp only [okC,Bool.or_eq_true,beq_iff_eq] at h2
       rcases h2 with (((h2 | h2) | h2) | h2) | h2
       · exact absurd h2 hb
       · exact word_any w (.inl h2) _
       · exact word_any w (.inr h2) _
       · rw [h2,List.flatten_cons]; exact word_sep w hw hb 32 (.inl rfl) _
       · rw [h2,List.flatten_cons]; exact word_sep w hw hb 10 (.inr rfl) _
     rw [List.length_cons] at hc
     have ih := words_scanF (v :: r) h3 n (at_ + w.length) (cnt + 1) (by omega) (by omega)
     rw [scan_step,g2,List.drop_zero,g1,if_neg (by decide),if_neg (by intro e; rw [List.append_eq_nil_iff] at e; rw [e.1] at hwl; cases hwl),if_neg (fun e => e rfl),if_neg (by omega)]
     rw [List.drop_left,Nat.add_zero,ih]
     simp only [List.cons_append,List.length_append,Nat.add_assoc]
theorem words_scanM {ws : List Str} (h : gwB ws = true) (hl : ws.flatten.length ≤ 16384) (hn : ws.length ≤ 4096) : scanM ws.flatten = .ok (tkW 0 ws ++ [⟨0,[],(ws.flatten.length : Nat)⟩]) := by
 unfold scanM
 rw [if_neg (by omega),badF_of (words_utf h) (s := ws.flatten) (i := 0) (by rw [List.drop_zero])]
 have := words_scanF ws h (ws.flatten.length + 1) 0 0 (by omega) (by have := tkW_len ws 0; omega)
 simp only
 rw [this,Nat.zero_add]
end Go.Proofs.YtofhaneggcpdaaaDoor
namespace Go.Syn
open Go Go.Eng Go.Lex
structure TR (b : Bool) (o E : Nat) (d : Int) (A A2 : List Tok) : Prop where
 len : A.length = E + 1
 len2 : E + o < A2.length
 tok : ∀ (j : Nat) (t : Tok),j < E → A[j]? = some t → t.k ≠ 0 ∧ ∃ t2,A2[j + o]? = some t2 ∧ t2.k = t.k ∧ t2.t = t.t ∧ t2.a = t.a + d
 eof : ∀ t,A[E]? = some t → t.k = 0
 eof2 : b = true → ∀ t,A[E]? = some t → ∃ t2,A2[E + o]? = some t2 ∧ t2.k = t.k ∧ t2.t = t.t ∧ t2.a = t.a + d
def mvE (n : Nat) (c : Int) (e : Ex) : Ex := ⟨e.k,e.t,e.args.map (· + n),e.keys,e.a + c⟩
def mvA (n : Nat) (c : Int) (x : Atr) : Atr := ⟨x.n,x.e + n,x.a + c⟩
def mvB (n m : Nat) (c : Int) (b : Blk) : Blk := ⟨b.typ,b.labels,b.attrs.map (mvA n c),b.blocks.map (· + m),b.a + c⟩
structure JR (io : Nat) (b : Bool) (c : Int) (pe : List Ex) (pb : List Blk) (s s2 : PS) : Prop where
 tr : ∃ o E d,TR b o E d s.toks s2.toks ∧ s2.i = s.i + o ∧ s.i ≤ E ∧ d + s2.off = c + s.off
 deep : s2.deep = s.deep
 quiet : s2.quiet = s.quiet
 ex : s2.ex = pe ++ s.ex.map (mvE pe.length c)
 bl : s2.bl = pb ++ s.bl.map (mvB pe.length pb.length c)
 len : s.toks.length ≤ s2.toks.length
 io : s2.i = s.i + io
theorem drop_tok {A : List Tok} {i : Nat} (h : i < A.length) : A.drop i = A[i] :: A.drop (i + 1) := List.drop_eq_getElem_cons h
theorem TR.run {b : Bool} {o E : Nat} {d : Int} {A A2 : List Tok} (h : TR b o E d A A2) : ∀ (n i : Nat),i + n = E → i + lineRun (A.drop i) ≤ E ∧ (b = true ∨ i + lineRun (A.drop i) < E → lineRun (A2.drop (i + o)) = lineRun (A.drop i))
 | 0,i,hi => by
   have hlt : i < A.length := by rw [h.len]; omega
   have he := h.eof A[i] (by rw [show E = i by omega]; exact List.getElem?_eq_getElem hlt)
   have e0 : lineRun (A.drop i) = 0 := by
     rw [drop_tok hlt]
     simp only [lineRun,he]
     rw [if_neg (by decide)]
   rw [e0]
   refine ⟨by omega,fun hh => ?_⟩
   rcases hh with hb | hh
   · obtain ⟨t2,g1,g2,_⟩ := h.eof2 hb A[i] (by rw [show E = i by omega]; exact List.getElem?_eq_getElem hlt)
     obtain ⟨hlt2,g1⟩ := List.getElem?_eq_some_iff.1 g1
     rw [show i + o = E + o by omega,drop_tok hlt2]
     simp only [lineRun,g1,g2,he]
     rw [if_neg (by decide)]
   · omega
 | n + 1,i,hi => by
   have hlt : i < A.length := by rw [h.len]; omega
   obtain ⟨_,t2,e1,e2,_,_⟩ := h.tok i A[i] (by omega) (List.getElem?_eq_getElem hlt)
   obtain ⟨hlt2,e1⟩ := List.getElem?_eq_some_iff.1 e1
   have ih := TR.run h n (i + 1) (by omega)
   rw [drop_tok hlt,drop_tok hlt2]
   simp only [lineRun,e1,e2]
   by_cases hk : A[i].k = 5
   · rw [if_pos hk,if_pos hk]
     rw [show i + 1 + o = i + o + 1 by omega] at ih
     exact ⟨by have := ih.1; omega,fun hh => by rw [ih.2 (hh.imp id fun hh => by omega)]⟩
   · rw [if_neg hk,if_neg hk]
     exact ⟨by omega,fun _ => rfl⟩
section
variable {io : Nat} {b : Bool} {c : Int} {pe : List Ex} {pb : List Blk} {s s2 : PS}
theorem nowS_f (s : PS) : (nowS s).toks = s.toks ∧ (nowS s).off = s.off ∧ (nowS s).deep = s.deep ∧ (nowS s).quiet = s.quiet ∧ (nowS s).ex = s.ex ∧ (nowS s).bl = s.bl := by
 unfold nowS; split <;> exact ⟨rfl,rfl,rfl,rfl,rfl,rfl⟩
theorem JR.at_ (h : JR io b c pe pb s s2) {i i2 : Nat} (hi : ∀ o E d,TR b o E d s.toks s2.toks → s2.i = s.i + o → s.i ≤ E → i2 = i + o ∧ i ≤ E) : JR io b c pe pb { s with i := i } { s2 with i := i2 } := by
 obtain ⟨o,E,d,h1,h2,h3,h4⟩ := h.tr
 exact ⟨⟨o,E,d,h1,(hi o E d h1 h2 h3).1,(hi o E d h1 h2 h3).2,h4⟩,h.deep,h.quiet,h.ex,h.bl,h.len,by have := (hi o E d h1 h2 h3).1; have := h.io; show i2 = i + io; omega⟩
theorem nowS_with (s : PS) : nowS s = { s with i := (nowS s).i } := by unfold nowS; split <;> rfl
theorem JR.now (h : JR io b c pe pb s s2) : (b = false ∧ (cur s).k = 0 ∧ (s.quiet = false → JR io b c pe pb (nowS s) (nowS s2))) ∨ (JR io b c pe pb (nowS s) (nowS s2) ∧ (cur s2).k = (cur s).k ∧ (cur s2).t = (cur s).t ∧ (cur s2).a = (cur s).a + c ∧ ((cur s).k ≠ 0 → ∀ o E d,TR b o E d s.toks s2.toks → s2.i = s.i + o → s.i ≤ E → (nowS s).i < E)) := by
 obtain ⟨o,E,d,h1,h2,h3,h4⟩ := h.tr
 have hr := h1.run (E - s.i) s.i (by omega)
 have hnq : s.quiet = false → JR io b c pe pb (nowS s) (nowS s2) := fun hq => by
   unfold nowS
   rw [hq,h.quiet,hq,if_neg (by decide),if_neg (by decide)]
   exact h
 have hE : ∀ o' E' d',TR b o' E' d' s.toks s2.toks → E' = E := fun o' E' d' h' => by have := h'.len; have := h1.len; omega
 have hni : (nowS s).i ≤ E := by unfold nowS; split; exact hr.1; exact h3
 have hl : (nowS s).i < s.toks.length := by rw [h1.len]; omega
 have c1 : tokI (nowS s) = s.toks[(nowS s).i] := by
   unfold tokI; rw [(nowS_f s).1,List.getD_eq_getElem?_getD,List.getElem?_eq_getElem hl]; rfl
 have hend : ¬ (nowS s).i < E → (cur s).k = 0 := fun hlt => by
   have hi : (nowS s).i = E := by omega
   have hlE : E < s.toks.length := by rw [h1.len]; omega
   have he := h1.eof _ (List.getElem?_eq_getElem hlE)
   unfold cur tokI
   rw [(nowS_f s).1,hi,List.getD_eq_getElem?_getD,List.getElem?_eq_getElem hlE]
   exact he
 by_cases hlt : b = true ∨ (nowS s).i < E
 · have hn2 : (nowS s2).i = (nowS s).i + o := by
     unfold nowS at hlt ⊢
     rw [h.quiet]
     by_cases hq : s.quiet = true
     · rw [if_pos hq] at hlt
       rw [if_pos hq,if_pos hq]
       simp only at hlt ⊢
       rw [h2,hr.2 hlt]; omega
     · rw [if_neg hq,if_neg hq]; exact h2
   have hJ : JR io b c pe pb (nowS s) (nowS s2) := by
     rw [nowS_with s,nowS_with s2]
     refine h.at_ fun o' E' d' h' g2 g3 => ⟨?_,by have := hE o' E' d' h'; omega⟩
     rw [hn2]; omega
   obtain ⟨t2,k2,k3,k4,k5⟩ : ∃ t2,s2.toks[(nowS s).i + o]? = some t2 ∧ t2.k = s.toks[(nowS s).i].k ∧ t2.t = s.toks[(nowS s).i].t ∧ t2.a = s.toks[(nowS s).i].a + d := by
     by_cases hl2 : (nowS s).i < E
     · exact (h1.tok (nowS s).i s.toks[(nowS s).i] hl2 (List.getElem?_eq_getElem hl)).2
     · have hi : (nowS s).i = E := by omega
       have := h1.eof2 (hlt.resolve_right hl2) s.toks[(nowS s).i] (by rw [← hi]; exact List.getElem?_eq_getElem hl)
       rw [← hi] at this
       exact this
   have c2 : tokI (nowS s2) = t2 := by
     unfold tokI; rw [(nowS_f s2).1,hn2,List.getD_eq_getElem?_getD,k2]; rfl
   refine .inr ⟨hJ,?_,?_,?_,fun hk o' E' d' h' _ _ => ?_⟩
   · unfold cur; rw [c1,c2]; exact k3
   · unfold cur; rw [c1,c2]; exact k4
   · unfold cur; rw [c1,c2]
     show t2.a + s2.off = s.toks[(nowS s).i].a + s.off + c
     omega
   · have := hE o' E' d' h'
     by_cases hl2 : (nowS s).i < E
     · omega
     · exact absurd (hend hl2) hk
 · have hb : b = false := by
     cases b with
     | false => rfl
     | true => exact absurd (.inl rfl) hlt
   exact .inl ⟨hb,hend fun hh => hlt (.inr hh),hnq⟩
theorem JR.step (h : JR io b c pe pb s s2) (hk : (cur s).k ≠ 0) : JR io b c pe pb (step1 (nowS s)) (step1 (nowS s2)) := by
 rcases h.now with ⟨_,h0,_⟩ | ⟨hJ,_,_,_,hlt⟩
 · exact absurd h0 hk
 · refine hJ.at_ fun o E d h1 h2 h3 => ?_
   obtain ⟨o',E',d',g1,g2,g3,_⟩ := h.tr
   have hl := hlt hk o' E' d' g1 g2 g3
   have e1 : E = E' := by have := h1.len; rw [(nowS_f s).1] at this; have := g1.len; omega
   exact ⟨by omega,by omega⟩
theorem JR.cur (h : JR io b c pe pb s s2) (hk : b = true ∨ (cur s).k ≠ 0) : JR io b c pe pb (nowS s) (nowS s2) ∧ (Syn.cur s2).k = (cur s).k ∧ (Syn.cur s2).t = (cur s).t ∧ (Syn.cur s2).a = (cur s).a + c := by
 rcases h.now with ⟨h0,h1,_⟩ | ⟨hJ,e1,e2,e3,_⟩
 · rcases hk with hk | hk
   · rw [h0] at hk; cases hk
   · exact absurd h1 hk
 · exact ⟨hJ,e1,e2,e3⟩
theorem JR.isS (h : JR io b c pe pb s s2) (w : Str) (hk : b = true ∨ (Syn.cur s).k ≠ 0) : isS s2 w = isS s w := by
 obtain ⟨_,e1,e2,_⟩ := h.cur hk
 unfold Syn.isS; rw [e1,e2]
theorem isS_k {w : Str} (h : isS s w = true) : (cur s).k ≠ 0 := by
 unfold isS at h
 simp only [Bool.and_eq_true,decide_eq_true_iff] at h
 omega
theorem JR.take (h : JR io b c pe pb s s2) (w : Str) : (b = false ∧ (Syn.cur s).k = 0 ∧ (takeS s w).1 = false) ∨ ((takeS s2 w).1 = (takeS s w).1 ∧ JR io b c pe pb (takeS s w).2 (takeS s2 w).2) := by
 by_cases hk : b = true ∨ (Syn.cur s).k ≠ 0
 · have e := h.isS w hk
   refine .inr ?_
   unfold takeS
   rw [e]
   by_cases hi : Syn.isS s w = true
   · rw [if_pos hi,if_pos hi]; exact ⟨rfl,h.step (isS_k hi)⟩
   · rw [if_neg hi,if_neg hi]
     exact ⟨rfl,(h.cur hk).1⟩
 · have h1 : b = false := by
     cases b with
     | false => rfl
     | true => exact absurd (.inl rfl) hk
   have h2 : (Syn.cur s).k = 0 := by
     by_cases h0 : (Syn.cur s).k = 0
     · exact h0
     · exact absurd (.inr h0) hk
   refine .inl ⟨h1,h2,?_⟩
   unfold takeS
   rw [if_neg fun hh => isS_k hh h2]
theorem JR.want (h : JR io b c pe pb s s2) {w : Str} {s' : PS} (e : wantR s w = .ok () s') : ∃ s2',wantR s2 w = .ok () s2' ∧ JR io b c pe pb s' s2' := by
 unfold wantR at e ⊢
 split at e
 · rename_i hi
   injection e with _ e
   have hk := isS_k hi
   rw [h.isS w (.inr hk),if_pos hi]
   exact ⟨_,rfl,e ▸ h.step hk⟩
 · cases e
theorem JR.kind (h : JR io b c pe pb s s2) {k : Int} (hk : b = true ∨ k ≠ 0) {t : Tok} {s' : PS} (e : kindR s k = .ok t s') : ∃ s2',kindR s2 k = .ok ⟨t.k,t.t,t.a + c⟩ s2' ∧ JR io b c pe pb s' s2' := by
 unfold kindR at e ⊢
 split at e
 · rename_i hi
   injection e with e1 e2
   have hk0 : b = true ∨ (Syn.cur s).k ≠ 0 := hk.imp id fun hk => by omega
   obtain ⟨hJ,g1,g2,g3⟩ := h.cur hk0
   rw [if_pos (by rw [g1]; exact hi)]
   refine ⟨nextS s2,?_,?_⟩
   · rw [← e1,← g1,← g2,← g3]
   · rw [← e2]
     unfold nextS
     by_cases h0 : (Syn.cur s).k ≠ 0
     · rw [if_pos h0,if_pos (by rw [g1]; exact h0)]; exact h.step h0
     · rw [if_neg h0,if_neg (by rw [g1]; exact h0)]; exact hJ
 · cases e
theorem JR.put (h : JR io b c pe pb s s2) (e : Ex) : JR io b c pe pb { s with ex := s.ex ++ [e] } { s2 with ex := s2.ex ++ [mvE pe.length c e] } ∧ s2.ex.length = s.ex.length + pe.length :=
 ⟨⟨h.tr,h.deep,h.quiet,by rw [h.ex]; simp,h.bl,h.len,h.io⟩,by rw [h.ex]; simp; omega⟩
end
end Go.Syn
namespace Go.Syn
open Go Go.Eng Go.Lex
def atEnd (s : PS) : Prop := (cur { s with quiet := true }).k = 0
theorem cur_q {s : PS} (h : s.quiet = true) : { s with quiet := true } = s := by rw [← h]
theorem atEnd_of {s : PS} (h : (cur s).k = 0) : atEnd s := by
 unfold atEnd
 by_cases hq : s.quiet = true
 · rw [cur_q hq]; exact h
 · have h1 : nowS s = s := by unfold nowS; rw [if_neg hq]
   have h0 : (tokI s).k = 0 := by unfold cur at h; rw [h1] at h; exact h
   have hr : lineRun (s.toks.drop s.i) = 0 := by
     by_cases hl : s.i < s.toks.length
     · rw [drop_tok hl]
       have e : tokI s = s.toks[s.i] := by unfold tokI; rw [List.getD_eq_getElem?_getD,List.getElem?_eq_getElem hl]; rfl
       rw [e] at h0
       simp only [lineRun,h0]
       rw [if_neg (by decide)]
     · rw [List.drop_of_length_le (by omega)]; rfl
   unfold cur nowS
   simp only [if_true]
   unfold tokI
   simp only [hr,Nat.add_zero]
   exact h0
theorem atEnd_k {s : PS} (h : atEnd s) : (cur s).k = 0 ∨ (cur s).k = 5 := by
 unfold atEnd at h
 by_cases hq : s.quiet = true
 · rw [cur_q hq] at h; exact .inl h
 · by_cases h5 : (cur s).k = 5
   · exact .inr h5
   · left
     have h1 : nowS s = s := by unfold nowS; rw [if_neg hq]
     have hc : (cur s).k = (tokI s).k := by unfold cur; rw [h1]
     rw [hc] at h5 ⊢
     have hr : lineRun (s.toks.drop s.i) = 0 := by
       by_cases hl : s.i < s.toks.length
       · rw [drop_tok hl]
         have e : tokI s = s.toks[s.i] := by unfold tokI; rw [List.getD_eq_getElem?_getD,List.getElem?_eq_getElem hl]; rfl
         rw [e] at h5
         simp only [lineRun]
         rw [if_neg h5]
       · rw [List.drop_of_length_le (by omega)]; rfl
     unfold cur nowS at h
     simp only [if_true] at h
     unfold tokI at h
     simp only [hr,Nat.add_zero] at h
     exact h
theorem atEnd_sign {s : PS} (h : atEnd s) (w : Str) : isS s w = false := by
 rw [Bool.eq_false_iff]
 intro hh
 unfold isS at hh
 simp only [Bool.and_eq_true,decide_eq_true_iff] at hh
 rcases atEnd_k h with e | e <;> omega
theorem atEnd_now {s : PS} (h : atEnd s) : atEnd (nowS s) := by
 unfold atEnd at h ⊢
 by_cases hq : s.quiet = true
 · rw [cur_q hq] at h
   rw [cur_q ((nowS_f s).2.2.2.1.trans hq),cur_now]
   exact h
 · have h1 : nowS s = s := by unfold nowS; rw [if_neg hq]
   rw [h1]; exact h
theorem atEnd_take {s : PS} (h : atEnd s) (w : Str) : (takeS s w).1 = false ∧ atEnd (takeS s w).2 := by
 unfold takeS
 rw [atEnd_sign h w,if_neg (by decide)]
 exact ⟨rfl,atEnd_now h⟩
theorem atEnd_want {s : PS} (h : atEnd s) (w : Str) (s' : PS) : wantR s w ≠ .ok () s' := by
 unfold wantR
 rw [atEnd_sign h w,if_neg (by decide)]
 intro e; cases e
variable {α β : Type} {io : Nat} {b : Bool} {c : Int} {pe : List Ex} {pb : List Blk}
def Sm (io : Nat) (b : Bool) (c : Int) (pe : List Ex) (pb : List Blk) (mv : α → α) (r r2 : R α) : Prop := ∀ x s',r = .ok x s' → (∃ s2',r2 = .ok (mv x) s2' ∧ JR io b c pe pb s' s2') ∨ (b = false ∧ atEnd s')
def Sc (io : Nat) (b : Bool) (c : Int) (pe : List Ex) (pb : List Blk) (mv : α → α) (r r2 : R α) : Prop := ∀ x s',r = .ok x s' → ∃ s2',r2 = .ok (mv x) s2' ∧ JR io b c pe pb s' s2'
theorem Sc.sm {mv : α → α} {r r2 : R α} (h : Sc io b c pe pb mv r r2) : Sm io b c pe pb mv r r2 := fun x s' e => .inl (h x s' e)
theorem bind_ok {r : R α} {f : α → PS → R β} {y : β} {s' : PS} (h : r.bind f = .ok y s') : ∃ x s1,r = .ok x s1 ∧ f x s1 = .ok y s' := by
 cases r with
 | ok x s1 => exact ⟨x,s1,rfl,h⟩
 | err a e => cases h
theorem Sm.bind {mv : α → α} {mv' : β → β} {r r2 : R α} {f f2 : α → PS → R β} (h : Sm io b c pe pb mv r r2) (hf : ∀ x s s2,r = .ok x s → JR io b c pe pb s s2 → Sm io b c pe pb mv' (f x s) (f2 (mv x) s2))
   (hst : b = false → ∀ x s,atEnd s → ∀ y s',f x s = .ok y s' → atEnd s') : Sm io b c pe pb mv' (r.bind f) (r2.bind f2) := by
 intro y s' e
 obtain ⟨x,s1,e1,e2⟩ := bind_ok e
 rcases h x s1 e1 with ⟨s2,g1,g2⟩ | ⟨hb,ha⟩
 · rw [g1]
   exact hf x s1 s2 e1 g2 y s' e2
 · exact .inr ⟨hb,hst hb x s1 ha y s' e2⟩
theorem Sc.bind {mv : α → α} {mv' : β → β} {r r2 : R α} {f f2 : α → PS → R β} (h : Sc io b c pe pb mv r r2) (hf : ∀ x s s2,r = .ok x s → JR io b c pe pb s s2 → Sm io b c pe pb mv' (f x s) (f2 (mv x) s2)) : Sm io b c pe pb mv' (r.bind f) (r2.bind f2) := by
 intro y s' e
 obtain ⟨x,s1,e1,e2⟩ := bind_ok e
 obtain ⟨s2,g1,g2⟩ := h x s1 e1
 rw [g1]
 exact hf x s1 s2 e1 g2 y s' e2
theorem Sc.bindc {mv : α → α} {mv' : β → β} {r r2 : R α} {f f2 : α → PS → R β} (h : Sc io b c pe pb mv r r2) (hf : ∀ x s s2,r = .ok x s → JR io b c pe pb s s2 → Sc io b c pe pb mv' (f x s) (f2 (mv x) s2)) : Sc io b c pe pb mv' (r.bind f) (r2.bind f2) := by
 intro y s' e
 obtain ⟨x,s1,e1,e2⟩ := bind_ok e
 obtain ⟨s2,g1,g2⟩ := h x s1 e1
 rw [g1]
 exact hf x s1 s2 e1 g2 y s' e2
theorem Sm.bindc {mv : α → α} {mv' : β → β} {r r2 : R α} {f f2 : α → PS → R β} (h : Sm io b c pe pb mv r r2) (hf : ∀ x s s2,r = .ok x s → JR io b c pe pb s s2 → Sc io b c pe pb mv' (f x s) (f2 (mv x) s2))
   (hno : b = false → ∀ x s,atEnd s → ∀ y s',f x s ≠ .ok y s') : Sc io b c pe pb mv' (r.bind f) (r2.bind f2) := by
 intro y s' e
 obtain ⟨x,s1,e1,e2⟩ := bind_ok e
 rcases h x s1 e1 with ⟨s2,g1,g2⟩ | ⟨hb,ha⟩
 · rw [g1]
   exact hf x s1 s2 e1 g2 y s' e2
 · exact absurd e2 (hno hb x s1 ha y s')
structure SimE (F : PS → R Nat) : Prop where
 go : ∀ io b c pe pb s s2,JR io b c pe pb s s2 → Sm io b c pe pb (· + pe.length) (F s) (F s2)
 no : ∀ s,atEnd s → ∀ x s',F s ≠ .ok x s'
theorem dead_sim : SimE dead := ⟨fun _ _ _ _ _ _ _ _ x s' e => (by cases e),fun _ _ x s' e => (by cases e)⟩
variable {s s2 : PS}
theorem JR.frame (h : JR io b c pe pb s s2) (d : Nat) (q : Bool) : JR io b c pe pb { s with deep := d,quiet := q } { s2 with deep := d,quiet := q } := ⟨h.tr,rfl,rfl,h.ex,h.bl,h.len,h.io⟩
theorem JR.want_sc (h : JR io b c pe pb s s2) (w : Str) : Sc io b c pe pb id (wantR s w) (wantR s2 w) := fun _ _ e => h.want e
theorem JR.kind_sc (h : JR io b c pe pb s s2) {k : Int} (hk : b = true ∨ k ≠ 0) : Sc io b c pe pb (fun t => ⟨t.k,t.t,t.a + c⟩) (kindR s k) (kindR s2 k) := fun _ _ e => h.kind hk e
theorem JR.put_sc (h : JR io b c pe pb s s2) (e : Ex) : Sc io b c pe pb (· + pe.length) (putR s e) (putR s2 (mvE pe.length c e)) := fun x s' g => by
 injection g with g1 g2
 obtain ⟨p1,p2⟩ := h.put e
 exact ⟨_,by unfold putR; rw [p2,← g1],g2 ▸ p1⟩
theorem within_sc {mv : α → α} {f f2 : PS → R α} {a a2 : Int} {q : Bool} (h : JR io b c pe pb s s2) (hf : ∀ s s2,JR io b c pe pb s s2 → Sc io b c pe pb mv (f s) (f2 s2)) : Sc io b c pe pb mv (within s a q f) (within s2 a2 q f2) := by
 unfold within
 rw [h.deep,h.quiet]
 split
 · intro x s' e; cases e
 · refine (hf _ _ (h.frame _ _)).bindc fun x s1 s3 _ g => ?_
   intro y s' e
   injection e with e1 e2
   exact ⟨_,by rw [← e1],e2 ▸ g.frame _ _⟩
end Go.Syn
namespace Go.Syn
open Go Go.Eng Go.Lex
theorem scan_kinds : ∀ (n : Nat) (s : Str) (a cnt : Nat) (l : List Tok),scanF n s a cnt = .ok l → ∃ ini p,l = ini ++ [⟨0,[],p⟩] ∧ ∀ t ∈ ini,t.k ≠ 0
 | 0,_,_,_,_,h => by simp [scanF] at h
 | n + 1,s,a,cnt,l,h => by
   simp only [scanF] at h
   generalize skipF (s.length + 1) s = k at *
   split at h
   · cases h
   split at h
   · injection h with h
     subst h
     exact ⟨[],_,rfl,fun t ht => by cases ht⟩
   rename_i h2
   have hok := @one_ok (s.drop k.1)
   generalize oneM (s.drop k.1) = o at *
   split at h
   · cases h
   rename_i h3
   have h3 : o.2.2 = 0 := by simpa using h3
   obtain ⟨_,_,hk,_⟩ := hok (t := o.1) (k := o.2.1) h2 (by rw [← h3])
   split at h
   · cases h
   cases hr : scanF n ((s.drop k.1).drop o.2.1) (a + k.1 + o.2.1) (cnt + 1) with
   | bad x y => rw [hr] at h; cases h
   | ok l2 =>
     rw [hr] at h
     injection h with h
     obtain ⟨ini,p,e,hi⟩ := scan_kinds n _ _ _ _ hr
     refine ⟨⟨o.1.k,o.1.t,((a + k.1 : Nat) : Int)⟩ :: ini,p,by rw [← h,e]; rfl,fun t ht => ?_⟩
     rcases List.mem_cons.1 ht with rfl | ht
     · exact hk
     · exact hi t ht
theorem scanM_kinds {t : Str} {l : List Tok} (h : scanM t = .ok l) : ∃ ini p,l = ini ++ [⟨0,[],p⟩] ∧ ∀ t ∈ ini,t.k ≠ 0 := by
 unfold scanM at h
 split at h
 · cases h
 split at h
 · cases h
 · exact scan_kinds _ _ _ _ _ h
theorem TR.self {l : List Tok} (h : ∃ ini p,l = ini ++ [⟨0,[],p⟩] ∧ ∀ t ∈ ini,t.k ≠ 0) : TR true 0 (l.length - 1) 0 l l := by
 obtain ⟨ini,p,e,hk⟩ := h
 have hl : l.length = ini.length + 1 := by rw [e]; simp
 have he : ∀ t,l[l.length - 1]? = some t → t.k = 0 := fun t ht => by
   rw [hl,Nat.add_sub_cancel,e,List.getElem?_append_right (Nat.le_refl _)] at ht
   simp only [Nat.sub_self,List.getElem?_cons_zero,Option.some.injEq] at ht
   rw [← ht]
 refine ⟨by omega,by omega,fun j t hj ht => ⟨?_,t,ht,rfl,rfl,by omega⟩,he,fun _ t ht => ⟨t,ht,rfl,rfl,by omega⟩⟩
 rw [e,List.getElem?_append_left (by omega)] at ht
 exact hk t (List.mem_of_getElem? ht)
variable {io : Nat} {b : Bool} {c : Int} {pe : List Ex} {pb : List Blk} {s s2 : PS} {E S : PS → R Nat}
theorem inner_sim (hE : SimE E) (h : JR io b c pe pb s s2) (t : Str) (a : Int) : Sc io b c pe pb (· + pe.length) (innerR E s t a) (innerR E s2 t (a + c)) := by
 intro x s' e
 unfold innerR at e ⊢
 cases hs : scanM t with
 | bad k p => rw [hs] at e; cases e
 | ok l =>
   rw [hs] at e
   simp only at e ⊢
   have hj : JR 0 true c pe pb ⟨l,0,a,s.deep,false,s.ex,s.bl⟩ ⟨l,0,a + c,s2.deep,false,s2.ex,s2.bl⟩ :=
     ⟨⟨0,l.length - 1,0,TR.self (scanM_kinds hs),rfl,Nat.zero_le _,by show (0 : Int) + (a + c) = c + a; omega⟩,h.deep,rfl,h.ex,h.bl,Nat.le_refl _,rfl⟩
   obtain ⟨y,q,e1,e2⟩ := bind_ok e
   obtain ⟨t',q',e3,e4⟩ := bind_ok e2
   rcases hE.go _ _ _ _ _ _ _ hj y q e1 with ⟨q2,g1,g2⟩ | ⟨hb,_⟩
   · obtain ⟨q2',g3,g4⟩ := g2.kind (.inl rfl) e3
     injection e4 with e5 e6
     rw [g1]
     refine ⟨{ s2 with ex := q2'.ex,bl := q2'.bl },?_,?_⟩
     · show ((kindR q2 0).bind fun _ q' => R.ok (y + pe.length) { s2 with ex := q'.ex,bl := q'.bl }) = _
       rw [g3,← e5]; rfl
     · rw [← e6]; exact ⟨h.tr,h.deep,h.quiet,g4.ex,g4.bl,h.len,h.io⟩
   · cases hb
theorem parts_sim (hE : SimE E) : ∀ (n : Nat) (s s2 : PS) (rest : Str) (a : Int) (us : List Nat) (ks : List Str),JR io b c pe pb s s2 →
   Sc io b c pe pb (fun x => (x.1.map (· + pe.length),x.2)) (partsF E n s rest a us ks) (partsF E n s2 rest (a + c) (us.map (· + pe.length)) ks)
 | 0,_,_,_,_,_,_,_ => fun x s' e => by cases e
 | n + 1,s,s2,rest,a,us,ks,h => by
   simp only [partsF]
   by_cases hr : rest = []
   · rw [if_pos hr,if_pos hr]
     intro x s' e
     injection e with e1 e2
     exact ⟨s2,by rw [← e1],e2 ▸ h⟩
   rw [if_neg hr,if_neg hr]
   cases hi : insP rest with
   | none =>
     simp only
     intro x s' e
     injection e with e1 e2
     obtain ⟨p1,p2⟩ := h.put ⟨5,saysM rest,[],[],a⟩
     refine ⟨_,?_,e2 ▸ p1⟩
     rw [p2,← e1]
     simp [mvE]
   | some z =>
     obtain ⟨i,e⟩ := z
     simp only
     -- what is ahead of the insertion
     have hs1 : ∃ t1 t2 u k,(if 0 < i then { s with ex := s.ex ++ [⟨5,saysM (rest.take i),[],[],a⟩] } else s) = t1 ∧ (if 0 < i then { s2 with ex := s2.ex ++ [⟨5,saysM (rest.take i),[],[],a + c⟩] } else s2) = t2 ∧ JR io b c pe pb t1 t2 ∧
         (if 0 < i then us ++ [s.ex.length] else us) = u ∧ (if 0 < i then us.map (· + pe.length) ++ [s2.ex.length] else us.map (· + pe.length)) = u.map (· + pe.length) ∧ (if 0 < i then ks ++ [[116]] else ks) = k := by
       by_cases h0 : 0 < i
       · obtain ⟨p1,p2⟩ := h.put ⟨5,saysM (rest.take i),[],[],a⟩
         simp only [if_pos h0]
         exact ⟨_,_,_,_,rfl,rfl,p1,rfl,by rw [p2]; simp,rfl⟩
       · simp only [if_neg h0]
         exact ⟨_,_,_,_,rfl,rfl,h,rfl,rfl,rfl⟩
     obtain ⟨t1,t2,u,k,g1,g2,g3,g4,g5,g6⟩ := hs1
     rw [g1,g2,g4,g5,g6]
     by_cases hie : i < e
     · rw [if_pos hie,if_pos hie]
       refine Sc.bindc (mv := (· + pe.length)) (within_sc g3 fun q q2 hq => ?_) fun x q q2 _ hq => ?_
       · have := inner_sim hE hq ((rest.drop (i + 2)).take (e - 1 - (i + 2))) (a + i + 2)
         rw [show a + (i : Int) + 2 + c = a + c + i + 2 by omega] at this
         exact this
       · have := parts_sim hE n q q2 (rest.drop e) (a + e) (u ++ [x]) (k ++ [[101]]) hq
         rw [show a + (e : Int) + c = a + c + e by omega,List.map_append] at this
         exact this
     · rw [if_neg hie,if_neg hie]
       have := parts_sim hE n t1 t2 (rest.drop e) (a + e) u k g3
       rw [show a + (e : Int) + c = a + c + e by omega] at this
       exact this
theorem text_sim (hE : SimE E) (h : JR io b c pe pb s s2) (t : Tok) : Sc io b c pe pb (· + pe.length) (textR E s t) (textR E s2 ⟨t.k,t.t,t.a + c⟩) := by
 unfold textR
 by_cases hi : (insP t.t).isSome = true
 · rw [if_pos hi,if_pos hi]
   have := parts_sim hE (t.t.length + 1) s s2 t.t (t.a + 1) [] [] h
   rw [show t.a + 1 + c = t.a + c + 1 by omega] at this
   refine this.bindc fun x q q2 _ hq => ?_
   exact hq.put_sc ⟨6,[],x.1,x.2,t.a⟩
 · rw [if_neg hi,if_neg hi]
   exact h.put_sc ⟨5,saysM t.t,[],[],t.a⟩
theorem plain_sim (h : JR io b c pe pb s s2) (t : Tok) : Sc io b c pe pb id (plainR s t) (plainR s2 ⟨t.k,t.t,t.a + c⟩) := by
 unfold plainR
 by_cases hi : (insP t.t).isSome = true
 · rw [if_pos hi]; intro x s' e; cases e
 · rw [if_neg hi,if_neg hi]
   intro x s' e
   injection e with e1 e2
   exact ⟨s2,by rw [← e1]; rfl,e2 ▸ h⟩
theorem args_sim (hE : SimE E) (w : Str) : ∀ (n m : Nat) (s s2 : PS) (out : List Nat),n ≤ m → JR io b c pe pb s s2 →
   Sc io b c pe pb (List.map (· + pe.length)) (argsF E w n s out) (argsF E w m s2 (out.map (· + pe.length)))
 | 0,_,_,_,_,_,_ => fun x s' e => by cases e
 | n + 1,m,s,s2,out,hm,h => by
   obtain ⟨m,rfl⟩ : ∃ j,m = j + 1 := ⟨m - 1,by omega⟩
   simp only [argsF]
   have hno : b = false → (takeS s w).1 = false → atEnd s → ∀ y s',(if out = [] then (E (takeS s w).2).bind fun x s' => argsF E w n s' (out ++ [x])
     else (wantR (takeS s w).2 [44]).bind fun _ s1 => if (takeS s1 w).1 = true then .ok out (takeS s1 w).2 else (E (takeS s1 w).2).bind fun x s' => argsF E w n s' (out ++ [x])) ≠ .ok y s' := by
     intro _ _ ha y s' e
     have ht := (atEnd_take ha w).2
     split at e
     · obtain ⟨x,q,e1,_⟩ := bind_ok e; exact hE.no _ ht x q e1
     · obtain ⟨x,q,e1,_⟩ := bind_ok e; exact atEnd_want ht _ q e1
   rcases h.take w with ⟨hb,h0,hf⟩ | ⟨ht,hJ⟩
   · intro y s' e
     rw [if_neg (by rw [hf]; decide)] at e
     exact absurd e (hno hb hf (atEnd_of h0) y s')
   rw [ht]
   by_cases hy : (takeS s w).1 = true
   · rw [if_pos hy,if_pos hy]
     intro x s' e
     injection e with e1 e2
     exact ⟨_,by rw [← e1],e2 ▸ hJ⟩
   rw [if_neg hy,if_neg hy]
   have next : ∀ {q q2 : PS},JR io b c pe pb q q2 → Sc io b c pe pb (List.map (· + pe.length)) ((E q).bind fun x s' => argsF E w n s' (out ++ [x])) ((E q2).bind fun x s' => argsF E w m s' (out.map (· + pe.length) ++ [x])) := fun {q q2} hq => by
     refine (hE.go _ _ _ _ _ _ _ hq).bindc (fun x q q2 _ hq => ?_) fun hb x q ha y s' e => ?_
     · have := args_sim hE w n m q q2 (out ++ [x]) (by omega) hq
       rw [List.map_append] at this
       exact this
     · cases n with
       | zero => cases e
       | succ n =>
         simp only [argsF] at e
         have ht := atEnd_take ha w
         rw [if_neg (by rw [ht.1]; decide),if_neg (by simp)] at e
         obtain ⟨x,q,e1,_⟩ := bind_ok e
         exact atEnd_want ht.2 _ q e1
   by_cases ho : out = []
   · rw [if_pos ho,if_pos (by rw [ho]; rfl)]
     exact next hJ
   · rw [if_neg ho,if_neg (by simpa using ho)]
     refine (hJ.want_sc [44]).bindc fun _ q q2 _ hq => ?_
     rcases hq.take w with ⟨hb,h0,hf⟩ | ⟨ht2,hJ2⟩
     · intro y s' e
       rw [if_neg (by rw [hf]; decide)] at e
       obtain ⟨x,q',e1,_⟩ := bind_ok e
       exact absurd e1 (hE.no _ (atEnd_take (atEnd_of h0) w).2 x q')
     · rw [ht2]
       by_cases hy2 : (takeS q w).1 = true
       · rw [if_pos hy2,if_pos hy2]
         intro x s' e
         injection e with e1 e2
         exact ⟨_,by rw [← e1],e2 ▸ hJ2⟩
       · rw [if_neg hy2,if_neg hy2]
         exact next hJ2
end Go.Syn
namespace Go.Syn
open Go Go.Eng Go.Lex
variable {io : Nat} {b : Bool} {c : Int} {pe : List Ex} {pb : List Blk} {s s2 : PS} {E S : PS → R Nat}
theorem JR.step0 (h : JR io b c pe pb s s2) (hk : (tokI s).k ≠ 0) : JR io b c pe pb (step1 s) (step1 s2) := by
 refine h.at_ fun o E d h1 h2 h3 => ?_
 have hl : s.i < s.toks.length := by rw [h1.len]; omega
 have hne : s.i ≠ E := fun e => by
   have := h1.eof s.toks[s.i] (by rw [← e]; exact List.getElem?_eq_getElem hl)
   apply hk
   unfold tokI
   rw [List.getD_eq_getElem?_getD,List.getElem?_eq_getElem hl]
   exact this
 exact ⟨by omega,by omega⟩
theorem JR.lines (h : JR io b c pe pb s s2) : (b = false ∧ atEnd s) ∨ JR io b c pe pb (linesS s) (linesS s2) := by
 rcases h.now with ⟨hb,h0,_⟩ | ⟨hJ,_⟩
 · exact .inl ⟨hb,atEnd_of h0⟩
 · obtain ⟨o,E,d,h1,h2,h3,h4⟩ := hJ.tr
   have hr := h1.run (E - (nowS s).i) (nowS s).i (by omega)
   by_cases hlt : b = true ∨ (nowS s).i + lineRun ((nowS s).toks.drop (nowS s).i) < E
   · right
     have e := hr.2 hlt
     have := hJ.at_ (i := (nowS s).i + lineRun ((nowS s).toks.drop (nowS s).i)) (i2 := (nowS s2).i + lineRun ((nowS s2).toks.drop (nowS s2).i)) fun o' E' d' g1 g2 g3 => by
       have e1 : E = E' := by have := h1.len; have := g1.len; omega
       have e2 : o' = o := by omega
       rw [h2,e]
       exact ⟨by omega,by have := hr.1; omega⟩
     unfold linesS
     rw [← (nowS_f s).1,← (nowS_f s2).1]
     exact this
   · left
     have hb : b = false := by
       cases b with
       | false => rfl
       | true => exact absurd (.inl rfl) hlt
     refine ⟨hb,?_⟩
     have hi : (nowS s).i + lineRun ((nowS s).toks.drop (nowS s).i) = E := by
       have := hr.1
       by_cases hl : (nowS s).i + lineRun ((nowS s).toks.drop (nowS s).i) < E
       · exact absurd (.inr hl) hlt
       · omega
     have hn : atEnd (nowS s) := by
       have hlE : E < (nowS s).toks.length := by rw [h1.len]; omega
       have he := h1.eof _ (List.getElem?_eq_getElem hlE)
       unfold atEnd Syn.cur
       show (tokI (nowS { nowS s with quiet := true })).k = 0
       unfold nowS
       simp only [if_true]
       unfold tokI
       simp only
       have e' : nowS s = if s.quiet = true then { s with i := s.i + lineRun (s.toks.drop s.i) } else s := rfl
       rw [← e',hi,List.getD_eq_getElem?_getD,List.getElem?_eq_getElem hlE]
       exact he
     unfold atEnd at hn ⊢
     by_cases hq : s.quiet = true
     · rw [cur_q ((nowS_f s).2.2.2.1.trans hq),cur_now] at hn
       rw [cur_q hq]; exact hn
     · have e1 : nowS s = s := by unfold nowS; rw [if_neg hq]
       rw [e1] at hn; exact hn
theorem args_no (hE : SimE E) (w : Str) {n : Nat} {out : List Nat} (ha : atEnd s) : ∀ y s',argsF E w n s out ≠ .ok y s' := by
 intro y s' e
 cases n with
 | zero => cases e
 | succ n =>
   simp only [argsF] at e
   have ht := atEnd_take ha w
   rw [if_neg (by rw [ht.1]; decide)] at e
   split at e
   · obtain ⟨x,q,e1,_⟩ := bind_ok e; exact hE.no _ ht.2 x q e1
   · obtain ⟨x,q,e1,_⟩ := bind_ok e; exact atEnd_want ht.2 _ q e1
theorem argsR_sim (hE : SimE E) (w : Str) (h : JR io b c pe pb s s2) : Sc io b c pe pb (List.map (· + pe.length)) (argsR E w s) (argsR E w s2) := by
 have := args_sim hE w (s.toks.length + 1) (s2.toks.length + 1) s s2 [] (by have := h.len; omega) h
 exact this
theorem ok_sc {α β : Type} {io : Nat} {b : Bool} {c : Int} {pe : List Ex} {pb : List Blk} {mv : β → β} {x x2 : β} {q q2 : PS} (hx : x2 = mv x) (hq : JR io b c pe pb q q2) : Sc io b c pe pb mv (R.ok x q) (R.ok x2 q2) := fun y s' e => by
 injection e with e1 e2
 exact ⟨q2,by rw [hx,e1],e2 ▸ hq⟩
theorem list_sim (hE : SimE E) (h : JR io b c pe pb s s2) (hk : (tokI s).k ≠ 0) (a : Int) : Sc io b c pe pb (mvE pe.length c) (listR E s a) (listR E s2 (a + c)) := by
 have g := h.step0 hk
 unfold listR
 simp only
 by_cases hend : b = true ∨ (cur (step1 s)).k ≠ 0
 · obtain ⟨gn,k1,k2,k3⟩ := g.cur hend
   rw [k1,k2]
   by_cases hf : (cur (step1 s)).k ≠ 1 ∨ (cur (step1 s)).t ≠ kFor
   · rw [if_pos hf,if_pos hf]
     exact (argsR_sim hE [93] gn).bindc fun x q q2 _ hq => ok_sc (α := Nat) rfl hq
   · rw [if_neg hf,if_neg hf]
     have hk1 : (cur (step1 s)).k ≠ 0 := by omega
     refine ((g.step hk1).kind_sc (k := 1) (.inr (by decide))).bindc fun t q q2 _ hq => ?_
     refine (hq.kind_sc (k := 1) (.inr (by decide))).bindc fun u q q2 _ hq => ?_
     by_cases hu : u.t ≠ kIn
     · rw [if_pos hu]; intro x s' e; cases e
     rw [if_neg hu,if_neg hu]
     refine (hE.go _ _ _ _ _ _ _ hq).bindc (fun x q q2 _ hq => ?_) fun _ x q ha y s' e => by
       obtain ⟨_,q',e1,_⟩ := bind_ok e; exact atEnd_want ha _ q' e1
     refine (hq.want_sc [58]).bindc fun _ q q2 _ hq => ?_
     refine (hE.go _ _ _ _ _ _ _ hq).bindc (fun y q q2 _ hq => ?_) fun _ x q ha y s' e => by
       obtain ⟨_,q',e1,_⟩ := bind_ok e; exact atEnd_want ha _ q' e1
     refine (hq.want_sc [93]).bindc fun _ q q2 _ hq => ?_
     exact ok_sc (α := Nat) rfl hq
 · have h0 : (cur (step1 s)).k = 0 := by
     by_cases h0 : (cur (step1 s)).k = 0
     · exact h0
     · exact absurd (.inr h0) hend
   rw [if_pos (.inl (by omega))]
   intro x s' e
   obtain ⟨us,q,e1,_⟩ := bind_ok e
   exact absurd e1 (args_no hE _ (atEnd_now (atEnd_of h0)) us q)
end Go.Syn
namespace Go.Syn
open Go Go.Eng Go.Lex
variable {io : Nat} {b : Bool} {c : Int} {pe : List Ex} {pb : List Blk} {s s2 : PS} {E S : PS → R Nat}
theorem atEnd_ok {s : PS} {α : Type} {x y : α} {s' : PS} (h : atEnd s) (e : R.ok x s = .ok y s') : atEnd s' := by injection e with _ e; exact e ▸ h
theorem atEnd_lines {s : PS} (h : atEnd s) : atEnd (linesS s) := by
 have hn := atEnd_now h
 unfold atEnd at hn ⊢
 unfold linesS
 have e : cur { nowS s with quiet := true } = cur { { nowS s with i := (nowS s).i + lineRun (s.toks.drop (nowS s).i) } with quiet := true } := by
   have h1 : nowS { nowS s with quiet := true } = { nowS s with quiet := true,i := (nowS s).i + lineRun (s.toks.drop (nowS s).i) } := by
     have : (nowS s).toks = s.toks := (nowS_f s).1
     conv => lhs; unfold nowS
     simp only [if_true]
     rw [show ((if s.quiet = true then { s with i := s.i + lineRun (s.toks.drop s.i) } else s) : PS) = nowS s from rfl,this]
   rw [← cur_now,h1]
 rw [e] at hn
 exact hn
theorem obj_no {a : Int} {n : Nat} {us : List Nat} {ks : List Str} (ha : atEnd s) : ∀ y s',objF E a n s us ks ≠ .ok y s' := by
 intro y s' e
 cases n with
 | zero => cases e
 | succ n =>
   simp only [objF] at e
   have ht := atEnd_take ha [125]
   rw [if_neg (by rw [ht.1]; decide)] at e
   obtain ⟨k,q,e1,_⟩ := bind_ok e
   rcases atEnd_k ht.2 with h | h
   · rw [if_neg (by omega),if_neg (by omega)] at e1; cases e1
   · rw [if_neg (by omega),if_neg (by omega)] at e1; cases e1
theorem obj_sim (hE : SimE E) (a : Int) : ∀ (n m : Nat) (s s2 : PS) (us : List Nat) (ks : List Str),n ≤ m → JR io b c pe pb s s2 →
   Sc io b c pe pb (mvE pe.length c) (objF E a n s us ks) (objF E (a + c) m s2 (us.map (· + pe.length)) ks)
 | 0,_,_,_,_,_,_,_ => fun x s' e => by cases e
 | n + 1,m,s,s2,us,ks,hm,h => by
   obtain ⟨m,rfl⟩ : ∃ j,m = j + 1 := ⟨m - 1,by omega⟩
   rcases h.take [125] with ⟨hb,h0,hf⟩ | ⟨ht,hJ⟩
   · intro y s' e
     exact absurd e (obj_no (atEnd_of h0) y s')
   simp only [objF]
   rw [ht]
   by_cases hy : (takeS s [125]).1 = true
   · rw [if_pos hy,if_pos hy]
     exact ok_sc (α := Nat) rfl hJ
   rw [if_neg hy,if_neg hy]
   generalize (takeS s [125]).2 = s1 at *
   generalize (takeS s2 [125]).2 = s12 at *
   by_cases hk0 : (cur s1).k = 0
   · intro x s' e
     obtain ⟨k,q,e1,_⟩ := bind_ok e
     rw [if_neg (by omega),if_neg (by omega)] at e1; cases e1
   obtain ⟨_,k1,k2,k3⟩ := hJ.cur (.inr hk0)
   have hn1 : nextS s1 = step1 (nowS s1) := by unfold nextS; rw [if_pos hk0]
   have hn2 : nextS s12 = step1 (nowS s12) := by unfold nextS; rw [if_pos (by rw [k1]; exact hk0)]
   have hst := hJ.step hk0
   have hkey : Sc io b c pe pb id (if (cur s1).k = 3 then plainR (nextS s1) (cur s1) else if (cur s1).k = 1 then .ok (cur s1).t (nextS s1) else .err 50 (cur s1).a) (if (cur s12).k = 3 then plainR (nextS s12) (cur s12) else if (cur s12).k = 1 then .ok (cur s12).t (nextS s12) else .err 50 (cur s12).a) := by
     rw [hn1,hn2,k1]
     by_cases h3 : (cur s1).k = 3
     · rw [if_pos h3,if_pos h3]
       have := plain_sim hst (cur s1)
       rw [← k1,← k2,← k3] at this
       exact this
     rw [if_neg h3,if_neg h3]
     by_cases h1 : (cur s1).k = 1
     · rw [if_pos h1,if_pos h1,k2]
       exact ok_sc (α := Nat) rfl hst
     · rw [if_neg h1]; intro x s' e; cases e
   refine hkey.bindc fun k q q2 _ hq => ?_
   simp only [id]
   by_cases hc : ks.contains k = true
   · rw [if_pos hc]; intro x s' e; cases e
   rw [if_neg hc,if_neg hc]
   refine (hq.want_sc [61]).bindc fun _ q q2 _ hq => ?_
   refine (hE.go _ _ _ _ _ _ _ hq).bindc (fun x q q2 _ hq => ?_) fun _ x q ha y s' e => ?_
   · rcases hq.take [44] with ⟨hb,h0,hf⟩ | ⟨ht,hJ⟩
     · intro y s' e
       have ht := atEnd_take (atEnd_of h0) [44]
       split at e
       · cases e
       · rw [if_neg (by rw [hf]; decide)] at e
         exact absurd e (obj_no (atEnd_lines (atEnd_now ht.2)) y s')
     rw [ht]
     generalize (takeS q [44]).2 = r1 at *
     generalize (takeS q2 [44]).2 = r2 at *
     by_cases hend : b = true ∨ (cur r1).k ≠ 0
     · obtain ⟨g1,g2,g3,g4⟩ := hJ.cur hend
       have gi := g1.isS [125] (by rw [cur_now]; exact hend)
       rw [g2,gi]
       by_cases hbad : (takeS q [44]).1 = false ∧ (cur r1).k ≠ 5 ∧ isS (nowS r1) [125] = false
       · rw [if_pos hbad]; intro y s' e; cases e
       rw [if_neg hbad,if_neg hbad]
       have hsel : JR io b c pe pb (if (takeS q [44]).1 = true then r1 else nowS r1) (if (takeS q [44]).1 = true then r2 else nowS r2) := by
         split
         · exact hJ
         · exact g1
       rcases hsel.lines with ⟨_,ha⟩ | hl
       · intro y s' e
         exact absurd e (obj_no (atEnd_lines ha) y s')
       · have := obj_sim hE a n m _ _ (us ++ [x]) (ks ++ [k]) (by omega) hl
         rw [List.map_append] at this
         exact this
     · have h0 : (cur r1).k = 0 := by
         by_cases h0 : (cur r1).k = 0
         · exact h0
         · exact absurd (.inr h0) hend
       intro y s' e
       split at e
       · cases e
       · have : atEnd (if (takeS q [44]).1 = true then r1 else nowS r1) := by
           split
           · exact atEnd_of h0
           · exact atEnd_now (atEnd_of h0)
         exact absurd e (obj_no (atEnd_lines this) y s')
   · have ht := atEnd_take ha [44]
     split at e
     · cases e
     · rw [if_neg (by rw [ht.1]; decide)] at e
       exact absurd e (obj_no (atEnd_lines (atEnd_now ht.2)) y s')
theorem objR_sim (hE : SimE E) (h : JR io b c pe pb s s2) (hk : (tokI s).k ≠ 0) (a : Int) : Sc io b c pe pb (mvE pe.length c) (objR E s a) (objR E s2 (a + c)) := by
 have g := h.step0 hk
 unfold objR
 rcases g.lines with ⟨_,ha⟩ | hl
 · intro y s' e
   exact absurd e (obj_no (atEnd_lines ha) y s')
 · exact obj_sim hE a _ _ _ _ [] [] (by have := h.len; omega) hl
end Go.Syn
namespace Go.Syn
open Go Go.Eng Go.Lex
variable {io : Nat} {b : Bool} {c : Int} {pe : List Ex} {pb : List Blk} {s s2 : PS} {E S : PS → R Nat}
theorem within_sc1 {α : Type} {mv : α → α} {f f2 : PS → R α} {a a2 : Int} {q : Bool} (h : JR io b c pe pb s s2) (hf : JR io b c pe pb { s with deep := s.deep + 1,quiet := q } { s2 with deep := s.deep + 1,quiet := q } → Sc io b c pe pb mv (f { s with deep := s.deep + 1,quiet := q }) (f2 { s2 with deep := s.deep + 1,quiet := q })) : Sc io b c pe pb mv (within s a q f) (within s2 a2 q f2) := by
 unfold within
 rw [h.deep,h.quiet]
 split
 · intro x s' e; cases e
 · refine (hf (h.frame _ _)).bindc fun x s1 s3 _ g => ?_
   exact ok_sc (α := Nat) rfl (g.frame _ _)
theorem within_sm1 {α : Type} {mv : α → α} {f f2 : PS → R α} {a a2 : Int} {q : Bool} (h : JR io b c pe pb s s2) (hf : JR io b c pe pb { s with deep := s.deep + 1,quiet := q } { s2 with deep := s.deep + 1,quiet := q } → Sm io b c pe pb mv (f { s with deep := s.deep + 1,quiet := q }) (f2 { s2 with deep := s.deep + 1,quiet := q })) : Sm io b c pe pb mv (within s a q f) (within s2 a2 q f2) := by
 unfold within
 rw [h.deep,h.quiet]
 split
 · intro x s' e; cases e
 · refine (hf (h.frame _ _)).bind (fun x s1 s3 _ g => (ok_sc (α := Nat) rfl (g.frame _ _)).sm) fun _ x s1 ha y s' e => ?_
   injection e with e1 e2
   rw [← e2]
   exact ha
theorem put_end {s : PS} {e : Ex} {y : Nat} {s' : PS} (ha : atEnd s) (h : putR s e = .ok y s') : atEnd s' := by
 injection h with _ h
 rw [← h]; exact ha
theorem Sm.put {α : Type} {mv : α → α} {r r2 : R α} {g g2 : α → Ex} (h : Sm io b c pe pb mv r r2) (hg : ∀ x,g2 (mv x) = mvE pe.length c (g x)) : Sm io b c pe pb (· + pe.length) (r.bind fun x s => putR s (g x)) (r2.bind fun x s => putR s (g2 x)) :=
 h.bind (fun x q q2 _ hq => by rw [hg x]; exact (hq.put_sc (g x)).sm) fun _ x q ha y s' e => put_end ha e
theorem cur_tok (s : PS) : (cur s).k = (tokI (nowS s)).k := rfl
theorem atom_no {s : PS} (ha : atEnd s) : ∀ x s',atomR E s ≠ .ok x s' := by
 intro x s' e
 unfold atomR at e
 simp only at e
 have hn := atEnd_now ha
 rw [atEnd_sign hn,atEnd_sign hn,atEnd_sign hn] at e
 rcases atEnd_k ha with h | h
 · rw [if_neg (by omega),if_neg (by omega),if_neg (by omega),if_neg (by decide),if_neg (by decide),if_neg (by decide)] at e; cases e
 · rw [if_neg (by omega),if_neg (by omega),if_neg (by omega),if_neg (by decide),if_neg (by decide),if_neg (by decide)] at e; cases e
theorem isS_now (s : PS) (w : Str) : isS (nowS s) w = isS s w := by unfold isS; rw [cur_now]
theorem atom_sim (hE : SimE E) (h : JR io b c pe pb s s2) : Sm io b c pe pb (· + pe.length) (atomR E s) (atomR E s2) := by
 by_cases h0 : (cur s).k = 0
 · intro x s' e; exact absurd e (atom_no (atEnd_of h0) x s')
 obtain ⟨hn,k1,k2,k3⟩ := h.cur (.inr h0)
 have hst := h.step h0
 unfold atomR
 simp only
 have i1 : ∀ w,isS (nowS s2) w = isS (nowS s) w := fun w => by rw [isS_now,isS_now]; exact h.isS w (.inr h0)
 rw [k1,k2,k3,i1,i1,i1]
 generalize ht : cur s = t at *
 by_cases t2 : t.k = 2
 · rw [if_pos t2,if_pos t2]
   exact (hst.put_sc ⟨4,t.t,[],[],t.a⟩).sm
 rw [if_neg t2,if_neg t2]
 by_cases t3 : t.k = 3
 · rw [if_pos t3,if_pos t3]
   have := text_sim hE hst t
   have e : cur s2 = ⟨t.k,t.t,t.a + c⟩ := by rw [← k1,← k2,← k3]
   rw [e]
   exact this.sm
 rw [if_neg t3,if_neg t3]
 by_cases t1 : t.k = 1 ∧ t.t ≠ kFor
 · rw [if_pos t1,if_pos t1]
   by_cases hend : b = true ∨ (cur (step1 (nowS s))).k ≠ 0
   · obtain ⟨gn,g1,g2,g3⟩ := hst.cur hend
     rw [hst.isS [40] hend]
     by_cases hp : isS (step1 (nowS s)) [40] = true
     · rw [if_pos hp,if_pos hp]
       refine Sm.put (mv := List.map (· + pe.length)) (g := fun us => ⟨12,t.t,us,[],t.a⟩) (g2 := fun us => ⟨12,t.t,us,[],t.a + c⟩) (Sc.sm ?_) (fun _ => rfl)
       refine within_sc1 gn fun hq => ?_
       exact argsR_sim hE [41] (hq.step0 (by have := isS_k hp; rw [cur_tok] at this; exact this))
     · rw [if_neg hp,if_neg hp]
       have := gn.put_sc ⟨namedK t.t,if namedK t.t = 9 then t.t else [],[],[],t.a⟩
       exact this.sm
   · have hb : b = false := by
       cases b with
       | false => rfl
       | true => exact absurd (.inl rfl) hend
     have h1 : (cur (step1 (nowS s))).k = 0 := by
       by_cases h1 : (cur (step1 (nowS s))).k = 0
       · exact h1
       · exact absurd (.inr h1) hend
     rw [if_neg fun hh => isS_k hh h1]
     intro x s' e
     exact .inr ⟨hb,put_end (atEnd_now (atEnd_of h1)) e⟩
 rw [if_neg t1,if_neg t1]
 have htk : (tokI (nowS s)).k ≠ 0 := by rw [← cur_tok,ht]; exact h0
 by_cases p1 : isS (nowS s) [40] = true
 · rw [if_pos p1,if_pos p1]
   refine Sc.sm (within_sc1 hn fun hq => ?_)
   refine (hE.go _ _ _ _ _ _ _ (hq.step0 htk)).bindc (fun x q q2 _ hq => ?_) fun _ x q ha y s' e => by
     obtain ⟨_,q',e1,_⟩ := bind_ok e; exact atEnd_want ha _ q' e1
   refine (hq.want_sc [41]).bindc fun _ q q2 _ hq => ?_
   exact ok_sc (α := Nat) rfl hq
 rw [if_neg p1,if_neg p1]
 by_cases p2 : isS (nowS s) [91] = true
 · rw [if_pos p2,if_pos p2]
   exact Sm.put (mv := mvE pe.length c) (g := fun e => e) (g2 := fun e => e) (Sc.sm (within_sc1 hn fun hq => list_sim hE hq htk t.a)) (fun _ => rfl)
 rw [if_neg p2,if_neg p2]
 by_cases p3 : isS (nowS s) [123] = true
 · rw [if_pos p3,if_pos p3]
   exact Sm.put (mv := mvE pe.length c) (g := fun e => e) (g2 := fun e => e) (Sc.sm (within_sc1 hn fun hq => objR_sim hE hq htk t.a)) (fun _ => rfl)
 · rw [if_neg p3]; intro x s' e; cases e
theorem post_end {n : Nat} {s : PS} {x y : Nat} {s' : PS} (ha : atEnd s) (e : postF E n s x = .ok y s') : atEnd s' := by
 cases n with
 | zero => cases e
 | succ n =>
   simp only [postF] at e
   have hn := atEnd_now ha
   rw [if_neg (by rw [(atEnd_take hn [46]).1]; decide),if_neg (by rw [atEnd_sign hn]; decide)] at e
   exact atEnd_ok hn e
theorem post_sim (hE : SimE E) : ∀ (n m : Nat) (s s2 : PS) (x : Nat),n ≤ m → JR io b c pe pb s s2 → Sm io b c pe pb (· + pe.length) (postF E n s x) (postF E m s2 (x + pe.length))
 | 0,_,_,_,_,_,_ => fun x s' e => by cases e
 | n + 1,m,s,s2,x,hm,h => by
   obtain ⟨m,rfl⟩ : ∃ j,m = j + 1 := ⟨m - 1,by omega⟩
   by_cases hend : b = true ∨ (cur s).k ≠ 0
   · obtain ⟨hn,k1,k2,k3⟩ := h.cur hend
     have hend' : b = true ∨ (cur (nowS s)).k ≠ 0 := by rw [cur_now]; exact hend
     simp only [postF]
     rw [k3]
     generalize ht : (cur s).a = ta at *
     rcases hn.take [46] with ⟨hb,g0,_⟩ | ⟨ht1,hJ⟩
     · rcases hend' with hh | hh
       · rw [hb] at hh; cases hh
       · exact absurd g0 hh
     rw [ht1,hn.isS [91] hend']
     have go : ∀ {q q2 : PS} (e : Ex),JR io b c pe pb q q2 → Sm io b c pe pb (· + pe.length) ((putR q e).bind fun y s3 => postF E n s3 y) ((putR q2 (mvE pe.length c e)).bind fun y s3 => postF E m s3 y) := fun {q q2} e hq =>
       (hq.put_sc e).bind fun y q q2 _ hq => post_sim hE n m q q2 y (by omega) hq
     by_cases p1 : (takeS (nowS s) [46]).1 = true
     · rw [if_pos p1,if_pos p1]
       refine (hJ.kind_sc (k := 1) (.inr (by decide))).bind fun u q q2 _ hq => ?_
       exact go ⟨10,u.t,[x],[],ta⟩ hq
     rw [if_neg p1,if_neg p1]
     by_cases p2 : isS (nowS s) [91] = true
     · rw [if_pos p2,if_pos p2]
       have htk : (tokI (nowS s)).k ≠ 0 := by
         have := isS_k p2; rw [cur_now] at this; rw [← cur_tok]; exact this
       refine Sc.bind (mv := Option.map (· + pe.length)) (within_sc1 hn fun hq => ?_) fun o q q2 _ hq => ?_
       · have g := hq.step0 htk
         rcases g.take [42] with ⟨hb,g0,hf⟩ | ⟨ht2,hJ2⟩
         · intro y s' e
           rw [if_neg (by rw [hf]; decide)] at e
           obtain ⟨x,q,e1,_⟩ := bind_ok e
           exact absurd e1 (hE.no _ (atEnd_take (atEnd_of g0) [42]).2 x q)
         rw [ht2]
         split
         · refine (hJ2.want_sc [93]).bindc fun _ q q2 _ hq => ?_
           exact ok_sc (α := Nat) rfl hq
         · refine (hE.go _ _ _ _ _ _ _ hJ2).bindc (fun y q q2 _ hq => ?_) fun _ x q ha y s' e => by
             obtain ⟨_,q',e1,_⟩ := bind_ok e; exact atEnd_want ha _ q' e1
           refine (hq.want_sc [93]).bindc fun _ q q2 _ hq => ?_
           exact ok_sc (α := Nat) rfl hq
       · cases o with
         | some y => exact go ⟨11,[],[x,y],[],ta⟩ hq
         | none =>
           refine (hq.want_sc [46]).bind fun _ q q2 _ hq => ?_
           refine (hq.kind_sc (k := 1) (.inr (by decide))).bind fun u q q2 _ hq => ?_
           exact go ⟨30,u.t,[x],[],ta⟩ hq
     · rw [if_neg p2,if_neg p2]
       exact (ok_sc (α := Nat) rfl hn).sm
   · have hb : b = false := by
       cases b with
       | false => rfl
       | true => exact absurd (.inl rfl) hend
     have h1 : (cur s).k = 0 := by
       by_cases h1 : (cur s).k = 0
       · exact h1
       · exact absurd (.inr h1) hend
     intro y s' e
     exact .inr ⟨hb,post_end (atEnd_of h1) e⟩
end Go.Syn
namespace Go.Syn
open Go Go.Eng Go.Lex
variable {io : Nat} {b : Bool} {c : Int} {pe : List Ex} {pb : List Blk} {s s2 : PS} {E S : PS → R Nat}
theorem hend_of (s : PS) (h : ¬ (b = true ∨ (cur s).k ≠ 0)) : b = false ∧ (cur s).k = 0 := by
 refine ⟨?_,?_⟩
 · cases b with
   | false => rfl
   | true => exact absurd (.inl rfl) h
 · by_cases h0 : (cur s).k = 0
   · exact h0
   · exact absurd (.inr h0) h
theorem postR_sim (hE : SimE E) (h : JR io b c pe pb s s2) : Sm io b c pe pb (· + pe.length) (postR E s) (postR E s2) := by
 unfold postR
 exact (atom_sim hE h).bind (fun x q q2 _ hq => post_sim hE _ _ q q2 x (by have := h.len; omega) hq) fun _ x q ha y s' e => post_end ha e
theorem postR_no {s : PS} (ha : atEnd s) : ∀ x s',postR E s ≠ .ok x s' := by
 intro x s' e
 obtain ⟨y,q,e1,_⟩ := bind_ok e
 exact atom_no ha y q e1
theorem sign_sim (hE : SimE E) (hS : SimE S) : SimE (signR E S) := by
 refine ⟨fun io b c pe pb s s2 h => ?_,fun s ha x s' e => ?_⟩
 · by_cases hend : b = true ∨ (cur s).k ≠ 0
   · obtain ⟨hn,k1,k2,k3⟩ := h.cur hend
     have hend' : b = true ∨ (cur (nowS s)).k ≠ 0 := by rw [cur_now]; exact hend
     have hq : (nowS s2).quiet = (nowS s).quiet := hn.quiet
     unfold signR
     simp only
     rw [hn.isS [33] hend',hn.isS [45] hend',k3,hq]
     have one : ∀ (k : Int) (w : Str),isS (nowS s) w = true → Sm io b c pe pb (· + pe.length) ((within (nowS s) (cur s).a (nowS s).quiet fun q => S (step1 q)).bind fun x s2 => putR s2 ⟨k,[],[x],[],(cur s).a⟩) ((within (nowS s2) ((cur s).a + c) (nowS s).quiet fun q => S (step1 q)).bind fun x s2 => putR s2 ⟨k,[],[x],[],(cur s).a + c⟩) := fun k w hw => by
       have htk : (tokI (nowS s)).k ≠ 0 := by
         have := isS_k hw; rw [cur_now] at this; rw [← cur_tok]; exact this
       exact Sm.put (mv := (· + pe.length)) (g := fun x => ⟨k,[],[x],[],(cur s).a⟩) (g2 := fun x => ⟨k,[],[x],[],(cur s).a + c⟩) (within_sm1 hn fun hq => hS.go _ _ _ _ _ _ _ (hq.step0 htk)) (fun _ => rfl)
     by_cases p1 : isS (nowS s) [33] = true
     · rw [if_pos p1,if_pos p1]; exact one 14 [33] p1
     rw [if_neg p1,if_neg p1]
     by_cases p2 : isS (nowS s) [45] = true
     · rw [if_pos p2,if_pos p2]; exact one 13 [45] p2
     rw [if_neg p2,if_neg p2]
     exact postR_sim hE hn
   · obtain ⟨hb,h0⟩ := hend_of s hend
     intro x s' e
     unfold signR at e
     simp only at e
     have hn := atEnd_now (atEnd_of h0)
     rw [if_neg (by rw [atEnd_sign hn]; decide),if_neg (by rw [atEnd_sign hn]; decide)] at e
     exact absurd e (postR_no hn x s')
 · unfold signR at e
   simp only at e
   have hn := atEnd_now ha
   rw [if_neg (by rw [atEnd_sign hn]; decide),if_neg (by rw [atEnd_sign hn]; decide)] at e
   exact absurd e (postR_no hn x s')
theorem joinF_end {J : PS → R Nat} {n f : Nat} {s : PS} {a y : Nat} {s' : PS} (ha : atEnd s) (e : joinF J n f s a = .ok y s') : atEnd s' := by
 cases f with
 | zero => cases e
 | succ f =>
   simp only [joinF] at e
   rw [if_pos (by unfold levelK; rw [if_neg (by rcases atEnd_k ha with h | h <;> omega)])] at e
   exact atEnd_ok (atEnd_now ha) e
theorem joinF_sim {J : PS → R Nat} (hJ : SimE J) (n : Nat) : ∀ (f g : Nat) (s s2 : PS) (a : Nat),f ≤ g → JR io b c pe pb s s2 → Sm io b c pe pb (· + pe.length) (joinF J n f s a) (joinF J n g s2 (a + pe.length))
 | 0,_,_,_,_,_,_ => fun x s' e => by cases e
 | f + 1,g,s,s2,a,hg,h => by
   obtain ⟨g,rfl⟩ : ∃ j,g = j + 1 := ⟨g - 1,by omega⟩
   by_cases hend : b = true ∨ (cur s).k ≠ 0
   · obtain ⟨hn,k1,k2,k3⟩ := h.cur hend
     simp only [joinF]
     have hl : levelK (cur s2) n = levelK (cur s) n := by unfold levelK; rw [k1,k2]
     rw [hl,k3]
     by_cases p : levelK (cur s) n = 0
     · rw [if_pos p,if_pos p]
       exact (ok_sc (α := Nat) rfl hn).sm
     rw [if_neg p,if_neg p]
     have hk : (cur s).k ≠ 0 := fun h0 => p (by unfold levelK; rw [if_neg (by omega)])
     refine (hJ.go _ _ _ _ _ _ _ (h.step hk)).bind (fun x q q2 _ hq => ?_) fun _ x q ha y s' e => ?_
     · exact (hq.put_sc ⟨levelK (cur s) n,[],[a,x],[],(cur s).a⟩).bind fun z q q2 _ hq => joinF_sim hJ n f g q q2 z (by omega) hq
     · obtain ⟨z,q',e1,e2⟩ := bind_ok e
       exact joinF_end (put_end ha e1) e2
   · obtain ⟨hb,h0⟩ := hend_of s hend
     intro x s' e
     exact .inr ⟨hb,joinF_end (atEnd_of h0) e⟩
theorem joinU_sim (hE : SimE E) (hS : SimE S) : ∀ m : Nat,SimE (joinU E S m)
 | 0 => sign_sim hE hS
 | m + 1 => by
   have ih := joinU_sim hE hS m
   refine ⟨fun io b c pe pb s s2 h => ?_,fun s ha x s' e => ?_⟩
   · simp only [joinU]
     exact (ih.go _ _ _ _ _ _ _ h).bind (fun x q q2 _ hq => joinF_sim ih _ _ _ q q2 x (by have := h.len; omega) hq) fun _ x q ha y s' e => joinF_end ha e
   · simp only [joinU] at e
     obtain ⟨y,q,e1,_⟩ := bind_ok e
     exact ih.no s ha y q e1
theorem expr_sim (hE : SimE E) (hS : SimE S) : SimE (exprR E S) := by
 have hU := joinU_sim hE hS 6
 refine ⟨fun io b c pe pb s s2 h => ?_,fun s ha x s' e => ?_⟩
 · unfold exprR
   have fin : ∀ {a : Nat} {s1 : PS},atEnd s1 → ∀ {y s'},(let t := cur s1
       if (takeS s1 [63]).1 = true then
         (within (takeS s1 [63]).2 t.a (takeS s1 [63]).2.quiet fun q => (E q).bind fun x q1 => (wantR q1 [58]).bind fun _ q2 => (E q2).bind fun y q3 => .ok (x,y) q3).bind fun z s2 => putR s2 ⟨28,[],[a,z.1,z.2],[],t.a⟩
       else .ok a (takeS s1 [63]).2) = .ok y s' → atEnd s' := by
     intro a s1 ha y s' e
     simp only at e
     have ht := atEnd_take ha [63]
     rw [if_neg (by rw [ht.1]; decide)] at e
     exact atEnd_ok ht.2 e
   refine (hU.go _ _ _ _ _ _ _ h).bind (fun x q q2 _ hq => ?_) fun _ x q ha y s' e => fin ha e
   by_cases hend : b = true ∨ (cur q).k ≠ 0
   · obtain ⟨_,k1,k2,k3⟩ := hq.cur hend
     simp only
     rcases hq.take [63] with ⟨hb,g0,_⟩ | ⟨ht,hJ⟩
     · rcases hend with hh | hh
       · rw [hb] at hh; cases hh
       · exact absurd g0 hh
     rw [ht,k3]
     by_cases p : (takeS q [63]).1 = true
     · rw [if_pos p,if_pos p]
       have hqq : (takeS q2 [63]).2.quiet = (takeS q [63]).2.quiet := hJ.quiet
       rw [hqq]
       refine Sm.put (mv := fun z : Nat × Nat => (z.1 + pe.length,z.2 + pe.length)) (g := fun z => ⟨28,[],[x,z.1,z.2],[],(cur q).a⟩) (g2 := fun z => ⟨28,[],[x + pe.length,z.1,z.2],[],(cur q).a + c⟩) (within_sm1 hJ fun hq => ?_) (fun _ => rfl)
       refine (hE.go _ _ _ _ _ _ _ hq).bind (fun x q q2 _ hq => ?_) fun _ x q ha y s' e => by
         obtain ⟨_,q',e1,_⟩ := bind_ok e; exact absurd e1 (atEnd_want ha _ q')
       refine (hq.want_sc [58]).bind fun _ q q2 _ hq => ?_
       refine (hE.go _ _ _ _ _ _ _ hq).bind (fun y q q2 _ hq => ?_) fun _ x q ha y s' e => atEnd_ok ha e
       exact (ok_sc (α := Nat) rfl hq).sm
     · rw [if_neg p,if_neg p]
       exact (ok_sc (α := Nat) rfl hJ).sm
   · obtain ⟨hb,h0⟩ := hend_of q hend
     intro y s' e
     exact .inr ⟨hb,fin (atEnd_of h0) e⟩
 · unfold exprR at e
   obtain ⟨y,q,e1,_⟩ := bind_ok e
   exact hU.no s ha y q e1
theorem exprD_sim : ∀ d : Nat,SimE (exprD d).1 ∧ SimE (exprD d).2
 | 0 => ⟨expr_sim dead_sim dead_sim,sign_sim dead_sim dead_sim⟩
 | d + 1 => ⟨expr_sim (exprD_sim d).1 (exprD_sim d).2,sign_sim (exprD_sim d).1 (exprD_sim d).2⟩
end Go.Syn


namespace Go.Proofs.YtofhaneggcpdaaaDoor
open Go Go.Eng Go.Lex Go.Syn
set_option maxRecDepth 100000
def ow : Nat → List Str
 | 0 => [[97]]
 | 1 => [[49]]
 | 2 => [[102],[32],[40],[32],[98],[32],[44],[32],[50],[32],[41]]
 | 3 => [[91],[32],[99],[32],[44],[32],[93]]
 | 4 => [[45],[32],[100],[32],[46],[32],[101]]
 | 5 => [[40],[32],[103],[32],[41]]
 | _ => [[122]]
def sgL : List Str := [[124,124],[38,38],[61,61],[33,61],[60],[62],[60,61],[62,61],[43],[45],[42],[47],[37]]
def sg (s : Nat) : Str := sgL.getD s [41]
def nlW (w : Str) : Str := if w = [32] then [10] else w
def mW (m : Bool) (ws : List Str) : List Str := if m = true then ws.map nlW else ws
theorem mW_app (m : Bool) (u v : List Str) : mW m (u ++ v) = mW m u ++ mW m v := by cases m <;> simp [mW]
def spW (sp : Bool) : List Str := if sp = true then [[32]] else []
def frameW : List Str := [[41],[32],[93],[10],[125]]
def restW : List (Nat × Nat) → List Str
 | [] => ow 6 ++ [32] :: frameW
 | (o,s) :: r => ow o ++ [32] :: sg s :: [32] :: restW r
def followW : List (Nat × Nat) → List Str
 | [] => frameW
 | (_,s) :: r => sg s :: [32] :: restW r
def headO : List (Nat × Nat) → Nat
 | [] => 6
 | (o,_) :: _ => o
def headF : List (Nat × Nat) → Str
 | [] => [41]
 | (_,s) :: _ => sg s
def tailF : List (Nat × Nat) → List Str
 | [] => [[32],[93],[10],[125]]
 | (_,_) :: r => [32] :: restW r
theorem rest_follow : ∀ its,restW its = ow (headO its) ++ [32] :: followW its
 | [] => rfl
 | (_,_) :: _ => rfl
theorem follow_head : ∀ its,followW its = headF its :: tailF its
 | [] => rfl
 | (_,_) :: _ => rfl
def opW (m sp : Bool) (o : Nat) (f : Str) : List Str := mW m (spW sp ++ (ow o ++ [32] :: [f]))
def opA (m sp : Bool) (o : Nat) (f : Str) : List Tok := tkW 0 (opW m sp o f) ++ [⟨0,[],0⟩]
def opS (m sp : Bool) (o : Nat) (f : Str) : R Nat := (exprD 21).2 ⟨opA m sp o f,0,0,3,true,[],[]⟩
def opOk (sp : Bool) (o : Nat) (f : Str) : Bool := match opS false sp o f,opS true sp o f with
 | .ok x s,.ok y t => decide (x = y) && decide (s.ex = t.ex) && s.bl.isEmpty && t.bl.isEmpty && decide (s.i + 2 = (opA false sp o f).length) && decide (t.i + 2 = (opA true sp o f).length) &&
   decide ((cur s).k = 4) && decide ((cur t).k = 4) && decide (s.deep = 3) && decide (t.deep = 3) && s.quiet && t.quiet && (tkW 0 (opW false sp o f)).all (fun t => decide (t.k ≠ 0)) && (tkW 0 (opW true sp o f)).all (fun t => decide (t.k ≠ 0))
 | _,_ => false
def fwL : List Str := [41] :: sgL
theorem op_all0 : ∀ o ∈ List.range 7,∀ f ∈ fwL,opOk false o f = true := by decide +kernel
theorem op_all1 : ∀ o ∈ List.range 7,∀ f ∈ fwL,opOk true o f = true := by decide +kernel
end Go.Proofs.YtofhaneggcpdaaaDoor
namespace Go.Proofs.YtofhaneggcpdaaaDoor
open Go Go.Eng Go.Lex Go.Syn
set_option maxRecDepth 100000
def St (L : List Tok) (i : Nat) (ex : List Ex) : PS := ⟨L,i,0,3,true,ex,[]⟩
def Hd (m : Bool) (L : List Tok) (i at_ : Nat) (ws : List Str) : Prop := ∃ p,L.drop i = tkW at_ (mW m ws) ++ [⟨0,[],p⟩]
theorem mW_flat (m : Bool) (u : List Str) : (mW m u).flatten.length = u.flatten.length := by
 cases m with
 | false => rfl
 | true =>
   show (u.map nlW).flatten.length = _
   induction u with
   | nil => rfl
   | cons w u ih =>
     rw [List.map_cons,List.flatten_cons,List.flatten_cons,List.length_append,List.length_append,ih]
     congr 1
     unfold nlW
     split
     · rename_i h; rw [h]; rfl
     · rfl
theorem Hd.step {m : Bool} {L : List Tok} {i at_ : Nat} {u v : List Str} (h : Hd m L i at_ (u ++ v)) : Hd m L (i + (tkW at_ (mW m u)).length) (at_ + u.flatten.length) v := by
 obtain ⟨p,h⟩ := h
 refine ⟨p,?_⟩
 rw [← List.drop_drop,h,mW_app,tkW_app,List.append_assoc,List.drop_left,mW_flat]
theorem Hd.lt {m : Bool} {L : List Tok} {i at_ : Nat} {ws : List Str} (h : Hd m L i at_ ws) : i < L.length ∧ L.length = i + (tkW at_ (mW m ws)).length + 1 := by
 obtain ⟨p,h⟩ := h
 have := congrArg List.length h
 rw [List.length_drop,List.length_append,List.length_cons,List.length_nil] at this
 omega
theorem tkW_at (u : List Str) (at_ : Nat) : tkW at_ u = (tkW 0 u).map fun t => ⟨t.k,t.t,t.a + (at_ : Nat)⟩ := by
 have := tkW_mv u 0 at_
 rwa [Nat.zero_add] at this
theorem tkW_atlen (u : List Str) (at_ : Nat) : (tkW at_ u).length = (tkW 0 u).length := by rw [tkW_at,List.length_map]
theorem opW_split (m sp : Bool) (its : List (Nat × Nat)) : mW m (spW sp ++ restW its) = opW m sp (headO its) (headF its) ++ mW m (tailF its) := by
 unfold opW
 rw [← mW_app,rest_follow,follow_head]
 congr 1
 simp
theorem op_run {m sp : Bool} {its : List (Nat × Nat)} {L : List Tok} {i at_ : Nat} {ex : List Ex} {N : Int} (hg : TG N 0 L) (hN : 0 ≤ N) (hh : Hd m L i at_ (spW sp ++ restW its)) {x : Nat} {s : PS} (hr : opS m sp (headO its) (headF its) = .ok x s)
   (hc : (cur s).k = 4) (hd : s.deep = 3) (hq : s.quiet = true) (hb : s.bl = []) (hi : s.i + 2 = (opA m sp (headO its) (headF its)).length) (hk : ∀ t ∈ tkW 0 (opW m sp (headO its) (headF its)),t.k ≠ 0) :
   (exprD 21).2 (St L i ex) = .ok (x + ex.length) (St L (i + s.i) (ex ++ s.ex.map (mvE ex.length at_))) ∧ Hd m L (i + s.i) (at_ + (spW sp ++ (ow (headO its) ++ [[32]])).flatten.length) (followW its) := by
 have hlt := hh.lt
 have hws : WS N (St L i ex) := ⟨hg,hlt.1,hN⟩
 obtain ⟨p,hp⟩ := hh
 have hAl : (opA m sp (headO its) (headF its)).length = (tkW 0 (opW m sp (headO its) (headF its))).length + 1 := by unfold opA; simp
 have hL : ∀ j,L[j + i]? = (L.drop i)[j]? := fun j => by rw [List.getElem?_drop,Nat.add_comm]
 have hLA : ∀ (j : Nat) (t : Tok),j < (tkW 0 (opW m sp (headO its) (headF its))).length → (opA m sp (headO its) (headF its))[j]? = some t → t ∈ tkW 0 (opW m sp (headO its) (headF its)) ∧ L[j + i]? = some ⟨t.k,t.t,t.a + (at_ : Nat)⟩ := fun j t hj ht => by
   unfold opA at ht
   rw [List.getElem?_append_left hj] at ht
   refine ⟨List.mem_of_getElem? ht,?_⟩
   rw [hL,hp,opW_split,tkW_app,List.append_assoc,List.getElem?_append_left (by rw [tkW_atlen]; exact hj),tkW_at,List.getElem?_map,ht]
   rfl
 have hlen : (tkW 0 (opW m sp (headO its) (headF its))).length + i < L.length := by
   have h2 := hlt.2
   rw [opW_split,tkW_app,List.length_append,tkW_atlen] at h2
   omega
 have htr : TR false i (tkW 0 (opW m sp (headO its) (headF its))).length (at_ : Nat) (opA m sp (headO its) (headF its)) L := by
   refine ⟨hAl,hlen,fun j t hj ht => ?_,fun t ht => ?_,fun h => by cases h⟩
   · obtain ⟨h1,h2⟩ := hLA j t hj ht
     exact ⟨hk t h1,_,h2,rfl,rfl,rfl⟩
   · unfold opA at ht
     rw [List.getElem?_append_right (Nat.le_refl _),Nat.sub_self] at ht
     injection ht with ht; rw [← ht]
 have hj : JR i false (at_ : Nat) ex [] ⟨opA m sp (headO its) (headF its),0,0,3,true,[],[]⟩ (St L i ex) :=
   ⟨⟨i,_,(at_ : Nat),htr,(Nat.zero_add i).symm,Nat.zero_le _,rfl⟩,rfl,rfl,(List.append_nil _).symm,rfl,by show (opA m sp (headO its) (headF its)).length ≤ L.length; omega,(Nat.zero_add i).symm⟩
 rcases (exprD_sim 21).2.go _ _ _ _ _ _ _ hj x s hr with ⟨s2,g1,g2⟩ | ⟨_,ha⟩
 · have hsat := (exprD_ok N 21).2 _ hws
   rw [g1] at hsat
   have t1 : s2.toks = L := hsat.1.1.toks
   have t2 : s2.off = 0 := hsat.1.1.off
   have t3 := g2.deep.trans hd
   have t4 := g2.quiet.trans hq
   have t5 := g2.ex
   have t6 : s2.bl = [] := by rw [g2.bl,hb]; rfl
   have t7 : s2.i = i + s.i := by rw [g2.io]; omega
   refine ⟨?_,?_⟩
   · rw [g1]
     congr 1
     obtain ⟨a1,a2,a3,a4,a5,a6,a7⟩ := s2
     simp only at t1 t2 t3 t4 t5 t6 t7
     rw [t1,t2,t3,t4,t5,t6,t7]
     rfl
   · have hst : Hd m L i at_ ((spW sp ++ (ow (headO its) ++ [[32]])) ++ followW its) := ⟨p,by rw [hp,rest_follow]; congr 3; simp⟩
     have := hst.step
     have e : (tkW at_ (mW m (spW sp ++ (ow (headO its) ++ [[32]])))).length = s.i := by
       have e1 : opW m sp (headO its) (headF its) = mW m (spW sp ++ (ow (headO its) ++ [[32]])) ++ mW m [headF its] := by
         unfold opW
         rw [← mW_app]; congr 1; simp
       rw [e1,tkW_app,List.length_append,tkW_atlen (mW m [headF its])] at hAl
       have e2 : (tkW 0 (mW m [headF its])).length = 1 := by
         have hne : headF its ∈ fwL → (tkW 0 (mW m [headF its])).length = 1 := by
           generalize headF its = f
           have h1 : ∀ f ∈ fwL,(tkW 0 (mW false [f])).length = 1 ∧ (tkW 0 (mW true [f])).length = 1 := by decide
           intro hf
           cases m
           · exact (h1 f hf).1
           · exact (h1 f hf).2
         apply hne
         cases its with
         | nil => simp [headF,fwL]
         | cons q r =>
           show sg q.2 ∈ fwL
           unfold sg
           rw [List.getD_eq_getElem?_getD]
           cases h : sgL[q.2]? with
           | none => simp [fwL]
           | some f => exact List.mem_cons_of_mem _ (List.mem_of_getElem? h)
       rw [tkW_atlen]
       omega
     rwa [e] at this
 · have := atEnd_k ha
   omega
end Go.Proofs.YtofhaneggcpdaaaDoor
namespace Go.Proofs.YtofhaneggcpdaaaDoor
open Go Go.Eng Go.Lex Go.Syn
set_option maxRecDepth 100000
structure Two (L1 L2 : List Tok) (i1 i2 at_ : Nat) (ws : List Str) : Prop where
 one : Hd false L1 i1 at_ ws
 two : Hd true L2 i2 at_ ws
def Its (its : List (Nat × Nat)) : Prop := ∀ p ∈ its,p.1 < 6 ∧ p.2 < 13
theorem Its.o {its : List (Nat × Nat)} (h : Its its) : headO its ∈ List.range 7 := by
 cases its with
 | nil => simp [headO]
 | cons q r => have := (h q (by simp)).1; simp only [headO,List.mem_range]; omega
theorem head_in (its : List (Nat × Nat)) : headF its ∈ fwL := by
 cases its with
 | nil => simp [headF,fwL]
 | cons q r =>
   show sg q.2 ∈ fwL
   unfold sg
   rw [List.getD_eq_getElem?_getD]
   cases h : sgL[q.2]? with
   | none => simp [fwL]
   | some f => exact List.mem_cons_of_mem _ (List.mem_of_getElem? h)
theorem op_two {sp : Bool} {its : List (Nat × Nat)} {L1 L2 : List Tok} {i1 i2 at_ : Nat} {ex : List Ex} {N1 N2 : Int} (g1 : TG N1 0 L1) (g2 : TG N2 0 L2) (n1 : 0 ≤ N1) (n2 : 0 ≤ N2) (hI : Its its) (h : Two L1 L2 i1 i2 at_ (spW sp ++ restW its)) :
   ∃ x j1 j2 ex' at',(exprD 21).2 (St L1 i1 ex) = .ok x (St L1 j1 ex') ∧ (exprD 21).2 (St L2 i2 ex) = .ok x (St L2 j2 ex') ∧ Two L1 L2 j1 j2 at' (followW its) := by
 have hok : opOk sp (headO its) (headF its) = true := by
   cases sp
   · exact op_all0 _ hI.o _ (head_in its)
   · exact op_all1 _ hI.o _ (head_in its)
 unfold opOk at hok
 cases h1 : opS false sp (headO its) (headF its) with
 | err c a => rw [h1] at hok; cases hok
 | ok x s =>
 cases h2 : opS true sp (headO its) (headF its) with
 | err c a => rw [h1,h2] at hok; cases hok
 | ok y t =>
 rw [h1,h2] at hok
 simp only [Bool.and_eq_true,decide_eq_true_iff,List.isEmpty_iff,List.all_eq_true] at hok
 obtain ⟨⟨⟨⟨⟨⟨⟨⟨⟨⟨⟨⟨⟨e1,e2⟩,e3⟩,e4⟩,e5⟩,e6⟩,e7⟩,e8⟩,e9⟩,e10⟩,e11⟩,e12⟩,e13⟩,e14⟩ := hok
 obtain ⟨r1,r2⟩ := op_run (ex := ex) g1 n1 h.one h1 e7 e9 e11 e3 e5 e13
 obtain ⟨r3,r4⟩ := op_run (ex := ex) g2 n2 h.two h2 e8 e10 e12 e4 e6 e14
 subst e1
 rw [← e2] at r3
 exact ⟨_,_,_,_,_,r1,r3,⟨r2,r4⟩⟩
theorem fw_kind : ∀ f ∈ fwL,kW f = 4 ∧ f ≠ [32] ∧ nlW f = f := by decide
theorem Hd.cons {m : Bool} {L : List Tok} {i at_ : Nat} {w : Str} {ws : List Str} (h : Hd m L i at_ (w :: ws)) (h1 : w ≠ [32]) (h2 : nlW w = w) : ∃ r,L.drop i = ⟨kW w,w,(at_ : Nat)⟩ :: r ∧ Hd m L (i + 1) (at_ + w.length) ws := by
 obtain ⟨p,hp⟩ := h
 have e : mW m (w :: ws) = w :: mW m ws := by
   cases m with
   | false => rfl
   | true => show nlW w :: _ = _; rw [h2]; rfl
 rw [e,tkW_cons,if_neg h1] at hp
 refine ⟨_,hp,p,?_⟩
 rw [← List.drop_drop,hp]
 rfl
theorem fw_cur {m : Bool} {L : List Tok} {j at_ : Nat} {its : List (Nat × Nat)} (h : Hd m L j at_ (followW its)) (ex : List Ex) : nowS (St L j ex) = St L j ex ∧ cur (St L j ex) = ⟨4,headF its,(at_ : Nat)⟩ ∧ Hd m L (j + 1) (at_ + (headF its).length) (tailF its) := by
 obtain ⟨f1,f2,f3⟩ := fw_kind _ (head_in its)
 rw [follow_head] at h
 have hlt := h.lt.1
 obtain ⟨r,hr,h2⟩ := h.cons f2 f3
 have hn : nowS (St L j ex) = St L j ex := by
   unfold nowS
   rw [if_pos (show (St L j ex).quiet = true from rfl)]
   have : lineRun ((St L j ex).toks.drop (St L j ex).i) = 0 := by
     show lineRun (L.drop j) = 0
     rw [hr]
     simp only [lineRun,f1]
     rw [if_neg (by decide)]
   rw [this]; rfl
 refine ⟨hn,?_,h2⟩
 unfold cur
 rw [hn]
 have e : tokI (St L j ex) = ⟨kW (headF its),headF its,(at_ : Nat)⟩ := by
   unfold tokI
   show L.getD j _ = _
   have := congrArg (fun l => l[0]?) hr
   simp only [List.getElem?_drop,Nat.add_zero,List.getElem?_cons_zero] at this
   rw [List.getD_eq_getElem?_getD,this]; rfl
 rw [e,f1]
 show (⟨4,headF its,((at_ : Nat) : Int) + 0⟩ : Tok) = _
 rw [Int.add_zero]
def lv (s : Nat) : Nat := [0,1,2,2,3,3,3,3,4,4,5,5,5].getD s 0
theorem join_lv : ∀ n,n < 6 → ∀ s,s < 13 → (joinK n (sg s) = 0 ↔ lv s ≠ n) := by decide
theorem join_par : ∀ n,n < 6 → joinK n [41] = 0 := by decide
theorem lv_lt : ∀ s,s < 13 → lv s < 6 := by decide
def LowS (b : Nat) (its : List (Nat × Nat)) : Prop := ∀ o s r,its = (o,s) :: r → lv s < b
section
variable {L1 L2 : List Tok}
def Up (L1 L2 : List Tok) (F : PS → R Nat) (b : Nat) : Prop := ∀ (its : List (Nat × Nat)) (i1 i2 at_ : Nat) (sp : Bool) (ex : List Ex),Its its → Two L1 L2 i1 i2 at_ (spW sp ++ restW its) →
 ∃ x j1 j2 ex' at' its',F (St L1 i1 ex) = .ok x (St L1 j1 ex') ∧ F (St L2 i2 ex) = .ok x (St L2 j2 ex') ∧ Two L1 L2 j1 j2 at' (followW its') ∧ Its its' ∧ its'.length ≤ its.length ∧ LowS b its'
theorem up_zero {N1 N2 : Int} (g1 : TG N1 0 L1) (g2 : TG N2 0 L2) (n1 : 0 ≤ N1) (n2 : 0 ≤ N2) : Up L1 L2 (joinU (exprD 20).1 (exprD 20).2 0) 6 := fun its i1 i2 at_ sp ex hI h => by
 obtain ⟨x,j1,j2,ex',at',r1,r2,r3⟩ := op_two (ex := ex) g1 g2 n1 n2 hI h
 exact ⟨x,j1,j2,ex',at',its,r1,r2,r3,hI,Nat.le_refl _,fun o s r e => lv_lt s (hI (o,s) (by rw [e]; simp)).2⟩
theorem join_two {J : PS → R Nat} {n : Nat} (hn : n < 6) (hJ : Up L1 L2 J (n + 1)) : ∀ (k : Nat) (its : List (Nat × Nat)) (j1 j2 at_ f1 f2 a : Nat) (ex : List Ex),its.length ≤ k → k < f1 → k < f2 → Its its → LowS (n + 1) its → Two L1 L2 j1 j2 at_ (followW its) →
   ∃ x j1' j2' ex' at' its',joinF J n f1 (St L1 j1 ex) a = .ok x (St L1 j1' ex') ∧ joinF J n f2 (St L2 j2 ex) a = .ok x (St L2 j2' ex') ∧ Two L1 L2 j1' j2' at' (followW its') ∧ Its its' ∧ its'.length ≤ its.length ∧ LowS n its'
 | k,its,j1,j2,at_,f1,f2,a,ex,hk,h1,h2,hI,hlo,h => by
   obtain ⟨f1,rfl⟩ : ∃ j,f1 = j + 1 := ⟨f1 - 1,by omega⟩
   obtain ⟨f2,rfl⟩ : ∃ j,f2 = j + 1 := ⟨f2 - 1,by omega⟩
   obtain ⟨a1,a2,a3⟩ := fw_cur h.one ex
   obtain ⟨b1,b2,b3⟩ := fw_cur h.two ex
   simp only [joinF]
   rw [a1,a2,b1,b2]
   have el : levelK ⟨4,headF its,(at_ : Nat)⟩ n = joinK n (headF its) := by unfold levelK; rw [if_pos rfl]
   rw [el]
   match its,hk,hI,hlo,h,a3,b3 with
   | [],_,hI,_,h,_,_ =>
     rw [if_pos (show joinK n (headF []) = 0 from join_par n hn),if_pos (show joinK n (headF []) = 0 from join_par n hn)]
     exact ⟨a,j1,j2,ex,at_,[],rfl,rfl,h,hI,Nat.le_refl _,fun o s r e => by cases e⟩
   | (o,s) :: r,hk,hI,hlo,h,a3,b3 =>
     have hs := (hI (o,s) (by simp)).2
     by_cases hz : joinK n (headF ((o,s) :: r)) = 0
     · rw [if_pos hz,if_pos hz]
       refine ⟨a,j1,j2,ex,at_,_,rfl,rfl,h,hI,Nat.le_refl _,fun o' s' r' e => ?_⟩
       injection e with e _
       injection e with _ e
       subst e
       have h3 := (join_lv n hn s hs).1 hz
       have h4 := hlo o s r rfl
       omega
     · rw [if_neg hz,if_neg hz]
       obtain ⟨k,rfl⟩ : ∃ j,k = j + 1 := ⟨k - 1,by simp only [List.length_cons] at hk; omega⟩
       have hIr : Its r := fun p hp => hI p (List.mem_cons_of_mem _ hp)
       obtain ⟨b,q1,q2,ex',at',its',r1,r2,r3,r4,r5,r6⟩ := hJ r (j1 + 1) (j2 + 1) _ true ex hIr ⟨a3,b3⟩
       have e1 : step1 (St L1 j1 ex) = St L1 (j1 + 1) ex := rfl
       have e2 : step1 (St L2 j2 ex) = St L2 (j2 + 1) ex := rfl
       rw [e1,e2,r1,r2]
       simp only [List.length_cons] at hk
       obtain ⟨x,q1',q2',ex2,at2,its2,s1,s2,s3,s4,s5,s6⟩ := join_two hn hJ k its' q1 q2 at' f1 f2 ex'.length (ex' ++ [⟨joinK n (headF ((o,s) :: r)),[],[a,b],[],(at_ : Nat)⟩]) (by omega) (by omega) (by omega) r4 r6 r3
       exact ⟨x,q1',q2',ex2,at2,its2,s1,s2,s3,s4,by simp only [List.length_cons]; omega,s6⟩
theorem its_few (m : Bool) : ∀ (its : List (Nat × Nat)) (at_ : Nat),its.length ≤ (tkW at_ (mW m (restW its))).length
 | [],_ => Nat.zero_le _
 | (o,s) :: r,at_ => by
   have e : restW ((o,s) :: r) = (ow o ++ [[32]]) ++ ([headF ((o,s) :: r)] ++ ([[32]] ++ restW r)) := by simp [restW,headF]
   obtain ⟨_,f2,f3⟩ := fw_kind _ (head_in ((o,s) :: r))
   have hs : ∀ (u v : List Str) (b : Nat),(tkW b (mW m (u ++ v))).length = (tkW b (mW m u)).length + (tkW (b + (mW m u).flatten.length) (mW m v)).length := fun u v b => by rw [mW_app,tkW_app,List.length_append]
   rw [e]
   generalize ow o ++ [[32]] = A
   rw [hs,hs,hs]
   simp only [List.length_cons]
   have h1 : ∀ b,(tkW b (mW m [headF ((o,s) :: r)])).length = 1 := fun b => by
     have : mW m [headF ((o,s) :: r)] = [headF ((o,s) :: r)] := by
       cases m with
       | false => rfl
       | true => show [nlW _] = _; rw [f3]
     rw [this,tkW_cons,if_neg f2]; rfl
   rw [h1]
   have := its_few m r (at_ + (mW m A).flatten.length + (mW m [headF ((o,s) :: r)]).flatten.length + (mW m [[32]]).flatten.length)
   omega
theorem follow_few {m : Bool} {L : List Tok} {j at_ : Nat} {its : List (Nat × Nat)} (h : Hd m L j at_ (followW its)) : its.length < L.length := by
 have h1 := h.lt
 cases its with
 | nil => simp only [List.length_nil]; omega
 | cons q r =>
   have e : followW (q :: r) = [headF (q :: r),[32]] ++ restW r := rfl
   rw [e,mW_app,tkW_app,List.length_append] at h1
   have h2 := its_few m r (at_ + (mW m [headF (q :: r),[32]]).flatten.length)
   obtain ⟨_,f2,f3⟩ := fw_kind _ (head_in (q :: r))
   have h3 : 1 ≤ (tkW at_ (mW m [headF (q :: r),[32]])).length := by
     have : mW m [headF (q :: r),[32]] = headF (q :: r) :: mW m [[32]] := by
       cases m with
       | false => rfl
       | true => show nlW _ :: _ = _; rw [f3]; rfl
     rw [this,tkW_cons,if_neg f2,List.length_cons]; omega
   simp only [List.length_cons]
   omega
theorem up_all {N1 N2 : Int} (g1 : TG N1 0 L1) (g2 : TG N2 0 L2) (n1 : 0 ≤ N1) (n2 : 0 ≤ N2) : ∀ m,m ≤ 6 → Up L1 L2 (joinU (exprD 20).1 (exprD 20).2 m) (6 - m)
 | 0,_ => up_zero g1 g2 n1 n2
 | m + 1,hm => by
   intro its i1 i2 at_ sp ex hI h
   have hU := up_all g1 g2 n1 n2 m (by omega)
   obtain ⟨a,j1,j2,ex',at',its',r1,r2,r3,r4,r5,r6⟩ := hU its i1 i2 at_ sp ex hI h
   rw [show 6 - m = 5 - m + 1 by omega] at r6 hU
   obtain ⟨x,q1,q2,ex2,at2,its2,s1,s2,s3,s4,s5,s6⟩ := join_two (n := 5 - m) (by omega) hU its'.length its' j1 j2 at' (L1.length + 1) (L2.length + 1) a ex' (Nat.le_refl _) (by have := follow_few r3.one; omega) (by have := follow_few r3.two; omega) r4 r6 r3
   refine ⟨x,q1,q2,ex2,at2,its2,?_,?_,s3,s4,by omega,by rw [show 6 - (m + 1) = 5 - m by omega]; exact s6⟩
   · show ((joinU (exprD 20).1 (exprD 20).2 m (St L1 i1 ex)).bind fun a s1 => joinF (joinU (exprD 20).1 (exprD 20).2 m) (5 - m) ((St L1 i1 ex).toks.length + 1) s1 a) = _
     rw [r1]; exact s1
   · show ((joinU (exprD 20).1 (exprD 20).2 m (St L2 i2 ex)).bind fun a s1 => joinF (joinU (exprD 20).1 (exprD 20).2 m) (5 - m) ((St L2 i2 ex).toks.length + 1) s1 a) = _
     rw [r2]; exact s2
theorem expr_two {N1 N2 : Int} (g1 : TG N1 0 L1) (g2 : TG N2 0 L2) (n1 : 0 ≤ N1) (n2 : 0 ≤ N2) {its : List (Nat × Nat)} {i1 i2 at_ : Nat} {sp : Bool} {ex : List Ex} (hI : Its its) (h : Two L1 L2 i1 i2 at_ (spW sp ++ restW its)) :
   ∃ x j1 j2 ex' at',(exprD 21).1 (St L1 i1 ex) = .ok x (St L1 j1 ex') ∧ (exprD 21).1 (St L2 i2 ex) = .ok x (St L2 j2 ex') ∧ Two L1 L2 j1 j2 at' frameW := by
 obtain ⟨a,j1,j2,ex',at',its',r1,r2,r3,r4,r5,r6⟩ := up_all g1 g2 n1 n2 6 (Nat.le_refl _) its i1 i2 at_ sp ex hI h
 have he : its' = [] := by
   cases its' with
   | nil => rfl
   | cons q r => exact absurd (r6 q.1 q.2 r rfl) (by omega)
 subst he
 have tk : ∀ {m : Bool} {L : List Tok} {j : Nat},Hd m L j at' (followW []) → takeS (St L j ex') [63] = (false,St L j ex') := fun {m} {L} {j} h => by
   obtain ⟨a1,a2,_⟩ := fw_cur h ex'
   unfold takeS
   have : isS (St L j ex') [63] = false := by
     unfold isS
     rw [a2]
     show (decide ((4 : Int) = 4) && decide (([41] : Str) = [63])) = false
     decide
   rw [this,if_neg (by decide),a1]
 refine ⟨a,j1,j2,ex',at',?_,?_,r3⟩
 · show exprR (exprD 20).1 (exprD 20).2 (St L1 i1 ex) = _
   unfold exprR
   rw [r1]
   simp only [R.bind,tk r3.one]
   rfl
 · show exprR (exprD 20).1 (exprD 20).2 (St L2 i2 ex) = _
   unfold exprR
   rw [r2]
   simp only [R.bind,tk r3.two]
   rfl
end
end Go.Proofs.YtofhaneggcpdaaaDoor
namespace Go.Proofs.YtofhaneggcpdaaaDoor
open Go Go.Eng Go.Lex Go.Syn
set_option maxRecDepth 100000
def Sq (L : List Tok) (i d : Nat) (q : Bool) (ex : List Ex) (bl : List Blk) : PS := ⟨L,i,0,d,q,ex,bl⟩
section
variable {L : List Tok} {i d : Nat} {q : Bool} {ex : List Ex} {bl : List Blk} {t n : Tok} {r : List Tok}
theorem tok_at (h : L.drop i = t :: r) : tokI (Sq L i d q ex bl) = t ∧ L.drop (i + 1) = r := by
 have h0 := congrArg (fun l => l[0]?) h
 simp only [List.getElem?_drop,Nat.add_zero,List.getElem?_cons_zero] at h0
 refine ⟨?_,by rw [← List.drop_drop,h]; rfl⟩
 unfold tokI
 show L.getD i _ = _
 rw [List.getD_eq_getElem?_getD,h0]; rfl
theorem run_at (h : L.drop i = t :: r) (ht : t.k ≠ 5) : lineRun (L.drop i) = 0 := by
 rw [h]
 simp only [lineRun]
 rw [if_neg ht]
theorem run_nl (h : L.drop i = n :: t :: r) (hn : n.k = 5) (ht : t.k ≠ 5) : lineRun (L.drop i) = 1 := by
 rw [h]
 simp only [lineRun]
 rw [if_pos hn,if_neg ht]
theorem now_at (h : L.drop i = t :: r) (hq : q = false ∨ t.k ≠ 5) : nowS (Sq L i d q ex bl) = Sq L i d q ex bl ∧ cur (Sq L i d q ex bl) = t := by
 have e : nowS (Sq L i d q ex bl) = Sq L i d q ex bl := by
   unfold nowS
   by_cases hh : q = true
   · rw [if_pos (show (Sq L i d q ex bl).quiet = true from hh)]
     have : lineRun ((Sq L i d q ex bl).toks.drop (Sq L i d q ex bl).i) = 0 := run_at h (hq.resolve_left (by rw [hh]; decide))
     rw [this]; rfl
   · rw [if_neg (show ¬ (Sq L i d q ex bl).quiet = true from hh)]
 refine ⟨e,?_⟩
 unfold cur
 rw [e,(tok_at h).1]
 show (⟨t.k,t.t,t.a + 0⟩ : Tok) = t
 rw [Int.add_zero]
def brk (m : Bool) (n : Tok) : List Tok := if m = true then [n] else []
theorem now_m (m : Bool) (h : L.drop i = brk m n ++ t :: r) (hn : n.k = 5) (ht : t.k ≠ 5) : nowS (Sq L i d true ex bl) = Sq L (i + (brk m n).length) d true ex bl ∧ cur (Sq L i d true ex bl) = t ∧ L.drop (i + (brk m n).length) = t :: r := by
 cases m with
 | false =>
   have h : L.drop i = t :: r := h
   obtain ⟨h1,h2⟩ := now_at (d := d) (q := true) (ex := ex) (bl := bl) h (.inr ht)
   exact ⟨h1,h2,h⟩
 | true =>
   have h : L.drop i = n :: t :: r := h
   have h1 := (tok_at (d := d) (q := true) (ex := ex) (bl := bl) h).2
   have e : nowS (Sq L i d true ex bl) = Sq L (i + 1) d true ex bl := by
     unfold nowS
     rw [if_pos (show (Sq L i d true ex bl).quiet = true from rfl)]
     have : lineRun ((Sq L i d true ex bl).toks.drop (Sq L i d true ex bl).i) = 1 := run_nl h hn ht
     rw [this]; rfl
   refine ⟨e,?_,h1⟩
   unfold cur
   rw [e,(tok_at h1).1]
   show (⟨t.k,t.t,t.a + 0⟩ : Tok) = t
   rw [Int.add_zero]
theorem is_of {s : PS} (h : cur s = t) (w : Str) : isS s w = (decide (t.k = 4) && decide (t.t = w)) := by unfold isS; rw [h]
theorem take_no {s : PS} {w : Str} (h : isS s w = false) : takeS s w = (false,nowS s) := by unfold takeS; rw [h,if_neg (by decide)]
theorem take_yes {s : PS} {w : Str} (h : isS s w = true) : takeS s w = (true,step1 (nowS s)) := by unfold takeS; rw [if_pos h]
theorem expr_plain {E S : PS → R Nat} {s s1 : PS} {a : Nat} (h : signR E S s = .ok a s1) (hn : nowS s1 = s1) (hl : ∀ n,n < 6 → levelK (cur s1) n = 0) (hq : isS s1 [63] = false) : exprR E S s = .ok a s1 := by
 have hU : ∀ m,m ≤ 6 → joinU E S m s = .ok a s1 := by
   intro m
   induction m with
   | zero => exact fun _ => h
   | succ m ih =>
     intro hm
     show (joinU E S m s).bind _ = _
     rw [ih (by omega)]
     show joinF (joinU E S m) (5 - m) (s.toks.length + 1) s1 a = _
     simp only [joinF]
     rw [hl _ (by omega),if_pos rfl,hn]
 unfold exprR
 rw [hU 6 (Nat.le_refl _)]
 simp only [R.bind,take_no hq,hn]
 rw [if_neg (by decide)]
theorem post_plain {E : PS → R Nat} {s s1 : PS} {x : Nat} (h : atomR E s = .ok x s1) (h1 : isS (nowS s1) [46] = false) (h2 : isS (nowS s1) [91] = false) : postR E s = .ok x (nowS s1) := by
 unfold postR
 rw [h]
 simp only [R.bind,postF,take_no h1,h2]
 rw [if_neg (by decide),if_neg (by decide)]
theorem lev_none {t : Tok} (h : t.k ≠ 4 ∨ t.t = [93]) : ∀ n,n < 6 → levelK t n = 0 := by
 intro n hn
 unfold levelK
 by_cases hk : t.k = 4
 · rw [if_pos hk,h.resolve_left (fun e => e hk)]
   exact (show ∀ n,n < 6 → joinK n [93] = 0 by decide) n hn
 · rw [if_neg hk]
theorem sign_post {E S : PS → R Nat} {s : PS} (h1 : isS (nowS s) [33] = false) (h2 : isS (nowS s) [45] = false) : signR E S s = postR E (nowS s) := by
 unfold signR
 simp only
 rw [h1,h2,if_neg (by decide),if_neg (by decide)]
theorem atom_par {E : PS → R Nat} {s : PS} {a : Int} (hn : nowS s = s) (h : cur s = ⟨4,[40],a⟩) : atomR E s = within s a true fun q => (E (step1 q)).bind fun x q1 => (wantR q1 [41]).bind fun _ q2 => .ok x q2 := by
 have i1 : isS s [40] = true := by rw [is_of h]; rfl
 unfold atomR
 simp only
 rw [h,hn]
 simp only
 rw [if_neg (by decide),if_neg (by decide),if_neg (by rintro ⟨e,_⟩; exact absurd e (by decide)),i1,if_pos rfl]
theorem atom_list {E : PS → R Nat} {s : PS} {a : Int} (hn : nowS s = s) (h : cur s = ⟨4,[91],a⟩) : atomR E s = (within s a true fun q => listR E q a).bind fun e s2 => putR s2 e := by
 have i1 : isS s [40] = false := by rw [is_of h]; rfl
 have i2 : isS s [91] = true := by rw [is_of h]; rfl
 unfold atomR
 simp only
 rw [h,hn]
 simp only
 rw [if_neg (by decide),if_neg (by decide),if_neg (by rintro ⟨e,_⟩; exact absurd e (by decide)),i1,i2,if_neg (by decide),if_pos rfl]
end
def wsM (m : Bool) (its : List (Nat × Nat)) : List Str := [[97],[32],[123],[10],[120],[32],[61],[32]] ++ mW m ([[91],[32],[40]] ++ restW its)
def preT (m : Bool) : List Tok := [⟨1,[97],0⟩,⟨4,[123],2⟩,⟨5,[10],3⟩,⟨1,[120],4⟩,⟨4,[61],6⟩,⟨4,[91],8⟩] ++ (brk m ⟨5,[10],9⟩ ++ [⟨4,[40],10⟩])
theorem ws_toks (m : Bool) (its : List (Nat × Nat)) : tkW 0 (wsM m its) = preT m ++ tkW 11 (mW m (restW its)) := by
 unfold wsM
 rw [mW_app,← List.append_assoc,tkW_app]
 cases m
 · rfl
 · rfl
def endT (m : Bool) (at_ : Nat) (p : Int) : List Tok := ⟨4,[41],(at_ : Nat)⟩ :: (brk m ⟨5,[10],((at_ + 1 : Nat) : Int)⟩ ++ [⟨4,[93],((at_ + 2 : Nat) : Int)⟩,⟨5,[10],((at_ + 3 : Nat) : Int)⟩,⟨4,[125],((at_ + 4 : Nat) : Int)⟩,⟨0,[],p⟩])
theorem frame_toks {m : Bool} {L : List Tok} {j at_ : Nat} (h : Hd m L j at_ frameW) : ∃ p,L.drop j = endT m at_ p := by
 obtain ⟨p,h⟩ := h
 refine ⟨p,?_⟩
 rw [h]
 cases m
 · rfl
 · rfl
theorem lines_nl {L : List Tok} {i d : Nat} {ex : List Ex} {bl : List Blk} {t n : Tok} {r : List Tok} (h : L.drop i = n :: t :: r) (hn : n.k = 5) (ht : t.k ≠ 5) : linesS (Sq L i d false ex bl) = Sq L (i + 1) d false ex bl := by
 have e : nowS (Sq L i d false ex bl) = Sq L i d false ex bl := (now_at h (.inl rfl)).1
 unfold linesS
 rw [e]
 have : lineRun ((Sq L i d false ex bl).toks.drop (Sq L i d false ex bl).i) = 1 := run_nl h hn ht
 rw [this]; rfl
theorem lines_at {L : List Tok} {i d : Nat} {ex : List Ex} {bl : List Blk} {t : Tok} {r : List Tok} (h : L.drop i = t :: r) (ht : t.k ≠ 5) : linesS (Sq L i d false ex bl) = Sq L i d false ex bl := by
 have e : nowS (Sq L i d false ex bl) = Sq L i d false ex bl := (now_at h (.inl rfl)).1
 unfold linesS
 rw [e]
 have : lineRun ((Sq L i d false ex bl).toks.drop (Sq L i d false ex bl).i) = 0 := run_at h ht
 rw [this]; rfl
theorem kind_at {L : List Tok} {i d : Nat} {ex : List Ex} {bl : List Blk} {t : Tok} {r : List Tok} (h : L.drop i = t :: r) (ht : t.k ≠ 0) : kindR (Sq L i d false ex bl) t.k = .ok t (Sq L (i + 1) d false ex bl) := by
 obtain ⟨a1,a2⟩ := now_at (d := d) (q := false) (ex := ex) (bl := bl) h (.inl rfl)
 unfold kindR nextS
 rw [a2,if_pos rfl,if_pos ht,a1]; rfl
theorem drop_next {L : List Tok} {i : Nat} {t : Tok} {r : List Tok} (h : L.drop i = t :: r) : L.drop (i + 1) = r := by rw [← List.drop_drop,h]; rfl
theorem frame_run {m : Bool} {L : List Tok} {j at_ : Nat} {T : List Tok} {x : Nat} {ex : List Ex} (hL : L = preT m ++ T) (hE : (exprD 21).1 (St L (preT m).length []) = .ok x (St L j ex)) (hf : Hd m L j at_ frameW) :
   ∃ s',topF (L.length + 1) (linesS ⟨L,0,0,0,false,[],[]⟩) [] = .ok [0] s' ∧ s'.ex = ex ++ [⟨7,[],[x],[],8⟩] ∧ s'.bl = [⟨[97],[],[⟨[120],ex.length,4⟩],[],0⟩] := by
 obtain ⟨p,hj⟩ := frame_toks hf
 have h0 : L.drop 0 = ⟨1,[97],0⟩ :: ⟨4,[123],2⟩ :: ⟨5,[10],3⟩ :: ⟨1,[120],4⟩ :: ⟨4,[61],6⟩ :: ⟨4,[91],8⟩ :: (brk m ⟨5,[10],9⟩ ++ ⟨4,[40],10⟩ :: T) := by
   rw [hL]; cases m <;> rfl
 have h1 := drop_next h0
 have h2 := drop_next h1
 have h3 := drop_next h2
 have h4 := drop_next h3
 have h5 := drop_next h4
 have h6 := drop_next h5
 simp only [Nat.zero_add,Nat.reduceAdd] at h1 h2 h3 h4 h5 h6
 obtain ⟨l,hl⟩ : ∃ l,L.length = l + 1 := ⟨L.length - 1,by
   have := congrArg List.length h0
   rw [List.drop_zero,List.length_cons] at this
   omega⟩
 have hc : (preT m).length = 6 + (brk m ⟨5,[10],9⟩).length + 1 := by cases m <;> rfl
 rw [hc] at hE
 have q6 := fun d ex bl => now_m (L := L) (i := 6) (d := d) (ex := ex) (bl := bl) m h6 rfl (show (4 : Int) ≠ 5 by decide)
 generalize (brk m ⟨5,[10],9⟩).length = c at *
 have hp : L.drop (6 + c) = ⟨4,[40],10⟩ :: T := (q6 0 [] []).2.2
 have hj1 := drop_next hj
 have qj := fun d ex bl => now_m (L := L) (i := j + 1) (d := d) (ex := ex) (bl := bl) m hj1 rfl (show (4 : Int) ≠ 5 by decide)
 generalize (brk m ⟨5,[10],((at_ + 1 : Nat) : Int)⟩).length = c2 at *
 have k1 := (qj 0 [] []).2.2
 have k2 := drop_next k1
 have k3 := drop_next k2
 have k4 := drop_next k3
 clear hj1 h6
 -- between the brackets
 have A : (exprD 22).1 (Sq L (6 + c) 2 true [] []) = .ok x (Sq L (j + 1 + c2) 2 true ex []) := by
   obtain ⟨a1,a2⟩ := now_at (d := 2) (q := true) (ex := []) (bl := []) hp (.inr (show (4 : Int) ≠ 5 by decide))
   obtain ⟨b1,b2⟩ := now_at (d := 3) (q := true) (ex := ex) (bl := []) hj (.inr (show (4 : Int) ≠ 5 by decide))
   obtain ⟨c1,c3,_⟩ := qj 2 ex []
   obtain ⟨d1,d2⟩ := now_at (d := 2) (q := true) (ex := ex) (bl := []) k1 (.inr (show (4 : Int) ≠ 5 by decide))
   refine expr_plain (E := (exprD 21).1) (S := (exprD 21).2) ?_ d1 (by rw [d2]; exact lev_none (.inr rfl)) (by rw [is_of d2]; rfl)
   rw [sign_post (by rw [a1,is_of a2]; rfl) (by rw [a1,is_of a2]; rfl),a1,← c1]
   refine post_plain ?_ (by rw [c1,is_of d2]; rfl) (by rw [c1,is_of d2]; rfl)
   rw [atom_par a1 a2]
   unfold within
   rw [if_neg (show ¬ (Sq L (6 + c) 2 true [] []).deep = 24 from (show ¬ (2 : Nat) = 24 by decide))]
   have e1 : step1 { Sq L (6 + c) 2 true [] [] with deep := (Sq L (6 + c) 2 true [] []).deep + 1,quiet := true } = St L (6 + c + 1) [] := rfl
   simp only [e1,hE,R.bind]
   have e2 : wantR (St L j ex) [41] = .ok () (Sq L (j + 1) 3 true ex []) := by
     unfold wantR
     have : isS (St L j ex) [41] = true := by rw [is_of (show cur (St L j ex) = _ from b2)]; rfl
     rw [if_pos this,show nowS (St L j ex) = St L j ex from b1]; rfl
   rw [e2]
   rfl
 have B : listR (exprD 22).1 (Sq L 5 2 true [] []) 8 = .ok ⟨7,[],[x],[],8⟩ (Sq L (j + 1 + c2 + 1) 2 true ex []) := by
   obtain ⟨a1,a2,_⟩ := q6 2 [] []
   obtain ⟨b1,b2⟩ := now_at (d := 2) (q := true) (ex := []) (bl := []) hp (.inr (show (4 : Int) ≠ 5 by decide))
   obtain ⟨d1,d2⟩ := now_at (d := 2) (q := true) (ex := ex) (bl := []) k1 (.inr (show (4 : Int) ≠ 5 by decide))
   unfold listR
   have e1 : step1 (Sq L 5 2 true [] []) = Sq L 6 2 true [] [] := rfl
   simp only [e1]
   rw [if_pos (.inl (by rw [a2]; decide)),a1]
   unfold argsR
   have e2 : (Sq L (6 + c) 2 true [] []).toks.length + 1 = l + 1 + 1 := by show L.length + 1 = _; rw [hl]
   have t1 : takeS (Sq L (6 + c) 2 true [] []) [93] = (false,Sq L (6 + c) 2 true [] []) := by rw [take_no (by rw [is_of b2]; rfl),b1]
   have t2 : takeS (Sq L (j + 1 + c2) 2 true ex []) [93] = (true,Sq L (j + 1 + c2 + 1) 2 true ex []) := by rw [take_yes (by rw [is_of d2]; rfl),d1]; rfl
   rw [e2]
   simp only [argsF,t1,t2,A,R.bind]
   rfl
 have C : (exprD 23).1 (Sq L 5 1 false [] []) = .ok ex.length (Sq L (j + 1 + c2 + 1) 1 false (ex ++ [⟨7,[],[x],[],8⟩]) []) := by
   obtain ⟨a1,a2⟩ := now_at (d := 1) (q := false) (ex := []) (bl := []) h5 (.inl rfl)
   obtain ⟨d1,d2⟩ := now_at (d := 1) (q := false) (ex := ex ++ [⟨7,[],[x],[],8⟩]) (bl := []) k2 (.inl rfl)
   refine expr_plain (E := (exprD 22).1) (S := (exprD 22).2) ?_ d1 (by rw [d2]; exact lev_none (.inl (show (5 : Int) ≠ 4 by decide))) (by rw [is_of d2]; rfl)
   rw [sign_post (by rw [a1,is_of a2]; rfl) (by rw [a1,is_of a2]; rfl),a1]
   have := post_plain (E := (exprD 22).1) (s := Sq L 5 1 false [] []) (s1 := Sq L (j + 1 + c2 + 1) 1 false (ex ++ [⟨7,[],[x],[],8⟩]) []) (x := ex.length) ?_ (by rw [d1,is_of d2]; rfl) (by rw [d1,is_of d2]; rfl)
   · rw [d1] at this; exact this
   rw [atom_list a1 a2]
   unfold within
   rw [if_neg (show ¬ (Sq L 5 1 false [] []).deep = 24 from (show ¬ (1 : Nat) = 24 by decide))]
   have e1 : ({ Sq L 5 1 false [] [] with deep := (Sq L 5 1 false [] []).deep + 1,quiet := true } : PS) = Sq L 5 2 true [] [] := rfl
   simp only [e1,B,R.bind]
   rfl
 generalize hex2 : ex ++ [⟨7,[],[x],[],8⟩] = ex2 at *
 have n50 : (5 : Int) ≠ 4 := by decide
 have n45 : (4 : Int) ≠ 5 := by decide
 have n15 : (1 : Int) ≠ 5 := by decide
 have n10 : (1 : Int) ≠ 0 := by decide
 have D : blockD 24 (Sq L 0 0 false [] []) = .ok 0 (Sq L (j + 1 + c2 + 1 + 1 + 1) 0 false ex2 [⟨[97],[],[⟨[120],ex.length,4⟩],[],0⟩]) := by
   show blockR (exprD 23).1 (blockD 23) (Sq L 0 0 false [] []) = _
   obtain ⟨a1,a2⟩ := now_at (d := 0) (q := false) (ex := []) (bl := []) h1 (.inl rfl)
   obtain ⟨b1,b2⟩ := now_at (d := 1) (q := false) (ex := []) (bl := []) h3 (.inl rfl)
   obtain ⟨f1,f2⟩ := now_at (d := 1) (q := false) (ex := []) (bl := []) h4 (.inl rfl)
   obtain ⟨g1,g2⟩ := now_at (d := 1) (q := false) (ex := ex2) (bl := []) k2 (.inl rfl)
   obtain ⟨m1,m2⟩ := now_at (d := 1) (q := false) (ex := ex2) (bl := []) k3 (.inl rfl)
   have s1 : kindR (Sq L 0 0 false [] []) 1 = .ok ⟨1,[97],0⟩ (Sq L 1 0 false [] []) := kind_at (d := 0) (ex := []) (bl := []) h0 n10
   have s2 : ∀ n,labelsF (n + 1) (Sq L 1 0 false [] []) [] = .ok [] (Sq L 1 0 false [] []) := fun n => by
     simp only [labelsF]
     rw [a2,if_neg (show ¬ (4 : Int) = 3 by decide),a1]
   have s3 : isS (Sq L 1 0 false [] []) [123] = true := by rw [is_of a2]; rfl
   have t1 : takeS (Sq L 3 1 false [] []) [125] = (false,Sq L 3 1 false [] []) := by rw [take_no (by rw [is_of b2]; rfl),b1]
   have s4 : kindR (Sq L 3 1 false [] []) 1 = .ok ⟨1,[120],4⟩ (Sq L 4 1 false [] []) := kind_at (d := 1) (ex := []) (bl := []) h3 n10
   have t2 : takeS (Sq L 4 1 false [] []) [61] = (true,Sq L 5 1 false [] []) := by rw [take_yes (by rw [is_of f2]; rfl),f1]; rfl
   have t3 : takeS (Sq L (j + 1 + c2 + 1 + 1) 1 false ex2 []) [125] = (true,Sq L (j + 1 + c2 + 1 + 1 + 1) 1 false ex2 []) := by rw [take_yes (by rw [is_of m2]; rfl),m1]; rfl
   have l1 : linesS (Sq L 2 1 false [] []) = Sq L 3 1 false [] [] := lines_nl h2 rfl n15
   have l2 : linesS (Sq L (j + 1 + c2 + 1) 1 false ex2 []) = Sq L (j + 1 + c2 + 1 + 1) 1 false ex2 [] := lines_nl k2 rfl n45
   have I2 : ∀ n us,itemsF (exprD 23).1 (blockD 23) (n + 1) (Sq L (j + 1 + c2 + 1 + 1) 1 false ex2 []) us [] = .ok (us,[]) (Sq L (j + 1 + c2 + 1 + 1 + 1) 1 false ex2 []) := fun n us => by
     simp only [itemsF,t3]
     rfl
   have I1 : itemsF (exprD 23).1 (blockD 23) (l + 1 + 1) (Sq L 3 1 false [] []) [] [] = .ok ([⟨[120],ex.length,4⟩],[]) (Sq L (j + 1 + c2 + 1 + 1 + 1) 1 false ex2 []) := by
     have hi : itemR (exprD 23).1 (blockD 23) (Sq L 3 1 false [] []) [] [] = .ok ([⟨[120],ex.length,4⟩],[]) (Sq L (j + 1 + c2 + 1) 1 false ex2 []) := by
       unfold itemR
       rw [s4]
       simp only [R.bind,t2,C]
       rfl
     rw [itemsF,t1]
     simp only [hi,R.bind]
     rw [if_neg (by decide),if_neg (by rw [g2]; exact fun e => e.1 rfl),g1,l2]
     exact I2 l _
   unfold blockR
   rw [s1]
   simp only [R.bind]
   have e0 : (Sq L 0 0 false [] []).toks.length + 1 = l + 1 + 1 := by show L.length + 1 = _; rw [hl]
   rw [e0,s2]
   simp only [s3,a1]
   rw [if_neg (by decide)]
   unfold within
   rw [if_neg (show ¬ (Sq L 1 0 false [] []).deep = 24 from (show ¬ (0 : Nat) = 24 by decide))]
   have e1 : step1 { Sq L 1 0 false [] [] with deep := (Sq L 1 0 false [] []).deep + 1,quiet := false } = Sq L 2 1 false [] [] := rfl
   simp only [e1,l1,I1,R.bind]
   rfl
 have E0 : linesS ⟨L,0,0,0,false,[],[]⟩ = Sq L 0 0 false [] [] := lines_at (d := 0) (ex := []) (bl := []) h0 n15
 obtain ⟨a1,a2⟩ := now_at (d := 0) (q := false) (ex := []) (bl := []) h0 (.inl rfl)
 obtain ⟨b1,b2⟩ := now_at (d := 0) (q := false) (ex := ex2) (bl := [⟨[97],[],[⟨[120],ex.length,4⟩],[],0⟩]) k4 (.inl rfl)
 have l3 : linesS (Sq L (j + 1 + c2 + 1 + 1 + 1) 0 false ex2 [⟨[97],[],[⟨[120],ex.length,4⟩],[],0⟩]) = Sq L (j + 1 + c2 + 1 + 1 + 1) 0 false ex2 [⟨[97],[],[⟨[120],ex.length,4⟩],[],0⟩] := lines_at k4 (show (0 : Int) ≠ 5 by decide)
 refine ⟨Sq L (j + 1 + c2 + 1 + 1 + 1) 0 false ex2 [⟨[97],[],[⟨[120],ex.length,4⟩],[],0⟩],?_,rfl,rfl⟩
 rw [E0,hl]
 have T2 : topF (l + 1) (Sq L (j + 1 + c2 + 1 + 1 + 1) 0 false ex2 [⟨[97],[],[⟨[120],ex.length,4⟩],[],0⟩]) [0] = .ok [0] (Sq L (j + 1 + c2 + 1 + 1 + 1) 0 false ex2 [⟨[97],[],[⟨[120],ex.length,4⟩],[],0⟩]) := by
   rw [topF,b2,if_pos rfl,b1]
 rw [topF,a2,if_neg (show ¬ (1 : Int) = 0 by decide),a1,D]
 simp only [R.bind]
 rw [b2,if_neg (fun e => e.2 rfl),b1,l3]
 exact T2
end Go.Proofs.YtofhaneggcpdaaaDoor
namespace Go.Proofs.YtofhaneggcpdaaaDoor
open Go Go.Eng Go.Lex Go.Syn
set_option maxRecDepth 100000
def blkW (m : Bool) (p : Nat × Nat) : List Str := mW m (ow p.1 ++ [32] :: sg p.2 :: [[32]])
theorem blk_gu : ∀ o,o < 6 → ∀ s,s < 13 → guB (blkW false (o,s)) = true ∧ guB (blkW true (o,s)) = true := by decide
theorem rest_gw (m : Bool) : ∀ its,Its its → gwB (mW m (restW its)) = true
 | [],_ => by cases m <;> decide
 | (o,s) :: r,h => by
   have e : restW ((o,s) :: r) = (ow o ++ [32] :: sg s :: [[32]]) ++ restW r := by simp [restW]
   have h1 := h (o,s) (by simp)
   have h2 := blk_gu o h1.1 s h1.2
   rw [e,mW_app]
   refine gu_app ?_ (rest_gw m r fun p hp => h p (List.mem_cons_of_mem _ hp))
   cases m
   · exact h2.1
   · exact h2.2
theorem ws_gw (m : Bool) {its : List (Nat × Nat)} (h : Its its) : gwB (wsM m its) = true := by
 unfold wsM
 refine gu_app (by decide) ?_
 rw [mW_app]
 exact gu_app (by cases m <;> decide) (rest_gw m its h)
theorem blk_len : ∀ o,o < 6 → ∀ s,s < 13 → (ow o ++ [32] :: sg s :: [[32]]).length ≤ 14 ∧ (ow o ++ [32] :: sg s :: [[32]]).flatten.length ≤ 15 := by decide
theorem rest_len : ∀ its,Its its → (restW its).length ≤ 14 * its.length + 7 ∧ (restW its).flatten.length ≤ 15 * its.length + 7
 | [],_ => by decide
 | (o,s) :: r,h => by
   have e : restW ((o,s) :: r) = (ow o ++ [32] :: sg s :: [[32]]) ++ restW r := by simp [restW]
   have h1 := h (o,s) (by simp)
   have h2 := blk_len o h1.1 s h1.2
   have h3 := rest_len r fun p hp => h p (List.mem_cons_of_mem _ hp)
   rw [e]
   generalize ow o ++ [32] :: sg s :: [[32]] = A at *
   rw [List.length_append,List.flatten_append,List.length_append,List.length_cons]
   omega
theorem mW_len (m : Bool) (u : List Str) : (mW m u).length = u.length := by cases m <;> simp [mW]
theorem ws_len (m : Bool) {its : List (Nat × Nat)} (h : Its its) (hl : its.length ≤ 40) : (wsM m its).length ≤ 4096 ∧ (wsM m its).flatten.length ≤ 1000 := by
 have h3 := rest_len its h
 unfold wsM
 rw [List.flatten_append,List.length_append,List.length_append,mW_flat,mW_len,List.flatten_append,List.length_append,List.length_append]
 have a1 : ([[91],[32],[40]] : List Str).flatten.length = 3 := rfl
 have a2 : ([[97],[32],[123],[10],[120],[32],[61],[32]] : List Str).flatten.length = 8 := rfl
 rw [a1,a2]
 simp only [List.length_cons,List.length_nil]
 omega
theorem broken_plain {its : List (Nat × Nat)} (h : Its its) (hl : its.length ≤ 40) : ∃ f : Fl,parseM (wsM false its).flatten = .ok f ∧ parseM (wsM true its).flatten = .ok f := by
 obtain ⟨a1,a2⟩ := ws_len false h hl
 obtain ⟨b1,b2⟩ := ws_len true h hl
 have s1 := words_scanM (ws_gw false h) (by omega) (by omega)
 have s2 := words_scanM (ws_gw true h) (by omega) (by omega)
 rw [ws_toks] at s1 s2
 generalize hL1 : preT false ++ tkW 11 (mW false (restW its)) ++ [⟨0,[],((wsM false its).flatten.length : Nat)⟩] = L1 at s1
 generalize hL2 : preT true ++ tkW 11 (mW true (restW its)) ++ [⟨0,[],((wsM true its).flatten.length : Nat)⟩] = L2 at s2
 have g1 := scan_tg (N := ((wsM false its).flatten.length : Nat)) (off := 0) s1 (Int.le_refl _) (by omega)
 have g2 := scan_tg (N := ((wsM true its).flatten.length : Nat)) (off := 0) s2 (Int.le_refl _) (by omega)
 have hT : Two L1 L2 (preT false).length (preT true).length 11 (spW false ++ restW its) := by
   refine ⟨⟨((wsM false its).flatten.length : Nat),?_⟩,⟨((wsM true its).flatten.length : Nat),?_⟩⟩
   · rw [← hL1,List.append_assoc,List.drop_left]; rfl
   · rw [← hL2,List.append_assoc,List.drop_left]; rfl
 obtain ⟨x,j1,j2,ex,at_,e1,e2,e3⟩ := expr_two (ex := []) g1 g2 (by omega) (by omega) h hT
 obtain ⟨q1,r1,r2,r3⟩ := frame_run (m := false) (by rw [← hL1,List.append_assoc]) e1 e3.one
 obtain ⟨q2,t1,t2,t3⟩ := frame_run (m := true) (by rw [← hL2,List.append_assoc]) e2 e3.two
 refine ⟨⟨q1.ex,q1.bl,[0]⟩,?_,?_⟩
 · unfold parseM
   rw [s1]
   simp only
   rw [r1]
 · unfold parseM
   rw [s2]
   simp only
   rw [t1,r2,r3,← t2,← t3]
end Go.Proofs.YtofhaneggcpdaaaDoor
namespace Go.Proofs.YtofhaneggcpdaaaDoor
open Go Go.Eng Go.RowKit Go.Syn Go.Lex
set_option maxRecDepth 100000
def sfin (acc : List Tok) : RS → RS
 | .ok l => .ok (acc ++ l)
 | .bad c a => .bad c a
theorem sfin_sfin (acc : List Tok) (t : Tok) (x : RS) : sfin acc (match x with | .ok l => .ok (t :: l) | x => x) = sfin (acc ++ [t]) x := by
 cases x <;> simp [sfin]
theorem toks_app (a : List Tok) (t : Tok) : toks (a ++ [t]) = toks a ++ tokc t := by simp [toks,tokc]
section
variable [HX]
theorem scan_p : ScanP := by
 intro w K s hT hl hok hbad
 refine W15_ok ?_
 unfold W15
 rw [lens_str,bin_gtr,condW_dec]
 unfold scanM at hok hbad
 -- what is wrong is handed back in a block of its own
 have bad : ∀ {w1 : World} (c : Int) (i : Nat) {K' : Value → World → Prop},(∀ d w',Ext w w' → w.heap.size ≤ d → w'.heap[d]? = some (.cells [i64 c,str [],i64 (i : Nat)].toArray 34 (0,0)) → K (.tuple #[.slice none 0 0,.pointer (some ⟨d,0,none⟩)]) w') → Ext w w1 →
     boxW 34 (.agg [i64 c,str [],i64 (i : Nat)].toArray) w1 fun t16 w2 => K (.tuple #[.slice none 0 0,t16]) w2 := by
   intro w1 c i _ h hx
   refine box_new (z := [i64 c,str [],i64 (i : Nat)]) fun d w2 hd hz hdb hx2 => ?_
   have := hx.size
   exact h d w2 (hx.trans hx2) (by omega) hdb
 refine ⟨fun h => ?_,fun h => ?_⟩
 · rw [if_pos (by omega)] at hbad
   simp only [put_int,put_str,List.length_cons,List.length_nil,List.set_cons_zero,List.set_cons_succ,Nat.reduceAdd,Nat.reduceLT,true_and,Nat.zero_lt_succ]
   exact bad (K' := K) 3 0 (fun d w' => hbad 3 0 rfl d w') (Chg.refl _ _)
 have hls : s.length ≤ 16384 := by omega
 rw [if_neg (by omega)] at hok hbad
 generalize hB : badF (s.length + 1) s 0 = Bd at hok hbad
 refine lrange_str ?_
 refine LoopW.go (fun st w5 => ∃ p m,p ≤ s.length ∧ st = [] ∧ w5.heap[w.heap.size]? = some (.stringIter (ofL s) p) ∧ Ext w w5 ∧ badF m s p = Bd ∧ s.length < m + p)
   (fun _ w5 => match w5.heap[w.heap.size]? with | some (.stringIter _ p) => s.length - p | _ => 0)
   ⟨0,s.length + 1,Nat.zero_le _,rfl,heap_anew _ _ _ rfl,Chg.alloc (Chg.refl _ _) _,hB,by omega⟩ ?_
 rintro st g w5 ⟨p,m,hp,rfl,hit,hx5,hbf,hm⟩
 obtain ⟨m,rfl⟩ : ∃ k,m = k + 1 := ⟨m - 1,by omega⟩
 rw [badF] at hbf
 have hz5 := hx5.size
 refine lnext_str hit (fun hpe => ?_) (fun hpl w6 hit6 hc6 hz6 => ?_)
 · -- it is UTF-8
   rw [ext_tuple]
   refine ⟨.bool false,rfl,?_⟩
   rw [condW_false]
   rw [if_pos hpe] at hbf
   subst hbf
   simp only at hok hbad
   have hU : Utf s := by
     have := badF_utf (s := s) (s.length + 1) 0 (by omega) hB
     rwa [List.drop_zero] at this
   generalize hR : scanF (s.length + 1) s 0 0 = R0 at hok hbad
   refine LoopW.go (fun st w7 => ∃ (i m : Nat) (acc : List Tok) (v : Value),st = [v,i64 (i : Nat)] ∧ i ≤ s.length ∧ Utf (s.drop i) ∧ Ext w w7 ∧ Own w7 w.heap.size TkT 3 v acc.length (toks acc) ∧ sfin acc (scanF m (s.drop i) i acc.length) = R0 ∧ s.length < m + i ∧ acc.length ≤ 4096)
     (fun st _ => match st with | [_,.int _ i] => s.length - i.toNat | _ => 0)
     ⟨0,s.length + 1,[],_,rfl,Nat.zero_le _,by rw [List.drop_zero]; exact hU,hx5,⟨by simp [toks],.inl ⟨rfl,rfl⟩⟩,by rw [List.drop_zero,List.length_nil,hR]; cases R0 <;> rfl,by omega,by simp⟩ ?_
   rintro st g2 w7 ⟨i,m2,acc,v,rfl,hi,hu,hx7,hO,hr,hm2,hcnt⟩
   obtain ⟨m2,rfl⟩ : ∃ k,m2 = k + 1 := ⟨m2 - 1,by omega⟩
   simp only [scanF] at hr
   simp only [List.getD_cons_zero,List.getD_cons_succ]
   have hz7 := hx7.size
   have hsl : (s.drop i).length = s.length - i := List.length_drop
   rw [sls_str,bd_none,bd_some]
   refine ⟨by omega,by omega,?_⟩
   rw [List.take_length,Int.toNat_natCast]
   refine skip_p (hT.ext hx7) (by omega) ?_
   have hku := skip_utf ((s.drop i).length + 1) _ hu
   have hkl := skip_le ((s.drop i).length + 1) (s.drop i)
   rw [drop_drop'] at hku hr
   generalize skipF ((s.drop i).length + 1) (s.drop i) = k at *
   obtain ⟨k,kc⟩ := k
   simp only at hku hkl hr ⊢
   rw [ext_tuple]; refine ⟨_,rfl,?_⟩
   rw [ext_tuple]; refine ⟨_,rfl,?_⟩
   rw [bin_add,wrap_id (by omega) (by omega),show (i : Int) + (k : Nat) = ((i + k : Nat) : Int) by omega,bin_eql]
   simp only [isB_t]
   refine GdW.look (decide (i + k = s.length)) (fun _ J hJ => ?_) fun g3 => ?_
   · rw [lens_str,bin_eql,show decide (((i + k : Nat) : Int) = ((s.length : Nat) : Int)) = decide (i + k = s.length) by rw [decide_eq_decide]; omega]
     exact hJ
   simp only [List.getD_cons_zero]
   rw [pick_gd_and,condW_b]
   refine ⟨fun hend => ?_,fun hgo => ?_⟩
   · simp only [Bool.and_eq_true,decide_eq_true_iff] at hend
     rw [if_neg (by rw [hend.1]; simp),if_pos (List.drop_eq_nil_of_le (by omega))] at hr
     simp only [put_int,put_str,List.length_cons,List.length_nil,List.set_cons_zero,List.set_cons_succ,Nat.reduceAdd,Nat.reduceLT,true_and,Nat.zero_lt_succ]
     rw [put_nil]
     refine bsl_agg (d := tokc ⟨0,[],((i + k : Nat) : Int)⟩) rfl rfl fun b w8 hb hz8 hbb hx8 => ?_
     refine append_own3 el_tk (hO.ext hx8) (slat_new' (n := 1) hbb) rfl (fun u hu => by simp only [tokc,List.mem_cons,List.not_mem_nil,or_false] at hu; rcases hu with rfl | rfl | rfl <;> rfl) (by omega) (by omega) (by have := hx8.size; omega) fun v' w9 hO9 hc9 hv9 => ?_
     have e : toks acc ++ tokc ⟨0,[],((i + k : Nat) : Int)⟩ = toks (acc ++ [⟨0,[],((i + k : Nat) : Int)⟩]) := (toks_app _ _).symm
     rw [e] at hO9
     have hx9 : Ext w w9 := (hx7.trans hx8).then hc9 fun q hq e => by have := (own_lt hO e).2; omega
     refine hok (acc ++ [⟨0,[],((i + k : Nat) : Int)⟩]) (by rw [← hr]; rfl) v' w9 hx9 (by rw [List.length_append]; exact hO9.sl) fun q hq => ⟨(own_lt hO9 hq).2,(own_lt hO9 hq).1⟩
   · have hgo : ¬ (kc = 0 ∧ i + k = s.length) := by
       rintro ⟨h1,h2⟩
       rw [h1,h2] at hgo
       simp at hgo
     refine alloc_new fun a w8 ha hz8 hab8 hx8 => ?_
     have hx78 := hx7.trans hx8
     -- the token
     refine JoinW.cut (fun st w9 => Ext w w9 ∧ Own w9 w.heap.size TkT 3 v acc.length (toks acc) ∧ w8.heap.size ≤ w9.heap.size ∧ v.ownBlock ≠ some a ∧ ∃ (t : Tok) (n : Nat) (e : Int),st = [i64 e,i64 (n : Nat)] ∧ w9.heap[a]? = some (.cells (tokc t).toArray TkT (0,0)) ∧
       ((e ≠ 0 ∧ R0 = .bad e ((i + k : Nat) : Int)) ∨ (e = 0 ∧ 1 ≤ n ∧ i + k + n ≤ s.length ∧ Utf (s.drop (i + k + n)) ∧ sfin acc (if acc.length = 4096 then .bad 3 ((i + k : Nat) : Int) else match scanF m2 (s.drop (i + k + n)) (i + k + n) (acc.length + 1) with | .ok l => .ok (⟨t.k,t.t,((i + k : Nat) : Int)⟩ :: l) | x => x) = R0))) ?_ ?_
     · have hva : v.ownBlock ≠ some a := fun e => by have := (own_lt hO e).1; omega
       rw [bin_eql,condW_dec]
       refine ⟨fun h0 => ?_,fun h0 => ?_⟩
       · rw [if_neg (by rw [h0]; simp)] at hr
         have hlt : i + k < s.length := by
           rcases Nat.lt_or_ge (i + k) s.length with h | h
           · exact h
           · exact absurd ⟨h0,by omega⟩ hgo
         have hd := drop_len hlt
         rw [if_neg (fun e => by rw [hd] at e; cases e)] at hr
         rw [sls_str,bd_none,bd_some]
         refine ⟨by omega,by omega,?_⟩
         rw [List.take_length,Int.toNat_natCast]
         have hrl : (s.drop (i + k + 1)).length = s.length - (i + k + 1) := List.length_drop
         rw [hd] at hr hku ⊢
         generalize s[i + k] = c at *
         generalize hrr : s.drop (i + k + 1) = r at *
         refine one_p (hT.ext hx78) hku (by omega) fun w9 hx9 => ?_
         rw [ext_tuple]; refine ⟨_,rfl,?_⟩
         rw [ext_tuple]; refine ⟨_,rfl,?_⟩
         rw [ext_tuple]; refine ⟨_,rfl,?_⟩
         have hou := one_utf hku
         have hok1 := @one_ok (c :: r)
         generalize oneM (c :: r) = o at *
         obtain ⟨t,n,e⟩ := o
         simp only at hou hr ⊢
         refine st_agg_at (l := tokc t) (hx9.at hab8 id) rfl rfl rfl fun w10 hz10 ha10 hc10 => ?_
         have hO9 := (hO.ext hx8).ext hx9
         refine ⟨(hx78.trans hx9).new hc10 (by omega),own_at hO9 hc10 fun q hq e => hva (e ▸ hq),by have := hx9.size; omega,hva,?_⟩
         by_cases he : e = 0
         · subst he
           rw [if_neg (by simp)] at hr
           obtain ⟨n1,n2,_⟩ := hok1 (t := t) (k := n) (by simp) rfl
           simp only [List.length_cons] at n2
           refine ⟨t,n,0,rfl,ha10,.inr ⟨rfl,n1,by omega,?_,?_⟩⟩
           · rw [← drop_drop',hd]; exact hou rfl
           · rw [← drop_drop',hd]; exact hr
         · rw [if_pos he] at hr
           exact ⟨t,n,e,rfl,ha10,.inl ⟨he,hr.symm⟩⟩
       · rw [if_pos h0] at hr
         exact ⟨hx78,hO.ext hx8,Nat.le_refl _,hva,⟨0,[],0⟩,0,kc,rfl,hab8,.inl ⟨h0,hr.symm⟩⟩
     rintro st g4 w9 ⟨hx9,hO9,hz9,hva,t,n,e,rfl,ha9,hcase⟩
     simp only [List.getD_cons_zero,List.getD_cons_succ]
     refine JoinW.cut (fun st w' => w' = w9 ∧ ∃ e' : Int,st = [i64 e'] ∧ ((e' ≠ 0 ∧ R0 = .bad e' ((i + k : Nat) : Int)) ∨ (e' = 0 ∧ 1 ≤ n ∧ i + k + n ≤ s.length ∧ Utf (s.drop (i + k + n)) ∧ acc.length < 4096 ∧ sfin acc (match scanF m2 (s.drop (i + k + n)) (i + k + n) (acc.length + 1) with | .ok l => .ok (⟨t.k,t.t,((i + k : Nat) : Int)⟩ :: l) | x => x) = R0))) ?_ ?_
     · rw [bin_eql]
       simp only [isB_t]
       refine GdW.look (decide (acc.length = 4096)) (fun _ J hJ => ?_) fun g5 => ?_
       · obtain ⟨q,cap,ev,_⟩ := hO9.sl.shape
         rw [ev,lenl_sl,bin_eql,show decide (((acc.length : Nat) : Int) = 4096) = decide (acc.length = 4096) by rw [decide_eq_decide]; omega]
         exact hJ
       simp only [List.getD_cons_zero]
       rw [pick_gd_and,condW_b]
       refine ⟨fun hb => ?_,fun hb => ?_⟩
       · simp only [Bool.and_eq_true,decide_eq_true_iff] at hb
         refine ⟨trivial,3,rfl,.inl ⟨by decide,?_⟩⟩
         rcases hcase with ⟨h1,h2⟩ | ⟨h1,h2,h3,h4,h5⟩
         · exact absurd hb.1 h1
         · rw [if_pos hb.2] at h5; exact h5.symm
       · refine ⟨trivial,e,rfl,?_⟩
         rcases hcase with h | ⟨h1,h2,h3,h4,h5⟩
         · exact .inl h
         · have : acc.length ≠ 4096 := fun h => by rw [h1,h] at hb; simp at hb
           rw [if_neg this] at h5
           exact .inr ⟨h1,h2,h3,h4,by omega,h5⟩
     rintro st g5 w10 ⟨rfl,e',rfl,hcase⟩
     simp only [List.getD_cons_zero]
     rw [bin_neq,condW_dec]
     refine ⟨fun hne => ?_,fun heq => ?_⟩
     · rcases hcase with ⟨h1,h2⟩ | ⟨h1,_⟩
       · simp only [put_int,put_str,List.length_cons,List.length_nil,List.set_cons_zero,List.set_cons_succ,Nat.reduceAdd,Nat.reduceLT,true_and,Nat.zero_lt_succ]
         exact bad (K' := K) e' (i + k) (fun d w' => hbad e' _ h2 d w') hx9
       · exact absurd h1 hne
     · rcases hcase with ⟨h1,_⟩ | ⟨h1,n1,n2,hu2,hc4,hr⟩
       · exact absurd (by simpa using heq) h1
       rw [fld_ptr,add_mk,Nat.zero_add]
       refine st_at ha9 rfl (by simp [tokc]) fun w11 hz11 ha11 hc11 => ?_
       have ha11 : w11.heap[a]? = some (.cells (tokc ⟨t.k,t.t,((i + k : Nat) : Int)⟩).toArray TkT (0,0)) := by rw [ha11]; simp [tokc]
       have hO11 := own_at hO9 hc11 fun q hq e => hva (e ▸ hq)
       have hx11 := hx9.new hc11 (by omega)
       refine ld_all ha11 rfl ?_
       refine bsl_agg (d := tokc ⟨t.k,t.t,((i + k : Nat) : Int)⟩) rfl rfl fun b w12 hb hz12 hbb hx12 => ?_
       refine append_own3 el_tk (hO11.ext hx12) (slat_new' (n := 1) hbb) rfl (fun u hu => by simp only [tokc,List.mem_cons,List.not_mem_nil,or_false] at hu; rcases hu with rfl | rfl | rfl <;> rfl) (by omega) (by omega) (by have := hx11.size; have := hx12.size; omega) fun v' w13 hO13 hc13 hv13 => ?_
       rw [← toks_app] at hO13
       rw [bin_add,wrap_id (by omega) (by omega)]
       refine ⟨⟨i + k + n,m2,acc ++ [⟨t.k,t.t,((i + k : Nat) : Int)⟩],v',by simp only [List.cons.injEq,Value.int.injEq,true_and,and_true]; omega,by omega,hu2,(hx11.trans hx12).then hc13 fun q hq e => ?_,by rw [List.length_append]; exact hO13,?_,by omega,by rw [List.length_append,List.length_cons,List.length_nil]; omega⟩,?_⟩
       · have := (own_lt hO11 e).2; omega
       · rw [List.length_append,← sfin_sfin]; exact hr
       · simp only [Int.toNat_natCast]; omega
 · -- the next rune
   have hge : ¬ s.length ≤ p := by omega
   rw [if_neg hge] at hbf
   have hx6 : Ext w w6 := hx5.then hc6 fun q hq e => by have e : q = w.heap.size := e; omega
   rw [ext_tuple]
   refine ⟨.bool true,rfl,?_⟩
   rw [condW_true,ext_tuple]
   refine ⟨i64 (p : Nat),rfl,?_⟩
   rw [ext_tuple]
   refine ⟨_,rfl,?_⟩
   have hdc : (Utf8.decode (ofL s) p).1 = 65533 ∧ Lib.hasPrefix (s.drop p) [239,191,189] = false ↔ runeM s p = 0 := by
     constructor
     · rintro ⟨h1,h2⟩
       by_cases h0 : runeM s p = 0
       · exact h0
       · obtain ⟨c,hc⟩ := rune_good hpl h0
         have hd := hc.dec
         rw [hd] at h1
         have h1 : c = 65533 := h1
         subst h1
         rw [good_pref hc] at h2
         cases h2
     · intro h0
       rw [rune_bad hpl h0]
       exact ⟨rfl,bad_pref h0⟩
   rw [dec_step hpl] at hit6
   generalize (Utf8.decode (ofL s) p).1 = c at *
   rw [bin_eql,show decide (((c : Nat) : Int) = 65533) = decide (c = 65533) by rw [decide_eq_decide]; omega]
   simp only [isB_t]
   refine GdW.look (!Lib.hasPrefix (s.drop p) [239,191,189]) (fun _ J hJ => ?_) fun g3 => ?_
   · rw [sls_str,bd_none,bd_some]
     refine ⟨by omega,by omega,?_⟩
     rw [List.take_length,Int.toNat_natCast]
     refine hasp_p ?_
     rw [un_not]
     exact hJ
   simp only [List.getD_cons_zero]
   rw [pick_gd_and,condW_b]
   refine ⟨fun hb => ?_,fun hb => ?_⟩
   · have h0 : runeM s p = 0 := hdc.1 (by simpa using hb)
     rw [if_pos h0] at hbf
     subst hbf
     simp only [put_int,put_str,List.length_cons,List.length_nil,List.set_cons_zero,List.set_cons_succ,Nat.reduceAdd,Nat.reduceLT,true_and,Nat.zero_lt_succ]
     exact bad (K' := K) 31 p (fun d w' => hbad 31 _ rfl d w') hx6
   · have h0 : runeM s p ≠ 0 := fun h => by
       have := hdc.2 h
       rw [decide_eq_true this.1,this.2] at hb
       cases hb
     rw [if_neg h0] at hbf
     have hfit := step_fits hpl
     have hpos := step_pos s p
     refine ⟨⟨p + stepM s p,m,hfit,trivial,hit6,hx6,hbf,by omega⟩,?_⟩
     rw [hit6,hit]
     show s.length - (p + stepM s p) < s.length - p
     omega
end
end Go.Proofs.YtofhaneggcpdaaaDoor
namespace Go.Proofs.YtofhaneggcpdaaaDoor
open Go Go.Eng Go.RowKit Go.Syn Go.Lex
set_option maxRecDepth 100000
abbrev DgT : TypeId := 34
def flOf : Syn.PR → Fl
 | .ok f => f
 | .bad _ _ => ⟨[],[],[]⟩
def okP : Syn.PR → Bool
 | .ok _ => true
 | .bad _ _ => false
def PRep (w : World) (d : Value) : Syn.PR → Prop
 | .ok _ => d = .pointer none
 | .bad c a => ∃ b,d = .pointer (some ⟨b,0,none⟩) ∧ w.heap[b]? = some (.cells [i64 c,str [],i64 a].toArray DgT (0,0))
theorem PRep.ext {w w' : World} {d : Value} {r : Syn.PR} (h : PRep w d r) (hx : Ext w w') : PRep w' d r := by
 cases r with
 | ok f => exact h
 | bad c a => obtain ⟨b,h1,h2⟩ := h; exact ⟨b,h1,hx.at h2 id⟩
theorem PRep.eq {w : World} {d : Value} {r : Syn.PR} (h : PRep w d r) (n : Bool) (K : Value → Prop) : eqW .ptr n d (.pointer none) K ↔ K (.bool (n ^^ okP r)) := by
 cases r with
 | ok f => have h : d = .pointer none := h; rw [h]; cases n <;> exact Iff.rfl
 | bad c a => obtain ⟨b,rfl,_⟩ := h; cases n <;> exact Iff.rfl
theorem FO.ext {w w' : World} {B : Nat} {M : Lay} {fl : Fl} (h : FO w B M fl) (hx : Ext w w') : FO w' B M fl := h.keep hx fun _ _ _ _ e => e
theorem fo_nil (w : World) (B : Nat) : FO w B ⟨.slice none 0 0,.slice none 0 0,.slice none 0 0,[],[]⟩ ⟨[],[],[]⟩ :=
 ⟨⟨by simp,.inl ⟨rfl,rfl⟩⟩,⟨by simp,.inl ⟨rfl,rfl⟩⟩,⟨by simp [ints],.inl ⟨rfl,rfl⟩⟩,RowsR.nil _ _,RowsR.nil _ _,List.nodup_nil,fun k hk => by simp [ub,Value.ownBlock] at hk,fun k hk => by simp [ub,Value.ownBlock] at hk⟩
def isP (r : Syn.PR) (code a : Int) : Bool := match r with
 | .ok _ => decide (code = 0)
 | .bad c i => decide (code ≠ 0) && decide (c = code) && decide (i = a)
section
variable [HX]
theorem parse_r {t : Str} {w : World} {K : Value → World → Prop} (hT : TabI w) (hl : t.length ≤ 1000000)
   (hK : ∀ M d w',Ext w w' → FO w' w.heap.size M (flOf (parseM t)) → PRep w' d (parseM t) → ((flOf (parseM t)).ex.length ≤ 100000 ∧ (flOf (parseM t)).bl.length ≤ 100000 ∧ (flOf (parseM t)).top.length ≤ 100000) → K (.tuple #[.agg [M.vE,M.vB,M.vT].toArray,d]) w') : callF Tryd.prog 10 [str t] w K := by
 refine parse_p (fun {_} => scan_p) hT hl (fun fl h M w' hx hF hfew => ?_) (fun c a h d w' hx hd hdb => ?_)
 · rw [h] at hK
   exact hK M _ w' hx hF rfl hfew
 · rw [h] at hK
   exact hK ⟨.slice none 0 0,.slice none 0 0,.slice none 0 0,[],[]⟩ _ w' hx (fo_nil _ _) ⟨d,rfl,hdb⟩ (by simp [flOf])
theorem is5_p {w : World} {d : Value} {r : Syn.PR} {code a : Int} {K : Value → World → Prop} (h : PRep w d r) (hK : K (.bool (isP r code a)) w) : callF Tryd.prog 14 [d,i64 code,i64 a] w K := by
 refine W14_ok ?_
 unfold W14
 rw [bin_eql,condW_dec]
 refine ⟨fun e => ?_,fun e => ?_⟩
 · rw [h.eq]
   cases r with
   | ok f => simp only [isP,e,decide_true,okP] at hK ⊢; exact hK
   | bad e1 i => simp only [isP,e,ne_eq,not_true,decide_false,Bool.false_and,okP] at hK ⊢; exact hK
 · rw [h.eq]
   cases r with
   | ok f =>
     simp only [isP,decide_eq_false e,okP,Bool.xor_self] at hK ⊢
     simp only [isB_t,isB_f,GdW_f,List.getD_cons_zero,pick_f]
     intros
     exact hK
   | bad e1 i =>
     obtain ⟨b,rfl,hb⟩ := h
     simp only [isP,decide_eq_true e,okP,Bool.xor_false,Bool.true_and,ne_eq] at hK ⊢
     have ld : ∀ {off : Nat} {v : Value} {K : Value → Prop},[i64 e1,str [],i64 i][off]? = some v → K v → nilW (.pointer (some ⟨b,0,none⟩)) fun t => fldW off t fun t => ldW false 1 t w K := fun hv hk => by
       rw [nil_ptr,fld_ptr,ld_one]
       refine ⟨_,?_,hk⟩
       rw [add_mk,cell_eq,hb,cellO_some,Nat.zero_add]
       simpa using hv
     refine GdW.act (decide (e1 = code)) (fun w' => w' = w) (fun e => by cases e) ?_ ?_
     · intro _ J hJ
       refine ld rfl ?_
       rw [bin_eql]
       exact hJ _ rfl
     rintro g w2 rfl
     simp only [cond_true,List.getD_cons_zero,pick_t,isB_t]
     refine GdW.act (decide (i = a)) (fun w' => w' = w2) (fun _ => rfl) ?_ ?_
     · intro _ J hJ
       refine ld rfl ?_
       rw [bin_eql]
       exact hJ _ rfl
     rintro g2 w3 rfl
     simp only [List.getD_cons_zero]
     rw [pick_gd_and]
     simp only [isB_t]
     refine GdW.act true (fun w' => w' = w3) (fun _ => rfl) ?_ ?_
     · intro _ J hJ
       refine ld rfl ?_
       rw [bin_seq]
       exact hJ _ rfl
     rintro g3 w4 rfl
     simp only [List.getD_cons_zero]
     rw [pick_gd_and,Bool.and_true]
     simpa using hK
end
def ex1 : Str := [114,32,34,116,34,32,34,110,34,32,123,32,120,32,61,32,49,32,43,32,121,46,122,32,125]
def ex2 : Str := [97,32,123,32,120,32,61,32,49,32,121,32,61,32,50,32,125]
theorem ex1_ok : okP (parseM ex1) = true ∧ (flOf (parseM ex1)).bl.length = 1 ∧ (flOf (parseM ex1)).ex.length = 4 ∧ ((flOf (parseM ex1)).ex.getD 3 ⟨0,[],[],[],0⟩).k = 15 ∧ ((flOf (parseM ex1)).bl.getD 0 ⟨[],[],[],[],0⟩).labels.length = 2 := by decide +kernel
theorem ex2_bad : isP (parseM ex2) 50 10 = true := by decide +kernel
section
variable [HX]
theorem awake5_p {w : World} {K : Value → World → Prop} (hT : TabI w) (hK : ∀ w',Ext w w' → K (.bool true) w') : callF Tryd.prog 8 [] w K := by
 refine W8_ok ?_
 unfold W8
 obtain ⟨x1,x2,x3,x4,x5⟩ := ex1_ok
 refine parse_r (t := ex1) hT (by decide) fun M d w1 hx1 hF1 hd1 _ => ?_
 generalize hr1 : parseM ex1 = r1 at *
 rw [ext_tuple]; refine ⟨_,rfl,?_⟩
 rw [ext_tuple]; refine ⟨_,rfl,?_⟩
 refine alloc_new fun a w2 ha hz2 hab2 hx2 => ?_
 obtain ⟨p1,c1,e1,_⟩ := hF1.oE.sl.shape
 obtain ⟨p2,c2,e2,_⟩ := hF1.oB.sl.shape
 obtain ⟨p3,c3,e3,_⟩ := hF1.oT.sl.shape
 refine st_agg_at (l := [M.vE,M.vB,M.vT]) hab2 rfl rfl (by rw [e1,e2,e3]; rfl) fun w3 hz3 ha3 hc3 => ?_
 have hx13 : Ext w1 w3 := hx2.new hc3 (by omega)
 have hx3 := hx1.trans hx13
 refine parse_r (t := ex2) (hT.ext hx3) (by decide) fun M2 d2 w4 hx4 hF4 hd4 _ => ?_
 have hb2 := ex2_bad
 generalize parseM ex2 = r2 at *
 rw [ext_tuple]; refine ⟨_,rfl,?_⟩
 rw [ext_tuple]; refine ⟨_,rfl,?_⟩
 refine alloc_new fun b w5 hb hz5 hab5 hx5 => ?_
 obtain ⟨q1,k1,f1,_⟩ := hF4.oE.sl.shape
 obtain ⟨q2,k2,f2,_⟩ := hF4.oB.sl.shape
 obtain ⟨q3,k3,f3,_⟩ := hF4.oT.sl.shape
 refine st_agg_at (l := [M2.vE,M2.vB,M2.vT]) hab5 rfl rfl (by rw [f1,f2,f3]; rfl) fun w6 hz6 ha6 hc6 => ?_
 have hx46 : Ext w4 w6 := hx5.new hc6 (by omega)
 have hx36 := hx4.trans hx46
 have hF := (hF1.ext hx13).ext hx36
 have ha := hx36.at ha3 id
 have hd6 := hd4.ext hx46
 have hK := hK w6 (hx3.trans hx36)
 clear hF1 hF4 hd4
 have ld : ∀ {off : Nat} {v : Value} {K : Value → Prop},[M.vE,M.vB,M.vT][off]? = some v → K v → fldW off (.pointer (some ⟨a,0,none⟩)) fun t => ldW false 1 t w6 K := fun hv hk => by
   rw [fld_ptr,ld_one]
   refine ⟨_,?_,hk⟩
   rw [add_mk,cell_eq,ha,cellO_some,Nat.zero_add]
   simpa using hv
 rw [hd1.eq,x1]
 simp only [isB_t,Bool.xor_true,Bool.not_false]
 refine GdW.look true (fun _ J hJ => ?_) fun g => ?_
 · refine ld (off := 1) rfl ?_
   rw [lenl_at hF.oB.sl,bin_eql,x2]
   exact hJ
 simp only [List.getD_cons_zero,cond_true,pick_t,isB_t]
 refine GdW.look true (fun _ J hJ => ?_) fun g => ?_
 · refine ld (off := 0) rfl ?_
   rw [lenl_at hF.oE.sl,bin_eql,x3]
   exact hJ
 simp only [List.getD_cons_zero,cond_true,pick_t,isB_t]
 refine GdW.look true (fun _ J hJ => ?_) fun g => ?_
 · refine ld (off := 0) rfl ?_
   refine ixa_at (i := 3) hF.oE.sl (by rw [hF.ee.1]) (by omega) (by omega) fun bb o c fr hbb hcs => ?_
   have hlt : 3 < (flOf r1).ex.length := by omega
   obtain ⟨va,vk,ec,_,_⟩ := hF.ee.2 3 _ (List.getElem?_eq_getElem hlt)
   rw [fld_ptr,ld_one]
   have h0 := hcs 0 (by omega)
   have h1 := congrArg (fun l => l[0]?) ec
   simp only [List.getElem?_take_of_lt (show 0 < 5 by omega),List.getElem?_drop,List.getElem?_cons_zero] at h1
   refine ⟨_,by rw [add_mk,cell_eq,hbb,cellO_some,h0]; exact h1,?_⟩
   rw [List.getD_eq_getElem?_getD,List.getElem?_eq_getElem hlt] at x4
   rw [bin_eql]
   have x4 : (flOf r1).ex[3].k = 15 := x4
   rw [x4]
   exact hJ
 simp only [List.getD_cons_zero,cond_true,pick_t,isB_t]
 refine GdW.look true (fun _ J hJ => ?_) fun g => ?_
 · refine ld (off := 1) rfl ?_
   refine ixa_at (i := 0) hF.oB.sl (by rw [hF.bb.1]) (by omega) (by omega) fun bb o c fr hbb hcs => ?_
   have hlt : 0 < (flOf r1).bl.length := by omega
   obtain ⟨vl,va,vb,ec,hL,_,_⟩ := hF.bb.2 0 _ (List.getElem?_eq_getElem hlt)
   rw [fld_ptr,ld_one]
   have h0 := hcs 1 (by omega)
   have h1 := congrArg (fun l => l[1]?) ec
   simp only [List.getElem?_take_of_lt (show 1 < 5 by omega),List.getElem?_drop,List.getElem?_cons_zero,List.getElem?_cons_succ] at h1
   refine ⟨vl,by rw [add_mk,cell_eq,hbb,cellO_some,h0]; exact h1,?_⟩
   rw [List.getD_eq_getElem?_getD,List.getElem?_eq_getElem hlt] at x5
   have x5 : (flOf r1).bl[0].labels.length = 2 := x5
   rw [lenl_at hL.sl,bin_eql,x5]
   exact hJ
 simp only [List.getD_cons_zero,cond_true,pick_t,isB_t]
 refine GdW.look true (fun _ J hJ => ?_) fun g => ?_
 · refine is5_p hd6 ?_
   rw [hb2]
   exact hJ
 simp only [List.getD_cons_zero,cond_true,pick_t]
 exact hK
end
end Go.Proofs.YtofhaneggcpdaaaDoor
namespace Go.Proofs.YtofhaneggcpdaaaDoor
open Go Go.Eng Go.RowKit Go.Syn Go.Lex
set_option maxRecDepth 100000
def cnt (n : Nat) (l : List Nat) : List Nat := (List.range n).map fun j => l.count j
section
variable [HX]
end
variable {w0 w w' : World} {B a ea eb : Nat} {M : Lay} {fl : Fl} {lE lB : List Nat}
end Go.Proofs.YtofhaneggcpdaaaDoor
namespace Go.Proofs.YtofhaneggcpdaaaDoor
open Go Go.Eng Go.RowKit Go.Syn Go.Lex
set_option maxRecDepth 100000
theorem cells_row {w : World} {b o : Nat} {c : Array Value} {T : TypeId} {fr : Nat × Nat} {d : List Value} (hb : w.heap[b]? = some (.cells c T fr)) (hd : ∀ j,j < d.length → c[o + j]? = d[j]?) : ∀ (n i : Nat),i + n = d.length → cellsAt w ⟨b,o,none⟩ i n = some (d.drop i)
 | 0,i,h => by simp only [cellsAt]; rw [List.drop_of_length_le (by omega)]
 | n + 1,i,h => by
   have hi : i < d.length := by omega
   simp only [cellsAt,add_mk,cell_eq,hb,cellO_some,hd i hi,List.getElem?_eq_getElem hi]
   rw [cells_row hb hd n (i + 1) (by omega)]
   simp
theorem ixa_row {w : World} {T : TypeId} {v : Value} {n size : Nat} {cs d : List Value} {k : IntKind} {i : Nat} {K : Value → Prop} (h : SlAt w T v n cs) (hl : cs.length = n * size) (hs : 0 < size) (hi : i < n) (hd : (cs.drop (i * size)).take size = d) (hK : K (.agg d.toArray)) :
   ixaW none size v (.int k i) fun t => ldW true size t w K := by
 have hlt : i * size + size ≤ n * size := by rw [← Nat.succ_mul]; exact Nat.mul_le_mul_right _ hi
 have hdl : d.length = size := by rw [← hd,List.length_take,List.length_drop]; omega
 refine ixa_at h hl hs hi fun b o c fr hb hc => ?_
 rw [ld_agg]
 refine ⟨d,?_,hK⟩
 have := cells_row (d := d) hb (fun j hj => by rw [hc j (by omega),← hd,List.getElem?_take_of_lt (by omega),List.getElem?_drop]) size 0 (by omega)
 simpa using this
theorem int_get {l : List Nat} {i x : Nat} (h : l[i]? = some x) : (ints l)[i]? = some (i64 (x : Nat)) := by simp [ints,h]
variable [HX]
end Go.Proofs.YtofhaneggcpdaaaDoor
namespace Go.Proofs.YtofhaneggcpdaaaDoor
open Go Go.Eng Go.RowKit Go.Syn Go.Lex
set_option maxRecDepth 100000
def sgnL : List Str := [[124,124],[38,38],[61,61],[33,61],[60],[62],[60,61],[62,61],[43],[45],[42],[47],[37]]
def levL : List Nat := [0,1,2,2,3,3,3,3,4,4,5,5,5]
theorem ixg_m {len k : Nat} {l : List Value} {x : Value} {K : Value → Prop} (hk : k < len) (hx : l[k]? = some x) (h : K x) : ixgW len false 1 (.agg l.toArray) (i64 (k : Nat)) K := by
 refine ⟨by omega,by omega,?_⟩
 show ∃ c,l.toArray[((k : Nat) : Int).toNat * 1]? = some c ∧ K c
 exact ⟨x,by rw [Int.toNat_natCast,Nat.mul_one,List.getElem?_toArray]; exact hx,h⟩
theorem urem2 {a : Int} {m : Nat} (hm : 0 < m) (hm2 : m < 1000) : ∃ n : Nat,n < m ∧ IntKind.i64.wrap ((IntKind.u64.wrap a).tmod (m : Nat)) = (n : Int) := by
 obtain ⟨u,hu⟩ : ∃ u : Nat,IntKind.u64.wrap a = (u : Int) := ⟨(IntKind.u64.wrap a).toNat,by rw [IntKind.wrap_u64]; omega⟩
 have hlt := Nat.mod_lt u hm
 refine ⟨u % m,hlt,?_⟩
 have e : ((u : Nat) : Int).tmod (m : Nat) = ((u % m : Nat) : Int) := by rw [Int.tmod_eq_emod_of_nonneg (by omega)]; omega
 rw [hu,e,wrap_id (by omega) (by omega)]
theorem nats_get {l : List Nat} {k : Nat} (h : k < l.length) : (ints l)[k]? = some (i64 ((l.getD k 0 : Nat) : Int)) := by
 rw [ints,List.getElem?_map,List.getElem?_eq_getElem h,List.getD_eq_getElem?_getD,List.getElem?_eq_getElem h]; rfl
theorem strs_get {l : List Str} {k : Nat} (h : k < l.length) : (strs l)[k]? = some (str (l.getD k [])) := by
 rw [strs,List.getElem?_map,List.getElem?_eq_getElem h,List.getD_eq_getElem?_getD,List.getElem?_eq_getElem h]; rfl
theorem gq_fld (off : Nat) (ad : Addr) (B : Value → Prop) : GqW true (fun k => fldW off (.pointer (some ad)) k) B ↔ B (.pointer (some (ad.add off))) := by
 rw [GqW_t]
 constructor
 · rintro ⟨v,h,hb⟩
   have h : Value.pointer (some (ad.add off)) = v := h
   rw [h]; exact hb
 · intro h; exact ⟨_,rfl,h⟩
theorem gq_of {A : (Value → Prop) → Prop} {B : Value → Prop} {v : Value} (h1 : A (fun x => x = v)) (h2 : B v) : GqW true A B := (GqW_t A B).2 ⟨v,h1,h2⟩
theorem ixa_split {s : Nat} {v i : Value} {F : Value → Prop} (h : ixaW none s v i F) : ∃ p,ixaW none s v i (fun x => x = p) ∧ F p := by
 unfold ixaW at h ⊢
 split at h
 all_goals first
   | exact h.elim
   | exact ⟨_,⟨h.1,h.2.1,rfl⟩,h.2.2⟩
section
variable [HX]
theorem signs5_p {k : Nat} {w : World} {K : Value → World → Prop} (hk : k < 13) (hK : ∀ w',Ext w w' → K (.tuple #[str (sgnL.getD k []),i64 ((levL.getD k 0 : Nat) : Int)]) w') : callF Tryd.prog 12 [i64 (k : Nat)] w K := by
 refine W12_ok ?_
 unfold W12
 simp only [List.replicate_succ,List.replicate_zero,put_int,put_str,put_nil,List.length_cons,List.length_nil,List.set_cons_zero,List.set_cons_succ,Nat.reduceAdd,Nat.reduceLT,true_and,Nat.zero_lt_succ]
 refine alloc_new fun a w1 ha hz1 hb1 hx1 => ?_
 refine st_agg_at (l := strs sgnL) hb1 rfl rfl rfl fun w2 hz2 hb2 hc2 => ?_
 refine alloc_new fun b w3 hb hz3 hb3 hx3 => ?_
 refine st_agg_at (l := ints levL) hb3 rfl rfl rfl fun w4 hz4 hb4 hc4 => ?_
 have hx2 : Ext w w2 := hx1.new hc2 (by omega)
 have hx4 : Ext w w4 := (hx2.trans hx3).new hc4 (by omega)
 have ha4 := hc4.at (hx3.at hb2 id) (by omega)
 rw [ixa_arr]
 refine ⟨by omega,by omega,?_⟩
 rw [add_mk,Int.toNat_natCast,Nat.mul_one,Nat.zero_add,ld_one]
 refine ⟨_,by rw [cell_eq,heap_drew,ha4,cellO_some,List.getElem?_toArray]; exact strs_get hk,?_⟩
 rw [ixa_arr]
 refine ⟨by omega,by omega,?_⟩
 rw [add_mk,Int.toNat_natCast,Nat.mul_one,Nat.zero_add,ld_one]
 refine ⟨_,by rw [cell_eq,heap_drew,hb4,cellO_some,List.getElem?_toArray]; exact nats_get hk,?_⟩
 exact hK _ (hx4.trans (ext_drew _))
end
end Go.Proofs.YtofhaneggcpdaaaDoor
namespace Go.Proofs.YtofhaneggcpdaaaDoor
open Go Go.Eng Go.Lex Go.Syn
set_option maxRecDepth 100000
def nb (c : UInt8) : UInt8 := if c = 32 then 10 else c
def md (m : Nat) (a : Int) : Nat := (IntKind.i64.wrap ((IntKind.u64.wrap a).tmod (m : Nat))).toNat
theorem md_ok {m : Nat} (a : Int) (hm : 0 < m) (hm2 : m < 1000) : md m a < m ∧ IntKind.i64.wrap ((IntKind.u64.wrap a).tmod (m : Nat)) = (md m a : Nat) := by
 obtain ⟨n,h1,h2⟩ := urem2 (a := a) hm hm2
 unfold md
 rw [h2,Int.toNat_natCast]
 exact ⟨h1,rfl⟩
def itsOf (l : List Int) (n : Nat) : List (Nat × Nat) := (l.take n).map fun a => (md 6 a,md 13 a)
theorem its_ok (l : List Int) (n : Nat) : Its (itsOf l n) := fun p hp => by
 obtain ⟨a,_,rfl⟩ := List.mem_map.1 hp
 exact ⟨(md_ok a (by omega) (by omega)).1,(md_ok a (by omega) (by omega)).1⟩
theorem its_len (l : List Int) (n : Nat) : (itsOf l n).length ≤ n := by unfold itsOf; rw [List.length_map,List.length_take]; omega
theorem its_next {l : List Int} {n : Nat} {a : Int} (h : l[n]? = some a) : itsOf l (n + 1) = itsOf l n ++ [(md 6 a,md 13 a)] := by
 unfold itsOf
 rw [List.take_add_one,h,List.map_append]; rfl
def wX (m : Bool) (its : List (Nat × Nat)) : Str := (its.flatMap (blkW m)).flatten
theorem wX_app (m : Bool) (u v : List (Nat × Nat)) : wX m (u ++ v) = wX m u ++ wX m v := by unfold wX; rw [List.flatMap_append,List.flatten_append]
def opT (o : Nat) : Str := (ow o).flatten
theorem wX_one (p : Nat × Nat) : wX false [p] = (opT p.1 ++ [32]) ++ (sg p.2 ++ [32]) := by
 unfold wX blkW mW opT
 simp
theorem nb_ow : ∀ o,o < 6 → ((ow o).map nlW).flatten = (opT o).map nb := by decide
theorem nb_sg : ∀ s,s < 13 → nlW (sg s) = (sg s).map nb := by decide
theorem wX_two (p : Nat × Nat) (h1 : p.1 < 6) (h2 : p.2 < 13) : wX true [p] = ((opT p.1).map nb ++ [10]) ++ ((sg p.2).map nb ++ [10]) := by
 rw [← nb_ow p.1 h1,← nb_sg p.2 h2]
 unfold wX blkW mW
 simp [nlW]
theorem wX_len (m : Bool) : ∀ its,Its its → (wX m its).length ≤ 15 * its.length
 | [],_ => by simp [wX]
 | p :: r,h => by
   have h1 := h p (by simp)
   have h2 := (blk_len p.1 h1.1 p.2 h1.2).2
   have h3 := wX_len m r fun q hq => h q (List.mem_cons_of_mem _ hq)
   rw [show p :: r = [p] ++ r from rfl,wX_app,List.length_append,List.length_append,List.length_cons,List.length_nil]
   have e : (wX m [p]).length = (ow p.1 ++ [32] :: sg p.2 :: [[32]]).flatten.length := by
     rw [← mW_flat m]
     unfold wX blkW
     simp
   omega
theorem rest_flat : ∀ its,restW its = its.flatMap (blkW false) ++ (ow 6 ++ [32] :: frameW)
 | [] => rfl
 | (o,s) :: r => by
   have e : restW ((o,s) :: r) = (ow o ++ [32] :: sg s :: [[32]]) ++ restW r := by simp [restW]
   rw [e,rest_flat r,List.flatMap_cons]
   simp [blkW,mW]
theorem mW_flatMap (m : Bool) : ∀ its : List (Nat × Nat),mW m (its.flatMap (blkW false)) = its.flatMap (blkW m)
 | [] => by cases m <;> rfl
 | p :: r => by
   rw [List.flatMap_cons,List.flatMap_cons,mW_app,mW_flatMap m r]
   congr 1
theorem text_eq (m : Bool) (its : List (Nat × Nat)) : (wsM m its).flatten = ([97,32,123,10,120,32,61,32,91,if m = true then 10 else 32,40] ++ wX m its) ++ [122,if m = true then 10 else 32,41,if m = true then 10 else 32,93,10,125] := by
 unfold wsM wX
 rw [rest_flat,mW_app,mW_app,mW_flatMap,List.flatten_append,List.flatten_append,List.flatten_append]
 cases m
 · simp [mW,ow,frameW]
 · simp [mW,ow,frameW,nlW]
end Go.Proofs.YtofhaneggcpdaaaDoor
namespace Go.Proofs.YtofhaneggcpdaaaDoor
open Go Go.Eng Go.RowKit Go.Syn Go.Lex
set_option maxRecDepth 100000
def ExV (w : World) (e : Ex) (c : List Value) : Prop :=
 ∃ va vk,c = [i64 e.k,str e.t,va,vk,i64 e.a] ∧ SlAt w IntT va e.args.length (ints e.args) ∧ SlAt w StT vk e.keys.length (strs e.keys)
def BkV (w : World) (b : Blk) (c : List Value) : Prop :=
 ∃ vl va vb,c = [str b.typ,vl,va,vb,i64 b.a] ∧ SlAt w StT vl b.labels.length (strs b.labels) ∧ SlAt w AtT va b.attrs.length (atrs b.attrs) ∧ SlAt w IntT vb b.blocks.length (ints b.blocks)
structure FV (w : World) (M : Lay) (fl : Fl) : Prop where
 oE : SlAt w ExT M.vE fl.ex.length M.cE
 oB : SlAt w BkT M.vB fl.bl.length M.cB
 oT : SlAt w IntT M.vT fl.top.length (ints fl.top)
 ee : RowsR (ExV w) 5 fl.ex M.cE
 bb : RowsR (BkV w) 5 fl.bl M.cB
theorem FO.fv {w : World} {B : Nat} {M : Lay} {fl : Fl} (h : FO w B M fl) : FV w M fl :=
 ⟨h.oE.sl,h.oB.sl,h.oT.sl,h.ee.imp fun _ _ _ ⟨va,vk,e,h1,h2⟩ => ⟨va,vk,e,h1.sl,h2.sl⟩,h.bb.imp fun _ _ _ ⟨vl,va,vb,e,h0,h1,h2⟩ => ⟨vl,va,vb,e,h0.sl,h1.sl,h2.sl⟩⟩
theorem FV.ext {w w' : World} {M : Lay} {fl : Fl} (h : FV w M fl) (hx : Ext w w') : FV w' M fl :=
 ⟨h.oE.ext hx,h.oB.ext hx,h.oT.ext hx,h.ee.imp fun _ _ _ ⟨va,vk,e,h1,h2⟩ => ⟨va,vk,e,h1.ext hx,h2.ext hx⟩,h.bb.imp fun _ _ _ ⟨vl,va,vb,e,h0,h1,h2⟩ => ⟨vl,va,vb,e,h0.ext hx,h1.ext hx,h2.ext hx⟩⟩
theorem FV.exI {w : World} {M : Lay} {fl : Fl} {i : Nat} {e : Ex} {k : IntKind} (h : FV w M fl) (hi : fl.ex[i]? = some e) : ∃ va vk,SlAt w IntT va e.args.length (ints e.args) ∧ SlAt w StT vk e.keys.length (strs e.keys) ∧ ∃ p,ixaW none 5 M.vE (.int k i) (fun x => x = p) ∧ ldW true 5 p w fun x => x = .agg [i64 e.k,str e.t,va,vk,i64 e.a].toArray := by
 obtain ⟨va,vk,ec,h1,h2⟩ := h.ee.2 i e hi
 exact ⟨va,vk,h1,h2,ixa_split (ixa_row (K := fun x => x = _) h.oE h.ee.1 (by omega) (List.getElem?_eq_some_iff.1 hi).1 ec rfl)⟩
theorem FV.bkI {w : World} {M : Lay} {fl : Fl} {i : Nat} {e : Blk} {k : IntKind} (h : FV w M fl) (hi : fl.bl[i]? = some e) : ∃ vl va vb,SlAt w StT vl e.labels.length (strs e.labels) ∧ SlAt w AtT va e.attrs.length (atrs e.attrs) ∧ SlAt w IntT vb e.blocks.length (ints e.blocks) ∧ ∃ p,ixaW none 5 M.vB (.int k i) (fun x => x = p) ∧ ldW true 5 p w fun x => x = .agg [str e.typ,vl,va,vb,i64 e.a].toArray := by
 obtain ⟨vl,va,vb,ec,h1,h2,h3⟩ := h.bb.2 i e hi
 exact ⟨vl,va,vb,h1,h2,h3,ixa_split (ixa_row (K := fun x => x = _) h.oB h.bb.1 (by omega) (List.getElem?_eq_some_iff.1 hi).1 ec rfl)⟩
def exA (q : Bool) (e e' : Ex) : Prop := e.k = e'.k ∧ e.t = e'.t ∧ e.args = e'.args ∧ e.keys = e'.keys ∧ (q = true → e.a = e'.a)
def atA (q : Bool) (e e' : Atr) : Prop := e.n = e'.n ∧ e.e = e'.e ∧ (q = true → e.a = e'.a)
def Alike {α : Type} (R : α → α → Prop) (a b : List α) : Prop := a.length = b.length ∧ ∀ (i : Nat) (x y : α),a[i]? = some x → b[i]? = some y → R x y
def bkA (q : Bool) (e e' : Blk) : Prop := e.typ = e'.typ ∧ e.labels = e'.labels ∧ e.blocks = e'.blocks ∧ Alike (atA q) e.attrs e'.attrs ∧ (q = true → e.a = e'.a)
def flA (q : Bool) (f g : Fl) : Prop := Alike (exA q) f.ex g.ex ∧ Alike (bkA q) f.bl g.bl ∧ f.top = g.top
theorem ld_to {n : Nat} {agg : Bool} {p v : Value} {w : World} {K : Value → Prop} (h : ldW agg n p w fun x => x = v) (hK : K v) : ldW agg n p w K := by
 unfold ldW at h ⊢
 split at h
 · cases agg with
   | true => obtain ⟨l,h1,rfl⟩ := h; exact ⟨l,h1,hK⟩
   | false => obtain ⟨x,h1,rfl⟩ := h; exact ⟨x,h1,hK⟩
 · exact h.elim
theorem ixa_to {s : Nat} {v i p : Value} {K : Value → Prop} (h : ixaW none s v i fun x => x = p) (hK : K p) : ixaW none s v i K := by
 unfold ixaW at h ⊢
 split at h
 all_goals first
   | exact h.elim
   | exact ⟨h.1,h.2.1,by have e := h.2.2; rw [e]; exact hK⟩
theorem upj {i : Nat} (h : i < 9223372036854775807) : IntKind.i64.wrap ((i : Int) + 1) = ((i + 1 : Nat) : Int) := by rw [wrap_id (by omega) (by omega)]; rfl
theorem own_few {w : World} {B n m : Nat} {T : TypeId} {v : Value} {xs : List Value} (h : Own w B T m v n xs) : n ≤ 9223372036854775807 := by
 obtain ⟨_,⟨_,rfl⟩ | ⟨g,cap,cur,_,_,_,h2,h3,_⟩⟩ := h
 · omega
 · unfold maxLen at h3; omega
theorem FO.few {w : World} {B : Nat} {M : Lay} {fl : Fl} (h : FO w B M fl) : (fl.ex.length ≤ 9223372036854775807 ∧ fl.bl.length ≤ 9223372036854775807 ∧ fl.top.length ≤ 9223372036854775807) ∧ (∀ e ∈ fl.ex,e.args.length ≤ 9223372036854775807 ∧ e.keys.length ≤ 9223372036854775807) ∧ ∀ b ∈ fl.bl,b.labels.length ≤ 9223372036854775807 ∧ b.attrs.length ≤ 9223372036854775807 ∧ b.blocks.length ≤ 9223372036854775807 := by
 refine ⟨⟨own_few h.oE,own_few h.oB,own_few h.oT⟩,fun e he => ?_,fun b hb => ?_⟩
 · obtain ⟨i,hi⟩ := List.mem_iff_getElem?.1 he
   obtain ⟨va,vk,_,h1,h2⟩ := h.ee.2 i e hi
   exact ⟨own_few h1,own_few h2⟩
 · obtain ⟨i,hi⟩ := List.mem_iff_getElem?.1 hb
   obtain ⟨vl,va,vb,_,h1,h2,h3⟩ := h.bb.2 i b hi
   exact ⟨own_few h1,own_few h2,own_few h3⟩
section
variable [HX]
theorem ints_t {u v : Value} {T1 T2 : TypeId} {m : List Nat} {w : World} {K : Value → World → Prop} (h1 : SlAt w T1 u m.length (ints m)) (h2 : SlAt w T2 v m.length (ints m)) (hl : m.length ≤ 9223372036854775807) (hK : ∀ w',Ext w w' → K (.bool true) w') : callF Tryd.prog 21 [u,v] w K := by
 refine W21_ok ?_
 unfold W21
 rw [lenl_at h1,lenl_at h2,bin_neq,decide_eq_false (by simp),condW_false,lenl_at h1]
 refine LoopW.go (fun st w' => ∃ i : Nat,st = [i64 (i : Nat)] ∧ i ≤ m.length ∧ Ext w w') (fun st _ => match st with | [.int _ i] => m.length - i.toNat | _ => 0) ⟨0,rfl,by omega,Chg.refl _ _⟩ ?_
 rintro st g w1 ⟨i,rfl,hi,hx⟩
 simp only [List.getD_cons_zero]
 rw [bin_lss,condW_dec]
 refine ⟨fun hlt => ?_,fun hge => hK w1 hx⟩
 have hlt : i < m.length := by omega
 have hg := int_get (List.getElem?_eq_getElem hlt)
 have hxd := hx.trans (ext_drew w1)
 refine ixa_ld (h1.ext hxd) (by simp [ints]) hg ?_
 refine ixa_ld (h2.ext hxd) (by simp [ints]) hg ?_
 rw [bin_neq,decide_eq_false (by simp),condW_false,bin_add,upj (by omega)]
 refine ⟨⟨i + 1,rfl,by omega,hxd⟩,?_⟩
 simp only [Int.toNat_natCast]; omega
theorem texts_t {u v : Value} {T1 T2 : TypeId} {m : List Str} {w : World} {K : Value → World → Prop} (h1 : SlAt w T1 u m.length (strs m)) (h2 : SlAt w T2 v m.length (strs m)) (hl : m.length ≤ 9223372036854775807) (hK : ∀ w',Ext w w' → K (.bool true) w') : callF Tryd.prog 22 [u,v] w K := by
 refine W22_ok ?_
 unfold W22
 rw [lenl_at h1,lenl_at h2,bin_neq,decide_eq_false (by simp),condW_false,lenl_at h1]
 refine LoopW.go (fun st w' => ∃ i : Nat,st = [i64 (i : Nat)] ∧ i ≤ m.length ∧ Ext w w') (fun st _ => match st with | [.int _ i] => m.length - i.toNat | _ => 0) ⟨0,rfl,by omega,Chg.refl _ _⟩ ?_
 rintro st g w1 ⟨i,rfl,hi,hx⟩
 simp only [List.getD_cons_zero]
 rw [bin_lss,condW_dec]
 refine ⟨fun hlt => ?_,fun hge => hK w1 hx⟩
 have hlt : i < m.length := by omega
 have hg := strs_get hlt
 have hxd := hx.trans (ext_drew w1)
 refine ixa_ld (h1.ext hxd) (by simp [strs]) hg ?_
 refine ixa_ld (h2.ext hxd) (by simp [strs]) hg ?_
 rw [bin_sne,decide_eq_false (by simp),condW_false,bin_add,upj (by omega)]
 refine ⟨⟨i + 1,rfl,by omega,hxd⟩,?_⟩
 simp only [Int.toNat_natCast]; omega
end
end Go.Proofs.YtofhaneggcpdaaaDoor
namespace Go.Proofs.YtofhaneggcpdaaaDoor
open Go Go.Eng Go.RowKit Go.Syn Go.Lex
set_option maxRecDepth 100000
theorem cell_ext {w w' : World} {ad : Addr} {v : Value} (hx : Ext w w') (h : w.cell? ad = some v) : w'.cell? ad = some v := by
 unfold World.cell? at h ⊢
 cases ho : w.heap[ad.block]? with
 | none => rw [ho] at h; cases h
 | some o => rw [hx.at ho id]; rw [ho] at h; exact h
theorem cells_ext {w w' : World} {ad : Addr} (hx : Ext w w') : ∀ (n i : Nat) (l : List Value),cellsAt w ad i n = some l → cellsAt w' ad i n = some l
 | 0,_,_,h => h
 | n + 1,i,l,h => by
   simp only [cellsAt] at h ⊢
   cases hc : w.cell? (ad.add i) with
   | none => rw [hc] at h; cases h
   | some v =>
     rw [hc] at h
     rw [cell_ext hx hc]
     cases hr : cellsAt w ad (i + 1) n with
     | none => simp only [hr] at h; cases h
     | some m =>
       simp only [hr] at h
       simp only [cells_ext hx n (i + 1) m hr]
       exact h
theorem ld_ext {n : Nat} {agg : Bool} {p v : Value} {w w' : World} (hx : Ext w w') (h : ldW agg n p w fun x => x = v) : ldW agg n p w' fun x => x = v := by
 unfold ldW at h ⊢
 split at h
 · cases agg with
   | true => obtain ⟨l,h1,h2⟩ := h; exact ⟨l,cells_ext hx _ _ _ h1,h2⟩
   | false => obtain ⟨x,h1,h2⟩ := h; exact ⟨x,cell_ext hx h1,h2⟩
 · exact h.elim
theorem fld5 {b : Nat} {T : TypeId} {c : List Value} {off : Nat} {v : Value} {w : World} {K : Value → Prop} (hw : w.heap[b]? = some (.cells c.toArray T (0,0))) (hv : c[off]? = some v) (hk : K v) : fldW off (.pointer (some ⟨b,0,none⟩)) fun t => ldW false 1 t w K := by
 rw [fld_ptr,ld_one]
 refine ⟨v,?_,hk⟩
 rw [add_mk,cell_eq,hw,cellO_some,Nat.zero_add,List.getElem?_toArray]
 exact hv
theorem ld5 {b : Nat} {T : TypeId} {c : List Value} {off : Nat} {v : Value} {w : World} (hw : w.heap[b]? = some (.cells c.toArray T (0,0))) (hv : c[off]? = some v) : ldW false 1 (.pointer (some ((⟨b,0,none⟩ : Addr).add off))) w fun x => x = v := by
 have := fld5 (K := fun x => x = v) hw hv rfl
 rwa [fld_ptr] at this
theorem two_new {T : TypeId} {z c c' : List Value} {n : Nat} {p1 p2 p3 p4 x1 x3 : Value} {w : World} {J : List Value → World → Prop} (hz : z.length = n) (hc : c.length = n) (hc' : c'.length = n) (o1 : c.all one1 = true) (o2 : c'.all one1 = true)
   (h1 : ldW false 1 p1 w fun x => x = x1) (h2 : ldW true n p2 w fun x => x = .agg c.toArray) (h3 : ldW false 1 p3 w fun x => x = x3) (h4 : ldW true n p4 w fun x => x = .agg c'.toArray)
   (hJ : ∀ a b w',Ext w w' → a ≠ b → w'.heap[a]? = some (.cells c.toArray T (0,0)) → w'.heap[b]? = some (.cells c'.toArray T (0,0)) → J [.pointer (some ⟨a,0,none⟩),.pointer (some ⟨b,0,none⟩)] w') :
   (allocW T z w fun t8 w11 => (ldW true n p4 w11 fun x => x = .agg c'.toArray) ∧ (ldW false 1 p3 w11 fun x => x = x3) ∧ (ldW true n p2 w11 fun x => x = .agg c.toArray) ∧ (ldW false 1 p1 w11 fun x => x = x1) ∧
     allocW T z w11 fun t9 w12 => (ldW true n p4 w12 fun x => x = .agg c'.toArray) ∧ (ldW false 1 p3 w12 fun x => x = x3) ∧ (ldW true n p2 w12 fun x => x = .agg c.toArray) ∧ (ldW false 1 p1 w12 fun x => x = x1) ∧
     stW n t8 (.agg c.toArray) w12 fun w13 => (ldW true n p4 w13 fun x => x = .agg c'.toArray) ∧ (ldW false 1 p3 w13 fun x => x = x3) ∧ stW n t9 (.agg c'.toArray) w13 fun w14 => J [t8,t9] w14) ∧
   (allocW T z w fun t9 w11 => (ldW true n p4 w11 fun x => x = .agg c'.toArray) ∧ (ldW false 1 p3 w11 fun x => x = x3) ∧ (ldW true n p2 w11 fun x => x = .agg c.toArray) ∧ (ldW false 1 p1 w11 fun x => x = x1) ∧
     allocW T z w11 fun t8 w12 => (ldW true n p4 w12 fun x => x = .agg c'.toArray) ∧ (ldW false 1 p3 w12 fun x => x = x3) ∧ (ldW true n p2 w12 fun x => x = .agg c.toArray) ∧ (ldW false 1 p1 w12 fun x => x = x1) ∧
     stW n t8 (.agg c.toArray) w12 fun w13 => (ldW true n p4 w13 fun x => x = .agg c'.toArray) ∧ (ldW false 1 p3 w13 fun x => x = x3) ∧ stW n t9 (.agg c'.toArray) w13 fun w14 => J [t8,t9] w14) := by
 constructor
 · refine alloc_new fun a w1 ha hz1 hb1 hx1 => ?_
   refine ⟨ld_ext hx1 h4,ld_ext hx1 h3,ld_ext hx1 h2,ld_ext hx1 h1,?_⟩
   refine alloc_new fun b w2 hb hz2 hb2 hx2 => ?_
   have hx12 := hx1.trans hx2
   refine ⟨ld_ext hx12 h4,ld_ext hx12 h3,ld_ext hx12 h2,ld_ext hx12 h1,?_⟩
   refine st_agg_at (hx2.at hb1 id) hc hz o1 fun w3 hz3 hb3 hc3 => ?_
   have hx3 : Ext w w3 := hx12.new hc3 (by omega)
   refine ⟨ld_ext hx3 h4,ld_ext hx3 h3,?_⟩
   refine st_agg_at (hc3.at hb2 (by omega)) hc' hz o2 fun w4 hz4 hb4 hc4 => ?_
   exact hJ a b w4 (hx3.new hc4 (by omega)) (by omega) (hc4.at hb3 (by omega)) hb4
 · refine alloc_new fun b w1 ha hz1 hb1 hx1 => ?_
   refine ⟨ld_ext hx1 h4,ld_ext hx1 h3,ld_ext hx1 h2,ld_ext hx1 h1,?_⟩
   refine alloc_new fun a w2 hb hz2 hb2 hx2 => ?_
   have hx12 := hx1.trans hx2
   refine ⟨ld_ext hx12 h4,ld_ext hx12 h3,ld_ext hx12 h2,ld_ext hx12 h1,?_⟩
   refine st_agg_at hb2 hc hz o1 fun w3 hz3 hb3 hc3 => ?_
   have hx3 : Ext w w3 := hx12.new hc3 (by omega)
   refine ⟨ld_ext hx3 h4,ld_ext hx3 h3,?_⟩
   refine st_agg_at (hc3.at (hx2.at hb1 id) (by omega)) hc' hz o2 fun w4 hz4 hb4 hc4 => ?_
   exact hJ a b w4 (hx3.new hc4 (by omega)) (by omega) (hc4.at hb3 (by omega)) hb4
theorem atr_at {w : World} {T : TypeId} {v : Value} {l : List Atr} {j : Nat} {x : Atr} (h : SlAt w T v l.length (atrs l)) (hi : l[j]? = some x) : ∃ ad : Addr,ixaW none 3 v (i64 (j : Nat)) (fun y => y = .pointer (some ad)) ∧ (ldW false 1 (.pointer (some (ad.add 0))) w fun y => y = str x.n) ∧ (ldW false 1 (.pointer (some (ad.add 1))) w fun y => y = i64 (x.e : Nat)) ∧ (ldW false 1 (.pointer (some (ad.add 2))) w fun y => y = i64 x.a) := by
 have hlt := (List.getElem?_eq_some_iff.1 hi).1
 have g : ∀ j',j' < 3 → (atrs l)[j * 3 + j']? = [str x.n,i64 (x.e : Nat),i64 x.a][j']? := fun j' hj => flat3_get _ (fun _ => rfl) l j j' x hi hj
 have := ixa_split (ixa_at (k := .i64) (K := fun p => ∃ ad : Addr,p = .pointer (some ad) ∧ (ldW false 1 (.pointer (some (ad.add 0))) w fun y => y = str x.n) ∧ (ldW false 1 (.pointer (some (ad.add 1))) w fun y => y = i64 (x.e : Nat)) ∧ (ldW false 1 (.pointer (some (ad.add 2))) w fun y => y = i64 x.a)) h (by rw [atrs_len]) (by omega) hlt fun b o c fr hb hc => by
   refine ⟨⟨b,o,none⟩,rfl,?_,?_,?_⟩
   · rw [ld_one]; exact ⟨_,by rw [add_mk,cell_eq,hb,cellO_some,hc 0 (by omega),g 0 (by omega)]; rfl,rfl⟩
   · rw [ld_one]; exact ⟨_,by rw [add_mk,cell_eq,hb,cellO_some,hc 1 (by omega),g 1 (by omega)]; rfl,rfl⟩
   · rw [ld_one]; exact ⟨_,by rw [add_mk,cell_eq,hb,cellO_some,hc 2 (by omega),g 2 (by omega)]; rfl,rfl⟩)
 obtain ⟨p,h1,ad,rfl,h2⟩ := this
 exact ⟨ad,h1,h2⟩
def PJ (w0 : World) (T : TypeId) (c c' : List Value) (st : List Value) (w' : World) : Prop := ∃ a b,st = [.pointer (some ⟨a,0,none⟩),.pointer (some ⟨b,0,none⟩)] ∧ Ext w0 w' ∧ w'.heap[a]? = some (.cells c.toArray T (0,0)) ∧ w'.heap[b]? = some (.cells c'.toArray T (0,0))
section
variable [HX]
theorem same_t {f g : Fl} {M N : Lay} {q : Bool} {w : World} {K : Value → World → Prop} (hf : FV w M f) (hg : FV w N g) (hA : flA q f g) (few : f.ex.length ≤ 9223372036854775807 ∧ f.bl.length ≤ 9223372036854775807 ∧ f.top.length ≤ 9223372036854775807)
   (fewE : ∀ e ∈ f.ex,e.args.length ≤ 9223372036854775807 ∧ e.keys.length ≤ 9223372036854775807) (fewB : ∀ b ∈ f.bl,b.labels.length ≤ 9223372036854775807 ∧ b.attrs.length ≤ 9223372036854775807 ∧ b.blocks.length ≤ 9223372036854775807)
   (hK : ∀ w',Ext w w' → K (.bool true) w') : callF Tryd.prog 11 [.agg [M.vE,M.vB,M.vT].toArray,.agg [N.vE,N.vB,N.vT].toArray,.bool q] w K := by
 refine W11_ok ?_
 unfold W11
 obtain ⟨⟨leE,alE⟩,⟨leB,alB⟩,eT⟩ := hA
 refine box_new (z := [M.vE,M.vB,M.vT]) fun p w1 hp hz1 hb1 hx1 => ?_
 refine box_new (z := [N.vE,N.vB,N.vT]) fun p' w2 hp' hz2 hb2 hx2 => ?_
 have hx12 := hx1.trans hx2
 have hb1 := hx2.at hb1 id
 have hf2 := hf.ext hx12
 have hg2 := hg.ext hx12
 refine fld5 (off := 0) hb1 rfl ?_
 rw [lenl_at hf2.oE]
 refine fld5 (off := 0) hb2 rfl ?_
 rw [lenl_at hg2.oE,bin_neq,decide_eq_false (by omega)]
 simp only [isB_f,Bool.not_false]
 refine GdW.look false (fun _ J hJ => ?_) fun _ => ?_
 · refine fld5 (off := 1) hb1 rfl ?_
   rw [lenl_at hf2.oB]
   refine fld5 (off := 1) hb2 rfl ?_
   rw [lenl_at hg2.oB,bin_neq,decide_eq_false (by omega)]
   exact hJ
 simp only [List.getD_cons_zero,cond_true]
 rw [pick_f]
 simp only [isB_f,Bool.not_false]
 refine GdW.act false (fun w' => Ext w2 w') (fun e => by cases e) ?_ ?_
 · intro _ J hJ
   refine fld5 (off := 2) hb1 rfl ?_
   refine fld5 (off := 2) hb2 rfl ?_
   have hoT := hg2.oT
   rw [← eT] at hoT
   refine ints_t hf2.oT hoT few.2.2 fun w3 hx3 => ?_
   rw [un_not]
   exact hJ _ hx3
 rintro g1 w3 hx3
 simp only [List.getD_cons_zero,cond_true]
 rw [pick_f,condW_false]
 refine fld5 (off := 0) (hx3.at hb1 id) rfl ?_
 rw [lenl_at (hf2.ext hx3).oE]
 refine LoopW.go (fun st w' => ∃ i : Nat,st = [i64 (i : Nat)] ∧ i ≤ f.ex.length ∧ Ext w2 w') (fun st _ => match st with | [.int _ i] => f.ex.length - i.toNat | _ => 0) ⟨0,rfl,by omega,hx3⟩ ?_
 rintro st g2 w4 ⟨i,rfl,hi,hx4⟩
 simp only [List.getD_cons_zero]
 rw [bin_lss,condW_dec]
 refine ⟨fun hlt => ?_,fun hge => ?_⟩
 · have hlt : i < f.ex.length := by omega
   have hxd := hx4.trans (ext_drew w4)
   have ge := List.getElem?_eq_getElem hlt
   have ge' := List.getElem?_eq_getElem (show i < g.ex.length by omega)
   generalize f.ex[i] = e at ge
   generalize g.ex[i] = e' at ge'
   obtain ⟨r1,r2,r3,r4,r5⟩ := alE i e e' ge ge'
   have fe := fewE e (List.mem_of_getElem? ge)
   have hfd := hf2.ext hxd
   have hgd := hg2.ext hxd
   have hb1d := hxd.at hb1 id
   have hb2d := hxd.at hb2 id
   obtain ⟨va,vk,o1,o2,pp,a1,a2⟩ := hfd.exI (k := .i64) ge
   obtain ⟨va',vk',o1',o2',pp',a1',a2'⟩ := hgd.exI (k := .i64) ge'
   have l1 : ∃ c1 c2,va = .slice c1 e.args.length c2 := by obtain ⟨x,y,z,_⟩ := o1.shape; exact ⟨x,y,z⟩
   have l2 : ∃ c1 c2,vk = .slice c1 e.keys.length c2 := by obtain ⟨x,y,z,_⟩ := o2.shape; exact ⟨x,y,z⟩
   have l1' : ∃ c1 c2,va' = .slice c1 e'.args.length c2 := by obtain ⟨x,y,z,_⟩ := o1'.shape; exact ⟨x,y,z⟩
   have l2' : ∃ c1 c2,vk' = .slice c1 e'.keys.length c2 := by obtain ⟨x,y,z,_⟩ := o2'.shape; exact ⟨x,y,z⟩
   refine JoinW.cut (PJ w4.drew ExT [i64 e.k,str e.t,va,vk,i64 e.a] [i64 e'.k,str e'.t,va',vk',i64 e'.a]) ?_ ?_
   · rw [fld_ptr]
     refine ld_to (ld5 (off := 0) hb1d rfl) ?_
     refine ixa_to a1 ?_
     refine ld_to a2 ?_
     rw [fld_ptr]
     refine ld_to (ld5 (off := 0) hb2d rfl) ?_
     refine ixa_to a1' ?_
     refine ld_to a2' ?_
     refine two_new (J := PJ w4.drew ExT [i64 e.k,str e.t,va,vk,i64 e.a] [i64 e'.k,str e'.t,va',vk',i64 e'.a]) (T := ExT) (n := 5) (z := [.int .i64 0,.string (ofL []),.slice none 0 0,.slice none 0 0,.int .i64 0]) (c := [i64 e.k,str e.t,va,vk,i64 e.a]) (c' := [i64 e'.k,str e'.t,va',vk',i64 e'.a]) rfl rfl rfl ?_ ?_ (ld5 (off := 0) hb1d rfl) a2 (ld5 (off := 0) hb2d rfl) a2' fun a b w5 hx5 _ ha hb => ⟨a,b,rfl,hx5,ha,hb⟩
     · obtain ⟨_,_,rfl⟩ := l1; obtain ⟨_,_,rfl⟩ := l2; rfl
     · obtain ⟨_,_,rfl⟩ := l1'; obtain ⟨_,_,rfl⟩ := l2'; rfl
   rintro st g3 w5 ⟨a,b,rfl,hx5,ha,hb⟩
   simp only [List.getD_cons_zero,List.getD_cons_succ]
   refine fld5 (off := 0) ha rfl ?_
   refine fld5 (off := 0) hb rfl ?_
   rw [bin_neq,decide_eq_false (by rw [r1]; simp)]
   simp only [isB_f,Bool.not_false]
   refine GdW.look false (fun _ J hJ => ?_) fun _ => ?_
   · refine fld5 (off := 1) ha rfl ?_
     refine fld5 (off := 1) hb rfl ?_
     rw [bin_sne,decide_eq_false (by rw [r2]; simp)]
     exact hJ
   simp only [List.getD_cons_zero,cond_true]
   rw [pick_f]
   simp only [isB_f,Bool.not_false]
   refine GdW.act false (fun w' => Ext w5 w') (fun e => by cases e) ?_ ?_
   · intro _ J hJ
     refine fld5 (off := 2) ha rfl ?_
     refine fld5 (off := 2) hb rfl ?_
     rw [← r3] at o1'
     refine ints_t (o1.ext hx5) (o1'.ext hx5) fe.1 fun w6 hx6 => ?_
     rw [un_not]
     exact hJ _ hx6
   rintro g4 w6 hx6
   simp only [List.getD_cons_zero,cond_true]
   rw [pick_f]
   simp only [isB_f,Bool.not_false]
   refine GdW.act false (fun w' => Ext w5 w') (fun e => by cases e) ?_ ?_
   · intro _ J hJ
     refine fld5 (off := 3) (hx6.at ha id) rfl ?_
     refine fld5 (off := 3) (hx6.at hb id) rfl ?_
     rw [← r4] at o2'
     have hx56 := hx5.trans hx6
     refine texts_t (o2.ext hx56) (o2'.ext hx56) fe.2 fun w7 hx7 => ?_
     rw [un_not]
     exact hJ _ (hx6.trans hx7)
   rintro g5 w7 hx7
   have ha7 := hx7.at ha id
   have hb7 := hx7.at hb id
   have hx47 := (hxd.trans hx5).trans hx7
   simp only [List.getD_cons_zero,cond_true]
   rw [pick_f]
   simp only [isB_f,Bool.not_false,GdW_pure]
   intro g6
   simp only [List.getD_cons_zero,cond_true]
   refine GdW.look false (fun hq J hJ => ?_) fun _ => ?_
   · have hq : q = true := by simpa [isB_t] using hq
     refine fld5 (off := 4) ha7 rfl ?_
     refine fld5 (off := 4) hb7 rfl ?_
     rw [bin_neq,decide_eq_false (by rw [r5 hq]; simp)]
     exact hJ
   refine GdW.look false (fun _ J hJ => ?_) fun _ => ?_
   · simp only [List.getD_cons_zero,isB_t]
     rw [pick_gd_and,Bool.and_false]
     exact hJ
   simp only [List.getD_cons_zero,cond_true]
   rw [pick_f,condW_false,bin_add,upj (by omega)]
   refine ⟨⟨i + 1,rfl,by omega,hx47⟩,?_⟩
   simp only [Int.toNat_natCast]; omega
 · have hb14 := hx4.at hb1 id
   have hb24 := hx4.at hb2 id
   refine fld5 (off := 1) hb14 rfl ?_
   rw [lenl_at (hf2.ext hx4).oB]
   refine LoopW.go (fun st w' => ∃ i : Nat,st = [i64 (i : Nat)] ∧ i ≤ f.bl.length ∧ Ext w2 w') (fun st _ => match st with | [.int _ i] => f.bl.length - i.toNat | _ => 0) ⟨0,rfl,by omega,hx4⟩ ?_
   clear hge hi hb14 hb24 hx4 hx3
   rintro st g2 w4 ⟨i,rfl,hi,hx4⟩
   simp only [List.getD_cons_zero]
   rw [bin_lss,condW_dec]
   refine ⟨fun hlt => ?_,fun hge => hK w4 (hx12.trans hx4)⟩
   have hlt : i < f.bl.length := by omega
   have hxd := hx4.trans (ext_drew w4)
   have ge := List.getElem?_eq_getElem hlt
   have ge' := List.getElem?_eq_getElem (show i < g.bl.length by omega)
   generalize f.bl[i] = e at ge
   generalize g.bl[i] = e' at ge'
   obtain ⟨r1,r2,r3,⟨r4,r6⟩,r5⟩ := alB i e e' ge ge'
   have fe := fewB e (List.mem_of_getElem? ge)
   have hfd := hf2.ext hxd
   have hgd := hg2.ext hxd
   have hb1d := hxd.at hb1 id
   have hb2d := hxd.at hb2 id
   obtain ⟨vl,va,vb,o1,o2,o3,pp,a1,a2⟩ := hfd.bkI (k := .i64) ge
   obtain ⟨vl',va',vb',o1',o2',o3',pp',a1',a2'⟩ := hgd.bkI (k := .i64) ge'
   refine JoinW.cut (PJ w4.drew BkT [str e.typ,vl,va,vb,i64 e.a] [str e'.typ,vl',va',vb',i64 e'.a]) ?_ ?_
   · rw [fld_ptr]
     refine ld_to (ld5 (off := 1) hb1d rfl) ?_
     refine ixa_to a1 ?_
     refine ld_to a2 ?_
     rw [fld_ptr]
     refine ld_to (ld5 (off := 1) hb2d rfl) ?_
     refine ixa_to a1' ?_
     refine ld_to a2' ?_
     refine two_new (J := PJ w4.drew BkT [str e.typ,vl,va,vb,i64 e.a] [str e'.typ,vl',va',vb',i64 e'.a]) (T := BkT) (n := 5) (z := [.string (ofL []),.slice none 0 0,.slice none 0 0,.slice none 0 0,.int .i64 0]) (c := [str e.typ,vl,va,vb,i64 e.a]) (c' := [str e'.typ,vl',va',vb',i64 e'.a]) rfl rfl rfl ?_ ?_ (ld5 (off := 1) hb1d rfl) a2 (ld5 (off := 1) hb2d rfl) a2' fun a b w5 hx5 _ ha hb => ⟨a,b,rfl,hx5,ha,hb⟩
     · obtain ⟨_,_,rfl,_⟩ := o1.shape; obtain ⟨_,_,rfl,_⟩ := o2.shape; obtain ⟨_,_,rfl,_⟩ := o3.shape; rfl
     · obtain ⟨_,_,rfl,_⟩ := o1'.shape; obtain ⟨_,_,rfl,_⟩ := o2'.shape; obtain ⟨_,_,rfl,_⟩ := o3'.shape; rfl
   rintro st g3 w5 ⟨a,b,rfl,hx5,ha,hb⟩
   simp only [List.getD_cons_zero,List.getD_cons_succ]
   refine fld5 (off := 0) ha rfl ?_
   refine fld5 (off := 0) hb rfl ?_
   rw [bin_sne,decide_eq_false (by rw [r1]; simp)]
   simp only [isB_f,Bool.not_false]
   refine GdW.act false (fun w' => Ext w5 w') (fun e => by cases e) ?_ ?_
   · intro _ J hJ
     refine fld5 (off := 1) ha rfl ?_
     refine fld5 (off := 1) hb rfl ?_
     rw [← r2] at o1'
     refine texts_t (o1.ext hx5) (o1'.ext hx5) fe.1 fun w6 hx6 => ?_
     rw [un_not]
     exact hJ _ hx6
   rintro g4 w6 hx6
   simp only [List.getD_cons_zero,cond_true]
   rw [pick_f]
   simp only [isB_f,Bool.not_false]
   refine GdW.act false (fun w' => Ext w5 w') (fun e => by cases e) ?_ ?_
   · intro _ J hJ
     refine fld5 (off := 3) (hx6.at ha id) rfl ?_
     refine fld5 (off := 3) (hx6.at hb id) rfl ?_
     rw [← r3] at o3'
     have hx56 := hx5.trans hx6
     refine ints_t (o3.ext hx56) (o3'.ext hx56) fe.2.2 fun w7 hx7 => ?_
     rw [un_not]
     exact hJ _ (hx6.trans hx7)
   rintro g5 w7 hx7
   have ha7 := hx7.at ha id
   have hb7 := hx7.at hb id
   have hx57 := hx5.trans hx7
   have hx47 := hxd.trans hx57
   simp only [List.getD_cons_zero,cond_true]
   rw [pick_f]
   simp only [isB_f,Bool.not_false]
   refine GdW.look false (fun _ J hJ => ?_) fun _ => ?_
   · refine fld5 (off := 2) ha7 rfl ?_
     rw [lenl_at (o2.ext hx57)]
     refine fld5 (off := 2) hb7 rfl ?_
     rw [lenl_at (o2'.ext hx57),bin_neq,decide_eq_false (by omega)]
     exact hJ
   simp only [List.getD_cons_zero,cond_true]
   rw [pick_f]
   simp only [isB_f,Bool.not_false,GdW_pure]
   intro g6
   simp only [List.getD_cons_zero,cond_true]
   refine GdW.look false (fun hq J hJ => ?_) fun _ => ?_
   · have hq : q = true := by simpa [isB_t] using hq
     refine fld5 (off := 4) ha7 rfl ?_
     refine fld5 (off := 4) hb7 rfl ?_
     rw [bin_neq,decide_eq_false (by rw [r5 hq]; simp)]
     exact hJ
   refine GdW.look false (fun _ J hJ => ?_) fun _ => ?_
   · simp only [List.getD_cons_zero,isB_t]
     rw [pick_gd_and,Bool.and_false]
     exact hJ
   simp only [List.getD_cons_zero,cond_true]
   rw [pick_f,condW_false]
   refine fld5 (off := 2) ha7 rfl ?_
   rw [lenl_at (o2.ext hx57)]
   refine LoopW.go (fun st w' => ∃ j : Nat,st = [i64 (j : Nat)] ∧ j ≤ e.attrs.length ∧ Ext w7 w') (fun st _ => match st with | [.int _ j] => e.attrs.length - j.toNat | _ => 0) ⟨0,rfl,by omega,Chg.refl _ _⟩ ?_
   rintro st g7 w8 ⟨j,rfl,hj,hx8⟩
   simp only [List.getD_cons_zero]
   rw [bin_lss,condW_dec]
   refine ⟨fun hlt2 => ?_,fun hge2 => ?_⟩
   · have hlt2 : j < e.attrs.length := by omega
     have hx8d := hx8.trans (ext_drew w8)
     have ha8 := hx8d.at ha7 id
     have hb8 := hx8d.at hb7 id
     have gx := List.getElem?_eq_getElem hlt2
     have gx' := List.getElem?_eq_getElem (show j < e'.attrs.length by omega)
     generalize e.attrs[j] = x at gx
     generalize e'.attrs[j] = x' at gx'
     obtain ⟨s1,s2,s3⟩ := r6 j x x' gx gx'
     obtain ⟨ad,i1,i2,i3,i4⟩ := atr_at (o2.ext (hx57.trans hx8d)) gx
     obtain ⟨ad',i1',i2',i3',i4'⟩ := atr_at (o2'.ext (hx57.trans hx8d)) gx'
     refine fld5 (off := 2) ha8 rfl ?_
     refine ixa_to i1 ?_
     rw [fld_ptr]
     refine ld_to i2 ?_
     refine fld5 (off := 2) hb8 rfl ?_
     refine ixa_to i1' ?_
     rw [fld_ptr]
     refine ld_to i2' ?_
     rw [bin_sne,decide_eq_false (by rw [s1]; simp)]
     simp only [isB_f,Bool.not_false]
     rw [gq_fld]
     refine gq_of (ld5 (off := 2) ha8 rfl) ?_
     refine gq_of rfl ?_
     refine gq_of i1 ?_
     rw [gq_fld]
     refine gq_of i3 ?_
     rw [gq_fld]
     refine gq_of (ld5 (off := 2) hb8 rfl) ?_
     refine gq_of rfl ?_
     refine gq_of i1' ?_
     rw [gq_fld]
     refine gq_of i3' ?_
     refine gq_of (v := .bool false) (by rw [bin_neq,decide_eq_false (by rw [s2]; simp)]) ?_
     rw [pick_f]
     simp only [isB_f,Bool.not_false]
     refine gq_of rfl ?_
     refine gq_of rfl ?_
     have fin : (fun (st : List Value) w' => ∃ j : Nat,st = [i64 (j : Nat)] ∧ j ≤ e.attrs.length ∧ Ext w7 w') [i64 ((j + 1 : Nat) : Int)] w8.drew ∧ (fun (st : List Value) (_ : World) => match st with | [.int _ j] => e.attrs.length - j.toNat | _ => 0) [i64 ((j + 1 : Nat) : Int)] w8.drew < e.attrs.length - ((j : Nat) : Int).toNat := ⟨⟨j + 1,rfl,by omega,hx8d⟩,by simp only [Int.toNat_natCast]; omega⟩
     cases q with
     | false =>
       simp only [isB_t,GqW_f]
       refine gq_of (v := .bool false) (by rw [pick_f]) ?_
       rw [pick_f,condW_false,bin_add,upj (by omega)]
       exact fin
     | true =>
       simp only [isB_t]
       rw [gq_fld]
       refine gq_of (ld5 (off := 2) ha8 rfl) ?_
       refine gq_of rfl ?_
       refine gq_of i1 ?_
       rw [gq_fld]
       refine gq_of i4 ?_
       rw [gq_fld]
       refine gq_of (ld5 (off := 2) hb8 rfl) ?_
       refine gq_of rfl ?_
       refine gq_of i1' ?_
       rw [gq_fld]
       refine gq_of i4' ?_
       refine gq_of (v := .bool false) (by rw [bin_neq,decide_eq_false (by rw [s3 rfl]; simp)]) ?_
       refine gq_of (v := .bool false) (by rw [pick_t]) ?_
       rw [pick_f,condW_false,bin_add,upj (by omega)]
       exact fin
   · rw [bin_add,upj (by omega)]
     refine ⟨⟨i + 1,rfl,by omega,hx47.trans hx8⟩,?_⟩
     simp only [Int.toNat_natCast]; omega
end
end Go.Proofs.YtofhaneggcpdaaaDoor
namespace Go.Proofs.YtofhaneggcpdaaaDoor
open Go Go.Eng Go.RowKit Go.Syn Go.Lex
set_option maxRecDepth 100000
section
variable {w w' : World} {B g r p : Nat} {M : Lay} {fl : Fl} {v : Value}
theorem ld_row {a n : Nat} {T : TypeId} {d : List Value} {K : Value → Prop} (h : w.heap[a]? = some (.cells d.toArray T (0,0))) (hn : d.length = n) (hK : K (.agg d.toArray)) : ldW true n (.pointer (some ⟨a,0,none⟩)) w K := by
 rw [ld_agg]
 refine ⟨d,?_,hK⟩
 have := cells_row (o := 0) (d := d) h (fun j hj => by rw [Nat.zero_add]; simp) n 0 (by omega)
 simpa using this
end
end Go.Proofs.YtofhaneggcpdaaaDoor
namespace Go.Proofs.YtofhaneggcpdaaaDoor
open Go Go.Eng Go.RowKit Go.Syn Go.Lex
set_option maxRecDepth 100000
structure JV (w0 w : World) (B a9 a12 n m : Nat) (M : Lay) (fl : Fl) (vE vB vT : Value) (i j : Nat) (t : List Nat) : Prop where
 F : FO w B M fl
 h9 : w.heap[a9]? = some (.cells [M.vE,M.vB,M.vT].toArray FlT (0,0))
 h12 : w.heap[a12]? = some (.cells [vE,vB,vT].toArray FlT (0,0))
 oE : Own w (a12 + 1) ExT 5 vE i ((M.cE.drop (n * 5)).take (i * 5))
 oB : Own w (a12 + 1) BkT 5 vB j ((M.cB.drop (m * 5)).take (j * 5))
 oT : Own w (a12 + 1) IntT 1 vT t.length (ints t)
 ch : Ext w0 w
 lo : w0.heap.size ≤ B ∧ B ≤ a9 ∧ a9 < a12
 lt : ∀ k ∈ ub ([M.vE,M.vB,M.vT] ++ (M.cE ++ M.cB)),k < a9
 dEB : ∀ k,vE.ownBlock = some k → vB.ownBlock ≠ some k
 dET : ∀ k,vE.ownBlock = some k → vT.ownBlock ≠ some k
 dBT : ∀ k,vB.ownBlock = some k → vT.ownBlock ≠ some k
section
variable {w0 w w' w1 w2 : World} {B a9 a12 n m g : Nat} {M : Lay} {fl fl' : Fl} {vE vB vT v' : Value} {i j : Nat} {t : List Nat}
end
end Go.Proofs.YtofhaneggcpdaaaDoor


namespace Go.Proofs.YtofhaneggcpdaaaDoor
open Go Go.Eng Go.RowKit Go.Syn Go.Lex
set_option maxRecDepth 100000
theorem flA_refl (q : Bool) (f : Fl) : flA q f f := by
 refine ⟨⟨rfl,fun i x y h1 h2 => ?_⟩,⟨rfl,fun i x y h1 h2 => ?_⟩,rfl⟩
 · rw [h1] at h2
   injection h2 with h2
   subst h2
   exact ⟨rfl,rfl,rfl,rfl,fun _ => rfl⟩
 · rw [h1] at h2
   injection h2 with h2
   subst h2
   refine ⟨rfl,rfl,rfl,⟨rfl,fun i u v g1 g2 => ?_⟩,fun _ => rfl⟩
   rw [g1] at g2
   injection g2 with g2
   subst g2
   exact ⟨rfl,rfl,fun _ => rfl⟩
theorem FO.one {w : World} {B : Nat} {M : Lay} {fl : Fl} (h : FO w B M fl) : [M.vE,M.vB,M.vT].all one1 = true := by
 obtain ⟨p1,c1,e1,_⟩ := h.oE.sl.shape
 obtain ⟨p2,c2,e2,_⟩ := h.oB.sl.shape
 obtain ⟨p3,c3,e3,_⟩ := h.oT.sl.shape
 rw [e1,e2,e3]; rfl
end Go.Proofs.YtofhaneggcpdaaaDoor
namespace Go.Proofs.YtofhaneggcpdaaaDoor
open Go Go.Eng Go.RowKit Go.Syn Go.Lex
set_option maxRecDepth 100000
set_option maxHeartbeats 1000000
variable [HX]
def tL : List Str := [[97],[49],[102,32,40,32,98,32,44,32,50,32,41],[91,32,99,32,44,32,93],[45,32,100,32,46,32,101],[40,32,103,32,41]]
theorem tL_op : ∀ o,o < 6 → tL.getD o [] = opT o := by decide
theorem sgn_sg : ∀ s,s < 13 → sgnL.getD s [] = sg s := by decide
theorem op_small : ∀ o,o < 6 → (opT o).length ≤ 11 := by decide
theorem sg_small : ∀ s,s < 13 → (sg s).length ≤ 2 := by decide
def two (c : UInt8) (f : Str → Str) (t s : Str) (n : Nat) : Str := ([t,s].take n).flatMap fun x => f x ++ [c]
theorem two_next {c : UInt8} {f : Str → Str} {t s : Str} {n : Nat} {x : Str} (h : [t,s][n]? = some x) : two c f t s (n + 1) = two c f t s n ++ (f x ++ [c]) := by
 unfold two
 rw [List.take_add_one,h,List.flatMap_append]
 simp
theorem broken_true {T : TypeId} {v : Value} {l : List Int} {w : World} {K : Value → World → Prop} (hT : TabI w) (h : SlAt w T v l.length (l.map i64) ∧ l.length ≤ 9223372036854775807) (hK : ∀ w',Ext w w' → K (.bool true) w') : callF Tryd.prog 7 [v] w K := by
 refine W7_ok ?_
 unfold W7
 obtain ⟨hv,hlen⟩ := h
 have emax : IntKind.i64.max = 9223372036854775807 := by decide
 refine awake5_p hT fun w1 hx1 => ?_
 rw [un_not,Bool.not_true,condW_false]
 refine LoopW.go (fun st w' => ∃ i : Nat,st = [str (wX false (itsOf l i)),str (wX true (itsOf l i)),i64 (i : Nat)] ∧ i ≤ l.length ∧ i ≤ 40 ∧ Ext w w') (fun st _ => match st with | [_,_,.int _ i] => 40 - i.toNat | _ => 0) ⟨0,rfl,by omega,by omega,hx1⟩ ?_
 rintro st g w3 ⟨i,rfl,hil,hi40,hx3⟩
 simp only [List.getD_cons_zero,List.getD_cons_succ]
 rw [lenl_at (hv.ext hx3),bin_lss]
 refine GdW.look (decide ((i : Int) < 40)) (fun _ J hJ => by rw [bin_lss]; exact hJ) fun g2 => ?_
 have hI := its_ok l i
 have hIl := its_len l i
 have lw := wX_len false _ hI
 have lb := wX_len true _ hI
 by_cases hlt : (i : Int) < (l.length : Int) ∧ (i : Int) < 40
 · obtain ⟨hlt1,hlt2⟩ := hlt
   rw [decide_eq_true hlt1,decide_eq_true hlt2,isB_t,cond_true,List.getD_cons_zero,pick_t,condW_true]
   have ge := List.getElem?_eq_getElem (show i < l.length by omega)
   generalize l[i] = a at ge
   have hga : (l.map i64)[i]? = some (i64 a) := by rw [List.getElem?_map,ge]; rfl
   obtain ⟨m13,e13⟩ := md_ok (m := 13) a (by omega) (by omega)
   obtain ⟨m6,e6⟩ := md_ok (m := 6) a (by omega) (by omega)
   refine ixa_ld (hv.ext hx3) (by simp) hga ?_
   rw [cvt_int,bin_rem]
   refine ⟨by decide,?_⟩
   rw [cvt_int,show IntKind.i64.wrap ((IntKind.u64.wrap a).tmod 13) = (md 13 a : Nat) from e13]
   refine signs5_p m13 fun w6 hx6 => ?_
   rw [ext_tuple]; refine ⟨_,rfl,?_⟩
   rw [ext_tuple]; refine ⟨_,rfl,?_⟩
   rw [sgn_sg _ m13]
   have hx6 := hx3.trans hx6
   simp only [put_str,put_nil,List.length_cons,List.length_nil,List.set_cons_zero,List.set_cons_succ,Nat.reduceAdd,Nat.reduceLT,true_and,Nat.zero_lt_succ]
   refine ixa_ld (hv.ext hx6) (by simp) hga ?_
   rw [cvt_int,bin_rem]
   refine ⟨by decide,?_⟩
   rw [cvt_int,show IntKind.i64.wrap ((IntKind.u64.wrap a).tmod 6) = (md 6 a : Nat) from e6]
   refine ixg_m (l := strs tL) (k := md 6 a) (x := str (opT (md 6 a))) m6 (by rw [← tL_op _ m6]; exact strs_get m6) ?_
   simp only [put_str,put_nil,List.length_cons,List.length_nil,List.set_cons_zero,List.set_cons_succ,Nat.reduceAdd,Nat.reduceLT,true_and,Nat.zero_lt_succ]
   have lt := op_small _ m6
   have ls := sg_small _ m13
   have nx := its_next ge
   have x1 := wX_one (md 6 a,md 13 a)
   have x2 := wX_two (md 6 a,md 13 a) m6 m13
   simp only at x1 x2
   have y1 : wX false (itsOf l (i + 1)) = wX false (itsOf l i) ++ two 32 id (opT (md 6 a)) (sg (md 13 a)) 2 := by rw [nx,wX_app,x1]; simp [two]
   have y2 : wX true (itsOf l (i + 1)) = wX true (itsOf l i) ++ two 10 (·.map nb) (opT (md 6 a)) (sg (md 13 a)) 2 := by rw [nx,wX_app,x2]; simp [two]
   have t1 : two 32 id (opT (md 6 a)) (sg (md 13 a)) 1 = opT (md 6 a) ++ [32] := by simp [two]
   have t2 : two 10 (·.map nb) (opT (md 6 a)) (sg (md 13 a)) 1 = (opT (md 6 a)).map nb ++ [10] := by simp [two]
   generalize opT (md 6 a) = t at *
   generalize sg (md 13 a) = s at *
   generalize wX false (itsOf l i) = X at *
   generalize wX true (itsOf l i) = Y at *
   have zl : ∀ k,k < 2 → (two 32 id t s k).length ≤ 20 ∧ (two 10 (·.map nb) t s k).length ≤ 20 := fun k hk => by
     obtain rfl | rfl : k = 0 ∨ k = 1 := by omega
     · simp [two]
     · rw [t1,t2]; simp; omega
   refine LoopW.go (fun st w' => ∃ k : Nat,st = [str (X ++ two 32 id t s k),str (Y ++ two 10 (·.map nb) t s k),i64 (k : Nat)] ∧ k ≤ 2 ∧ Ext w w') (fun st _ => match st with | [_,_,.int _ k] => 2 - k.toNat | _ => 0) ⟨0,by simp [two],by omega,hx6⟩ ?_
   rintro st g3 w10 ⟨k,rfl,hk,hx10⟩
   simp only [List.getD_cons_zero,List.getD_cons_succ]
   rw [bin_lss,condW_dec]
   refine ⟨fun hk2 => ?_,fun hk2 => ?_⟩
   · have hk2 : k < 2 := by omega
     obtain ⟨c,hc⟩ : ∃ c,[t,s][k]? = some c := ⟨_,List.getElem?_eq_getElem hk2⟩
     obtain ⟨z1,z2⟩ := zl k hk2
     have lc : c.length ≤ 11 := by
       rcases List.mem_cons.1 (List.mem_of_getElem? hc) with rfl | hm
       · exact lt
       · rw [List.mem_singleton] at hm; subst hm; omega
     refine ixg_m (l := strs [t,s]) (k := k) (x := str c) hk2 (by unfold strs; rw [List.getElem?_map,hc]; rfl) ?_
     rw [bin_sadd]
     refine ⟨by rw [emax]; simp; omega,?_⟩
     rw [bin_sadd]
     refine ⟨by rw [emax]; simp; omega,?_⟩
     refine to_bytes_o (by kernel_rfl) (by kernel_rfl) (by kernel_rfl) fun bb cap cc w11 hbb hB hx11 => ?_
     rw [lenl_at hB.byt]
     have hx11 := hx10.trans hx11
     refine LoopW.go (fun st w' => ∃ j : Nat,st = [str (Y ++ two 10 (·.map nb) t s k ++ (c.take j).map nb),i64 (j : Nat)] ∧ j ≤ c.length ∧ BytB w' bb cap cc c ∧ Ext w w') (fun st _ => match st with | [_,.int _ j] => c.length - j.toNat | _ => 0) ⟨0,by simp,by omega,hB,hx11⟩ ?_
     clear hB
     rintro st g4 w13 ⟨j,rfl,hj,hB,hx13⟩
     simp only [List.getD_cons_zero,List.getD_cons_succ]
     rw [bin_lss,condW_dec]
     refine ⟨fun hj2 => ?_,fun hj2 => ?_⟩
     · have hj2 : j < c.length := by omega
       have gj := List.getElem?_eq_getElem hj2
       generalize c[j] = d at gj
       refine JoinW.cut (fun st w' => st = [str (Y ++ two 10 (·.map nb) t s k ++ (c.take (j + 1)).map nb)] ∧ Ext w13 w') ?_ ?_
       · refine ixa_ld hB.byt (by simp [u8s_length]) (by rw [u8s_get,gj]; rfl) ?_
         have hlen : (Y ++ two 10 (·.map nb) t s k ++ (c.take j).map nb).length + 1 ≤ 9223372036854775807 := by
           simp only [List.length_append,List.length_map,List.length_take]; omega
         have hnx : Y ++ two 10 (·.map nb) t s k ++ (c.take j).map nb ++ [nb d] = Y ++ two 10 (·.map nb) t s k ++ (c.take (j + 1)).map nb := by
           rw [List.take_add_one,gj,List.append_assoc]
           simp
         have hd32 : ((d.toNat : Nat) : Int) = 32 ↔ d = 32 := by
           constructor
           · intro e
             have : d.toNat = (32 : UInt8).toNat := by show d.toNat = 32; omega
             exact UInt8.toNat_inj.1 this
           · rintro rfl; rfl
         rw [bin_eql,condW_dec]
         refine ⟨fun e => ?_,fun e => ?_⟩
         · have e := hd32.1 e
           rw [bin_sadd]
           refine ⟨by rw [emax,List.length_cons,List.length_nil]; omega,?_,Chg.refl _ _⟩
           rw [← hnx,show nb d = 10 by unfold nb; rw [if_pos e]]
         · have e : d ≠ 32 := fun hh => e (hd32.2 hh)
           refine row_u8 fun t72 w15 hs15 hx15 => ?_
           rw [conv_bytes (e := U8) (T := U8) (l := [d]) (by kernel_rfl) (by kernel_rfl) (by kernel_rfl) hs15]
           rw [bin_sadd]
           refine ⟨by rw [emax,List.length_cons,List.length_nil]; omega,?_,hx15⟩
           rw [← hnx,show nb d = d by unfold nb; rw [if_neg e]]
       · rintro st g5 w16 ⟨rfl,hx16⟩
         simp only [List.getD_cons_zero]
         rw [bin_add,upi (by omega)]
         refine ⟨⟨j + 1,rfl,by omega,hB.ext hx16,hx13.trans hx16⟩,?_⟩
         simp only [Int.toNat_natCast]; omega
     · obtain rfl : j = c.length := by omega
       rw [List.take_length,bin_sadd]
       refine ⟨by rw [emax]; simp only [List.length_append,List.length_map,List.length_cons,List.length_nil]; omega,?_⟩
       rw [bin_add,upi (by omega)]
       refine ⟨⟨k + 1,?_,by omega,hx13⟩,?_⟩
       · rw [two_next hc,two_next hc]
         simp only [List.append_assoc,id_eq]
       · simp only [Int.toNat_natCast]; omega
   · obtain rfl : k = 2 := by omega
     rw [bin_add,upi (by omega)]
     refine ⟨⟨i + 1,by rw [y1,y2],by omega,by omega,hx10⟩,?_⟩
     simp only [Int.toNat_natCast]; omega
 · have hfalse : ∀ {K' : Value → Prop},K' (.bool false) → pickW (.bool (decide ((i : Int) < (l.length : Int)))) ([bif isB (.bool (decide ((i : Int) < (l.length : Int)))) true then Value.bool (decide ((i : Int) < 40)) else undef].getD 0 undef) (.bool false) K' := fun {K'} hk => by
     by_cases h1 : (i : Int) < (l.length : Int)
     · rw [decide_eq_true h1,isB_t,cond_true,List.getD_cons_zero,pick_t,decide_eq_false (fun h2 => hlt ⟨h1,h2⟩)]; exact hk
     · rw [decide_eq_false h1,pick_f]; exact hk
   refine hfalse ?_
   rw [condW_false]
   obtain ⟨f,p1,p2⟩ := broken_plain hI (by omega)
   have e1 := text_eq false (itsOf l i)
   have e2 := text_eq true (itsOf l i)
   simp only [if_true,if_false,Bool.false_eq_true] at e1 e2
   rw [e1] at p1
   rw [e2] at p2
   generalize wX false (itsOf l i) = X at *
   generalize wX true (itsOf l i) = Y at *
   rw [bin_sadd]
   refine ⟨by rw [emax]; simp only [List.length_cons,List.length_nil]; omega,?_⟩
   rw [bin_sadd]
   refine ⟨by rw [emax]; simp only [List.length_append,List.length_cons,List.length_nil]; omega,?_⟩
   refine parse_r (hT.ext hx3) (by simp only [List.length_append,List.length_cons,List.length_nil]; omega) fun M1 d1 w4 hx4 hF1 hd1 _ => ?_
   rw [p1] at hF1 hd1
   rw [ext_tuple]; refine ⟨_,rfl,?_⟩
   rw [ext_tuple]; refine ⟨_,rfl,?_⟩
   refine alloc_new fun a5 w5 ha5 hz5 hb5 hx5 => ?_
   refine st_agg_at (l := [M1.vE,M1.vB,M1.vT]) hb5 rfl rfl hF1.one fun w6 hz6 hb6 hc6 => ?_
   have hx46 : Ext w4 w6 := hx5.new hc6 (by omega)
   have hx6 := (hx3.trans hx4).trans hx46
   rw [bin_sadd]
   refine ⟨by rw [emax]; simp only [List.length_cons,List.length_nil]; omega,?_⟩
   rw [bin_sadd]
   refine ⟨by rw [emax]; simp only [List.length_append,List.length_cons,List.length_nil]; omega,?_⟩
   refine parse_r (hT.ext hx6) (by simp only [List.length_append,List.length_cons,List.length_nil]; omega) fun M2 d2 w7 hx7 hF2 hd2 _ => ?_
   rw [p2] at hF2 hd2
   rw [ext_tuple]; refine ⟨_,rfl,?_⟩
   rw [ext_tuple]; refine ⟨_,rfl,?_⟩
   refine alloc_new fun a7 w8 ha7 hz8 hb8 hx8 => ?_
   refine st_agg_at (l := [M2.vE,M2.vB,M2.vT]) hb8 rfl rfl hF2.one fun w9 hz9 hb9 hc9 => ?_
   have hx79 : Ext w7 w9 := hx8.new hc9 (by omega)
   have hx69 := hx7.trans hx79
   have hx9 := hx6.trans hx69
   simp only [flOf] at hF1 hF2
   have hF1 := (hF1.ext hx46).ext hx69
   have hF2 := hF2.ext hx79
   have hd1 := (hd1.ext hx46).ext hx69
   have hd2 := hd2.ext hx79
   have hb5 := hx69.at hb6 id
   rw [hd1.eq]
   rw [show (false ^^ okP (PR.ok f)) = true from rfl]
   refine GdW.look true (fun _ J hJ => by rw [hd2.eq]; exact hJ) fun g3 => ?_
   rw [isB_t,cond_true,List.getD_cons_zero,pick_t,isB_t]
   have few1 := hF1.few
   have hs1 : ∀ K' : Value → World → Prop,(∀ w',Ext w9 w' → K' (.bool true) w') → callF Tryd.prog 11 [_,_,_] w9 K' := fun K' h => same_t hF1.fv hF2.fv (flA_refl false f) few1.1 few1.2.1 few1.2.2 h
   refine GdW.act true (fun w' => Ext w9 w') (fun e => by cases e) ?_ ?_
   · intro _ J hJ
     refine ld_row hb5 rfl ?_
     refine ld_row hb9 rfl ?_
     refine hs1 _ fun w26 hx26 => ?_
     exact hJ _ hx26
   rintro g4 w27 hx27
   rw [cond_true,List.getD_cons_zero,pick_t]
   exact hK _ (hx9.trans hx27)
end Go.Proofs.YtofhaneggcpdaaaDoor
namespace Go.Proofs.YtofhaneggcpdaaaDoor
open Go Go.RowKit Go.Eng
set_option maxRecDepth 100000
theorem tabi_of {w : World} (hsh : w.ShapedOpen Tryd.prog) : TabI w :=
 Go.Proofs.cell_of_shapedOpen_int (t := 3) (zero := #[.int .i64 0]) hsh (of_decide_eq_true (by kernel_rfl)) (by kernel_rfl) rfl (by kernel_rfl) (by kernel_rfl) Tryd.underlying3
theorem handed_and_shaped {H : Type} {enc : TypeId × Value → H} {a : Assume} {C : Checked} {os : Os} {f : FuncId} {fn : Func} {s : ChangeSpec} {conds : List PathCond} {apart fresh handsOn again : Bool} {X : World → Array Value → Prop}
   (hX : ∀ (w w' : World) (args : Array Value),w.heap = w'.heap → X w args → X w' args)
   (own : ownKnob C.prog.godebug = none) (started : os.Started) (noInit : C.prog.inits.idxOf? f = none) (hfn : C.prog.funcs[f]? = some fn)
   (witness : ∃ (w : World) (tape : Tape) (i : Input),w.os = os ∧ (w.forCall tape i).Shaped C.prog ∧ i.vars = [] ∧ Input.okWide C.prog (w.forCall tape i) .any w.heap.size f i ∧
     ((s.pre enc C.prog fn conds apart (w.forCall tape i).memory i.args ∧ X (w.forCall tape i).memory i.args) ∧ sizedMet enc C.prog fn (OpenSpec.ofChange s) apart (w.forCall tape i).memory i.args) ∧ a.holds C.prog (lone (Frame.enter C.prog f i.args .normal) [] (w.forCall tape i)))
   (contract : ∀ (W : World) (base : Nat) (args : Array Value) (ds gs : List (DataW H)) (before : List MemPlace),
     (∀ (j : Nat) t v,fn.params[j]? = some t → args[j]? = some v → Value.okWide C.prog W .any base t v) →
     DataW.Whole enc C.prog fn.params.toList s.vars apart W args.toList ds gs before →
     conds.all (PathCond.test C.prog ⟨fn.params.toList,ds,s.plain.varTypes C.prog,gs⟩) = true →
     (DataW.weightsEach C.prog (fn.params.toList ++ s.plain.varTypes C.prog) (ds ++ gs)).all (· ≤ reachBytes) = true → X W args → W.ShapedOpen C.prog →
     a.holds C.prog (lone (Frame.enter C.prog f args .normal) [] W) →
     Calls C.prog f args W fun e W' => ∃ v,e = .returned v ∧ s.post enc C.prog fn apart fresh handsOn again W args v W') :
   ReturnsInHanded a C os f .any (fun w args => (s.pre enc C.prog fn conds apart w args ∧ X w args) ∧ sizedMet enc C.prog fn (OpenSpec.ofChange s) apart w args) (s.post enc C.prog fn apart fresh handsOn again) := by
 refine returnsInHanded_of_calls own started noInit witness ?_
 intro w tape i _ hsh _ hok hpre hholds
 obtain ⟨_,_,_,fn',hfn',_,_,_,_,hval⟩ := hok
 have e : fn' = fn := Option.some.inj (hfn'.symm.trans hfn)
 subst e
 obtain ⟨⟨⟨ds,gs,before,hw,hc⟩,hx⟩,hz⟩ := hpre
 have hw' := DataW.Whole.of_heap (w' := w.forCall tape i) (by rfl) hw
 refine (contract (w.forCall tape i) w.heap.size i.args ds gs before hval hw' hc (hz.weights hw) (hX _ _ _ (by rfl) hx) hsh hholds).mono fun e W' ⟨v,he,hp⟩ => ?_
 subst he
 exact ChangeSpec.post_blind hp
section
variable {H : Type} {enc : TypeId × Value → H} {w : World} {base : Nat} {spare : Nat → Bool} {held : Bool}
end
end Go.Proofs.YtofhaneggcpdaaaDoor
namespace Go.Eng
open Go Go.Deep
theorem flat_get {k : Nat} : ∀ (L : List (List Value)) (i r : Nat) (y : List Value),(∀ z ∈ L,z.length = k) → r < k → L[i]? = some y → L.flatten[i * k + r]? = y[r]?
 | [],i,_,_,_,_,h => by simp at h
 | z :: L,0,r,y,hl,hr,h => by
   simp only [List.getElem?_cons_zero,Option.some.injEq] at h
   subst h
   simp only [List.flatten_cons,Nat.zero_mul,Nat.zero_add]
   rw [List.getElem?_append_left (by rw [hl z List.mem_cons_self]; exact hr)]
 | z :: L,i + 1,r,y,hl,hr,h => by
   simp only [List.getElem?_cons_succ] at h
   have := flat_get L i r y (fun u hu => hl u (List.mem_cons_of_mem _ hu)) hr h
   rw [← this]
   simp only [List.flatten_cons]
   have hz := hl z List.mem_cons_self
   rw [List.getElem?_append_right (by rw [hz,Nat.add_mul]; omega)]
   congr 1
   rw [hz,Nat.add_mul]
   omega
theorem flat_len {k : Nat} : ∀ (L : List (List Value)),(∀ z ∈ L,z.length = k) → L.flatten.length = L.length * k
 | [],_ => by simp
 | z :: L,hl => by
   rw [List.flatten_cons,List.length_append,flat_len L fun u hu => hl u (List.mem_cons_of_mem _ hu),hl z List.mem_cons_self,List.length_cons,Nat.add_mul]
   omega
section
variable {H : Type} {enc : TypeId × Value → H} {P : Program} {w : World} {base : Nat} {spare : Nat → Bool} {held : Bool}
theorem open_rows {t e : TypeId} {k fuel : Nat} {v : Value} {d : DataW H} {ps : List MemPlace} (ht : P.underlying t = some (.slice e)) (hk : P.cellsOf e = k) (hk0 : 0 < k) (h : DataW.trod enc P w base spare held fuel t [v] = some (d,ps)) :
   ∃ p n c T m,∃ (f : Nat → List Value) (D : Nat → DataW H) (Pl : Nat → List MemPlace),v = .slice p n c ∧ SlAt w T (.slice p n c) n ((List.range n).map f).flatten ∧
     (∀ i,i < n → (f i).length = k ∧ DataW.trod enc P w base spare held m e (f i) = some (D i,Pl i)) ∧ ((n = 0 ∧ d = .nil) ∨ ∃ rest,d = .slice ((List.range n).map D) rest) := by
 rcases open_slice ht h with ⟨hc,hx⟩ | ⟨a,len,cap,m,n,D,Pl,hc,_,hl,hm,hme,hx,hel⟩
 · cases hc
   cases hx
   refine ⟨none,0,0,0,0,fun _ => [],fun _ => .nil,fun _ => [],rfl,?_,fun i hi => by omega,.inl ⟨rfl,rfl⟩⟩
   simpa using SlAt.nil w 0
 · cases hc
   cases hx
   have hlm : len ≤ m := by rw [hme]; split <;> omega
   obtain ⟨f,hf⟩ := choose_lt (n := len) fun i hi => hel i (by omega)
   have hfl : ∀ i,i < len → (f i).length = k := fun i hi => by rw [(World.cells?_some (hf i hi).1).2.1,hk]
   have hall : ∀ z ∈ (List.range len).map f,z.length = k := by
     intro z hz
     obtain ⟨i,hi,rfl⟩ := List.mem_map.1 hz
     exact hfl i (List.mem_range.1 hi)
   have hcell : ∀ i r,i < len → r < k → w.cell? (a.add (i * k + r)) = (f i)[r]? := by
     intro i r hi hr
     have := (World.cells?_some (hf i hi).1).2.2 r (by omega)
     rw [add_add,hk] at this
     exact this
   by_cases h0 : len = 0
   · subst h0
     refine ⟨some a,0,cap,0,n,f,D,Pl,rfl,⟨some a,cap,rfl,Nat.zero_le _,(by intro e; cases e),(by simp)⟩,fun i hi => by omega,.inr ⟨_,rfl⟩⟩
   have h00 := hcell 0 0 (by omega) hk0
   have hf0 := hfl 0 (by omega)
   rw [List.getElem?_eq_getElem (by omega)] at h00
   obtain ⟨c,T,fr,hb,hsp⟩ : ∃ c T fr,w.heap[a.block]? = some (.cells c T fr) ∧ a.spot = none := by
     unfold World.cell? at h00
     have e1 : (a.add (0 * k + 0)).block = a.block := by unfold Addr.add; split <;> rfl
     have e2 : (a.add (0 * k + 0)) = a := by unfold Addr.add; simp
     rw [e2] at h00
     split at h00
     · rename_i c T fr hb
       refine ⟨c,T,fr,hb,?_⟩
       cases hs : a.spot with
       | none => rfl
       | some _ => simp [hs] at h00
     · cases h00
   obtain ⟨b,off,sp⟩ := a
   simp only at hsp hb
   subst hsp
   refine ⟨some ⟨b,off,none⟩,len,cap,T,n,f,D,Pl,rfl,⟨_,_,rfl,hl,(by intro e; cases e),fun _ => ⟨b,off,c,fr,rfl,hb,fun j hj => ?_⟩⟩,fun i hi => ⟨hfl i hi,(hf i hi).2⟩,.inr ⟨_,rfl⟩⟩
   rw [flat_len _ hall,List.length_map,List.length_range] at hj
   have hi : j / k < len := by rw [Nat.div_lt_iff_lt_mul hk0]; exact hj
   have hr : j % k < k := Nat.mod_lt _ hk0
   have hjj : j / k * k + j % k = j := by rw [Nat.mul_comm]; exact Nat.div_add_mod j k
   have h1 := hcell (j / k) (j % k) hi hr
   rw [hjj,add_mk,cell_eq,hb,cellO_some] at h1
   have h2 := flat_get ((List.range len).map f) (j / k) (j % k) (f (j / k)) hall hr (by simp [hi])
   rw [hjj] at h2
   rw [h1,h2]
end
end Go.Eng
namespace Go.Proofs.YtofhaneggcpdaaaDoor
open Go.RowKit Go.Eng Go.Deep
set_option maxRecDepth 100000
section
variable {H : Type} {enc : TypeId × Value → H} {w : World} {base : Nat} {spare : Nat → Bool} {held : Bool}
theorem fopen_len {P : Program} {t e : TypeId} {fuel : Nat} {p : Option Addr} {n c : Nat} {x : DataW H × List MemPlace} (ht : P.underlying t = some (.slice e)) (h : DataW.trod enc P w base spare held fuel t [.slice p n c] = some x) : n ≤ 9223372036854775807 := by
 rcases Deep.open_slice ht h with ⟨hc,_⟩ | ⟨a,len,cap,m,n',D,Pl,hc,_,hl,hm,_⟩
 · cases hc; omega
 · cases hc; unfold maxLen at hm; omega
theorem fopen_ints {v : Value} {d : DataW H} {ps : List MemPlace} {r : Reach} {b0 : Nat} (hval : Value.okWide Tryd.prog w r b0 26 v) (h : DataW.Trod enc Tryd.prog w base spare held 26 v d ps) : ∃ (T : TypeId) (l : List Int),SlAt w T v l.length (l.map i64) ∧ l.length ≤ 9223372036854775807 := by
 obtain ⟨fuel,h⟩ := h
 obtain ⟨a,len,cap,rfl⟩ := Go.WideShapes.okWide_slice Tryd.underlying26 hval
 have hone : (Value.slice a len cap).cells.toList = [Value.slice a len cap] := rfl
 rw [hone] at h
 obtain ⟨p,n,c,T,m,f,D,Pl,he,hs,hf,hd⟩ := open_rows Tryd.underlying26 (k := 1) (by kernel_rfl) (by omega) h
 cases he
 have hn := fopen_len Tryd.underlying26 h
 have hex : ∀ i,i < len → ∃ b : Int,f i = [i64 b] := by
   intro i hi
   obtain ⟨a,hx,_⟩ := DataW.trod_int Tryd.underlying3 (hf i hi).2
   exact ⟨a,hx⟩
 obtain ⟨g,hg⟩ := Deep.choose_lt hex
 have hfl : ((List.range len).map f).flatten = ((List.range len).map g).map i64 := by
   have : (List.range len).map f = (List.range len).map fun i => [i64 (g i)] := List.map_congr_left fun i hi => hg i (List.mem_range.1 hi)
   rw [this]
   simp only [List.map_map]
   generalize List.range len = L
   induction L with
   | nil => rfl
   | cons a L ih => simp only [List.map_cons,List.flatten_cons,ih,Function.comp_apply]; rfl
 rw [hfl] at hs
 exact ⟨T,(List.range len).map g,by simpa using hs,by simpa using hn⟩
end
end Go.Proofs.YtofhaneggcpdaaaDoor
