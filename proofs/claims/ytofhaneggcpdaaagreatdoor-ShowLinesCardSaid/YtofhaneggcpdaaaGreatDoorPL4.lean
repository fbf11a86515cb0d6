/- One plain sentence: weakest preconditions, contracts and plain laws that the claim rests on, text behind text. Conditions: those that each states. -/
import Derived.Test.YtofhaneggcpdaaaGreatDoorPL3
import Derived.Test.YtofhaneggcpdaaaGreatDoorPL1
import Derived.Test.YtofhaneggcpdaaaGreatDoorPL2
import Derived.Lib.Join
set_option linter.all false
set_option linter.unusedSimpArgs false
set_option linter.unusedVariables false
set_option linter.unusedSectionVars false
namespace Go.Proofs.YtofhaneggcpdaaaGreatDoor
open Go Go.Eng Go.RowKit Go.Syn Go.Lex
set_option maxRecDepth 100000
theorem blank3 (c : UInt8) : decide (0 ≤ Lib.indexByte [32,9,13] c) = (c == 32 || c == 9 || c == 13) := by
 have : ∀ m : Fin 256,decide (0 ≤ Lib.indexByte [32,9,13] (UInt8.ofNat m.val)) = (UInt8.ofNat m.val == 32 || UInt8.ofNat m.val == 9 || UInt8.ofNat m.val == 13) := by decide +kernel
 have h := this ⟨c.toNat,UInt8.toNat_lt c⟩
 rwa [UInt8.ofNat_toNat] at h
theorem esc6 (c : UInt8) : decide (Lib.indexByte [34,92,110,116,114,36] c < 0) = !Lex.escOk c := by
 have : ∀ m : Fin 256,decide (Lib.indexByte [34,92,110,116,114,36] (UInt8.ofNat m.val) < 0) = !Lex.escOk (UInt8.ofNat m.val) := by decide +kernel
 have h := this ⟨c.toNat,UInt8.toNat_lt c⟩
 rwa [UInt8.ofNat_toNat] at h
theorem sign19 (c : UInt8) : decide (0 ≤ Lib.indexByte [123,125,91,93,40,41,61,43,45,42,47,37,60,62,33,63,58,44,46] c) = signs1.contains c := by
 have : ∀ m : Fin 256,decide (0 ≤ Lib.indexByte [123,125,91,93,40,41,61,43,45,42,47,37,60,62,33,63,58,44,46] (UInt8.ofNat m.val)) = signs1.contains (UInt8.ofNat m.val) := by decide +kernel
 have h := this ⟨c.toNat,UInt8.toNat_lt c⟩
 rwa [UInt8.ofNat_toNat] at h
theorem skip_step (n : Nat) (c : UInt8) (r : Str) : skipF (n + 1) (c :: r) = (if (c == 32 || c == 9 || c == 13) = true then ((skipF n r).1 + 1,(skipF n r).2) else if (c == 35 || Lib.hasPrefix (c :: r) [47,47]) = true then ((skipF n ((c :: r).drop (runM (fun b => b != 10) (c :: r)))).1 + runM (fun b => b != 10) (c :: r),(skipF n ((c :: r).drop (runM (fun b => b != 10) (c :: r)))).2)
   else if Lib.hasPrefix (c :: r) [47,42] = true then (if Lib.index (r.drop 1) [42,47] < 0 then (0,40) else ((skipF n ((c :: r).drop ((Lib.index (r.drop 1) [42,47]).toNat + 4))).1 + ((Lib.index (r.drop 1) [42,47]).toNat + 4),(skipF n ((c :: r).drop ((Lib.index (r.drop 1) [42,47]).toNat + 4))).2)) else (0,0)) := by
 simp only [skipF,Bool.or_eq_true,beq_iff_eq]
 rfl
theorem runM_pos {q : UInt8 → Bool} {c : UInt8} {r : Str} (h : q c = true) : 1 ≤ runM q (c :: r) := by simp only [runM]; rw [if_pos h]; omega
theorem add_add (i j : Nat) (x : Nat × Int) : addM i (addM j x) = addM (i + j) x := by
 unfold addM
 by_cases h : x.2 = 0
 · simp only [h,if_true]; rw [show x.1 + j + i = x.1 + (i + j) by omega]
 · simp only [if_neg h]
section
variable [HX]
theorem skip_p {s : Str} {w : World} {K : Value → World → Prop} (hT : TabI w) (hl : s.length ≤ 1000000) (hK : K (.tuple #[i64 ((skipF (s.length + 1) s).1 : Nat),i64 (skipF (s.length + 1) s).2]) w) : callF Tryz.prog 37 [str s] w K := by
 refine W37_ok ?_
 unfold W37
 generalize hR : skipF (s.length + 1) s = R0 at hK
 refine LoopW.go (fun st w' => ∃ i n : Nat,st = [i64 (i : Nat)] ∧ i ≤ s.length ∧ w' = w ∧ ((skipF n (s.drop i)).1 + i,(skipF n (s.drop i)).2) = R0 ∧ s.length < n + i) (fun st _ => match st with | [.int _ i] => s.length - i.toNat | _ => 0) ⟨0,s.length + 1,rfl,by omega,rfl,by rw [List.drop_zero,hR]; rfl,by omega⟩ ?_
 rintro st g w' ⟨i,n,rfl,hi,rfl,hr,hn⟩
 obtain ⟨n,rfl⟩ : ∃ m,n = m + 1 := ⟨n - 1,by omega⟩
 simp only [List.getD_cons_zero]
 rw [lens_str,bin_lss,condW_dec]
 refine ⟨fun hlt => ?_,fun hge => ?_⟩
 · have hlt : i < s.length := by omega
   have hd := drop_len hlt
   rw [hd,skip_step] at hr
   rw [sls_str,bd_none,bd_some]
   refine ⟨by omega,by omega,?_⟩
   rw [List.take_length,Int.toNat_natCast]
   refine ixs_i hlt ?_
   refine indexb_p ?_
   rw [bin_geq,blank3,condW_b]
   refine ⟨fun hb => ?_,fun hb => ?_⟩
   · rw [if_pos hb] at hr
     rw [bin_add,upi (by omega)]
     refine ⟨⟨i + 1,n,rfl,by omega,rfl,?_,by omega⟩,?_⟩
     · rw [← hr]; simp only [Prod.mk.injEq,and_true]; omega
     · simp only [Int.toNat_natCast]; omega
   rw [if_neg (by rw [hb]; decide)] at hr
   have hd' := hd
   rw [hd]
   generalize hc : s[i] = c at *
   generalize hrr : s.drop (i + 1) = r at *
   have hrl : (c :: r).length = s.length - i := by rw [← hd,List.length_drop]
   simp only [List.length_cons] at hrl
   refine JoinW.cut (fun st w2 => st = [.bool (c == 35 || Lib.hasPrefix (c :: r) [47,47])] ∧ w2 = w') ?_ ?_
   · refine ixs_i hlt ?_
     rw [hc]
     have e5 : decide (((c.toNat : Nat) : Int) = 35) = (c == 35) := eq_nat 35 c
     rw [bin_eql,e5,condW_b]
     refine ⟨fun h => ⟨by rw [h]; rfl,rfl⟩,fun h => ?_⟩
     refine hasp_p ?_
     exact ⟨by rw [h,Bool.false_or],rfl⟩
   rintro st g2 w2 ⟨rfl,rfl⟩
   simp only [List.getD_cons_zero]
   rw [condW_b]
   refine ⟨fun hcm => ?_,fun hcm => ?_⟩
   · rw [if_pos hcm] at hr
     refine run_p (q := fun b => b != 10) (by simp only [List.length_cons]; omega) (fun c {w K} h => callV_fn' (line1_p h)) ?_
     have hle := run_le (fun b => b != 10) (c :: r)
     have hpos : 1 ≤ runM (fun b => b != 10) (c :: r) := runM_pos (by
       rw [Bool.or_eq_true] at hcm
       rcases hcm with h | h
       · rw [beq_iff_eq] at h; subst h; rfl
       · simp only [Lib.hasPrefix,List.isPrefixOf,Bool.and_eq_true,beq_iff_eq] at h
         rw [← h.1]; rfl)
     simp only [List.length_cons] at hle
     rw [bin_add,wrap_id (by omega) (by omega)]
     generalize runM (fun b => b != 10) (c :: r) = k at *
     refine ⟨⟨i + k,n,by simp only [List.cons.injEq,Value.int.injEq,true_and,and_true]; omega,by omega,rfl,?_,by omega⟩,?_⟩
     · rw [← hr,← drop_drop',hd']; simp only [Prod.mk.injEq,and_true]; omega
     · simp only [Int.toNat_natCast]; omega
   rw [if_neg (by rw [hcm]; decide)] at hr
   refine hasp_p ?_
   rw [condW_b]
   refine ⟨fun hcm2 => ?_,fun hcm2 => ?_⟩
   · rw [if_pos hcm2] at hr
     rw [sls_str,bd_none,bd_some]
     have h2 : 2 ≤ (c :: r).length := pre_len (p := [47,42]) (s := c :: r) hcm2
     simp only [List.length_cons] at h2
     refine ⟨by omega,by simp only [List.length_cons]; omega,?_⟩
     rw [List.take_length]
     show callF Tryz.prog 70 [str (r.drop 1),str [42,47]] w2 _
     refine index2_p hT (by rw [List.length_drop]; omega) ?_
     rw [bin_lss,condW_dec]
     refine ⟨fun hneg => ?_,fun hpos => ?_⟩
     · rw [if_pos hneg] at hr
       rw [← hr,Nat.zero_add] at hK
       exact hK
     · rw [if_neg hpos] at hr
       obtain ⟨j,hj⟩ := Int.eq_ofNat_of_zero_le (show 0 ≤ Lib.index (r.drop 1) [42,47] by omega)
       have hjl := idx_len _ _ hj
       rw [List.length_drop] at hjl
       rw [hj] at hr ⊢
       rw [bin_add,wrap_id (by omega) (by omega),bin_add,wrap_id (by omega) (by omega)]
       rw [Int.toNat_natCast] at hr
       refine ⟨⟨i + (j + 4),n,by simp only [List.cons.injEq,Value.int.injEq,true_and,and_true]; omega,by omega,rfl,?_,by omega⟩,?_⟩
       · rw [← hr,← drop_drop',hd']; simp only [Prod.mk.injEq,and_true]; omega
       · simp only [Int.toNat_natCast]; omega
   · rw [if_neg (by rw [hcm2]; decide),Nat.zero_add] at hr
     rw [← hr] at hK
     exact hK
 · obtain rfl : i = s.length := by omega
   rw [List.drop_length] at hr
   simp only [skipF,Nat.zero_add] at hr
   rw [← hr] at hK
   exact hK
def outV (x : Nat × Int) : List Value := if x.2 = 0 then [i64 ((x.1 + 1 : Nat) : Int),i64 0] else [i64 0,i64 x.2]
def TxC (n : Nat) : Prop := ∀ (c : UInt8) (r : Str) (d : Nat) (w : World) (K : Value → World → Prop),r.length < n → r.length ≤ 1000000 → d ≤ 24 → K (.tuple (outV (textX r d)).toArray) w → callF Tryz.prog 75 [str (c :: r),i64 (d : Nat)] w K
def InC (n : Nat) : Prop := ∀ (c : UInt8) (r : Str) (d : Nat) (w : World) (K : Value → World → Prop),r.length < n → r.length ≤ 1000000 → d ≤ 25 → K (.tuple (outV (if 24 < d then (0,7) else insX r d)).toArray) w → callF Tryz.prog 98 [str (c :: r),i64 (d : Nat)] w K
theorem out_add {i : Nat} {x : Nat × Int} : outV (addM i x) = if x.2 = 0 then [i64 ((i + x.1 + 1 : Nat) : Int),i64 0] else [i64 0,i64 x.2] := by
 unfold outV addM
 by_cases h : x.2 = 0
 · simp only [h,if_true]; rw [show x.1 + i + 1 = i + x.1 + 1 by omega]
 · simp only [if_neg h]
theorem tx_step {n : Nat} (hi : InC n) : TxC (n + 1) := by
 intro c r d w K hn hl hd24 hK
 refine W75_ok ?_
 unfold W75
 have hlen : (c :: r).length = r.length + 1 := rfl
 generalize hR : outV (textX r d) = R0 at hK
 have cond : ∀ {c : UInt8} (k : Nat),k < 256 → (((c.toNat : Nat) : Int) = (k : Int) ↔ c = UInt8.ofNat k) := fun {c} k hk => by
   have := u8_eq c k hk
   rwa [decide_eq_decide] at this
 refine LoopW.go (fun st w' => ∃ i : Nat,st = [i64 ((i + 1 : Nat) : Int)] ∧ w' = w ∧ i ≤ r.length ∧ outV (addM i (textX (r.drop i) d)) = R0) (fun st _ => match st with | [.int _ i] => r.length + 1 - i.toNat | _ => 0) ⟨0,rfl,rfl,by omega,by rw [List.drop_zero,out_add,← hR]; unfold outV; rw [Nat.zero_add]⟩ ?_
 rintro st g w2 ⟨i,rfl,rfl,hi',hr⟩
 simp only [List.getD_cons_zero]
 rw [lens_str,bin_lss,condW_dec,hlen]
 refine ⟨fun hlt => ?_,fun hge => ?_⟩
 · have hlt : i < r.length := by omega
   have hd := drop_len hlt
   rw [hd,textX_cons] at hr
   simp only [beq_iff_eq] at hr
   have ix : ∀ {KK : Value → Prop},KK (cv r[i]) → ixsW (str (c :: r)) (i64 ((i + 1 : Nat) : Int)) KK := fun h => ixs_i (s := c :: r) (i := i + 1) (by rw [hlen]; omega) h
   refine ix ?_
   rw [bin_eql,condW_dec]
   refine ⟨fun e => ?_,fun e => ?_⟩
   · have e : r[i] = 34 := (cond 34 (by omega)).1 e
     rw [if_pos e,out_add,if_pos rfl] at hr
     rw [bin_add,upi (by omega)]
     rw [← hr] at hK
     exact hK
   have e : ¬ r[i] = 34 := fun h => e ((cond 34 (by omega)).2 h)
   rw [if_neg e] at hr
   refine ix ?_
   rw [bin_eql,condW_dec]
   refine ⟨fun e => ?_,fun e => ?_⟩
   · have e : r[i] = 10 := (cond 10 (by omega)).1 e
     rw [if_pos e,out_add,if_neg (by simp)] at hr
     rw [← hr] at hK
     exact hK
   have e : ¬ r[i] = 10 := fun h => e ((cond 10 (by omega)).2 h)
   rw [if_neg e] at hr
   refine ix ?_
   rw [bin_eql,condW_dec]
   refine ⟨fun e => ?_,fun e => ?_⟩
   · have e : r[i] = 92 := (cond 92 (by omega)).1 e
     rw [if_pos e] at hr
     rw [bin_add,upi (by omega),lens_str,bin_geq,hlen]
     simp only [isB_f]
     by_cases hend : r.length ≤ i + 1
     · have e0 : r.drop (i + 1) = [] := List.drop_of_length_le hend
       rw [e0] at hr
       simp only at hr
       rw [out_add,if_neg (by simp)] at hr
       rw [decide_eq_true (by omega),Bool.not_true,GdW_f]
       intro g2
       rw [pick_t,condW_true]
       rw [← hr] at hK
       exact hK
     · have hlt2 : i + 1 < r.length := by omega
       have hd2 := drop_len hlt2
       rw [hd2] at hr
       simp only at hr
       rw [decide_eq_false (by omega),Bool.not_false]
       refine GdW.look (!Lex.escOk r[i + 1]) (fun _ J hJ => ?_) fun g2 => ?_
       · rw [bin_add,upi (by omega)]
         refine ixs_i (s := c :: r) (i := i + 2) (by rw [hlen]; omega) ?_
         refine indexb_p ?_
         rw [bin_lss]
         have := esc6 r[i + 1]
         rw [show (c :: r)[i + 2] = r[i + 1] from rfl,this]
         exact hJ
       simp only [List.getD_cons_zero,cond_true,pick_f]
       rw [condW_b]
       refine ⟨fun hb => ?_,fun hg => ?_⟩
       · have hb : ¬ Lex.escOk r[i + 1] = true := by simpa using hb
         rw [if_neg hb,out_add,if_neg (by simp)] at hr
         rw [← hr] at hK
         exact hK
       · have hg : Lex.escOk r[i + 1] = true := by simpa using hg
         rw [if_pos hg,add_add] at hr
         rw [bin_add,wrap_id (by omega) (by omega)]
         refine ⟨⟨i + 2,by simp only [List.cons.injEq,Value.int.injEq,true_and,and_true]; omega,trivial,by omega,hr⟩,?_⟩
         simp only [Int.toNat_natCast]; omega
   have e : ¬ r[i] = 92 := fun h => e ((cond 92 (by omega)).2 h)
   rw [if_neg e] at hr
   rw [sls_str,bd_none,bd_some]
   refine ⟨by omega,by rw [hlen]; omega,?_⟩
   rw [List.take_length,Int.toNat_natCast,List.drop_succ_cons,hd]
   refine hasp_p ?_
   rw [pre_eq,condW_b]
   refine ⟨fun e => ?_,fun e => ?_⟩
   · rw [if_pos e] at hr
     have h2 := pre_len e
     have hlt2 : i + 1 < r.length := by
       simp only [List.length_cons,List.length_nil,List.length_drop] at h2; omega
     have hd2 := drop_len hlt2
     rw [bin_add,upi (by omega),sls_str,bd_none,bd_some]
     refine ⟨by omega,by rw [hlen]; omega,?_⟩
     rw [List.take_length,Int.toNat_natCast,List.drop_succ_cons,hd2,bin_add,upi (by omega)]
     have hdd : (r.drop (i + 1)).drop 1 = r.drop (i + 2) := by rw [drop_drop']
     rw [hdd] at hr
     have hll : (r.drop (i + 2)).length = r.length - (i + 2) := List.length_drop ..
     refine hi _ _ (d + 1) _ _ (by show (r.drop (i + 2)).length < n; omega) (by show (r.drop (i + 2)).length ≤ _; omega) (by omega) ?_
     have hx' : ∃ x : Nat × Int,x = (if 24 < d + 1 then ((0 : Nat),(7 : Int)) else insX (r.drop (i + 2)) (d + 1)) ∧ outV (addM i (if x.2 = 0 then addM (x.1 + 2) (textX ((r.drop (i + 2)).drop x.1) d) else (0,x.2))) = R0 ∧ (x.2 = 0 → x.1 ≤ (r.drop (i + 2)).length) := by
       refine ⟨_,rfl,?_,?_⟩
       · by_cases h : 24 < d + 1
         · rw [if_pos h] at hr ⊢
           exact hr
         · rw [if_neg h] at hr ⊢
           exact hr
       · by_cases h : 24 < d + 1
         · rw [if_pos h]; intro h; exact absurd h (by simp)
         · rw [if_neg h]
           intro h0
           exact ((ins_bra _ (r.drop (i + 2)) (Nat.le_refl _)).2 (d + 1) _ (Prod.ext rfl h0)).1.2
     obtain ⟨x,ex,hr,hxl⟩ := hx'
     rw [show r.drop (i + 1 + 1) = r.drop (i + 2) from rfl,← ex]
     by_cases h0 : x.2 = 0
     · have eo : outV x = [i64 ((x.1 + 1 : Nat) : Int),i64 0] := by unfold outV; rw [if_pos h0]
       have hxl := hxl h0
       rw [if_pos h0,add_add,drop_drop'] at hr
       rw [eo,ext_tuple]
       refine ⟨i64 ((x.1 + 1 : Nat) : Int),rfl,?_⟩
       rw [ext_tuple]
       refine ⟨i64 0,rfl,?_⟩
       rw [bin_neq,condW_dec]
       refine ⟨fun h => absurd rfl h,fun _ => ?_⟩
       rw [bin_add,wrap_id (by omega) (by omega),bin_add,wrap_id (by omega) (by omega)]
       refine ⟨⟨i + (x.1 + 2),by simp only [List.cons.injEq,Value.int.injEq,true_and,and_true]; omega,rfl,by omega,by rw [show i + (x.1 + 2) = i + 2 + x.1 by omega] at hr ⊢; exact hr⟩,?_⟩
       simp only [Int.toNat_natCast]; omega
     · have eo : outV x = [i64 0,i64 x.2] := by unfold outV; rw [if_neg h0]
       rw [if_neg h0,out_add,if_neg h0] at hr
       rw [eo,ext_tuple]
       refine ⟨i64 0,rfl,?_⟩
       rw [ext_tuple]
       refine ⟨i64 x.2,rfl,?_⟩
       rw [bin_neq,condW_dec]
       refine ⟨fun _ => by rw [← hr] at hK; exact hK,fun h => absurd h0 h⟩
   · rw [if_neg (by rw [e]; decide),add_add] at hr
     rw [bin_add,upi (by omega)]
     refine ⟨⟨i + 1,rfl,rfl,by omega,hr⟩,?_⟩
     simp only [Int.toNat_natCast]; omega
 · obtain rfl : i = r.length := by omega
   rw [List.drop_length,textX_nil,out_add,if_neg (by simp)] at hr
   rw [← hr] at hK
   exact hK
theorem in_step {n : Nat} (hi : InC n) (htx : TxC n) : InC (n + 1) := by
 intro c r d w K hn hl hd25 hK
 refine W98_ok ?_
 unfold W98
 rw [bin_gtr,condW_dec]
 refine ⟨fun h => ?_,fun h => ?_⟩
 · rw [if_pos (by omega)] at hK
   exact hK
 have hd24 : d ≤ 24 := by omega
 rw [if_neg (by omega)] at hK
 have hlen : (c :: r).length = r.length + 1 := rfl
 generalize hR : outV (insX r d) = R0 at hK
 have cond : ∀ {c : UInt8} (k : Nat),k < 256 → (((c.toNat : Nat) : Int) = (k : Int) ↔ c = UInt8.ofNat k) := fun {c} k hk => by
   have := u8_eq c k hk
   rwa [decide_eq_decide] at this
 refine LoopW.go (fun st w' => ∃ i : Nat,st = [i64 ((i + 1 : Nat) : Int)] ∧ w' = w ∧ i ≤ r.length ∧ outV (addM i (insX (r.drop i) d)) = R0) (fun st _ => match st with | [.int _ i] => r.length + 1 - i.toNat | _ => 0) ⟨0,rfl,rfl,by omega,by rw [List.drop_zero,out_add,← hR]; unfold outV; rw [Nat.zero_add]⟩ ?_
 rintro st g w2 ⟨i,rfl,rfl,hi',hr⟩
 simp only [List.getD_cons_zero]
 rw [lens_str,bin_lss,condW_dec,hlen]
 refine ⟨fun hlt => ?_,fun hge => ?_⟩
 · have hlt : i < r.length := by omega
   have hd := drop_len hlt
   rw [hd,insX_cons] at hr
   simp only [beq_iff_eq] at hr
   have hll : (r.drop (i + 1)).length = r.length - (i + 1) := List.length_drop ..
   refine JoinW.cut (fun st w' => w' = w2 ∧ ∃ (k : Nat) (e : Int),st = [i64 (if e = 0 then ((k + 1 : Nat) : Int) else 0),i64 e] ∧ (e = 0 → i + (k + 1) ≤ r.length ∧ outV (addM (i + (k + 1)) (insX (r.drop (i + (k + 1))) d)) = R0) ∧ (e ≠ 0 → [i64 0,i64 e] = R0)) ?_ ?_
   · refine ixs_i (s := c :: r) (i := i + 1) (by rw [hlen]; omega) ?_
     show binW .eql (cv r[i]) _ _
     rw [bin_eql,condW_dec]
     refine ⟨fun e => ?_,fun e => ?_⟩
     · have e : r[i] = 125 := (cond 125 (by omega)).1 e
       rw [if_pos e,out_add,if_pos rfl] at hr
       rw [bin_add,upi (by omega)]
       rw [← hr] at hK
       exact hK
     have e : ¬ r[i] = 125 := fun h => e ((cond 125 (by omega)).2 h)
     rw [if_neg e] at hr
     rw [bin_eql,condW_dec]
     refine ⟨fun e => ?_,fun e => ?_⟩
     · have e : r[i] = 10 := (cond 10 (by omega)).1 e
       rw [if_pos e,out_add,if_neg (by simp)] at hr
       rw [← hr] at hK
       exact hK
     have e : ¬ r[i] = 10 := fun h => e ((cond 10 (by omega)).2 h)
     rw [if_neg e] at hr
     -- one that goes over k bytes behind this one
     have sub : ∀ (x : Nat × Int),outV (addM i (if x.2 = 0 then addM (x.1 + 1) (insX ((r.drop (i + 1)).drop x.1) d) else (0,x.2))) = R0 → (x.2 = 0 → x.1 ≤ (r.drop (i + 1)).length) → extW 0 (.tuple (outV x).toArray) fun t33 => extW 1 (.tuple (outV x).toArray) fun t34 => (fun (st : List Value) (w' : World) => w' = w2 ∧ ∃ (k : Nat) (e : Int),st = [i64 (if e = 0 then ((k + 1 : Nat) : Int) else 0),i64 e] ∧ (e = 0 → i + (k + 1) ≤ r.length ∧ outV (addM (i + (k + 1)) (insX (r.drop (i + (k + 1))) d)) = R0) ∧ (e ≠ 0 → [i64 0,i64 e] = R0)) [t33,t34] w2 := fun x hx hxl => by
       by_cases h0 : x.2 = 0
       · have eo : outV x = [i64 ((x.1 + 1 : Nat) : Int),i64 0] := by unfold outV; rw [if_pos h0]
         have hxl := hxl h0
         rw [if_pos h0,add_add,drop_drop'] at hx
         rw [eo,ext_tuple]
         refine ⟨i64 ((x.1 + 1 : Nat) : Int),rfl,?_⟩
         rw [ext_tuple]
         refine ⟨i64 0,rfl,rfl,x.1,0,by rw [if_pos rfl],fun _ => ⟨by omega,by rw [show i + (x.1 + 1) = i + 1 + x.1 by omega] at hx ⊢; exact hx⟩,fun h => absurd rfl h⟩
       · have eo : outV x = [i64 0,i64 x.2] := by unfold outV; rw [if_neg h0]
         rw [if_neg h0,out_add,if_neg h0] at hx
         rw [eo,ext_tuple]
         refine ⟨i64 0,rfl,?_⟩
         rw [ext_tuple]
         exact ⟨i64 x.2,rfl,rfl,0,x.2,by rw [if_neg h0],fun h => absurd h h0,fun _ => hx⟩
     rw [bin_eql,condW_dec]
     refine ⟨fun e => ?_,fun e => ?_⟩
     · have e : r[i] = 123 := (cond 123 (by omega)).1 e
       rw [if_pos e] at hr
       rw [sls_str,bd_none,bd_some]
       refine ⟨by omega,by rw [hlen]; omega,?_⟩
       rw [List.take_length,Int.toNat_natCast,List.drop_succ_cons,hd,bin_add,upi (by omega)]
       refine hi _ _ (d + 1) _ _ (by omega) (by omega) (by omega) ?_
       refine sub _ ?_ ?_
       · by_cases h : 24 < d + 1
         · rw [if_pos h] at hr ⊢
           exact hr
         · rw [if_neg h] at hr ⊢
           exact hr
       · by_cases h : 24 < d + 1
         · rw [if_pos h]; intro h; exact absurd h (by simp)
         · rw [if_neg h]
           intro h0
           exact ((ins_bra _ (r.drop (i + 1)) (Nat.le_refl _)).2 (d + 1) _ (Prod.ext rfl h0)).1.2
     have e : ¬ r[i] = 123 := fun h => e ((cond 123 (by omega)).2 h)
     rw [if_neg e] at hr
     rw [bin_eql,condW_dec]
     refine ⟨fun e => ?_,fun e => ?_⟩
     · have e : r[i] = 34 := (cond 34 (by omega)).1 e
       rw [if_pos e] at hr
       rw [sls_str,bd_none,bd_some]
       refine ⟨by omega,by rw [hlen]; omega,?_⟩
       rw [List.take_length,Int.toNat_natCast,List.drop_succ_cons,hd]
       refine htx _ _ d _ _ (by omega) (by omega) hd24 ?_
       refine sub _ hr fun h0 => ?_
       exact ((ins_bra _ (r.drop (i + 1)) (Nat.le_refl _)).1 d _ (Prod.ext rfl h0)).2.2
     · have e : ¬ r[i] = 34 := fun h => e ((cond 34 (by omega)).2 h)
       rw [if_neg e,add_add] at hr
       exact ⟨rfl,0,0,rfl,fun _ => ⟨by omega,hr⟩,fun h => absurd rfl h⟩
   rintro st g2 w3 ⟨rfl,k,e,rfl,h1,h2⟩
   simp only [List.getD_cons_zero,List.getD_cons_succ]
   rw [bin_neq,condW_dec]
   refine ⟨fun he => by rw [← h2 he] at hK; exact hK,fun he => ?_⟩
   have he : e = 0 := by
     by_cases h : e = 0
     · exact h
     · exact absurd h he
   obtain ⟨g1,g2⟩ := h1 he
   rw [if_pos he,bin_add,wrap_id (by omega) (by omega)]
   refine ⟨⟨i + (k + 1),by simp only [List.cons.injEq,Value.int.injEq,true_and,and_true]; omega,trivial,g1,g2⟩,?_⟩
   simp only [Int.toNat_natCast]; omega
 · obtain rfl : i = r.length := by omega
   rw [List.drop_length,insX_nil,out_add,if_neg (by simp)] at hr
   rw [← hr] at hK
   exact hK
theorem tx_in : ∀ n,TxC n ∧ InC n
 | 0 => ⟨fun _ _ _ _ _ h => by omega,fun _ _ _ _ _ h => by omega⟩
 | n + 1 => ⟨tx_step (tx_in n).2,in_step (tx_in n).2 (tx_in n).1⟩
theorem ltext_p {c : UInt8} {r : Str} {d : Nat} {w : World} {K : Value → World → Prop} (hl : r.length ≤ 1000000) (hd : d ≤ 24) (hK : K (.tuple (outV (textX r d)).toArray) w) : callF Tryz.prog 75 [str (c :: r),i64 (d : Nat)] w K := (tx_in (r.length + 1)).1 c r d w K (by omega) hl hd hK
end
end Go.Proofs.YtofhaneggcpdaaaGreatDoor
namespace Go.Eng
open Go
theorem byte_at {s r : Str} {i : Nat} {c : UInt8} (h : s.drop i = c :: r) : byteM s i = c.toNat := by
 unfold byteM
 have : s[i]? = some c := by
   have := List.getElem?_drop (xs := s) (i := i) (j := 0)
   rw [h] at this
   simpa using this.symm
 rw [this]
theorem drop_app {s l r : Str} {i : Nat} (h : s.drop i = l ++ r) : s.drop (i + l.length) = r := by
 rw [← List.drop_drop,h,List.drop_left]
theorem drop_lt {s r : Str} {i : Nat} {c : UInt8} (h : s.drop i = c :: r) : i < s.length := by
 apply Nat.lt_of_not_le
 intro hle
 rw [List.drop_eq_nil_iff.2 hle] at h
 cases h
end Go.Eng
namespace Go.Eng
open Go
theorem byte_pref {s u r : Str} {i j : Nat} (h : s.drop i = u ++ r) (hj : j < u.length) : byteM s (i + j) = u[j].toNat := by
 have : s.drop (i + j) = u[j] :: (u.drop (j + 1) ++ r) := by
   rw [← List.drop_drop,h,List.drop_append_of_le_length (by omega),List.drop_eq_getElem_cons hj]; rfl
 exact byte_at this
theorem rune_same {s t : Str} {i k m : Nat} (hm : 0 < m) (h : runeM s i = m) (hb : ∀ j,j < m → byteM t (k + j) = byteM s (i + j)) : runeM t k = m := by
 have e0 : byteM t k = byteM s i := hb 0 hm
 unfold runeM at h ⊢
 dsimp only at h
 simp only [e0]
 by_cases h1 : m = 1
 · subst h1
   split at h
   · omega
   rename_i a
   split at h
   · rename_i b; rw [if_neg a,if_pos b]
   split at h
   · omega
   split at h
   · omega
   split at h <;> omega
 by_cases h2 : m = 2
 · subst h2
   have e1 := hb 1 (by omega)
   have m1 : moreM t (k + 1) = moreM s (i + 1) := by unfold moreM; rw [e1]
   simp only [m1]
   split at h
   · omega
   rename_i a
   split at h
   · omega
   rename_i b
   split at h
   · rename_i c; rw [if_neg a,if_neg b,if_pos c]
   split at h
   · omega
   split at h <;> omega
 by_cases h3 : m = 3
 · subst h3
   have e1 := hb 1 (by omega)
   have e2 := hb 2 (by omega)
   have m1 : moreM t (k + 1) = moreM s (i + 1) := by unfold moreM; rw [e1]
   have m2 : moreM t (k + 2) = moreM s (i + 2) := by unfold moreM; rw [e2]
   simp only [m1,m2,e1,e2]
   split at h
   · omega
   rename_i a
   split at h
   · omega
   rename_i b
   split at h
   · omega
   rename_i c
   split at h
   · rename_i d; rw [if_neg a,if_neg b,if_neg c,if_pos d]
   split at h <;> omega
 by_cases h4 : m = 4
 · subst h4
   have e1 := hb 1 (by omega)
   have e2 := hb 2 (by omega)
   have e3 := hb 3 (by omega)
   simp only [moreM,e1,e2,e3] at h ⊢
   exact h
 · exfalso
   split at h
   · omega
   split at h
   · omega
   split at h
   · omega
   split at h
   · omega
   split at h <;> omega
theorem rune_lt {s : Str} {i : Nat} (h : runeM s i ≠ 0) : i < s.length := by
 apply Nat.lt_of_not_le
 intro hle
 exact h (rune_end hle)
theorem rune_fits {s : Str} {i : Nat} (h : runeM s i ≠ 0) : i + runeM s i ≤ s.length := by
 obtain ⟨c,hc⟩ := rune_good (rune_lt h) h
 exact hc.fits
def Rn (u : Str) : Prop := u ≠ [] ∧ runeM u 0 = u.length
theorem Rn.pos {u : Str} (h : Rn u) : 0 < u.length := List.length_pos_iff.2 h.1
theorem Rn.at {u s r : Str} {i : Nat} (h : Rn u) (hs : s.drop i = u ++ r) : runeM s i = u.length := by
 refine rune_same (s := u) (i := 0) h.pos h.2 fun j hj => ?_
 rw [byte_pref hs hj,byte_pref (s := u) (i := 0) (u := u) (r := []) (by simp) hj]
theorem Rn.of {s : Str} {i : Nat} (h : runeM s i ≠ 0) : Rn ((s.drop i).take (runeM s i)) := by
 have hf := rune_fits h
 have hl : ((s.drop i).take (runeM s i)).length = runeM s i := by rw [List.length_take,List.length_drop]; omega
 refine ⟨fun e => by rw [e] at hl; simp at hl; omega,?_⟩
 rw [hl]
 refine rune_same (s := s) (i := i) (by omega) rfl fun j hj => ?_
 rw [byte_pref (s := s) (i := i) (u := (s.drop i).take (runeM s i)) (r := (s.drop i).drop (runeM s i)) (List.take_append_drop _ _).symm (by omega),byte_pref (s := (s.drop i).take (runeM s i)) (i := 0) (u := (s.drop i).take (runeM s i)) (r := []) (by simp) (by omega)]
inductive Utf : Str → Prop where
 | nil : Utf []
 | cons {u r : Str} : Rn u → Utf r → Utf (u ++ r)
theorem Utf.app {a b : Str} (h : Utf a) (h' : Utf b) : Utf (a ++ b) := by
 induction h with
 | nil => exact h'
 | cons hu _ ih => rw [List.append_assoc]; exact .cons hu ih
theorem Utf.one {u : Str} (h : Rn u) : Utf u := by have := Utf.cons h .nil; rwa [List.append_nil] at this
theorem utf_of {s : Str} : ∀ {n i : Nat},utfGo s n i = true → Utf (s.drop i) := by
 intro n
 induction n with
 | zero =>
   intro i h
   rw [utfGo,decide_eq_true_eq] at h
   rw [List.drop_of_length_le h]
   exact .nil
 | succ n ih =>
   intro i h
   rw [utfGo] at h
   split at h
   · rename_i hl; rw [List.drop_of_length_le hl]; exact .nil
   · split at h
     · cases h
     · rename_i h0
       have := Utf.cons (Rn.of h0) (ih h)
       rwa [← List.drop_drop,List.take_append_drop] at this
theorem Rn.cases {u : Str} (h : Rn u) : (∃ c : UInt8,u = [c] ∧ c.toNat < 128) ∨ (∀ c ∈ u,128 ≤ c.toNat) := by
 have hr := h.2
 have hp := h.pos
 have hb : ∀ j,(hj : j < u.length) → byteM u j = u[j].toNat := fun j hj => by
   have := byte_pref (s := u) (i := 0) (u := u) (r := []) (by simp) hj
   rwa [Nat.zero_add] at this
 have hm : ∀ j,(hj : j < u.length) → moreM u j = true → 128 ≤ u[j].toNat := fun j hj hm => by
   unfold moreM at hm
   rw [hb j hj,Bool.and_eq_true,decide_eq_true_iff,decide_eq_true_iff] at hm
   omega
 unfold runeM at hr
 rw [hb 0 hp] at hr
 simp only [Nat.zero_add] at hr
 have hall : (∀ j,(hj : j < u.length) → 128 ≤ u[j].toNat) → ∀ c ∈ u,128 ≤ c.toNat := fun hj c hc => by
   obtain ⟨j,h1,rfl⟩ := List.getElem_of_mem hc
   exact hj j h1
 split at hr
 · omega
 split at hr
 · rename_i hlt
   left
   obtain ⟨c,rfl⟩ := List.length_eq_one_iff.1 hr.symm
   refine ⟨c,rfl,?_⟩
   have e : ([c] : Str)[0].toNat = c.toNat := rfl
   omega
 right
 refine hall fun j hj => ?_
 split at hr
 · rename_i c
   obtain ⟨c1,_,c2⟩ := c
   obtain rfl | rfl : j = 0 ∨ j = 1 := by omega
   · omega
   · exact hm 1 hj c2
 split at hr
 · rename_i c
   obtain ⟨c1,_,c2,c3,_⟩ := c
   obtain rfl | rfl | rfl : j = 0 ∨ j = 1 ∨ j = 2 := by omega
   · omega
   · exact hm 1 hj c2
   · exact hm 2 hj c3
 split at hr
 · rename_i c
   obtain ⟨c1,_,c2,c3,c4,_⟩ := c
   obtain rfl | rfl | rfl | rfl : j = 0 ∨ j = 1 ∨ j = 2 ∨ j = 3 := by omega
   · omega
   · exact hm 1 hj c2
   · exact hm 2 hj c3
   · exact hm 3 hj c4
 · omega
def escOk (c : UInt8) : Bool :=
 match escB c with
 | [d] => decide (d = c) && decide (c ≠ 34) && decide (c ≠ 92) && decide (32 ≤ c.toNat)
 | [a,b] => decide (a = 92) && decide (escM [a,b] 0 = some ([c],2))
 | [a,b,d,e,f,g] => decide (a = 92) && decide (b = 117) && decide (hexM [a,b,d,e,f,g] 0 = c.toNat)
 | _ => false
end Go.Eng
namespace Go.Proofs.YtofhaneggcpdaaaGreatDoor
open Go Go.Eng Go.RowKit Go.Syn Go.Lex
set_option maxRecDepth 100000
theorem pre_one (c d : UInt8) (r : Str) : [d].isPrefixOf (c :: r) = (d == c) := by simp [List.isPrefixOf]
theorem index_run (s : Str) : Lib.index s [10] = if runM (fun b => b != 10) s < s.length then ((runM (fun b => b != 10) s : Nat) : Int) else -1 := by
 induction s with
 | nil => rfl
 | cons c r ih =>
   simp only [Lib.index,pre_one]
   by_cases h : c = 10
   · subst h
     rfl
   · have h1 : ((10 : UInt8) == c) = false := by rw [beq_eq_false_iff_ne]; exact fun e => h e.symm
     have h2 : (c != 10) = true := by simp [h]
     have e2 : runM (fun b => b != 10) (c :: r) = runM (fun b => b != 10) r + 1 := by simp only [runM]; rw [if_pos h2]
     obtain ⟨k,hk0⟩ : ∃ k,k = runM (fun b => b != 10) r := ⟨_,rfl⟩
     have ih' : Lib.index r [10] = if k < r.length then (k : Int) else -1 := by rw [hk0]; exact ih
     rw [h1,if_neg (by decide),ih',e2,← hk0]
     simp only [List.length_cons]
     by_cases hk : k < r.length
     · have e3 : (if k < r.length then (k : Int) else -1) = k := if_pos hk
       have e4 : (if k + 1 < r.length + 1 then ((k + 1 : Nat) : Int) else -1) = ((k + 1 : Nat) : Int) := if_pos (by omega)
       rw [e3,e4,if_neg (by simp only [beq_iff_eq]; omega)]
       rfl
     · have e3 : (if k < r.length then (k : Int) else -1) = -1 := if_neg hk
       have e4 : (if k + 1 < r.length + 1 then ((k + 1 : Nat) : Int) else -1) = -1 := if_neg (by omega)
       rw [e3,e4]
       rfl
theorem cut_run (s : Str) : (Lib.cut s [10]).1 = s.take (runM (fun b => b != 10) s) ∧ (Lib.cut s [10]).2.2 = decide (runM (fun b => b != 10) s < s.length) := by
 have hle := run_le (fun b => b != 10) s
 unfold Lib.cut
 rw [index_run]
 by_cases h : runM (fun b => b != 10) s < s.length
 · rw [if_pos h,if_pos (by omega),Int.toNat_natCast]
   exact ⟨rfl,by simp [h]⟩
 · rw [if_neg h,if_neg (by omega)]
   exact ⟨by rw [List.take_of_length_le (by omega)],by simp [h]⟩
theorem trim_run (l : Str) : Lib.trimLeftS l [32,9] = l.drop (runM (fun b => b == 32 || b == 9) l) := by
 unfold Lib.trimLeftS
 induction l with
 | nil => rfl
 | cons c r ih =>
   simp only [List.dropWhile_cons,runM]
   have e : ([32,9] : Str).contains c = (c == 32 || c == 9) := by simp [List.contains,List.elem]; cases (c == 32) <;> cases (c == 9) <;> rfl
   rw [e]
   by_cases hb : (c == 32 || c == 9) = true
   · rw [if_pos hb,if_pos hb]; exact ih
   · rw [if_neg hb,if_neg hb]; rfl
theorem hereL_app (a b : Str) : hereL (a ++ b) = hereL a ++ hereL b := by
 induction a with
 | nil => rfl
 | cons c r ih =>
   simp only [List.cons_append,hereL]
   (repeat' split) <;> simp only [List.cons_append,ih]
theorem hereL_high {u : Str} (h : ∀ c ∈ u,128 ≤ c.toNat) : hereL u = u := by
 induction u with
 | nil => rfl
 | cons c r ih =>
   have hc := h c List.mem_cons_self
   have n : ∀ k : UInt8,k.toNat < 128 → (c == k) = false := fun k hk => by
     rw [beq_eq_false_iff_ne]
     intro e
     subst e
     omega
   simp only [hereL,n 92 (by decide),n 34 (by decide),n 36 (by decide),n 9 (by decide),n 13 (by decide),Bool.or_self,Bool.false_eq_true,if_false,ih fun x hx => h x (List.mem_cons_of_mem _ hx)]
theorem utf_cons {c : UInt8} {r : Str} (h : Utf (c :: r)) (hc : c.toNat < 128) : Utf r := by
 generalize he : c :: r = z at h
 cases h with
 | nil => cases he
 | @cons u r' hu hr =>
   rcases hu.cases with ⟨x,rfl,_⟩ | hh
   · simp only [List.cons_append,List.nil_append,List.cons.injEq] at he
     rw [he.2]; exact hr
   · cases u with
     | nil => exact absurd rfl hu.1
     | cons y u' =>
       simp only [List.cons_append,List.cons.injEq] at he
       have := hh y List.mem_cons_self
       rw [← he.1] at this
       omega
theorem utf_split {t : Str} (h : Utf t) : ∀ {a b : Str} {c : UInt8},t = a ++ c :: b → c.toNat < 128 → Utf a ∧ Utf (c :: b) := by
 induction h with
 | nil => intro a b c e; simp at e
 | @cons u r hu hr ih =>
   intro a b c e hc
   by_cases hle : u.length ≤ a.length
   · have h1 : a = u ++ a.drop u.length := by
       have := congrArg (List.take u.length) e
       rw [List.take_left,List.take_append_of_le_length hle] at this
       have h2 := List.take_append_drop u.length a
       rw [← this] at h2
       exact h2.symm
     rw [h1,List.append_assoc] at e
     have e := List.append_cancel_left e
     obtain ⟨i1,i2⟩ := ih e hc
     rw [h1]
     exact ⟨.cons hu i1,i2⟩
   · have hmem : c ∈ u := by
       have : (u ++ r)[a.length]? = some c := by rw [e]; simp
       rw [List.getElem?_append_left (by omega)] at this
       exact List.mem_of_getElem? this
     rcases hu.cases with ⟨x,rfl,_⟩ | hh
     · have ha : a = [] := List.eq_nil_of_length_eq_zero (by simp only [List.length_cons,List.length_nil] at hle; omega)
       subst ha
       simp only [List.nil_append] at e
       rw [← e]
       exact ⟨.nil,.cons hu hr⟩
     · have := hh c hmem; omega
theorem utf_drop {t : Str} (h : Utf t) {i : Nat} {c : UInt8} {b : Str} (hd : t.drop i = c :: b) (hc : c.toNat < 128) : Utf (t.take i) ∧ Utf (c :: b) :=
 utf_split h (by rw [← hd,List.take_append_drop]) hc
theorem utf_line {s : Str} (h : Utf s) : Utf (s.take (runM (fun b => b != 10) s)) ∧ (runM (fun b => b != 10) s < s.length → Utf (s.drop (runM (fun b => b != 10) s + 1))) := by
 have stop : ∀ s : Str,∀ b,(s.drop (runM (fun b => b != 10) s)).head? = some b → b = 10 := by
   intro s
   induction s with
   | nil => intro b hb; simp [runM] at hb
   | cons c r ih =>
     intro b hb
     simp only [runM] at hb
     by_cases hc : (c != 10) = true
     · rw [if_pos hc,List.drop_succ_cons] at hb; exact ih b hb
     · rw [if_neg hc] at hb
       simp only [List.drop_zero,List.head?_cons,Option.some.injEq] at hb
       rw [← hb]; simpa using hc
 by_cases hk : runM (fun b => b != 10) s < s.length
 · have hd := drop_len hk
   have h10 := stop s s[runM (fun b => b != 10) s] (by rw [hd]; rfl)
   obtain ⟨h1,h2⟩ := utf_drop h hd (by rw [h10]; decide)
   exact ⟨h1,fun _ => utf_cons h2 (by rw [h10]; decide)⟩
 · exact ⟨by rw [List.take_of_length_le (by omega)]; exact h,fun e => absurd e hk⟩
theorem TabI.ext {w w' : World} (h : TabI w) (hx : Ext w w') : TabI w' := by
 obtain ⟨m,h⟩ := h
 refine ⟨m,?_⟩
 rw [cell_eq] at h ⊢
 cases hh : w.heap[0]? with
 | none => rw [hh] at h; cases h
 | some o => rw [hx.at hh id]; rw [hh] at h; exact h
section
variable [HX]
theorem lrange_str {l : Str} {w : World} {K : Value → World → Prop} (hK : K (.pointer (some ⟨w.heap.size,0,none⟩)) (w.alloc (.stringIter (ofL l) 0))) : semE Tryz.prog (Instr.range 9 (str l)) w K := by
 have hT : Tryz.prog.underlying 9 = some .string := by kernel_rfl
 have hr : (Instr.range 9 (str l)).run Tryz.prog w = .ok (.pointer (some ⟨w.heap.size,0,none⟩)) (w.alloc (.stringIter (ofL l) 0)) := by
   simp [Instr.range,run_bind,run_underlying' hT,run_pure,newObj,Sem.run]
 unfold semE
 rw [hr]
 exact hK
theorem lset_chg {w : World} {r : Nat} {o : Obj} (h : r < w.heap.size) : Chg (· = r) w { w with heap := w.heap.setIfInBounds r o } :=
 ⟨rfl,rfl,rfl,by simp,fun k _ hk => by
   show (w.heap.setIfInBounds r o)[k]? = _
   rw [Array.getElem?_setIfInBounds_ne (by omega)]⟩
theorem lnext_str {r pos : Nat} {l : Str} {T : TypeId} {w : World} {K : Value → World → Prop} (hw : w.heap[r]? = some (.stringIter (ofL l) pos))
   (h0 : l.length ≤ pos → K (.tuple #[.bool false]) w)
   (h1 : pos < l.length → ∀ w',w'.heap[r]? = some (.stringIter (ofL l) (pos + (Utf8.decode (ofL l) pos).2)) → Chg (· = r) w w' → w'.heap.size = w.heap.size → K (.tuple #[.bool true,i64 pos,.int .i32 (Utf8.decode (ofL l) pos).1]) w') :
   semE Tryz.prog (Instr.next (.pointer (some ⟨r,0,none⟩)) true T) w K := by
 have hg : (getObj r).run Tryz.prog w = .ok (.stringIter (ofL l) pos) w := by simp [getObj,Sem.run,hw]
 have hlt : r < w.heap.size := (Array.getElem?_eq_some_iff.1 hw).1
 unfold semE
 simp only [Instr.next,run_bind,hg,ofL_size]
 by_cases hp : pos < l.length
 · have hset : (setObj r (.stringIter (ofL l) (pos + (Utf8.decode (ofL l) pos).2))).run Tryz.prog w = .ok () { w with heap := w.heap.setIfInBounds r (.stringIter (ofL l) (pos + (Utf8.decode (ofL l) pos).2)) } := by simp [setObj,Sem.run,hw]
   rw [if_pos hp]
   simp only [run_bind,hset,run_pure]
   exact h1 hp _ (by simp [hlt]) (lset_chg hlt) (by simp)
 · rw [if_neg hp]
   simp only [run_pure]
   exact h0 (by omega)
theorem sign_ref {c : UInt8} {r : Str} {w : World} {K : Value → World → Prop} (hl : r.length ≤ 1000000) (hK : K (str (signM (c :: r))) w) : callF Tryz.prog 77 [str (c :: r)] w K := by
 refine W77_ok ?_
 unfold W77
 unfold signM at hK
 refine JoinW.cut (fun _ w' => w' = w ∧ signs2.contains ((c :: r).take 2) = false) ?_ ?_
 · rw [lens_str,bin_gtr,condW_dec]
   refine ⟨fun hlen => ?_,fun hlen => ⟨rfl,?_⟩⟩
   · rw [sls_str,bd_some]
     refine ⟨by omega,by omega,?_⟩
     rw [bd_none,List.drop_zero]
     rw [show (c :: r).take (Int.toNat 2) = (c :: r).take 2 from rfl]
     generalize hx : (c :: r).take 2 = x at hK ⊢
     refine JoinW.cut (fun st w' => st = [.bool (signs2.contains x)] ∧ w' = w) ?_ ?_
     · unfold signs2
       simp only [List.contains_cons,List.contains_nil,Bool.or_false]
       have eqd : ∀ y : Str,decide (x = y) = (x == y) := fun y => by rw [Bool.eq_iff_iff]; simp
       simp only [bin_seq,eqd]
       generalize (x == [61,61]) = a1
       generalize (x == [33,61]) = a2
       generalize (x == [60,61]) = a3
       generalize (x == [62,61]) = a4
       generalize (x == [38,38]) = a5
       generalize (x == [124,124]) = a6
       cases a1 <;> simp only [condW_true,condW_false,Bool.true_or,Bool.false_or,and_self]
       cases a2 <;> simp only [condW_true,condW_false,Bool.true_or,Bool.false_or,and_self]
       cases a3 <;> simp only [condW_true,condW_false,Bool.true_or,Bool.false_or,and_self]
       cases a4 <;> simp only [condW_true,condW_false,Bool.true_or,Bool.false_or,and_self]
       cases a5 <;> simp only [condW_true,condW_false,Bool.true_or,Bool.false_or,and_self]
     rintro st g w' ⟨rfl,rfl⟩
     simp only [List.getD_cons_zero]
     rw [condW_b]
     refine ⟨fun hy => ?_,fun hn => ⟨trivial,hn⟩⟩
     rw [if_pos hy] at hK
     rw [sls_str,bd_some]
     refine ⟨by omega,by omega,?_⟩
     rw [bd_none,List.drop_zero]
     show K (str ((c :: r).take 2)) w'
     rw [hx]
     exact hK
   · have : r = [] := List.eq_nil_of_length_eq_zero (by simp only [List.length_cons] at hlen; omega)
     subst this
     simp [signs2]
 rintro _ g w' ⟨rfl,hn⟩
 rw [if_neg (by rw [hn]; decide)] at hK
 refine ixs_i (s := c :: r) (i := 0) (by simp) ?_
 show callF Tryz.prog 67 [_,cv c] w' _
 refine indexb_p ?_
 rw [bin_geq,sign19,condW_b]
 have hK : K (str (if signs1.contains c = true then (c :: r).take 1 else [])) w' := hK
 refine ⟨fun hy => ?_,fun hy => ?_⟩
 · rw [if_pos hy] at hK
   rw [sls_str,bd_some]
   refine ⟨by omega,by simp only [List.length_cons]; omega,?_⟩
   rw [bd_none,List.drop_zero]
   exact hK
 · rw [if_neg (by rw [hy]; decide)] at hK
   exact hK
theorem cutl_p {t : Str} {w : World} {K : Value → World → Prop} (hT : TabI w) (hl : t.length ≤ 1000000) (hK : ∀ x w',Ext w w' → K (.tuple #[str (t.take (runM (fun b => b != 10) t)),x,.bool (decide (runM (fun b => b != 10) t < t.length))]) w') : callF Tryz.prog 100 [str t,str [10]] w K := by
 obtain ⟨m,hm⟩ := hT
 refine of_calls (args := #[str t,str [10]]) Tryz.call100 ((Tryz.strings_Cut (ofL t) (ofL [10]) m w (by rw [ofL_size]; omega) hm).mono ?_)
 rintro e w' ⟨rfl,n,rfl⟩
 obtain ⟨h1,h2⟩ := cut_run t
 rw [ofL_data,ofL_data]
 refine ⟨_,rfl,?_⟩
 rw [show (⟨(Lib.cut t [10]).1.toArray⟩ : ByteArray) = ofL (t.take (runM (fun b => b != 10) t)) from by rw [h1]; rfl,h2]
 refine hK _ _ ?_
 exact ⟨rfl,rfl,rfl,Nat.le_refl _,fun _ _ _ => rfl⟩
theorem triml_p {t : Str} {w : World} {K : Value → World → Prop} (hl : t.length ≤ 1000000) (hK : ∀ w',Ext w w' → K (str (t.drop (runM (fun b => b == 32 || b == 9) t))) w') : callF Tryz.prog 101 [str t,str [32,9]] w K := by
 refine of_calls (args := #[str t,str [32,9]]) Tryz.call101 ((Tryz.strings_TrimLeft_laid (ofL t) (ofL [32,9]) w (by rw [ofL_size]; decide) (fun j b hb => ?_)).mono ?_)
 · rw [ofL_data] at hb
   have := List.mem_of_getElem? hb
   simp only [List.mem_cons,List.not_mem_nil,or_false] at this
   rcases this with rfl | rfl <;> decide
 rintro e w' ⟨rfl,hb⟩
 rw [ofL_data,ofL_data,trim_run]
 exact ⟨_,rfl,hK w' (Chg.of_below hb)⟩
end
end Go.Proofs.YtofhaneggcpdaaaGreatDoor
namespace Go.Proofs.YtofhaneggcpdaaaGreatDoor
open Go Go.Eng Go.RowKit Go.Syn Go.Lex
set_option maxRecDepth 100000
theorem hereL_len (s : Str) : (hereL s).length ≤ 2 * s.length := by
 induction s with
 | nil => simp [hereL]
 | cons c r ih => simp only [hereL]; (repeat' split) <;> simp only [List.length_cons] <;> omega
def hereR (c : Nat) : Str × Nat := if c = 92 ∨ c = 34 ∨ c = 36 then ([92],c) else if c = 9 then ([92],116) else if c = 13 then ([92],114) else ([],c)
theorem hereR_one (x : UInt8) (h : wrM x.toNat = [x]) : hereL [x] = (hereR x.toNat).1 ++ wrM (hereR x.toNat).2 := by
 have e : ∀ k : UInt8,(x == k) = decide (x.toNat = k.toNat) := fun k => by
   rw [Bool.eq_iff_iff,beq_iff_eq,decide_eq_true_iff,UInt8.toNat_inj]
 simp only [hereL,e]
 unfold hereR
 by_cases h1 : x.toNat = 92 ∨ x.toNat = 34 ∨ x.toNat = 36
 · rw [if_pos (by simp only [Bool.or_eq_true,decide_eq_true_iff]; rcases h1 with h | h | h; exact .inl (.inl h); exact .inl (.inr h); exact .inr h),if_pos h1]
   show _ = [92] ++ wrM x.toNat
   rw [h]; rfl
 rw [if_neg (by simp only [Bool.or_eq_true,decide_eq_true_iff]; rintro ((h | h) | h); exact h1 (.inl h); exact h1 (.inr (.inl h)); exact h1 (.inr (.inr h))),if_neg h1]
 by_cases h2 : x.toNat = 9
 · rw [if_pos (by simpa using h2),if_pos h2]; rfl
 rw [if_neg (by simpa using h2),if_neg h2]
 by_cases h3 : x.toNat = 13
 · rw [if_pos (by simpa using h3),if_pos h3]; rfl
 rw [if_neg (by simpa using h3),if_neg h3]
 exact h.symm
theorem hereR_high {c : Nat} (h : 128 ≤ c) : hereR c = ([],c) := by
 unfold hereR
 rw [if_neg (by omega),if_neg (by omega),if_neg (by omega)]
theorem hereR_ok {c : Nat} (h : c < 55296 ∨ 57343 < c ∧ c ≤ 1114111) : (hereR c).2 < 55296 ∨ 57343 < (hereR c).2 ∧ (hereR c).2 ≤ 1114111 := by
 unfold hereR
 (repeat' split) <;> (dsimp only; omega)
theorem hereR_len (c : Nat) : (hereR c).1.length ≤ 1 := by unfold hereR; (repeat' split) <;> simp
def hfin (l : Str) (at_ : Nat) (x : Str × Nat × Int) : Str × Nat × Int := if x.2.2 = 0 then (l ++ x.1,x.2.1 + at_,0) else ([],0,x.2.2)
theorem hfin_hfin (l m : Str) (a b : Nat) (x : Str × Nat × Int) : hfin l a (if x.2.2 = 0 then (m ++ x.1,x.2.1 + b,0) else ([],0,x.2.2)) = hfin (l ++ m) (a + b) x := by
 unfold hfin
 by_cases h : x.2.2 = 0
 · simp only [h,if_true,List.append_assoc]; rw [show x.2.1 + b + a = x.2.1 + (a + b) by omega]
 · simp only [if_neg h]
theorem here_step (n : Nat) (name s : Str) : hereF (n + 1) name s = (if (s.take (runM (fun b => b != 10) s)).drop (runM (fun b => b == 32 || b == 9) (s.take (runM (fun b => b != 10) s))) = name then ([],runM (fun b => b != 10) s,0) else if s.length ≤ runM (fun b => b != 10) s then ([],0,40) else
 (if (hereF n name (s.drop (runM (fun b => b != 10) s + 1))).2.2 = 0 then (hereL (s.take (runM (fun b => b != 10) s)) ++ [92,110] ++ (hereF n name (s.drop (runM (fun b => b != 10) s + 1))).1,(hereF n name (s.drop (runM (fun b => b != 10) s + 1))).2.1 + (runM (fun b => b != 10) s + 1),0) else ([],0,(hereF n name (s.drop (runM (fun b => b != 10) s + 1))).2.2))) := rfl
section
variable [HX]
theorem heredoc_p {s : Str} {w : World} {K : Value → World → Prop} (hT : TabI w) (hU : Utf s) (hl : s.length ≤ 1000000) (h2 : 2 ≤ s.length)
   (hK : ∀ w',Ext w w' → K (.tuple #[str (heredocM s).1,i64 ((heredocM s).2.1 : Nat),i64 (heredocM s).2.2]) w') : callF Tryz.prog 76 [str s] w K := by
 refine W76_ok ?_
 unfold W76
 unfold heredocM at hK
 dsimp only at hK
 generalize hn : (if isLetter ((s.drop 2).headD 0) then runM isName (s.drop 2) else 0) = n at hK
 have hnl : n + 2 ≤ s.length := by
   have := run_le isName (s.drop 2)
   rw [List.length_drop] at this
   rw [← hn]; split <;> omega
 refine JoinW.cut (fun st w' => st = [i64 (n : Nat)] ∧ w' = w) ?_ ?_
 · rw [lens_str,bin_gtr]
   refine GdW.look (isLetter ((s.drop 2).headD 0)) (fun hg J hJ => ?_) fun g => ?_
   · rw [isB_t,decide_eq_true_iff] at hg
     have hlt : 2 < s.length := by omega
     refine ixs_i (i := 2) hlt ?_
     refine letter_p ?_
     rw [drop_len hlt] at hJ
     exact hJ
   · simp only [List.getD_cons_zero,isB_t]
     rw [pick_gd_and,condW_b]
     refine ⟨fun hy => ?_,fun hno => ?_⟩
     · rw [Bool.and_eq_true] at hy
       rw [if_pos hy.2] at hn
       rw [sls_str,bd_none,bd_some]
       refine ⟨by omega,by omega,?_⟩
       rw [List.take_length]
       show callF Tryz.prog 68 [str (s.drop 2),_] w _
       refine run_p (q := isName) (by rw [List.length_drop]; omega) (fun c {w K} h => callV_fn' (name2_p h)) ?_
       rw [hn]
       exact ⟨rfl,rfl⟩
     · have : n = 0 := by
         rw [← hn]
         by_cases hlet : isLetter ((s.drop 2).headD 0) = true
         · rw [hlet,Bool.and_true,decide_eq_false_iff_not] at hno
           rw [if_pos hlet,List.drop_eq_nil_of_le (by omega)]; rfl
         · rw [if_neg hlet]
       rw [this]
       exact ⟨rfl,trivial⟩
 rintro st g w' ⟨rfl,rfl⟩
 simp only [List.getD_cons_zero]
 rw [bin_add,wrap_id (by omega) (by omega)]
 rw [sls_str,bd_some,bd_some]
 refine ⟨by omega,by omega,by omega,by omega,?_⟩
 have hnm : (s.take (Int.toNat (2 + (n : Nat)))).drop (Int.toNat 2) = (s.drop 2).take n := by
   rw [show Int.toNat (2 + (n : Nat)) = 2 + n by omega,show Int.toNat 2 = 2 from rfl,List.drop_take]
   rw [show 2 + n - 2 = n by omega]
 rw [hnm,bin_add,wrap_id (by omega) (by omega),show (2 + (n : Nat) : Int) = ((2 + n : Nat) : Int) by omega]
 generalize (s.drop 2).take n = nm at *
 rw [bin_eql]
 simp only [isB_f]
 refine GdW.look (decide (s.length ≤ 2 + n)) (fun _ J hJ => ?_) fun g1 => ?_
 · rw [lens_str,bin_geq,show decide (((s.length : Nat) : Int) ≤ ((2 + n : Nat) : Int)) = decide (s.length ≤ 2 + n) by rw [decide_eq_decide]; omega]
   exact hJ
 simp only [List.getD_cons_zero]
 rw [pick_gd_or]
 simp only [isB_f]
 refine GdW.look (decide ((s.drop (2 + n)).head? ≠ some 10)) (fun hg J hJ => ?_) fun g2 => ?_
 · have hlt : 2 + n < s.length := by
     simp only [Bool.not_eq_true',Bool.or_eq_false_iff,decide_eq_false_iff_not] at hg
     omega
   refine ixs_i hlt ?_
   have e5 : decide (((s[2 + n].toNat : Nat) : Int) = 10) = (s[2 + n] == 10) := eq_nat 10 _
   rw [bin_neq]
   rw [drop_len hlt] at hJ
   have : decide (((s[2 + n].toNat : Nat) : Int) ≠ 10) = decide ((s[2 + n] :: s.drop (2 + n + 1)).head? ≠ some 10) := by
     have e6 : ∀ (c : UInt8) (r : Str),(c == 10) = decide ((c :: r).head? = some 10) := fun c r => by rw [Bool.eq_iff_iff]; simp
     rw [decide_not,e5,decide_not,e6 _ (s.drop (2 + n + 1))]
   rw [this]
   exact hJ
 simp only [List.getD_cons_zero]
 rw [pick_gd_or,condW_b]
 refine ⟨fun hbad => ?_,fun hok => ?_⟩
 · have hb : n = 0 ∨ ¬ (s.drop (2 + n)).head? = some 10 := by
     simp only [Bool.or_eq_true,decide_eq_true_iff] at hbad
     rcases hbad with (h | h) | h
     · exact .inl (by omega)
     · right; rw [List.drop_eq_nil_of_le (by omega)]; simp
     · exact .inr h
   have hK := hK w' (Chg.refl _ _)
   rcases hb with h | h
   · rw [if_pos h] at hK; exact hK
   · rw [if_neg h] at hK
     split at hK <;> exact hK
 simp only [Bool.or_eq_false_iff,decide_eq_false_iff_not,ne_eq,Decidable.not_not] at hok
 obtain ⟨⟨hn0,hlt⟩,h10⟩ := hok
 have hlt : 2 + n < s.length := by omega
 rw [if_neg (by omega),if_pos h10] at hK
 rw [bin_add,upi (by omega)]
 have hUs : Utf (s.drop (2 + n + 1)) := by
   have hd := drop_len hlt
   rw [hd] at h10
   simp only [List.head?_cons,Option.some.injEq] at h10
   exact utf_cons (utf_drop hU hd (by rw [h10]; decide)).2 (by rw [h10]; decide)
 generalize hR : hereF (s.length + 1) nm (s.drop (2 + n + 1)) = X at hK
 have hR2 : hfin [] (2 + n + 1) X = if X.2.2 = 0 then (X.1,X.2.1 + (2 + n + 1),0) else ([],0,X.2.2) := by unfold hfin; rw [List.nil_append]
 rw [← hR2] at hK
 refine bnew (B := w'.heap.size) (Nat.le_refl _) fun b w1 hb h1 hx1 => ?_
 generalize hR0 : hfin [] (2 + n + 1) X = R0 at hK
 refine LoopW.go (fun st w2 => ∃ (i m : Nat) (l : Str),st = [i64 (i : Nat)] ∧ i ≤ s.length ∧ Utf (s.drop i) ∧ Bld w2 w'.heap.size b l ∧ Ext w' w2 ∧ l.length ≤ 2 * i ∧ hfin l i (hereF m nm (s.drop i)) = R0 ∧ s.length < m + i) (fun st _ => match st with | [.int _ i] => s.length + 1 - i.toNat | _ => 0) ⟨2 + n + 1,s.length + 1,[],rfl,by omega,hUs,h1,hx1,by simp,by rw [hR,hR0],by omega⟩ ?_
 rintro st g3 w2 ⟨i,m,l,rfl,hi,hu,hB,hx,hll,hr,hm⟩
 obtain ⟨m,rfl⟩ : ∃ k,m = k + 1 := ⟨m - 1,by omega⟩
 rw [here_step] at hr
 simp only [List.getD_cons_zero]
 rw [sls_str,bd_none,bd_some]
 refine ⟨by omega,by omega,?_⟩
 rw [List.take_length,Int.toNat_natCast]
 have hsl : (s.drop i).length = s.length - i := List.length_drop
 refine cutl_p (hT.ext hx) (by omega) fun x w3 hx3 => ?_
 rw [ext_tuple]; refine ⟨_,rfl,?_⟩
 rw [ext_tuple]; refine ⟨_,rfl,?_⟩
 rw [ext_tuple]; refine ⟨_,rfl,?_⟩
 obtain ⟨ul,ur⟩ := utf_line hu
 have hkl := run_le (fun b => b != 10) (s.drop i)
 have htk : ((s.drop i).take (runM (fun b => b != 10) (s.drop i))).length = runM (fun b => b != 10) (s.drop i) := by rw [List.length_take]; omega
 generalize runM (fun b => b != 10) (s.drop i) = k at *
 generalize hln : (s.drop i).take k = ln at *
 refine triml_p (by omega) fun w4 hx4 => ?_
 have hx' : Ext w' w4 := (hx.trans hx3).trans hx4
 have hB4 : Bld w4 w'.heap.size b l := (hB.ext hx3).ext hx4
 rw [bin_seq,condW_dec]
 refine ⟨fun hy => ?_,fun hno => ?_⟩
 · rw [if_pos hy] at hr
   refine bstring_p hB4 hx'.size fun w5 hc5 => ?_
   rw [lens_str,bin_add,wrap_id (by omega) (by omega)]
   have hfx : Ext w' w5 := hx'.then hc5 fun k hk e => by omega
   have hK := hK w5 hfx
   rw [← hr] at hK
   simp only [hfin,if_true,List.append_nil] at hK
   rw [show (i : Int) + (ln.length : Nat) = ((k + i : Nat) : Int) by omega]
   exact hK
 rw [if_neg hno] at hr
 rw [un_not,condW_b]
 refine ⟨fun hend => ?_,fun hmore => ?_⟩
 · rw [if_pos (by simpa using hend)] at hr
   have hK := hK w4 hx'
   rw [← hr] at hK
   exact hK
 have hk : k < (s.drop i).length := by simpa using hmore
 rw [if_neg (by omega)] at hr
 rw [hfin_hfin] at hr
 have hun := ur hk
 clear ur
 have hlk : (s.drop i).length = s.length - i := List.length_drop
 refine lrange_str ?_
 have hz4 := hx'.size
 have hbb := hB4.lt
 refine LoopW.go (fun st w5 => ∃ p,p ≤ ln.length ∧ st = [] ∧ Utf (ln.drop p) ∧ w5.heap[w4.heap.size]? = some (.stringIter (ofL ln) p) ∧ Bld w5 w'.heap.size b (l ++ hereL (ln.take p)) ∧ Ext w' w5)
   (fun _ w5 => match w5.heap[w4.heap.size]? with | some (.stringIter _ p) => ln.length - p | _ => 0)
   ⟨0,Nat.zero_le _,rfl,by rw [List.drop_zero]; exact ul,heap_anew _ _ _ rfl,by rw [List.take_zero]; show Bld _ _ _ (l ++ []); rw [List.append_nil]; exact hB4.ext (Chg.alloc (Chg.refl _ _) _),hx'.trans (Chg.alloc (Chg.refl _ _) _)⟩ ?_
 rintro st g4 w5 ⟨p,hp,rfl,hup,hit,hB5,hx5⟩
 have hz5 := hx5.size
 have hl5 : (l ++ hereL (ln.take p)).length ≤ 2 * i + 2 * k := by
   have := hereL_len (ln.take p)
   have : (ln.take p).length ≤ k := by rw [List.length_take]; omega
   rw [List.length_append]; omega
 refine lnext_str hit (fun hpe => ?_) (fun hpl w6 hit6 hc6 hz6 => ?_)
 · rw [ext_tuple]
   refine ⟨.bool false,rfl,?_⟩
   rw [condW_false]
   obtain rfl : p = ln.length := by omega
   rw [List.take_length] at hB5 hl5
   refine wstr_p hB5 hz5 (by simp only [List.length_cons,List.length_nil]; omega) fun v w6 h6 hc6 => ?_
   have hx6 : Ext w' w6 := BCh.new hx5 (Nat.le_refl _) (by omega) hc6
   rw [lens_str,bin_add,wrap_id (by omega) (by omega),bin_add,wrap_id (by omega) (by omega)]
   have hgl := hereL_len ln
   refine ⟨⟨i + (k + 1),m,l ++ hereL ln ++ [92,110],by simp only [List.cons.injEq,Value.int.injEq,true_and,and_true]; omega,by omega,?_,h6,hx6,?_,?_,by omega⟩,?_⟩
   · rw [← drop_drop']; exact hun
   · simp only [List.length_append,List.length_cons,List.length_nil]; omega
   · rw [← hr,drop_drop',List.append_assoc]
   · simp only [Int.toNat_natCast]; omega
 · have hne : ln.drop p ≠ [] := fun e => by have := List.drop_eq_nil_iff.1 e; omega
   obtain ⟨u,r,hru,hur,hdr⟩ : ∃ u r,Rn u ∧ Utf r ∧ ln.drop p = u ++ r := by
     cases hd : ln.drop p with
     | nil => exact absurd hd hne
     | cons x y =>
       rw [hd] at hup
       generalize he : x :: y = z at hup
       cases hup with
       | nil => cases he
       | cons h1 h2 => exact ⟨_,_,h1,h2,rfl⟩
   have hrm : runeM ln p = u.length := hru.at hdr
   have huz := hru.pos
   obtain ⟨c,hc⟩ := rune_good hpl (by omega)
   rw [hrm] at hc
   have htk2 : (ln.drop p).take u.length = u := by rw [hdr,List.take_left]
   have hnext : ln.take (p + u.length) = ln.take p ++ u := by rw [List.take_add,htk2]
   have hdr2 : ln.drop (p + u.length) = r := drop_app hdr
   have hdec := hc.dec
   have hct := hc.top
   have hcv := hc.val
   have hcu : wrM c = u := by rw [← wr_enc (by omega),hc.bytes,htk2]
   rw [hdec] at hit6
   have hfit := hc.fits
   have hB6 : Bld w6 w'.heap.size b (l ++ hereL (ln.take p)) := hB5.chg hc6 (fun e => by have := e; omega) fun k hk e => by
     obtain ⟨_,c',hc'⟩ := hk
     have e : k = w4.heap.size := e
     rw [e,hit] at hc'; cases hc'
   have hx6 : Ext w' w6 := hx5.then hc6 fun k hk e => by omega
   have hu2 : hereL u = (hereR c).1 ++ wrM (hereR c).2 := by
     rcases hru.cases with ⟨x,hx,hxl⟩ | hh
     · subst hx
       have hcx : c = x.toNat := by
         have := (hc.low rfl).1
         rw [this]
         have e := byteM_in hpl
         rw [Go.Eng.byte_at (show ln.drop p = x :: r from hdr)] at e
         omega
       subst hcx
       exact hereR_one x hcu
     · have hc128 : 128 ≤ c := by
         have hb0 := byte_pref (j := 0) hdr huz
         have h128 := hh u[0] (List.getElem_mem ..)
         rw [Nat.add_zero,byteM_in hpl] at hb0
         by_cases h1 : u.length = 1
         · have := hc.low h1; omega
         · exact (hc.high (by omega)).1
       rw [hereR_high hc128,hereL_high hh,hcu]; rfl
   have hok := hereR_ok (c := c) (by omega)
   have hl1 := hereR_len c
   rw [ext_tuple]
   refine ⟨.bool true,rfl,?_⟩
   rw [condW_true,ext_tuple]
   refine ⟨.int .i32 (c : Int),by rw [hdec]; rfl,?_⟩
   refine JoinW.cut (fun st w7 => st = [.int .i32 ((hereR c).2 : Nat)] ∧ Bld w7 w'.heap.size b (l ++ hereL (ln.take p) ++ (hereR c).1) ∧ w7.heap[w4.heap.size]? = some (.stringIter (ofL ln) (p + u.length)) ∧ Ext w' w7) ?_ ?_
   · have wr : ∀ (x : Nat) (w7 : World),hereR c = ([92],x) → Bld w7 w'.heap.size b (l ++ hereL (ln.take p) ++ [92]) → Chg (BCh w6 w'.heap.size b) w6 w7 → [Value.int .i32 (x : Int)] = [.int .i32 ((hereR c).2 : Nat)] ∧ Bld w7 w'.heap.size b (l ++ hereL (ln.take p) ++ (hereR c).1) ∧ w7.heap[w4.heap.size]? = some (.stringIter (ofL ln) (p + u.length)) ∧ Ext w' w7 := by
       intro x w7 e h7 hc7
       rw [e]
       exact ⟨rfl,h7,BCh.iter hc7 hit6 (by omega),BCh.new hx6 (Nat.le_refl _) (by omega) hc7⟩
     refine JoinW.cut (fun st w7 => st = [.bool (decide (c = 92 ∨ c = 34 ∨ c = 36))] ∧ w7 = w6) ?_ ?_
     · rw [bin_eql,condW_dec]
       refine ⟨fun h => ?_,fun h => ?_⟩
       · rw [decide_eq_true h,decide_eq_true (.inl (by omega))]; exact ⟨rfl,rfl⟩
       rw [bin_eql,condW_dec]
       refine ⟨fun h' => ?_,fun h' => ?_⟩
       · rw [decide_eq_true h',decide_eq_true (.inr (.inl (by omega)))]; exact ⟨rfl,rfl⟩
       rw [bin_eql]
       rw [show decide (((c : Nat) : Int) = 36) = decide (c = 92 ∨ c = 34 ∨ c = 36) by rw [decide_eq_decide]; omega]
       exact ⟨rfl,rfl⟩
     rintro st g5 w7 ⟨rfl,rfl⟩
     simp only [List.getD_cons_zero]
     rw [condW_dec]
     refine ⟨fun h => ?_,fun h => ?_⟩
     · refine wbyte_p (n := 92) hB6 (by omega) (by omega) (by omega) fun w8 h8 hc8 => ?_
       exact wr c w8 (by unfold hereR; rw [if_pos h]) h8 hc8
     rw [bin_eql,condW_dec]
     refine ⟨fun h' => ?_,fun h' => ?_⟩
     · refine wbyte_p (n := 92) hB6 (by omega) (by omega) (by omega) fun w8 h8 hc8 => ?_
       exact wr 116 w8 (by unfold hereR; rw [if_neg h,if_pos (by omega)]) h8 hc8
     rw [bin_eql,condW_dec]
     refine ⟨fun h'' => ?_,fun h'' => ?_⟩
     · refine wbyte_p (n := 92) hB6 (by omega) (by omega) (by omega) fun w8 h8 hc8 => ?_
       exact wr 114 w8 (by unfold hereR; rw [if_neg h,if_neg (by omega),if_pos (by omega)]) h8 hc8
     have e : hereR c = ([],c) := by unfold hereR; rw [if_neg h,if_neg (by omega),if_neg (by omega)]
     rw [e,List.append_nil]
     exact ⟨rfl,hB6,hit6,hx6⟩
   rintro st g5 w7 ⟨rfl,hB7,hit7,hx7⟩
   simp only [List.getD_cons_zero]
   have hz7 := hx7.size
   refine wrune_p hB7 hz7 (by rw [List.length_append]; omega) hok fun v w8 h8 hc8 => ?_
   have hit8 := BCh.iter hc8 hit7 (by omega)
   refine ⟨⟨p + u.length,hfit,trivial,by rw [hdr2]; exact hur,hit8,?_,BCh.new hx7 (Nat.le_refl _) (by omega) hc8⟩,?_⟩
   · rw [hnext,hereL_app,hu2,← List.append_assoc,← List.append_assoc]; exact h8
   · rw [hit8,hit]
     show ln.length - (p + u.length) < ln.length - p
     omega
end
end Go.Proofs.YtofhaneggcpdaaaGreatDoor
namespace Go.Proofs.YtofhaneggcpdaaaGreatDoor
open Go Go.Eng Go.RowKit Go.Syn Go.Lex
set_option maxRecDepth 100000
theorem textX_fits {r : Str} {d : Nat} (h : (textX r d).2 = 0) : 1 ≤ (textX r d).1 ∧ (textX r d).1 ≤ r.length := by
 exact ((ins_bra _ r (Nat.le_refl _)).1 d _ (Prod.ext rfl h)).2
theorem one_cons (c : UInt8) (r : Str) : oneM (c :: r) =
 (if (c == 10) = true then (⟨5,[10],0⟩,1,0)
 else if isLetter c = true then (⟨1,(c :: r).take (runM isName (c :: r)),0⟩,runM isName (c :: r),if 32 < runM isName (c :: r) then 3 else 0)
 else if isDigit c = true then
   (⟨2,(c :: r).take (runM isDigit (c :: r)),0⟩,runM isDigit (c :: r),if ((runM isDigit (c :: r) < (c :: r).length && isLetter (((c :: r).drop (runM isDigit (c :: r))).headD 0)) || (c == 48 && 1 < runM isDigit (c :: r))) = true then 40 else if Num.goodN ((c :: r).take (runM isDigit (c :: r))) = true then 0 else 3)
 else if (c == 34) = true then
   (if (textF ((c :: r).length + 1) r 0).2 = 0 then (⟨3,r.take ((textF ((c :: r).length + 1) r 0).1 - 1),0⟩,(textF ((c :: r).length + 1) r 0).1 + 1,0) else (⟨0,[],0⟩,0,(textF ((c :: r).length + 1) r 0).2))
 else if preM [60,60] (c :: r) = true then (⟨3,(heredocM (c :: r)).1,0⟩,(heredocM (c :: r)).2.1,(heredocM (c :: r)).2.2)
 else (⟨4,signM (c :: r),0⟩,(signM (c :: r)).length,if (signM (c :: r)).length = 0 then 40 else 0)) := rfl
section
variable [HX]
theorem one_p {c : UInt8} {r : Str} {w : World} {K : Value → World → Prop} (hT : TabI w) (hU : Utf (c :: r)) (hl : r.length ≤ 100000)
   (hK : ∀ w',Ext w w' → K (.tuple #[.agg (tokc (oneM (c :: r)).1).toArray,i64 ((oneM (c :: r)).2.1 : Nat),i64 (oneM (c :: r)).2.2]) w') : callF Tryz.prog 38 [str (c :: r)] w K := by
 refine W38_ok ?_
 unfold W38
 have hlen : (c :: r).length = r.length + 1 := rfl
 refine alloc_new fun a w1 ha hz1 hab1 hx1 => ?_
 refine alloc_new fun b w2 hb hz2 hbb2 hx2 => ?_
 have hx02 := hx1.trans hx2
 have hab2 := hx2.at hab1 id
 have cond : ∀ (k : Nat),k < 256 → (((c.toNat : Nat) : Int) = (k : Int) ↔ c = UInt8.ofNat k) := fun k hk => by
   have := u8_eq c k hk
   rwa [decide_eq_decide] at this
 generalize ho : oneM (c :: r) = o at hK
 rw [one_cons] at ho
 refine JoinW.cut (fun st w' => st = [i64 o.2.2,i64 (o.2.1 : Nat)] ∧ Ext w w' ∧ w'.heap[a]? = some (.cells [i64 0,str [],i64 0].toArray TkT (0,0)) ∧ w'.heap[b]? = some (.cells (tokc o.1).toArray TkT (0,0))) ?_ ?_
 · -- a token laid in b at a later world
   have put : ∀ {w3 : World} {t : Tok} {old : List Value} {K' : World → Prop},Ext w w3 → w3.heap[a]? = some (.cells [i64 0,str [],i64 0].toArray TkT (0,0)) → w3.heap[b]? = some (.cells old.toArray TkT (0,0)) → old.length = 3 →
       (∀ w4,Ext w w4 → w4.heap[a]? = some (.cells [i64 0,str [],i64 0].toArray TkT (0,0)) → w4.heap[b]? = some (.cells (tokc t).toArray TkT (0,0)) → K' w4) → stW 3 (.pointer (some ⟨b,0,none⟩)) (.agg (tokc t).toArray) w3 K' := by
     intro w3 t old K' hx ha3 hb3 ho3 h
     refine st_agg_at hb3 rfl ho3 rfl fun w4 hz4 hb4 hc4 => ?_
     exact h w4 (hx.new hc4 (by omega)) (hc4.at ha3 (by omega)) hb4
   refine ixs_i (i := 0) (by rw [hlen]; omega) ?_
   simp only [List.getElem_cons_zero]
   rw [bin_eql,condW_dec]
   refine ⟨fun e => ?_,fun e => ?_⟩
   · have e : c = 10 := (cond 10 (by omega)).1 e
     subst e
     simp only [beq_self_eq_true,if_true] at ho
     subst ho
     simp only [put_int,put_str,List.length_cons,List.length_nil,List.set_cons_zero,List.set_cons_succ,Nat.reduceAdd,Nat.reduceLT,true_and,Nat.zero_lt_succ]
     refine st_agg_at (l := [i64 5,str [10],i64 0]) hab2 rfl rfl rfl fun w3 hz3 hab3 hc3 => ?_
     refine ld_all hab3 rfl ?_
     exact hK w3 (hx02.new hc3 (by omega))
   have e : ¬ (c == 10) = true := fun h => e ((cond 10 (by omega)).2 (by simpa using h))
   rw [if_neg e] at ho
   refine letter_p ?_
   rw [condW_b]
   refine ⟨fun hy => ?_,fun hno => ?_⟩
   · rw [if_pos hy] at ho
     refine run_p (q := isName) (by rw [hlen]; omega) (fun c {w K} h => callV_fn' (name1_p h)) ?_
     have hle := run_le isName (c :: r)
     rw [hlen] at hle
     generalize runM isName (c :: r) = n at *
     rw [sls_str,bd_some]
     refine ⟨by omega,by rw [hlen]; omega,?_⟩
     rw [bd_none,List.drop_zero,Int.toNat_natCast]
     simp only [put_int,put_str,List.length_cons,List.length_nil,List.set_cons_zero,List.set_cons_succ,Nat.reduceAdd,Nat.reduceLT,true_and,Nat.zero_lt_succ]
     refine put (t := ⟨1,(c :: r).take n,0⟩) hx02 hab2 hbb2 rfl fun w4 hx4 ha4 hb4 => ?_
     rw [bin_gtr,condW_dec]
     subst ho
     refine ⟨fun h => ?_,fun h => ?_⟩
     · exact ⟨by rw [if_pos (by omega)],hx4,ha4,hb4⟩
     · exact ⟨by rw [if_neg (by omega)],hx4,ha4,hb4⟩
   rw [if_neg (by rw [hno]; decide)] at ho
   refine digit_p ?_
   rw [condW_b]
   refine ⟨fun hy => ?_,fun hno => ?_⟩
   · rw [if_pos hy] at ho
     refine run_p (q := isDigit) (by rw [hlen]; omega) (fun c {w K} h => callV_fn' (digit_p h)) ?_
     have hle := run_le isDigit (c :: r)
     rw [hlen] at hle
     generalize runM isDigit (c :: r) = n at *
     rw [sls_str,bd_some]
     refine ⟨by omega,by rw [hlen]; omega,?_⟩
     rw [bd_none,List.drop_zero,Int.toNat_natCast]
     simp only [put_int,put_str,List.length_cons,List.length_nil,List.set_cons_zero,List.set_cons_succ,Nat.reduceAdd,Nat.reduceLT,true_and,Nat.zero_lt_succ]
     refine put (t := ⟨2,(c :: r).take n,0⟩) hx02 hab2 hbb2 rfl fun w4 hx4 ha4 hb4 => ?_
     refine JoinW.cut (fun st w' => st = [.bool ((n < (c :: r).length && isLetter (((c :: r).drop n).headD 0)) || (c == 48 && 1 < n))] ∧ w' = w4) ?_ ?_
     · rw [lens_str,bin_lss,show decide (((n : Nat) : Int) < (((c :: r).length : Nat) : Int)) = decide (n < (c :: r).length) by rw [decide_eq_decide]; omega]
       simp only [isB_t]
       refine GdW.look (isLetter (((c :: r).drop n).headD 0)) (fun hg J hJ => ?_) fun g => ?_
       · have hlt : n < (c :: r).length := by simpa using hg
         refine ixs_i hlt ?_
         refine letter_p ?_
         rw [drop_len hlt] at hJ
         exact hJ
       simp only [List.getD_cons_zero]
       rw [pick_gd_and,condW_b]
       refine ⟨fun h => by rw [h,Bool.true_or]; exact ⟨rfl,trivial⟩,fun h => ?_⟩
       have e5 : decide (((c.toNat : Nat) : Int) = 48) = (c == 48) := eq_nat 48 c
       rw [bin_eql,e5]
       simp only [isB_t,bin_gtr,GdW_pure,List.getD_cons_zero]
       intro g2
       rw [pick_gd_and,h,Bool.false_or]
       refine ⟨?_,trivial⟩
       rw [show decide ((1 : Int) < ((n : Nat) : Int)) = decide (1 < n) by rw [decide_eq_decide]; omega]
     rintro st g w5 ⟨rfl,rfl⟩
     simp only [List.getD_cons_zero]
     rw [condW_b]
     refine ⟨fun h => ?_,fun h => ?_⟩
     · rw [if_pos h] at ho
       subst ho
       exact ⟨rfl,hx4,ha4,hb4⟩
     rw [if_neg (by rw [h]; decide)] at ho
     rw [fld_ptr,ld_one]
     refine ⟨str ((c :: r).take n),by rw [add_mk,cell_eq,hb4]; rfl,?_⟩
     refine numgood_ref (by have : ((c :: r).take n).length ≤ n := (by rw [List.length_take]; omega); omega) fun w6 hx6 => ?_
     rw [un_not,condW_b]
     subst ho
     refine ⟨fun h => ?_,fun h => ?_⟩
     · exact ⟨by rw [if_neg (by simpa using h)],hx4.trans hx6,hx6.at ha4 id,hx6.at hb4 id⟩
     · exact ⟨by rw [if_pos (by simpa using h)],hx4.trans hx6,hx6.at ha4 id,hx6.at hb4 id⟩
   rw [if_neg (by rw [hno]; decide)] at ho
   rw [bin_eql,condW_dec]
   refine ⟨fun e => ?_,fun e => ?_⟩
   · have e : c = 34 := (cond 34 (by omega)).1 e
     rw [if_pos (by rw [e]; rfl),textF_x (by omega)] at ho
     refine ltext_p (d := 0) (by omega) (by omega) ?_
     by_cases h0 : (textX r 0).2 = 0
     · rw [if_pos h0] at ho
       have hf := textX_fits h0
       unfold outV
       rw [if_pos h0,ext_tuple]
       refine ⟨_,rfl,?_⟩
       rw [ext_tuple]
       refine ⟨_,rfl,?_⟩
       rw [bin_eql,condW_dec]
       refine ⟨fun _ => ?_,fun h => absurd rfl h⟩
       rw [bin_sub,wrap_id (by omega) (by omega),sls_str,bd_some,bd_some]
       refine ⟨by omega,by rw [hlen]; omega,by omega,by omega,?_⟩
       have et : ((c :: r).take (Int.toNat (((textX r 0).1 + 1 : Nat) - 1))).drop (Int.toNat 1) = r.take ((textX r 0).1 - 1) := by
         rw [show Int.toNat ((((textX r 0).1 + 1 : Nat) : Int) - 1) = ((textX r 0).1 - 1) + 1 by omega]
         rfl
       rw [et]
       simp only [put_int,put_str,List.length_cons,List.length_nil,List.set_cons_zero,List.set_cons_succ,Nat.reduceAdd,Nat.reduceLT,true_and,Nat.zero_lt_succ]
       refine put (t := ⟨3,r.take ((textX r 0).1 - 1),0⟩) hx02 hab2 hbb2 rfl fun w4 hx4 ha4 hb4 => ?_
       subst ho
       exact ⟨rfl,hx4,ha4,hb4⟩
     · rw [if_neg h0] at ho
       unfold outV
       rw [if_neg h0,ext_tuple]
       refine ⟨_,rfl,?_⟩
       rw [ext_tuple]
       refine ⟨_,rfl,?_⟩
       rw [bin_eql,condW_dec]
       refine ⟨fun h => absurd h h0,fun h => ?_⟩
       subst ho
       exact ⟨rfl,hx02,hab2,hbb2⟩
   have e : ¬ (c == 34) = true := fun h => e ((cond 34 (by omega)).2 (by simpa using h))
   rw [if_neg e] at ho
   refine hasp_p ?_
   rw [condW_b]
   refine ⟨fun hy => ?_,fun hno => ?_⟩
   · rw [if_pos (show preM [60,60] (c :: r) = true from hy)] at ho
     have h2 : 2 ≤ (c :: r).length := pre_len (p := [60,60]) (s := c :: r) hy
     rw [fld_ptr,add_mk,Nat.zero_add]
     refine st_at hbb2 rfl (by simp) fun w3 hz3 hb3 hc3 => ?_
     have hx3 := hx02.new hc3 (by omega)
     have ha3 := hc3.at hab2 (by omega)
     refine heredoc_p (hT.ext hx3) hU (by rw [hlen]; omega) h2 fun w4 hx4 => ?_
     rw [ext_tuple]; refine ⟨_,rfl,?_⟩
     rw [ext_tuple]; refine ⟨_,rfl,?_⟩
     rw [ext_tuple]; refine ⟨_,rfl,?_⟩
     have hb4 := hx4.at hb3 id
     rw [fld_ptr,add_mk,Nat.zero_add]
     refine st_at hb4 rfl (by simp) fun w5 hz5 hb5 hc5 => ?_
     subst ho
     exact ⟨rfl,(hx3.trans hx4).new hc5 (by omega),hc5.at (hx4.at ha3 id) (by omega),by rw [hb5]; simp [tokc]⟩
   · rw [if_neg (show ¬ preM [60,60] (c :: r) = true from by rw [show preM [60,60] (c :: r) = false from hno]; decide)] at ho
     refine sign_ref (by omega) ?_
     simp only [put_int,put_str,List.length_cons,List.length_nil,List.set_cons_zero,List.set_cons_succ,Nat.reduceAdd,Nat.reduceLT,true_and,Nat.zero_lt_succ]
     refine put (t := ⟨4,signM (c :: r),0⟩) hx02 hab2 hbb2 rfl fun w4 hx4 ha4 hb4 => ?_
     rw [fld_ptr,ld_one]
     refine ⟨str (signM (c :: r)),by rw [add_mk,cell_eq,hb4]; rfl,?_⟩
     rw [lens_str,bin_eql,condW_dec]
     subst ho
     refine ⟨fun h => ?_,fun h => ?_⟩
     · exact ⟨by rw [if_pos (by omega)],hx4,ha4,hb4⟩
     · exact ⟨by rw [if_neg (by omega)],hx4,ha4,hb4⟩
 rintro st g w3 ⟨rfl,hx3,ha3,hb3⟩
 refine ld_all hb3 rfl ?_
 refine st_agg_at (l := tokc o.1) ha3 rfl rfl rfl fun w4 hz4 ha4 hc4 => ?_
 refine ld_all ha4 rfl ?_
 exact hK w4 (hx3.new hc4 (by omega))
end
end Go.Proofs.YtofhaneggcpdaaaGreatDoor
namespace Go.Proofs.YtofhaneggcpdaaaGreatDoor
open Go Go.Eng Go.RowKit Go.Syn Go.Lex
set_option maxRecDepth 100000
theorem utf_at {s : Str} {k : Nat} (h : Utf s) (hc : ∀ c,(s.drop k).head? = some c → c.toNat < 128) : Utf (s.drop k) := by
 cases hd : s.drop k with
 | nil => exact .nil
 | cons c b => exact (utf_drop h hd (hc c (by rw [hd]; rfl))).2
theorem utf_past {s : Str} {k : Nat} {c : UInt8} (h : Utf s) (hk : s[k]? = some c) (hc : c.toNat < 128) : Utf (s.drop (k + 1)) := by
 obtain ⟨hlt,e⟩ := List.getElem?_eq_some_iff.1 hk
 have hd := drop_len hlt
 rw [e] at hd
 exact utf_cons (utf_drop h hd hc).2 hc
theorem run_stop (q : UInt8 → Bool) : ∀ (s : Str) (b : UInt8),(s.drop (runM q s)).head? = some b → q b = false
 | [],b,h => by simp [runM] at h
 | c :: r,b,h => by
   simp only [runM] at h
   by_cases hc : q c = true
   · rw [if_pos hc,List.drop_succ_cons] at h; exact run_stop q r b h
   · rw [if_neg hc] at h
     simp only [List.drop_zero,List.head?_cons,Option.some.injEq] at h
     rw [← h]; simpa using hc
theorem run_last (q : UInt8 → Bool) : ∀ (s : Str) (k : Nat),runM q s = k + 1 → ∃ c,s[k]? = some c ∧ q c = true
 | [],k,h => by simp [runM] at h
 | c :: r,k,h => by
   simp only [runM] at h
   by_cases hc : q c = true
   · rw [if_pos hc] at h
     cases k with
     | zero => exact ⟨c,rfl,hc⟩
     | succ k =>
       obtain ⟨x,h1,h2⟩ := run_last q r k (by omega)
       exact ⟨x,by simpa using h1,h2⟩
   · rw [if_neg hc] at h; omega
theorem idx_end : ∀ (s : Str) (i : Nat),Lib.index s [42,47] = (i : Int) → s[i + 1]? = some 47
 | [],i,h => by
   unfold Lib.index at h
   simp at h
 | b :: l,i,h => by
   unfold Lib.index at h
   split at h
   · rename_i hp
     have hi : i = 0 := by omega
     subst hi
     cases l with
     | nil => simp [List.isPrefixOf] at hp
     | cons c l =>
       simp only [List.isPrefixOf,Bool.and_eq_true,beq_iff_eq,Bool.and_true] at hp
       simp [hp.2]
   · split at h
     · omega
     · rename_i hq
       have h1 : Lib.index l [42,47] ≠ -1 := by simpa using hq
       have hg := Lib.index_ge l [42,47]
       have := idx_end l (i - 1) (by omega)
       have hi : 1 ≤ i := by omega
       rw [show i - 1 + 1 = i by omega] at this
       simpa using this
theorem utf_line2 {s : Str} (h : Utf s) : Utf (s.drop (runM (fun b => b != 10) s)) :=
 utf_at h fun c hc => by
   have := run_stop _ _ _ hc
   have : c = 10 := by simpa using this
   subst this; decide
theorem skip_utf : ∀ (n : Nat) (s : Str),Utf s → Utf (s.drop (skipF n s).1)
 | 0,s,h => by simpa [skipF] using h
 | n + 1,[],h => by simpa [skipF] using h
 | n + 1,c :: r,h => by
   rw [skip_step]
   split
   · rename_i hb
     have hc : c.toNat < 128 := by
       simp only [Bool.or_eq_true,beq_iff_eq] at hb
       rcases hb with (rfl | rfl) | rfl <;> decide
     rw [List.drop_succ_cons]
     exact skip_utf n r (utf_cons h hc)
   split
   · have := skip_utf n _ (utf_line2 h)
     rw [drop_drop'] at this
     rw [Nat.add_comm]; exact this
   split
   · rename_i hp
     split
     · simpa using h
     · rename_i hn
       obtain ⟨j,hj⟩ := Int.eq_ofNat_of_zero_le (show 0 ≤ Lib.index (r.drop 1) [42,47] by omega)
       have he := idx_end _ _ hj
       have hu : Utf ((c :: r).drop ((Lib.index (r.drop 1) [42,47]).toNat + 4)) := by
         rw [hj,Int.toNat_natCast]
         refine utf_past (k := j + 3) (c := 47) h ?_ (by decide)
         rw [List.getElem?_drop] at he
         rw [List.getElem?_cons_succ,← he]
         congr 1; omega
       have := skip_utf n _ hu
       rw [drop_drop'] at this
       rw [Nat.add_comm]; exact this
   · simpa using h
theorem hereF_stop : ∀ (n : Nat) (name s : Str) (c : UInt8),(hereF n name s).2.2 = 0 → (s.drop (hereF n name s).2.1).head? = some c → c = 10
 | 0,_,_,_,h,_ => by simp [hereF] at h
 | n + 1,name,s,c,h,hc => by
   rw [here_step] at h hc
   split at h
   · rename_i h1
     rw [if_pos h1] at hc
     have := run_stop _ _ _ hc
     simpa using this
   rename_i h1
   rw [if_neg h1] at hc
   split at h
   · cases h
   rename_i h2
   rw [if_neg h2] at hc
   split at h
   · rename_i h3
     rw [if_pos h3] at hc
     refine hereF_stop n name _ c h3 ?_
     rw [drop_drop']
     rw [show runM (fun b => b != 10) s + 1 + (hereF n name (s.drop (runM (fun b => b != 10) s + 1))).2.1 = (hereF n name (s.drop (runM (fun b => b != 10) s + 1))).2.1 + (runM (fun b => b != 10) s + 1) by omega]
     exact hc
   · rename_i h3; exact absurd h h3
theorem heredoc_stop {s : Str} {c : UInt8} (h : (heredocM s).2.2 = 0) (hc : (s.drop (heredocM s).2.1).head? = some c) : c = 10 := by
 unfold heredocM at h hc
 simp only at h hc
 generalize (if isLetter ((s.drop 2).headD 0) = true then runM isName (s.drop 2) else 0) = n at h hc
 split at h
 · cases h
 rename_i h1
 rw [if_neg h1] at hc
 split at h
 · rename_i h2
   rw [if_pos h2] at hc
   split at h
   · rename_i h3
     rw [if_pos h3] at hc
     refine hereF_stop _ _ _ c h3 ?_
     rw [drop_drop',Nat.add_comm]
     exact hc
   · rename_i h3; exact absurd h h3
 · cases h
theorem name_low {c : UInt8} (h : isName c = true) : c.toNat < 128 := by
 have : ∀ m : Fin 256,isName (UInt8.ofNat m.val) = true → (UInt8.ofNat m.val).toNat < 128 := by decide +kernel
 have h' := this ⟨c.toNat,UInt8.toNat_lt c⟩
 rw [UInt8.ofNat_toNat] at h'
 exact h' h
theorem digit_low {c : UInt8} (h : isDigit c = true) : c.toNat < 128 := name_low (by unfold isName; rw [h]; simp)
theorem sign_low {c : UInt8} (h : signs1.contains c = true) : c.toNat < 128 := by
 have : ∀ m : Fin 256,signs1.contains (UInt8.ofNat m.val) = true → (UInt8.ofNat m.val).toNat < 128 := by decide +kernel
 have h' := this ⟨c.toNat,UInt8.toNat_lt c⟩
 rw [UInt8.ofNat_toNat] at h'
 exact h' h
theorem sign2_low {x : Str} (h : signs2.contains x = true) : x.length = 2 ∧ ∃ c,x[1]? = some c ∧ c.toNat < 128 := by
 have : x ∈ signs2 := by simpa using h
 simp only [signs2,List.mem_cons,List.not_mem_nil,or_false] at this
 rcases this with rfl | rfl | rfl | rfl | rfl | rfl <;> exact ⟨rfl,_,rfl,by decide⟩
theorem one_utf {c : UInt8} {r : Str} (h : Utf (c :: r)) (h0 : (oneM (c :: r)).2.2 = 0) : Utf ((c :: r).drop (oneM (c :: r)).2.1) := by
 have run : ∀ q : UInt8 → Bool,(∀ c,q c = true → c.toNat < 128) → Utf ((c :: r).drop (runM q (c :: r))) := fun q hq => by
   cases hk : runM q (c :: r) with
   | zero => exact h
   | succ k =>
     obtain ⟨x,h1,h2⟩ := run_last q _ _ hk
     exact utf_past h h1 (hq x h2)
 rw [one_cons] at h0 ⊢
 split
 · rename_i e
   have e : c = 10 := by simpa using e
   exact utf_cons h (by rw [e]; decide)
 rename_i n1
 rw [if_neg n1] at h0
 split
 · exact run _ fun c => name_low
 rename_i n2
 rw [if_neg n2] at h0
 split
 · exact run _ fun c => digit_low
 rename_i n3
 rw [if_neg n3] at h0
 split
 · rename_i e
   rw [if_pos e] at h0
   split
   · rename_i h1
     rw [textF_x (by simp only [List.length_cons]; omega)] at h1 ⊢
     have hf := textX_fits h1
     have he := text_end _ r 0 _ (Nat.le_refl _) (Prod.ext rfl h1 : textX r 0 = ((textX r 0).1,0))
     refine utf_past (c := 34) h ?_ (by decide)
     rw [show (textX r 0).1 = (textX r 0).1 - 1 + 1 by omega,List.getElem?_cons_succ]
     exact he
   · rename_i h1
     rw [if_neg h1] at h0
     exact absurd h0 h1
 rename_i n4
 rw [if_neg n4] at h0
 split
 · rename_i h1
   rw [if_pos h1] at h0
   exact utf_at h fun x hx => by rw [heredoc_stop h0 hx]; decide
 rename_i n5
 rw [if_neg n5] at h0
 show Utf ((c :: r).drop (signM (c :: r)).length)
 unfold signM
 split
 · rename_i h1
   obtain ⟨e1,x,e2,e3⟩ := sign2_low h1
   rw [e1]
   refine utf_past (k := 1) (c := x) h ?_ e3
   rw [← e2,List.getElem?_take_of_lt (by omega)]
 split
 · rename_i h1
   exact utf_cons h (sign_low h1)
 · exact h
theorem badF_utf {s : Str} : ∀ (n i : Nat),s.length < n + i → badF n s i = none → Utf (s.drop i)
 | 0,i,hl,_ => by rw [List.drop_of_length_le (by omega)]; exact .nil
 | n + 1,i,hl,h => by
   rw [badF] at h
   split at h
   · rename_i hi; rw [List.drop_of_length_le hi]; exact .nil
   split at h
   · cases h
   · rename_i hi h0
     have hs : stepM s i = runeM s i := by unfold stepM; omega
     rw [hs] at h
     have := Utf.cons (Rn.of h0) (badF_utf n (i + runeM s i) (by omega) h)
     rwa [← List.drop_drop,List.take_append_drop] at this
theorem bad_pref {s : Str} {i : Nat} (h : runeM s i = 0) : Lib.hasPrefix (s.drop i) [239,191,189] = false := by
 rw [Bool.eq_false_iff]
 intro hp
 obtain ⟨r,hr⟩ := List.isPrefixOf_iff_prefix.1 hp
 have hn : Rn [239,191,189] := ⟨by decide,by decide⟩
 have := hn.at hr.symm
 rw [h] at this
 cases this
theorem good_pref {s : Str} {i n : Nat} (h : RuneAt s i n 65533) : Lib.hasPrefix (s.drop i) [239,191,189] = true := by
 have hb := h.bytes
 refine List.isPrefixOf_iff_prefix.2 ?_
 have e : Lib.encodeRune ((65533 : Nat) : Int) = [239,191,189] := by decide
 rw [e] at hb
 rw [hb]
 exact List.take_prefix _ _
end Go.Proofs.YtofhaneggcpdaaaGreatDoor
namespace Go.Proofs.YtofhaneggcpdaaaGreatDoor
open Go Go.Eng Go.RowKit Go.Syn Go.Lex
set_option maxRecDepth 100000
def sfin (acc : List Tok) : RS → RS
 | .ok l => .ok (acc ++ l)
 | .bad c a => .bad c a
theorem sfin_sfin (acc : List Tok) (t : Tok) (x : RS) : sfin acc (match x with | .ok l => .ok (t :: l) | x => x) = sfin (acc ++ [t]) x := by
 cases x <;> simp [sfin]
theorem toks_app (a : List Tok) (t : Tok) : toks (a ++ [t]) = toks a ++ tokc t := by simp [toks,tokc]
section
variable [HX]
theorem scan_p : ScanP := by
 intro w K s hT hl hok hbad
 refine W17_ok ?_
 unfold W17
 rw [lens_str,bin_gtr,condW_dec]
 unfold scanM at hok hbad
 -- what is wrong is handed back in a block of its own
 have bad : ∀ {w1 : World} (c : Int) (i : Nat) {K' : Value → World → Prop},(∀ d w',Ext w w' → w.heap.size ≤ d → w'.heap[d]? = some (.cells [i64 c,str [],i64 (i : Nat)].toArray 48 (0,0)) → K (.tuple #[.slice none 0 0,.pointer (some ⟨d,0,none⟩)]) w') → Ext w w1 →
     boxW 48 (.agg [i64 c,str [],i64 (i : Nat)].toArray) w1 fun t16 w2 => K (.tuple #[.slice none 0 0,t16]) w2 := by
   intro w1 c i _ h hx
   refine box_new (z := [i64 c,str [],i64 (i : Nat)]) fun d w2 hd hz hdb hx2 => ?_
   have := hx.size
   exact h d w2 (hx.trans hx2) (by omega) hdb
 refine ⟨fun h => ?_,fun h => ?_⟩
 · rw [if_pos (by omega)] at hbad
   simp only [put_int,put_str,List.length_cons,List.length_nil,List.set_cons_zero,List.set_cons_succ,Nat.reduceAdd,Nat.reduceLT,true_and,Nat.zero_lt_succ]
   exact bad (K' := K) 3 0 (fun d w' => hbad 3 0 rfl d w') (Chg.refl _ _)
 have hls : s.length ≤ 16384 := by omega
 rw [if_neg (by omega)] at hok hbad
 generalize hB : badF (s.length + 1) s 0 = Bd at hok hbad
 refine lrange_str ?_
 refine LoopW.go (fun st w5 => ∃ p m,p ≤ s.length ∧ st = [] ∧ w5.heap[w.heap.size]? = some (.stringIter (ofL s) p) ∧ Ext w w5 ∧ badF m s p = Bd ∧ s.length < m + p)
   (fun _ w5 => match w5.heap[w.heap.size]? with | some (.stringIter _ p) => s.length - p | _ => 0)
   ⟨0,s.length + 1,Nat.zero_le _,rfl,heap_anew _ _ _ rfl,Chg.alloc (Chg.refl _ _) _,hB,by omega⟩ ?_
 rintro st g w5 ⟨p,m,hp,rfl,hit,hx5,hbf,hm⟩
 obtain ⟨m,rfl⟩ : ∃ k,m = k + 1 := ⟨m - 1,by omega⟩
 rw [badF] at hbf
 have hz5 := hx5.size
 refine lnext_str hit (fun hpe => ?_) (fun hpl w6 hit6 hc6 hz6 => ?_)
 · -- it is UTF-8
   rw [ext_tuple]
   refine ⟨.bool false,rfl,?_⟩
   rw [condW_false]
   rw [if_pos hpe] at hbf
   subst hbf
   simp only at hok hbad
   have hU : Utf s := by
     have := badF_utf (s := s) (s.length + 1) 0 (by omega) hB
     rwa [List.drop_zero] at this
   generalize hR : scanF (s.length + 1) s 0 0 = R0 at hok hbad
   refine LoopW.go (fun st w7 => ∃ (i m : Nat) (acc : List Tok) (v : Value),st = [v,i64 (i : Nat)] ∧ i ≤ s.length ∧ Utf (s.drop i) ∧ Ext w w7 ∧ Own w7 w.heap.size TkT 3 v acc.length (toks acc) ∧ sfin acc (scanF m (s.drop i) i acc.length) = R0 ∧ s.length < m + i ∧ acc.length ≤ 4096)
     (fun st _ => match st with | [_,.int _ i] => s.length - i.toNat | _ => 0)
     ⟨0,s.length + 1,[],_,rfl,Nat.zero_le _,by rw [List.drop_zero]; exact hU,hx5,⟨by simp [toks],.inl ⟨rfl,rfl⟩⟩,by rw [List.drop_zero,List.length_nil,hR]; cases R0 <;> rfl,by omega,by simp⟩ ?_
   rintro st g2 w7 ⟨i,m2,acc,v,rfl,hi,hu,hx7,hO,hr,hm2,hcnt⟩
   obtain ⟨m2,rfl⟩ : ∃ k,m2 = k + 1 := ⟨m2 - 1,by omega⟩
   simp only [scanF] at hr
   simp only [List.getD_cons_zero,List.getD_cons_succ]
   have hz7 := hx7.size
   have hsl : (s.drop i).length = s.length - i := List.length_drop
   rw [sls_str,bd_none,bd_some]
   refine ⟨by omega,by omega,?_⟩
   rw [List.take_length,Int.toNat_natCast]
   refine skip_p (hT.ext hx7) (by omega) ?_
   have hku := skip_utf ((s.drop i).length + 1) _ hu
   have hkl := skip_le ((s.drop i).length + 1) (s.drop i)
   rw [drop_drop'] at hku hr
   generalize skipF ((s.drop i).length + 1) (s.drop i) = k at *
   obtain ⟨k,kc⟩ := k
   simp only at hku hkl hr ⊢
   rw [ext_tuple]; refine ⟨_,rfl,?_⟩
   rw [ext_tuple]; refine ⟨_,rfl,?_⟩
   rw [bin_add,wrap_id (by omega) (by omega),show (i : Int) + (k : Nat) = ((i + k : Nat) : Int) by omega,bin_eql]
   simp only [isB_t]
   refine GdW.look (decide (i + k = s.length)) (fun _ J hJ => ?_) fun g3 => ?_
   · rw [lens_str,bin_eql,show decide (((i + k : Nat) : Int) = ((s.length : Nat) : Int)) = decide (i + k = s.length) by rw [decide_eq_decide]; omega]
     exact hJ
   simp only [List.getD_cons_zero]
   rw [pick_gd_and,condW_b]
   refine ⟨fun hend => ?_,fun hgo => ?_⟩
   · simp only [Bool.and_eq_true,decide_eq_true_iff] at hend
     rw [if_neg (by rw [hend.1]; simp),if_pos (List.drop_eq_nil_of_le (by omega))] at hr
     simp only [put_int,put_str,List.length_cons,List.length_nil,List.set_cons_zero,List.set_cons_succ,Nat.reduceAdd,Nat.reduceLT,true_and,Nat.zero_lt_succ]
     rw [put_nil]
     refine bsl_agg (d := tokc ⟨0,[],((i + k : Nat) : Int)⟩) rfl rfl fun b w8 hb hz8 hbb hx8 => ?_
     refine append_own3 el_tk (hO.ext hx8) (slat_new' (n := 1) hbb) rfl (fun u hu => by simp only [tokc,List.mem_cons,List.not_mem_nil,or_false] at hu; rcases hu with rfl | rfl | rfl <;> rfl) (by omega) (by omega) (by have := hx8.size; omega) fun v' w9 hO9 hc9 hv9 => ?_
     have e : toks acc ++ tokc ⟨0,[],((i + k : Nat) : Int)⟩ = toks (acc ++ [⟨0,[],((i + k : Nat) : Int)⟩]) := (toks_app _ _).symm
     rw [e] at hO9
     have hx9 : Ext w w9 := (hx7.trans hx8).then hc9 fun q hq e => by have := (own_lt hO e).2; omega
     refine hok (acc ++ [⟨0,[],((i + k : Nat) : Int)⟩]) (by rw [← hr]; rfl) v' w9 hx9 (by rw [List.length_append]; exact hO9.sl) fun q hq => ⟨(own_lt hO9 hq).2,(own_lt hO9 hq).1⟩
   · have hgo : ¬ (kc = 0 ∧ i + k = s.length) := by
       rintro ⟨h1,h2⟩
       rw [h1,h2] at hgo
       simp at hgo
     refine alloc_new fun a w8 ha hz8 hab8 hx8 => ?_
     have hx78 := hx7.trans hx8
     -- the token
     refine JoinW.cut (fun st w9 => Ext w w9 ∧ Own w9 w.heap.size TkT 3 v acc.length (toks acc) ∧ w8.heap.size ≤ w9.heap.size ∧ v.ownBlock ≠ some a ∧ ∃ (t : Tok) (n : Nat) (e : Int),st = [i64 e,i64 (n : Nat)] ∧ w9.heap[a]? = some (.cells (tokc t).toArray TkT (0,0)) ∧
       ((e ≠ 0 ∧ R0 = .bad e ((i + k : Nat) : Int)) ∨ (e = 0 ∧ 1 ≤ n ∧ i + k + n ≤ s.length ∧ Utf (s.drop (i + k + n)) ∧ sfin acc (if acc.length = 4096 then .bad 3 ((i + k : Nat) : Int) else match scanF m2 (s.drop (i + k + n)) (i + k + n) (acc.length + 1) with | .ok l => .ok (⟨t.k,t.t,((i + k : Nat) : Int)⟩ :: l) | x => x) = R0))) ?_ ?_
     · have hva : v.ownBlock ≠ some a := fun e => by have := (own_lt hO e).1; omega
       rw [bin_eql,condW_dec]
       refine ⟨fun h0 => ?_,fun h0 => ?_⟩
       · rw [if_neg (by rw [h0]; simp)] at hr
         have hlt : i + k < s.length := by
           rcases Nat.lt_or_ge (i + k) s.length with h | h
           · exact h
           · exact absurd ⟨h0,by omega⟩ hgo
         have hd := drop_len hlt
         rw [if_neg (fun e => by rw [hd] at e; cases e)] at hr
         rw [sls_str,bd_none,bd_some]
         refine ⟨by omega,by omega,?_⟩
         rw [List.take_length,Int.toNat_natCast]
         have hrl : (s.drop (i + k + 1)).length = s.length - (i + k + 1) := List.length_drop
         rw [hd] at hr hku ⊢
         generalize s[i + k] = c at *
         generalize hrr : s.drop (i + k + 1) = r at *
         refine one_p (hT.ext hx78) hku (by omega) fun w9 hx9 => ?_
         rw [ext_tuple]; refine ⟨_,rfl,?_⟩
         rw [ext_tuple]; refine ⟨_,rfl,?_⟩
         rw [ext_tuple]; refine ⟨_,rfl,?_⟩
         have hou := one_utf hku
         have hok1 := @one_ok (c :: r)
         generalize oneM (c :: r) = o at *
         obtain ⟨t,n,e⟩ := o
         simp only at hou hr ⊢
         refine st_agg_at (l := tokc t) (hx9.at hab8 id) rfl rfl rfl fun w10 hz10 ha10 hc10 => ?_
         have hO9 := (hO.ext hx8).ext hx9
         refine ⟨(hx78.trans hx9).new hc10 (by omega),own_at hO9 hc10 fun q hq e => hva (e ▸ hq),by have := hx9.size; omega,hva,?_⟩
         by_cases he : e = 0
         · subst he
           rw [if_neg (by simp)] at hr
           obtain ⟨n1,n2,_⟩ := hok1 (t := t) (k := n) (by simp) rfl
           simp only [List.length_cons] at n2
           refine ⟨t,n,0,rfl,ha10,.inr ⟨rfl,n1,by omega,?_,?_⟩⟩
           · rw [← drop_drop',hd]; exact hou rfl
           · rw [← drop_drop',hd]; exact hr
         · rw [if_pos he] at hr
           exact ⟨t,n,e,rfl,ha10,.inl ⟨he,hr.symm⟩⟩
       · rw [if_pos h0] at hr
         exact ⟨hx78,hO.ext hx8,Nat.le_refl _,hva,⟨0,[],0⟩,0,kc,rfl,hab8,.inl ⟨h0,hr.symm⟩⟩
     rintro st g4 w9 ⟨hx9,hO9,hz9,hva,t,n,e,rfl,ha9,hcase⟩
     simp only [List.getD_cons_zero,List.getD_cons_succ]
     refine JoinW.cut (fun st w' => w' = w9 ∧ ∃ e' : Int,st = [i64 e'] ∧ ((e' ≠ 0 ∧ R0 = .bad e' ((i + k : Nat) : Int)) ∨ (e' = 0 ∧ 1 ≤ n ∧ i + k + n ≤ s.length ∧ Utf (s.drop (i + k + n)) ∧ acc.length < 4096 ∧ sfin acc (match scanF m2 (s.drop (i + k + n)) (i + k + n) (acc.length + 1) with | .ok l => .ok (⟨t.k,t.t,((i + k : Nat) : Int)⟩ :: l) | x => x) = R0))) ?_ ?_
     · rw [bin_eql]
       simp only [isB_t]
       refine GdW.look (decide (acc.length = 4096)) (fun _ J hJ => ?_) fun g5 => ?_
       · obtain ⟨q,cap,ev,_⟩ := hO9.sl.shape
         rw [ev,lenl_sl,bin_eql,show decide (((acc.length : Nat) : Int) = 4096) = decide (acc.length = 4096) by rw [decide_eq_decide]; omega]
         exact hJ
       simp only [List.getD_cons_zero]
       rw [pick_gd_and,condW_b]
       refine ⟨fun hb => ?_,fun hb => ?_⟩
       · simp only [Bool.and_eq_true,decide_eq_true_iff] at hb
         refine ⟨trivial,3,rfl,.inl ⟨by decide,?_⟩⟩
         rcases hcase with ⟨h1,h2⟩ | ⟨h1,h2,h3,h4,h5⟩
         · exact absurd hb.1 h1
         · rw [if_pos hb.2] at h5; exact h5.symm
       · refine ⟨trivial,e,rfl,?_⟩
         rcases hcase with h | ⟨h1,h2,h3,h4,h5⟩
         · exact .inl h
         · have : acc.length ≠ 4096 := fun h => by rw [h1,h] at hb; simp at hb
           rw [if_neg this] at h5
           exact .inr ⟨h1,h2,h3,h4,by omega,h5⟩
     rintro st g5 w10 ⟨rfl,e',rfl,hcase⟩
     simp only [List.getD_cons_zero]
     rw [bin_neq,condW_dec]
     refine ⟨fun hne => ?_,fun heq => ?_⟩
     · rcases hcase with ⟨h1,h2⟩ | ⟨h1,_⟩
       · simp only [put_int,put_str,List.length_cons,List.length_nil,List.set_cons_zero,List.set_cons_succ,Nat.reduceAdd,Nat.reduceLT,true_and,Nat.zero_lt_succ]
         exact bad (K' := K) e' (i + k) (fun d w' => hbad e' _ h2 d w') hx9
       · exact absurd h1 hne
     · rcases hcase with ⟨h1,_⟩ | ⟨h1,n1,n2,hu2,hc4,hr⟩
       · exact absurd (by simpa using heq) h1
       rw [fld_ptr,add_mk,Nat.zero_add]
       refine st_at ha9 rfl (by simp [tokc]) fun w11 hz11 ha11 hc11 => ?_
       have ha11 : w11.heap[a]? = some (.cells (tokc ⟨t.k,t.t,((i + k : Nat) : Int)⟩).toArray TkT (0,0)) := by rw [ha11]; simp [tokc]
       have hO11 := own_at hO9 hc11 fun q hq e => hva (e ▸ hq)
       have hx11 := hx9.new hc11 (by omega)
       refine ld_all ha11 rfl ?_
       refine bsl_agg (d := tokc ⟨t.k,t.t,((i + k : Nat) : Int)⟩) rfl rfl fun b w12 hb hz12 hbb hx12 => ?_
       refine append_own3 el_tk (hO11.ext hx12) (slat_new' (n := 1) hbb) rfl (fun u hu => by simp only [tokc,List.mem_cons,List.not_mem_nil,or_false] at hu; rcases hu with rfl | rfl | rfl <;> rfl) (by omega) (by omega) (by have := hx11.size; have := hx12.size; omega) fun v' w13 hO13 hc13 hv13 => ?_
       rw [← toks_app] at hO13
       rw [bin_add,wrap_id (by omega) (by omega)]
       refine ⟨⟨i + k + n,m2,acc ++ [⟨t.k,t.t,((i + k : Nat) : Int)⟩],v',by simp only [List.cons.injEq,Value.int.injEq,true_and,and_true]; omega,by omega,hu2,(hx11.trans hx12).then hc13 fun q hq e => ?_,by rw [List.length_append]; exact hO13,?_,by omega,by rw [List.length_append,List.length_cons,List.length_nil]; omega⟩,?_⟩
       · have := (own_lt hO11 e).2; omega
       · rw [List.length_append,← sfin_sfin]; exact hr
       · simp only [Int.toNat_natCast]; omega
 · -- the next rune
   have hge : ¬ s.length ≤ p := by omega
   rw [if_neg hge] at hbf
   have hx6 : Ext w w6 := hx5.then hc6 fun q hq e => by have e : q = w.heap.size := e; omega
   rw [ext_tuple]
   refine ⟨.bool true,rfl,?_⟩
   rw [condW_true,ext_tuple]
   refine ⟨i64 (p : Nat),rfl,?_⟩
   rw [ext_tuple]
   refine ⟨_,rfl,?_⟩
   have hdc : (Utf8.decode (ofL s) p).1 = 65533 ∧ Lib.hasPrefix (s.drop p) [239,191,189] = false ↔ runeM s p = 0 := by
     constructor
     · rintro ⟨h1,h2⟩
       by_cases h0 : runeM s p = 0
       · exact h0
       · obtain ⟨c,hc⟩ := rune_good hpl h0
         have hd := hc.dec
         rw [hd] at h1
         have h1 : c = 65533 := h1
         subst h1
         rw [good_pref hc] at h2
         cases h2
     · intro h0
       rw [rune_bad hpl h0]
       exact ⟨rfl,bad_pref h0⟩
   rw [dec_step hpl] at hit6
   generalize (Utf8.decode (ofL s) p).1 = c at *
   rw [bin_eql,show decide (((c : Nat) : Int) = 65533) = decide (c = 65533) by rw [decide_eq_decide]; omega]
   simp only [isB_t]
   refine GdW.look (!Lib.hasPrefix (s.drop p) [239,191,189]) (fun _ J hJ => ?_) fun g3 => ?_
   · rw [sls_str,bd_none,bd_some]
     refine ⟨by omega,by omega,?_⟩
     rw [List.take_length,Int.toNat_natCast]
     refine hasp_p ?_
     rw [un_not]
     exact hJ
   simp only [List.getD_cons_zero]
   rw [pick_gd_and,condW_b]
   refine ⟨fun hb => ?_,fun hb => ?_⟩
   · have h0 : runeM s p = 0 := hdc.1 (by simpa using hb)
     rw [if_pos h0] at hbf
     subst hbf
     simp only [put_int,put_str,List.length_cons,List.length_nil,List.set_cons_zero,List.set_cons_succ,Nat.reduceAdd,Nat.reduceLT,true_and,Nat.zero_lt_succ]
     exact bad (K' := K) 31 p (fun d w' => hbad 31 _ rfl d w') hx6
   · have h0 : runeM s p ≠ 0 := fun h => by
       have := hdc.2 h
       rw [decide_eq_true this.1,this.2] at hb
       cases hb
     rw [if_neg h0] at hbf
     have hfit := step_fits hpl
     have hpos := step_pos s p
     refine ⟨⟨p + stepM s p,m,hfit,trivial,hit6,hx6,hbf,by omega⟩,?_⟩
     rw [hit6,hit]
     show s.length - (p + stepM s p) < s.length - p
     omega
end
end Go.Proofs.YtofhaneggcpdaaaGreatDoor
namespace Go.Proofs.YtofhaneggcpdaaaGreatDoor
open Go Go.Eng Go.RowKit Go.Syn Go.Lex
set_option maxRecDepth 100000
abbrev DgT : TypeId := 48
def flOf : Syn.PR → Fl
 | .ok f => f
 | .bad _ _ => ⟨[],[],[]⟩
def okP : Syn.PR → Bool
 | .ok _ => true
 | .bad _ _ => false
def PRep (w : World) (d : Value) : Syn.PR → Prop
 | .ok _ => d = .pointer none
 | .bad c a => ∃ b,d = .pointer (some ⟨b,0,none⟩) ∧ w.heap[b]? = some (.cells [i64 c,str [],i64 a].toArray DgT (0,0))
theorem PRep.ext {w w' : World} {d : Value} {r : Syn.PR} (h : PRep w d r) (hx : Ext w w') : PRep w' d r := by
 cases r with
 | ok f => exact h
 | bad c a => obtain ⟨b,h1,h2⟩ := h; exact ⟨b,h1,hx.at h2 id⟩
theorem PRep.eq {w : World} {d : Value} {r : Syn.PR} (h : PRep w d r) (n : Bool) (K : Value → Prop) : eqW .ptr n d (.pointer none) K ↔ K (.bool (n ^^ okP r)) := by
 cases r with
 | ok f => have h : d = .pointer none := h; rw [h]; cases n <;> exact Iff.rfl
 | bad c a => obtain ⟨b,rfl,_⟩ := h; cases n <;> exact Iff.rfl
theorem FO.ext {w w' : World} {B : Nat} {M : Lay} {fl : Fl} (h : FO w B M fl) (hx : Ext w w') : FO w' B M fl := h.keep hx fun _ _ _ _ e => e
theorem fo_nil (w : World) (B : Nat) : FO w B ⟨.slice none 0 0,.slice none 0 0,.slice none 0 0,[],[]⟩ ⟨[],[],[]⟩ :=
 ⟨⟨by simp,.inl ⟨rfl,rfl⟩⟩,⟨by simp,.inl ⟨rfl,rfl⟩⟩,⟨by simp [ints],.inl ⟨rfl,rfl⟩⟩,RowsR.nil _ _,RowsR.nil _ _,List.nodup_nil,fun k hk => by simp [ub,Value.ownBlock] at hk,fun k hk => by simp [ub,Value.ownBlock] at hk⟩
section
variable [HX]
theorem parse_r {t : Str} {w : World} {K : Value → World → Prop} (hT : TabI w) (hl : t.length ≤ 1000000)
   (hK : ∀ M d w',Ext w w' → FO w' w.heap.size M (flOf (parseM t)) → PRep w' d (parseM t) → ((flOf (parseM t)).ex.length ≤ 100000 ∧ (flOf (parseM t)).bl.length ≤ 100000 ∧ (flOf (parseM t)).top.length ≤ 100000) → K (.tuple #[.agg [M.vE,M.vB,M.vT].toArray,d]) w') : callF Tryz.prog 9 [str t] w K := by
 refine parse_p (fun {_} => scan_p) hT hl (fun fl h M w' hx hF hfew => ?_) (fun c a h d w' hx hd hdb => ?_)
 · rw [h] at hK
   exact hK M _ w' hx hF rfl hfew
 · rw [h] at hK
   exact hK ⟨.slice none 0 0,.slice none 0 0,.slice none 0 0,[],[]⟩ _ w' hx (fo_nil _ _) ⟨d,rfl,hdb⟩ (by simp [flOf])
end
def ex1 : Str := [114,32,34,116,34,32,34,110,34,32,123,32,120,32,61,32,49,32,43,32,121,46,122,32,125]
section
variable [HX]
theorem cut5_p {s : Str} {w : World} {K : Value → World → Prop} (hl : s.length ≤ 9223372036854775807) (hK : K (str (s.take 6000)) w) : callF Tryz.prog 8 [str s] w K := by
 refine W8_ok ?_
 unfold W8
 rw [lens_str,min_int,sls_str,bd_some]
 by_cases h : 6000 < (s.length : Int)
 · rw [if_pos h]
   refine ⟨by omega,by omega,?_⟩
   rw [bd_none,List.drop_zero]
   exact hK
 · rw [if_neg h]
   refine ⟨by omega,by omega,?_⟩
   rw [bd_none,List.drop_zero,Int.toNat_natCast,List.take_length]
   rw [List.take_of_length_le (by omega)] at hK
   exact hK
end
end Go.Proofs.YtofhaneggcpdaaaGreatDoor
namespace Go.Proofs.YtofhaneggcpdaaaGreatDoor
open Go Go.Eng Go.RowKit Go.Syn Go.Lex
set_option maxRecDepth 100000
def cnt (n : Nat) (l : List Nat) : List Nat := (List.range n).map fun j => l.count j
theorem nodup_len : ∀ (n : Nat) (l : List Nat),l.Nodup → (∀ x ∈ l,x < n) → l.length ≤ n
 | 0,l,_,h => by
   cases l with
   | nil => simp
   | cons x r => have := h x (by simp); omega
 | n + 1,l,hd,h => by
   have := nodup_len n (l.erase n) (hd.erase n) (fun x hx => by
     have h1 := (hd.mem_erase_iff).1 hx
     have := h x h1.2
     have := h1.1
     omega)
   have := @List.length_erase Nat _ _ n l
   split at this <;> omega
structure Once (n : Nat) (l : List Nat) : Prop where
 one : ∀ j,j < n → l.count j = 1
 lt : ∀ x ∈ l,x < n
theorem Once.nodup {n : Nat} {l : List Nat} (h : Once n l) : l.Nodup := List.nodup_iff_count.2 fun a => by
 by_cases ha : a < n
 · rw [h.one a ha]; omega
 · rw [List.count_eq_zero_of_not_mem (fun hm => ha (h.lt a hm))]; omega
theorem Once.len {n : Nat} {l : List Nat} (h : Once n l) : l.length ≤ n := nodup_len n l h.nodup h.lt
theorem once_of {L : List (List Nat)} {r : List Nat} (h : Forest L r) : Once L.length (L.flatten ++ r) :=
 ⟨fun j hj => by rw [List.count_append]; exact h.once j hj,fun x hx => (List.mem_append.1 hx).elim (h.flat_lt x) (h.low x)⟩
section
variable [HX]
theorem make_i {n : Nat} {w : World} {K : Value → World → Prop} (hm : n ≤ 1000000) (hK : ∀ a w',a = w.heap.size → w'.heap.size = w.heap.size + 1 → w'.heap[a]? = some (.cells (ints (List.replicate n 0)).toArray IntT (0,0)) → Ext w w' → K (.slice (some ⟨a,0,none⟩) n n) w') :
   semE Tryz.prog (Instr.makeSlice 26 (i64 (n : Nat)) (i64 (n : Nat))) w K := by
 have hinf : ((Tryz.prog.info? IntT).bind (·.zero)) = some (i64 0) := by kernel_rfl
 obtain ⟨i,z,hi,hz,hsz,hbytes,hzs⟩ := el_int.get
 have hz0 : z = i64 0 := by
   rw [hi] at hinf
   simp only [Option.bind_some] at hinf
   rw [hz] at hinf
   exact Option.some.inj hinf
 subst hz0
 unfold semE
 have hr := run_makeSlice (P := Tryz.prog) (w := w) 26 IntT i _ (by kernel_rfl) hi hz .i64 .i64 n n (by omega) (by omega) (by rw [hsz]; omega) (by rw [hbytes]; omega) (by omega)
 rw [hr,hsz]
 simp only [Int.toNat_natCast,Nat.mul_one]
 have hc : madeCells (Value.cells (i64 0)) n = (ints (List.replicate n 0)).toArray := by
   apply Array.ext_getElem?
   intro j
   simp only [madeCells,Array.getElem?_map,List.getElem?_toArray,ints]
   by_cases hj : j < n
   · rw [Array.getElem?_eq_getElem (by simpa using hj)]
     simp [Value.cells,hj,Nat.mod_one]
   · rw [Array.getElem?_eq_none (by simp; omega)]
     simp [hj]
 rw [hc]
 exact hK _ _ rfl (Array.size_push ..) (heap_anew _ _ _ rfl) (Chg.alloc (Chg.refl _ _) _)
end
variable {w0 w w' : World} {B a ea eb : Nat} {M : Lay} {fl : Fl} {lE lB : List Nat}
end Go.Proofs.YtofhaneggcpdaaaGreatDoor
namespace Go.Proofs.YtofhaneggcpdaaaGreatDoor
open Go Go.Eng Go.Lex Go.Syn
set_option maxRecDepth 100000
def sumN (l : List Nat) : Nat := l.foldr (· + ·) 0
theorem sumN_cons (a : Nat) (l : List Nat) : sumN (a :: l) = a + sumN l := rfl
theorem sumN_app : ∀ a b : List Nat,sumN (a ++ b) = sumN a + sumN b
 | [],b => by rw [List.nil_append]; show _ = 0 + _; omega
 | x :: a,b => by rw [List.cons_append,sumN_cons,sumN_cons,sumN_app a b]; omega
theorem sumN_perm {a b : List Nat} (h : a.Perm b) : sumN a = sumN b := by
 induction h with
 | nil => rfl
 | cons x _ ih => rw [sumN_cons,sumN_cons,ih]
 | swap x y l => simp only [sumN_cons]; omega
 | trans _ _ i1 i2 => rw [i1,i2]
theorem sumN_mem {x : Nat} {l : List Nat} (h : x ∈ l) : x ≤ sumN l := by
 induction l with
 | nil => cases h
 | cons y l ih =>
   rw [sumN_cons]
   rcases List.mem_cons.1 h with rfl | h
   · omega
   · have := ih h; omega
theorem sumN_le {α : Type} (l : List α) (F G : α → Nat) (h : ∀ x ∈ l,F x ≤ G x) : sumN (l.map F) ≤ sumN (l.map G) := by
 induction l with
 | nil => exact Nat.le_refl _
 | cons x l ih =>
   rw [List.map_cons,List.map_cons,sumN_cons,sumN_cons]
   have h1 := h x (by simp)
   have h2 := ih fun y hy => h y (List.mem_cons_of_mem _ hy)
   omega
theorem sumN_add {α : Type} (l : List α) (F G : α → Nat) : sumN (l.map fun x => F x + G x) = sumN (l.map F) + sumN (l.map G) := by
 induction l with
 | nil => rfl
 | cons x l ih => rw [List.map_cons,List.map_cons,List.map_cons,sumN_cons,sumN_cons,sumN_cons,ih]; omega
theorem sumN_const {α : Type} (l : List α) (c : Nat) : sumN (l.map fun _ => c) = l.length * c := by
 induction l with
 | nil => simp [sumN]
 | cons x l ih => rw [List.map_cons,sumN_cons,ih,List.length_cons,Nat.succ_mul]; omega
theorem sumN_mul {α : Type} (l : List α) (c : Nat) (F : α → Nat) : sumN (l.map fun x => c * F x) = c * sumN (l.map F) := by
 induction l with
 | nil => rfl
 | cons x l ih => rw [List.map_cons,List.map_cons,sumN_cons,sumN_cons,ih,Nat.mul_add]
theorem sumN_rows (W : Nat → Nat) : ∀ (L : List (List Nat)),sumN (L.map fun us => sumN (us.map W)) = sumN (L.flatten.map W)
 | [] => rfl
 | us :: L => by rw [List.map_cons,sumN_cons,List.flatten_cons,List.map_append,sumN_app,sumN_rows W L]
theorem range_get {α : Type} (l : List α) (F : Option α → Nat) : sumN ((List.range l.length).map fun i => F l[i]?) = sumN (l.map fun x => F (some x)) := by
 have : (List.range l.length).map (fun i => F l[i]?) = l.map fun x => F (some x) := by
   apply List.ext_getElem (by simp)
   intro i h1 h2
   simp only [List.length_map] at h2
   simp [List.getElem?_eq_getElem h2]
 rw [this]
theorem forest_perm {L : List (List Nat)} {r : List Nat} (h : Forest L r) : (L.flatten ++ r).Perm (List.range L.length) := by
 have ho := once_of h
 rw [List.perm_iff_count]
 intro a
 by_cases ha : a < L.length
 · have h1 := List.nodup_iff_count.1 (List.nodup_range (n := L.length)) a
   have h2 := List.count_pos_iff.2 (List.mem_range.2 ha)
   rw [ho.one a ha]; omega
 · rw [List.count_eq_zero_of_not_mem (fun hm => ha (ho.lt a hm)),List.count_eq_zero_of_not_mem (fun hm => ha (List.mem_range.1 hm))]
theorem forest_sum {L : List (List Nat)} {r : List Nat} (h : Forest L r) (own W : Nat → Nat) (hW : ∀ i us,L[i]? = some us → W i = own i + sumN (us.map W)) : sumN (r.map W) = sumN ((List.range L.length).map own) := by
 have h1 := sumN_perm ((forest_perm h).map W)
 rw [List.map_append,sumN_app] at h1
 have h2 : sumN ((List.range L.length).map W) = sumN ((List.range L.length).map own) + sumN (L.flatten.map W) := by
   have e : (List.range L.length).map W = (List.range L.length).map fun i => own i + (match L[i]? with | some us => sumN (us.map W) | none => 0) := by
     apply List.map_congr_left
     intro i hi
     rw [List.mem_range] at hi
     rw [List.getElem?_eq_getElem hi]
     exact hW i _ (List.getElem?_eq_getElem hi)
   rw [e,sumN_add,range_get L (fun o => match o with | some us => sumN (us.map W) | none => 0),sumN_rows]
 omega
theorem forest_each {L : List (List Nat)} {r : List Nat} (h : Forest L r) (own W : Nat → Nat) (hW : ∀ i us,L[i]? = some us → W i = own i + sumN (us.map W)) : ∀ (k i : Nat),i + k + 1 = L.length → W i ≤ sumN ((List.range L.length).map own) := by
 intro k
 induction k using Nat.strongRecOn with
 | ind k ih =>
   intro i hi
   have hs := forest_sum h own W hW
   have hm : i ∈ L.flatten ++ r := (forest_perm h).mem_iff.2 (List.mem_range.2 (by omega))
   rcases List.mem_append.1 hm with hm | hm
   · obtain ⟨us,hus,hiu⟩ := List.mem_flatten.1 hm
     obtain ⟨p,hp⟩ := List.mem_iff_getElem?.1 hus
     have hlt := h.ahead p us hp i hiu
     have hpl := (List.getElem?_eq_some_iff.1 hp).1
     have h1 := ih (L.length - 1 - p) (by omega) p (by omega)
     have h2 := hW p us hp
     have h3 := sumN_mem (List.mem_map.2 ⟨i,hiu,rfl⟩ : W i ∈ us.map W)
     omega
   · have := sumN_mem (List.mem_map.2 ⟨i,hm,rfl⟩ : W i ∈ r.map W)
     omega
end Go.Proofs.YtofhaneggcpdaaaGreatDoor
namespace Go.Syn
open Go Go.Eng Go.Lex
def plainB (c : UInt8) : Str := if c = 92 ∨ c = 34 ∨ c = 36 then [92,c] else if c = 10 then [92,110] else if c = 9 then [92,116] else if c = 13 then [92,114] else [c]
def plainM (s : Str) : Str := s.flatMap plainB
def quotM (s : Str) : Str := [34] ++ plainM s ++ [34]
def sigT : List Str := [[43],[45],[42],[47],[37],[61,61],[33,61],[60],[62],[60,61],[62,61],[38,38],[124,124]]
def tplM (f : Fl) (e : Ex) (l : List Str) (n : Nat) : Str :=
 ((List.range n).map fun k => if e.keys.getD k [] = [116] then plainM (f.ex.getD (e.args.getD k 0) ⟨0,[],[],[],0⟩).t else [36,123] ++ l.getD k [] ++ [125]).flatten
def joinL (l : List Str) (sep : Str) : Str := sep.intercalate l
def showK (f : Fl) (e : Ex) (l : List Str) : Str :=
 let all := joinL l [44,32]
 if e.k = 1 then [110,117,108,108]
 else if e.k = 2 then [116,114,117,101]
 else if e.k = 3 then [102,97,108,115,101]
 else if e.k = 4 ∨ e.k = 9 then e.t
 else if e.k = 5 then quotM e.t
 else if e.k = 6 then [34] ++ tplM f e l l.length ++ [34]
 else if e.k = 7 then [91] ++ all ++ [93]
 else if e.k = 8 then [123] ++ all ++ [125]
 else if e.k = 10 then [40] ++ l.getD 0 [] ++ [41,46] ++ e.t
 else if e.k = 30 then [40] ++ l.getD 0 [] ++ [41,91,42,93,46] ++ e.t
 else if e.k = 11 then [40] ++ l.getD 0 [] ++ [41,91] ++ l.getD 1 [] ++ [93]
 else if e.k = 12 then e.t ++ [40] ++ all ++ [41]
 else if e.k = 13 then [40,45] ++ all ++ [41]
 else if e.k = 14 then [40,33] ++ all ++ [41]
 else if e.k = 28 then [40] ++ l.getD 0 [] ++ [32,63,32] ++ l.getD 1 [] ++ [32,58,32] ++ l.getD 2 [] ++ [41]
 else if e.k = 29 then [91,102,111,114,32] ++ e.t ++ [32,105,110,32] ++ l.getD 0 [] ++ [32,58,32] ++ l.getD 1 [] ++ [93]
 else [40] ++ l.getD 0 [] ++ [32] ++ sigT.getD (e.k - 15).toNat [] ++ [32] ++ l.getD 1 [] ++ [41]
def argT (e : Ex) (s : Nat → Str) (k : Nat) : Str := (if e.k = 8 then [34] ++ plainM (e.keys.getD k []) ++ [34,32,61,32] else []) ++ s (e.args.getD k 0)
def argsT (e : Ex) (s : Nat → Str) : List Str := (List.range e.args.length).map (argT e s)
def exprF : Nat → Fl → Nat → Str
 | 0,_,_ => []
 | n + 1,f,i => match f.ex[i]? with
   | none => []
   | some e => showK f e (argsT e (exprF n f))
def exprM (f : Fl) (i : Nat) : Str := exprF (i + 1) f i
def inM (n : Nat) : Str := (List.replicate n [32,32]).flatten
def labsM (l : List Str) : Str := (l.map fun s => [32,34] ++ plainM s ++ [34]).flatten
def atrM (f : Fl) (n : Nat) (a : Atr) : Str := inM n ++ [32,32] ++ a.n ++ [32,61,32] ++ exprM f a.e ++ [10]
def blockF : Nat → Fl → Nat → Nat → Str
 | 0,_,_,_ => []
 | m + 1,f,i,n => match f.bl[i]? with
   | none => []
   | some b => inM n ++ b.typ ++ labsM b.labels ++ [32,123,10] ++ (b.attrs.map (atrM f n)).flatten ++ (b.blocks.map fun k => blockF m f k (n + 1)).flatten ++ inM n ++ [125,10]
def blockM (f : Fl) (i n : Nat) : Str := blockF (i + 1) f i n
def fileM (f : Fl) : Str := (f.top.map fun i => blockM f i 0).flatten
theorem exprF_eq {f : Fl} (h : ∀ (i : Nat) (e : Ex),f.ex[i]? = some e → ∀ a ∈ e.args,a < i) : ∀ (n i : Nat),i < n → exprF n f i = exprM f i := by
 intro n i
 induction i using Nat.strongRecOn generalizing n with
 | ind i ih =>
   intro hi
   obtain ⟨n,rfl⟩ : ∃ m,n = m + 1 := ⟨n - 1,by omega⟩
   unfold exprM
   simp only [exprF]
   cases he : f.ex[i]? with
   | none => rfl
   | some e =>
     simp only
     congr 1
     unfold argsT
     apply List.map_congr_left
     intro k hk
     rw [List.mem_range] at hk
     unfold argT
     congr 1
     have ha := h i e he (e.args.getD k 0) (by rw [List.getD_eq_getElem?_getD,List.getElem?_eq_getElem hk]; exact List.getElem_mem hk)
     rw [ih _ ha n (by omega),ih _ ha i ha]
theorem expr_eq {f : Fl} (h : ∀ (i : Nat) (e : Ex),f.ex[i]? = some e → ∀ a ∈ e.args,a < i) {i : Nat} {e : Ex} (he : f.ex[i]? = some e) : exprM f i = showK f e (argsT e (exprM f)) := by
 unfold exprM
 simp only [exprF,he]
 congr 1
 unfold argsT
 apply List.map_congr_left
 intro k hk
 rw [List.mem_range] at hk
 unfold argT
 congr 1
 have ha := h i e he (e.args.getD k 0) (by rw [List.getD_eq_getElem?_getD,List.getElem?_eq_getElem hk]; exact List.getElem_mem hk)
 exact exprF_eq h i _ ha
theorem blockF_eq {f : Fl} (h : ∀ (i : Nat) (b : Blk),f.bl[i]? = some b → ∀ a ∈ b.blocks,a < i) : ∀ (n i l : Nat),i < n → blockF n f i l = blockM f i l := by
 intro n i
 induction i using Nat.strongRecOn generalizing n with
 | ind i ih =>
   intro l hi
   obtain ⟨n,rfl⟩ : ∃ m,n = m + 1 := ⟨n - 1,by omega⟩
   unfold blockM
   simp only [blockF]
   cases he : f.bl[i]? with
   | none => rfl
   | some b =>
     simp only
     have e : b.blocks.map (fun k => blockF n f k (l + 1)) = b.blocks.map (fun k => blockF i f k (l + 1)) := by
       apply List.map_congr_left
       intro k hk
       have ha := h i b he k hk
       rw [ih _ ha n _ (by omega),ih _ ha i _ ha]
     rw [e]
theorem block_eq {f : Fl} (h : ∀ (i : Nat) (b : Blk),f.bl[i]? = some b → ∀ a ∈ b.blocks,a < i) {i : Nat} {b : Blk} (he : f.bl[i]? = some b) (n : Nat) :
   blockM f i n = inM n ++ b.typ ++ labsM b.labels ++ [32,123,10] ++ (b.attrs.map (atrM f n)).flatten ++ (b.blocks.map fun k => blockM f k (n + 1)).flatten ++ inM n ++ [125,10] := by
 show blockF (i + 1) f i n = _
 simp only [blockF,he]
 have e : b.blocks.map (fun k => blockF i f k (n + 1)) = b.blocks.map (fun k => blockM f k (n + 1)) := by
   apply List.map_congr_left
   intro k hk
   exact blockF_eq h i k _ (h i b he k hk)
 rw [e]
end Go.Syn
namespace Go.Syn
open Go Go.Eng Go.Lex
inductive PlB (c : UInt8) : Str → Prop where
 | esc (e : UInt8) (h : Lex.escOk e = true) (h2 : (if e = 110 then (10 : UInt8) else if e = 116 then 9 else if e = 114 then 13 else e) = c) : PlB c [92,e]
 | lit (h1 : c ≠ 92) (h2 : c ≠ 34) (h3 : c ≠ 36) (h4 : c ≠ 10) : PlB c [c]
theorem plain_b (c : UInt8) : PlB c (plainB c) := by
 unfold plainB
 by_cases h1 : c = 92 ∨ c = 34 ∨ c = 36
 · rw [if_pos h1]
   rcases h1 with rfl | rfl | rfl <;> exact .esc _ (by decide) (by decide)
 rw [if_neg h1]
 by_cases h2 : c = 10
 · rw [if_pos h2]; subst h2; exact .esc _ (by decide) (by decide)
 rw [if_neg h2]
 by_cases h3 : c = 9
 · rw [if_pos h3]; subst h3; exact .esc _ (by decide) (by decide)
 rw [if_neg h3]
 by_cases h4 : c = 13
 · rw [if_pos h4]; subst h4; exact .esc _ (by decide) (by decide)
 rw [if_neg h4]
 exact .lit (fun e => h1 (.inl e)) (fun e => h1 (.inr (.inl e))) (fun e => h1 (.inr (.inr e))) h2
theorem plain_cons (c : UInt8) (s : Str) : plainM (c :: s) = plainB c ++ plainM s := rfl
end Go.Syn
namespace Go.Proofs.YtofhaneggcpdaaaGreatDoor
open Go Go.Eng Go.RowKit
set_option maxRecDepth 100000
section
variable [HX]
theorem range_str {l : Str} {w : World} {K : Value → World → Prop} (hK : K (.pointer (some ⟨w.heap.size,0,none⟩)) (w.alloc (.stringIter (ofL l) 0))) : semE Tryz.prog (Instr.range 9 (str l)) w K := by
 have hT : Tryz.prog.underlying 9 = some .string := by kernel_rfl
 have hr : (Instr.range 9 (str l)).run Tryz.prog w = .ok (.pointer (some ⟨w.heap.size,0,none⟩)) (w.alloc (.stringIter (ofL l) 0)) := by
   simp [Instr.range,run_bind,run_underlying' hT,run_pure,newObj,Sem.run]
 unfold semE
 rw [hr]
 exact hK
theorem setObj_chg' {w : World} {r : Nat} {o : Obj} (h : r < w.heap.size) : Chg (· = r) w { w with heap := w.heap.setIfInBounds r o } :=
 ⟨rfl,rfl,rfl,by simp,fun k _ hk => by
   show (w.heap.setIfInBounds r o)[k]? = _
   rw [Array.getElem?_setIfInBounds_ne (by omega)]⟩
theorem next_str {r pos : Nat} {l : Str} {T : TypeId} {w : World} {K : Value → World → Prop} (hw : w.heap[r]? = some (.stringIter (ofL l) pos))
   (h0 : l.length ≤ pos → K (.tuple #[.bool false]) w)
   (h1 : pos < l.length → ∀ w',w'.heap[r]? = some (.stringIter (ofL l) (pos + (Utf8.decode (ofL l) pos).2)) → Chg (· = r) w w' → w'.heap.size = w.heap.size → K (.tuple #[.bool true,i64 pos,.int .i32 (Utf8.decode (ofL l) pos).1]) w') :
   semE Tryz.prog (Instr.next (.pointer (some ⟨r,0,none⟩)) true T) w K := by
 have hg : (getObj r).run Tryz.prog w = .ok (.stringIter (ofL l) pos) w := by simp [getObj,Sem.run,hw]
 have hlt : r < w.heap.size := (Array.getElem?_eq_some_iff.1 hw).1
 unfold semE
 simp only [Instr.next,run_bind,hg,ofL_size]
 by_cases hp : pos < l.length
 · have hset : (setObj r (.stringIter (ofL l) (pos + (Utf8.decode (ofL l) pos).2))).run Tryz.prog w = .ok () { w with heap := w.heap.setIfInBounds r (.stringIter (ofL l) (pos + (Utf8.decode (ofL l) pos).2)) } := by simp [setObj,Sem.run,hw]
   rw [if_pos hp]
   simp only [run_bind,hset,run_pure]
   exact h1 hp _ (by simp [hlt]) (setObj_chg' hlt) (by simp)
 · rw [if_neg hp]
   simp only [run_pure]
   exact h0 (by omega)
end
end Go.Proofs.YtofhaneggcpdaaaGreatDoor

namespace Go.Proofs.YtofhaneggcpdaaaGreatDoor
open Go Go.Eng
set_option maxRecDepth 100000
variable [HX]
def plan6 : Plan := { js := [(87005,⟨[103],[],101⟩),(64,⟨[10,11],[2,10,11],13⟩),(81006,⟨[92],[],88⟩),(71003,⟨[73],[],72⟩),(57,⟨[10,11,12],[2],10⟩),(39003,⟨[35],[],34⟩),(26,⟨[26],[2,7,8],26⟩)],ds := [(47,⟨[0,1,2,3,4,5,6,7,8,9,10,11,12],[[],[0],[0,1],[0,1,2],[],[4],[],[4,5,6],[4,5,6,7],[4,5,6,7,8],[4,5,6,7,8,9],[0,1,2,3,4,5,6,7,8,9,10],[0,1,2,3,4,5,6,7,8,9,10,11],[0,1,2,3,4,5,6,7,8,9,10,11,12]]⟩)] }
def W6 (v0 : Value) (w : World) (K : Value → World → Prop) : Prop :=
 callF Tryz.prog 12 [] w fun t13 w1 =>
 unW .not t13 fun t14 =>
 condW t14 (
 K (.bool false) w1) (
 callF Tryz.prog 8 [v0] w1 fun t17 w2 =>
 callF Tryz.prog 9 [t17] w2 fun t18 w3 =>
 extW 0 t18 fun t19 =>
 extW 1 t18 fun t20 =>
 allocW 28 [(.slice none 0 0),(.slice none 0 0),(.slice none 0 0)] w3 fun t3 w4 =>
 stW 3 t3 t19 w4 fun w5 =>
 eqW .ptr true t20 (.pointer none) fun t22 =>
 condW t22 (
 K (.bool true) w5) (
 allocW 52 (List.replicate 30 (.int .i64 0)) w5 fun t5 w6 =>
 allocW 52 (List.replicate 30 (.int .i64 0)) w6 fun t6 w7 =>
 ldW true 3 t3 w7 fun t23 =>
 callF Tryz.prog 15 [t23] w7 fun t24 w8 =>
 lenlW t24 fun t25 =>
 LoopW [(.int .i64 0)] w8 fun s9 _ w10 L9 =>
 binW .lss (s9.getD 0 undef) t25 fun t27 =>
 condW t27 (
 ixaW none 1 t24 (s9.getD 0 undef) fun t29 =>
 ldW false 1 t29 w10 fun t30 =>
 binW .lss t30 (.int .i64 0) fun t32 =>
 GdW (isB t32 false) [undef] w10 (fun J11 =>
 binW .gtr t30 (.int .i64 24) fun t35 =>
 J11 [t35] w10)
 fun s11 _ w12 =>
 pickW t32 (.bool true) (s11.getD 0 undef) fun t36 =>
 condW t36 (
 K (.bool false) w12) (
 ixaW (some 30) 1 t5 t30 fun t38 =>
 ldW false 1 t38 w12 fun t39 =>
 binW .add t39 (.int .i64 2) fun t40 =>
 ixaW (some 30) 1 t5 t30 fun t41 =>
 stW 1 t41 t40 w12 fun w13 =>
 binW .add t30 (.int .i64 1) fun t43 =>
 ixaW (some 30) 1 t5 t43 fun t44 =>
 ldW false 1 t44 w13.drew fun t45 =>
 fldW 1 t3 fun t46 =>
 ldW false 1 t46 w13.drew fun t47 =>
 ixaW none 5 t47 (s9.getD 0 undef) fun t49 =>
 fldW 2 t49 fun t50 =>
 ldW false 1 t50 w13.drew fun t51 =>
 lenlW t51 fun t52 =>
 binW .add t45 t52 fun t53 =>
 ixaW (some 30) 1 t5 t43 fun t54 =>
 stW 1 t54 t53 w13.drew fun w14 =>
 binW .add (s9.getD 0 undef) (.int .i64 1) fun t55 =>
 L9 [t55] w14)) (
 ldW true 3 t3 w10 fun t56 =>
 callF Tryz.prog 13 [t56] w10 fun t57 w15 =>
 LoopW [(.int .i64 0),(.int .i64 0),(.int .i64 0)] w15 fun s16 _ w17 L16 =>
 lensW t57 fun t60 =>
 binW .lss (s16.getD 2 undef) t60 fun t61 =>
 condW t61 (
 JoinW (fun J18 =>
 ixsW t57 (s16.getD 2 undef) fun t66 =>
 binW .eql t66 (.int .u8 10) fun t67 =>
 condW t67 (
 binW .rem (s16.getD 0 undef) (.int .i64 2) fun t69 =>
 binW .neq t69 (.int .i64 0) fun t70 =>
 GdW (isB t70 false) [undef] w17 (fun J19 =>
 binW .gtr (s16.getD 0 undef) (.int .i64 50) fun t73 =>
 J19 [t73] w17)
 fun s19 _ w20 =>
 pickW t70 (.bool true) (s19.getD 0 undef) fun t74 =>
 condW t74 (
 K (.bool false) w20) (
 binW .quo (s16.getD 0 undef) (.int .i64 2) fun t76 =>
 ixaW (some 30) 1 t6 t76 fun t77 =>
 ldW false 1 t77 w20 fun t78 =>
 binW .add t78 (.int .i64 1) fun t79 =>
 ixaW (some 30) 1 t6 t76 fun t80 =>
 stW 1 t80 t79 w20 fun w21 =>
 binW .add (s16.getD 2 undef) (.int .i64 1) fun t82 =>
 J18 [(.int .i64 0),t82] w21)) (
 ixsW t57 (s16.getD 2 undef) fun t85 =>
 binW .eql t85 (.int .u8 32) fun t86 =>
 GdW (isB t86 true) [undef] w17 (fun J22 =>
 binW .sub (s16.getD 2 undef) (s16.getD 1 undef) fun t91 =>
 binW .eql (s16.getD 0 undef) t91 fun t92 =>
 J22 [t92] w17)
 fun s22 _ w23 =>
 pickW t86 (s22.getD 0 undef) (.bool false) fun t93 =>
 condW t93 (
 binW .add (s16.getD 0 undef) (.int .i64 1) fun t95 =>
 J18 [t95,(s16.getD 1 undef)] w23) (
 J18 [(s16.getD 0 undef),(s16.getD 1 undef)] w23)))
 fun s18 _ w24 =>
 binW .add (s16.getD 2 undef) (.int .i64 1) fun t63 =>
 L16 [(s18.getD 0 undef),(s18.getD 1 undef),t63] w24) (
 lensW t57 fun t98 =>
 binW .eql (s16.getD 1 undef) t98 fun t99 =>
 GdW (isB t99 true) [undef] w17 (fun J25 =>
 ldW true 30 t5 w17 fun t101 =>
 ldW true 30 t6 w17 fun t102 =>
 eqQ Tryz.prog .eql 52 false false t101 t102 w17 fun t103 =>
 J25 [t103] w17)
 fun s25 _ w26 =>
 pickW t99 (s25.getD 0 undef) (.bool false) fun t104 =>
 K t104 w26))))
theorem W6_ok {v0 : Value} {w : World} {K : Value → World → Prop} (h : W6 v0 w K) : callF Tryz.prog 6 [v0] w K :=
 tie _ 6 Tryz.f6 plan6 _ w K 1 _ rfl mixed Tryz.func6 (by kernel_rfl) (by kernel_rfl) Tryz.call6 h
def plan12 : Plan := { js := [(5005,⟨[22],[],20⟩),(5010,⟨[17],[],15⟩),(5015,⟨[12],[],10⟩)],ds := [] }
def W12 (w : World) (K : Value → World → Prop) : Prop :=
 callF Tryz.prog 9 [(.string (ofL [97,32,123,120,61,49,43,121,46,122,42,50,125]))] w fun t4 w1 =>
 extW 0 t4 fun t5 =>
 extW 1 t4 fun t6 =>
 allocW 28 [(.slice none 0 0),(.slice none 0 0),(.slice none 0 0)] w1 fun t1 w2 =>
 stW 3 t1 t5 w2 fun w3 =>
 eqW .ptr false t6 (.pointer none) fun t8 =>
 GdW (isB t8 true) [undef] w3 (fun J4 =>
 ldW true 3 t1 w3 fun t10 =>
 callF Tryz.prog 13 [t10] w3 fun t11 w5 =>
 binW .eql t11 (.string (ofL [97,32,123,10,32,32,120,32,61,32,40,49,32,43,32,40,40,121,41,46,122,32,42,32,50,41,41,10,125,10])) fun t12 =>
 J4 [t12] w5)
 fun s4 _ w6 =>
 pickW t8 (s4.getD 0 undef) (.bool false) fun t13 =>
 GdW (isB t13 true) [undef] w6 (fun J7 =>
 ldW true 3 t1 w6 fun t15 =>
 callF Tryz.prog 32 [t15,(.int .i64 0)] w6 fun t16 w8 =>
 binW .eql t16 (.string (ofL [49])) fun t17 =>
 J7 [t17] w8)
 fun s7 _ w9 =>
 pickW t13 (s7.getD 0 undef) (.bool false) fun t18 =>
 GdW (isB t18 true) [undef] w9 (fun J10 =>
 ldW true 3 t1 w9 fun t20 =>
 callF Tryz.prog 32 [t20,(.int .i64 99)] w9 fun t21 w11 =>
 binW .eql t21 (.string (ofL [])) fun t22 =>
 J10 [t22] w11)
 fun s10 _ w12 =>
 pickW t18 (s10.getD 0 undef) (.bool false) fun t23 =>
 K t23 w12
theorem W12_ok {w : World} {K : Value → World → Prop} (h : W12 w K) : callF Tryz.prog 12 [] w K :=
 tie _ 12 Tryz.f12 plan12 _ w K 0 _ rfl mixed Tryz.func12 (by kernel_rfl) (by kernel_rfl) Tryz.call12 h
def plan13 : Plan := { js := [(8,⟨[9],[5],9⟩)],ds := [] }
def W13 (v0 : Value) (w : World) (K : Value → World → Prop) : Prop :=
 boxW 28 v0 w fun t1 w1 =>
 allocW 84 [(.pointer none),(.slice none 0 0)] w1 fun t3 w2 =>
 fldW 2 t1 fun t6 =>
 ldW false 1 t6 w2 fun t7 =>
 lenlW t7 fun t8 =>
 LoopW [(.int .i64 0)] w2 fun s3 _ w4 L3 =>
 binW .lss (s3.getD 0 undef) t8 fun t10 =>
 condW t10 (
 ixaW none 1 t7 (s3.getD 0 undef) fun t11 =>
 ldW false 1 t11 w4 fun t12 =>
 ldW true 3 t1 w4 fun t13 =>
 callF Tryz.prog 33 [t3,t13,t12,(.int .i64 0)] w4 fun t15 w5 =>
 binW .add (s3.getD 0 undef) (.int .i64 1) fun t16 =>
 L3 [t16] w5) (
 callF Tryz.prog 34 [t3] w4 fun t17 w6 =>
 K t17 w6)
theorem W13_ok {v0 : Value} {w : World} {K : Value → World → Prop} (h : W13 v0 w K) : callF Tryz.prog 13 [v0] w K :=
 tie _ 13 Tryz.f13 plan13 _ w K 1 _ rfl mixed Tryz.func13 (by kernel_rfl) (by kernel_rfl) Tryz.call13 h
def plan15 : Plan := { js := [(54,⟨[49],[9],49⟩),(42,⟨[7],[],4⟩),(25,⟨[26],[6],26⟩),(8,⟨[16],[4],16⟩)],ds := [] }
def W15 (v0 : Value) (w : World) (K : Value → World → Prop) : Prop :=
 boxW 28 v0 w fun t1 w1 =>
 fldW 1 t1 fun t10 =>
 ldW false 1 t10 w1 fun t11 =>
 lenlW t11 fun t12 =>
 semE Tryz.prog (Instr.makeSlice 26 t12 t12) w1 fun t13 w2 =>
 lenlW t13 fun t15 =>
 LoopW [(.int .i64 0)] w2 fun s3 _ w4 L3 =>
 binW .lss (s3.getD 0 undef) t15 fun t17 =>
 condW t17 (
 ixaW none 1 t13 (s3.getD 0 undef) fun t21 =>
 stW 1 t21 (.int .i64 (-1)) w4 fun w5 =>
 binW .add (s3.getD 0 undef) (.int .i64 1) fun t22 =>
 L3 [t22] w5) (
 fldW 2 t1 fun t23 =>
 ldW false 1 t23 w4 fun t24 =>
 lenlW t24 fun t25 =>
 LoopW [(.int .i64 0)] w4 fun s6 _ w7 L6 =>
 binW .lss (s6.getD 0 undef) t25 fun t27 =>
 condW t27 (
 ixaW none 1 t24 (s6.getD 0 undef) fun t28 =>
 ldW false 1 t28 w7 fun t29 =>
 ixaW none 1 t13 t29 fun t32 =>
 stW 1 t32 (.int .i64 0) w7 fun w8 =>
 binW .add (s6.getD 0 undef) (.int .i64 1) fun t33 =>
 L6 [t33] w8) (
 fldW 1 t1 fun t34 =>
 ldW false 1 t34 w7 fun t35 =>
 lenlW t35 fun t36 =>
 binW .sub t36 (.int .i64 1) fun t37 =>
 LoopW [t37] w7 fun s9 _ w10 L9 =>
 binW .geq (s9.getD 0 undef) (.int .i64 0) fun t39 =>
 condW t39 (
 fldW 1 t1 fun t42 =>
 ldW false 1 t42 w10 fun t43 =>
 ixaW none 5 t43 (s9.getD 0 undef) fun t45 =>
 fldW 3 t45 fun t46 =>
 ldW false 1 t46 w10 fun t47 =>
 lenlW t47 fun t48 =>
 LoopW [(.int .i64 0)] w10 fun s11 _ w12 L11 =>
 binW .lss (s11.getD 0 undef) t48 fun t50 =>
 condW t50 (
 ixaW none 1 t47 (s11.getD 0 undef) fun t51 =>
 ldW false 1 t51 w12 fun t52 =>
 ixaW none 1 t13 (s9.getD 0 undef) fun t57 =>
 ldW false 1 t57 w12 fun t58 =>
 binW .add t58 (.int .i64 1) fun t59 =>
 ixaW none 1 t13 t52 fun t60 =>
 stW 1 t60 t59 w12 fun w13 =>
 binW .add (s11.getD 0 undef) (.int .i64 1) fun t61 =>
 L11 [t61] w13) (
 binW .sub (s9.getD 0 undef) (.int .i64 1) fun t41 =>
 L9 [t41] w12)) (
 K t13 w10)))
theorem W15_ok {v0 : Value} {w : World} {K : Value → World → Prop} (h : W15 v0 w K) : callF Tryz.prog 15 [v0] w K :=
 tie _ 15 Tryz.f15 plan15 _ w K 1 _ rfl mixed Tryz.func15 (by kernel_rfl) (by kernel_rfl) Tryz.call15 h
def plan32 : Plan := { js := [(63,⟨[64],[],58⟩),(31,⟨[9],[9],29⟩),(18,⟨[6,28],[6,7,8,9],28⟩),(4006,⟨[18],[],14⟩)],ds := [(147,⟨[0,1,2,3,4,5,6,8,9,10,11,12,13,14,15],[[],[0],[0,1],[0,1,2],[0,1,2,3],[],[5],[5,6],[0,1,2,3,4,5,6,7],[0,1,2,3,4,5,6,7,8],[],[10],[10,11],[0,1,2,3,4,5,6,7,8,9,10,11,12],[0,1,2,3,4,5,6,7,8,9,10,11,12,13],[0,1,2,3,4,5,6,7,8,9,10,11,12,13,14]]⟩),(143,⟨[0,1,2,3,4,5,6,7,8,9,10,11,12,13,14],[[],[0],[0,1],[0,1,2],[],[4],[4,5],[0,1,2,3,4,5,6],[0,1,2,3,4,5,6,7],[],[9],[9,10],[0,1,2,3,4,5,6,7,8,9,10,11],[0,1,2,3,4,5,6,7,8,9,10,11,12],[0,1,2,3,4,5,6,7,8,9,10,11,12,13]]⟩),(137,⟨[0,1,2,3,4,5,6,7,8,9,10,11,12,13,14,15],[[],[0],[0,1],[0,1,2],[0,1,2,3],[],[5],[5,6],[0,1,2,3,4,5,6,7],[0,1,2,3,4,5,6,7,8],[],[10],[10,11],[0,1,2,3,4,5,6,7,8,9,10,11,12],[0,1,2,3,4,5,6,7,8,9,10,11,12,13],[0,1,2,3,4,5,6,7,8,9,10,11,12,13,14]]⟩),(113,⟨[0,1,2,3,4,5,6,7,8,9,10],[[],[0],[0,1],[0,1,2],[0,1,2,3],[],[5],[5,6],[0,1,2,3,4,5,6,7],[0,1,2,3,4,5,6,7,8],[0,1,2,3,4,5,6,7,8,9]]⟩),(107,⟨[0,1,2,3,4,5,6,7,8],[[],[0],[0,1],[0,1,2],[0,1,2,3],[],[5],[0,1,2,3,4,5,6],[0,1,2,3,4,5,6,7]]⟩),(101,⟨[0,1,2,3,4,5,6,7,8],[[],[0],[0,1],[0,1,2],[0,1,2,3],[],[5],[0,1,2,3,4,5,6],[0,1,2,3,4,5,6,7]]⟩)] }
def W32 (v0 v1 : Value) (w : World) (K : Value → World → Prop) : Prop :=
 boxW 28 v0 w fun t2 w1 =>
 binW .lss v1 (.int .i64 0) fun t12 =>
 GdW (isB t12 false) [undef] w1 (fun J2 =>
 fldW 0 t2 fun t15 =>
 ldW false 1 t15 w1 fun t16 =>
 lenlW t16 fun t17 =>
 binW .geq v1 t17 fun t18 =>
 J2 [t18] w1)
 fun s2 _ w3 =>
 pickW t12 (.bool true) (s2.getD 0 undef) fun t19 =>
 condW t19 (
 K (.string (ofL [])) w3) (
 fldW 0 t2 fun t20 =>
 ldW false 1 t20 w3 fun t21 =>
 ixaW none 5 t21 v1 fun t23 =>
 ldW true 5 t23 w3 fun t24 =>
 allocW 35 [(.int .i64 0),(.string (ofL [])),(.slice none 0 0),(.slice none 0 0),(.int .i64 0)] w3 fun t5 w4 =>
 stW 5 t5 t24 w4 fun w5 =>
 fldW 2 t5 fun t25 =>
 ldW false 1 t25 w5 fun t26 =>
 lenlW t26 fun t27 =>
 LoopW [(.slice none 0 0),(.int .i64 0)] w5 fun s6 _ w7 L6 =>
 binW .lss (s6.getD 1 undef) t27 fun t29 =>
 condW t29 (
 ixaW none 1 t26 (s6.getD 1 undef) fun t31 =>
 ldW false 1 t31 w7 fun t32 =>
 ldW true 3 t2 w7 fun t33 =>
 callF Tryz.prog 32 [t33,t32] w7 fun t35 w8 =>
 JoinW (fun J9 =>
 fldW 0 t5 fun t36 =>
 ldW false 1 t36 w8 fun t37 =>
 binW .eql t37 (.int .i64 8) fun t38 =>
 condW t38 (
 fldW 3 t5 fun t39 =>
 ldW false 1 t39 w8 fun t40 =>
 ixaW none 1 t40 (s6.getD 1 undef) fun t42 =>
 ldW false 1 t42 w8 fun t43 =>
 callF Tryz.prog 60 [t43] w8 fun t44 w10 =>
 binW .add (.string (ofL [34])) t44 fun t45 =>
 binW .add t45 (.string (ofL [34,32,61,32])) fun t46 =>
 binW .add t46 t35 fun t48 =>
 J9 [t48] w10) (
 J9 [t35] w8))
 fun s9 _ w11 =>
 bslW 9 1 [(.string (ofL []))] [(0,1,(s9.getD 0 undef))] w11 fun t51 w12 =>
 semE Tryz.prog (Builtin.append_ #[33,33] 33 #[(s6.getD 0 undef),t51]) w12 fun t52 w13 =>
 binW .add (s6.getD 1 undef) (.int .i64 1) fun t53 =>
 L6 [t52,t53] w13) (
 callF Tryz.prog 61 [(s6.getD 0 undef),(.string (ofL [44,32]))] w7 fun t55 w14 =>
 fldW 0 t5 fun t56 =>
 ldW false 1 t56 w14 fun t57 =>
 binW .eql t57 (.int .i64 1) fun t59 =>
 condW t59 (
 K (.string (ofL [110,117,108,108])) w14) (
 binW .eql t57 (.int .i64 2) fun t61 =>
 condW t61 (
 K (.string (ofL [116,114,117,101])) w14) (
 binW .eql t57 (.int .i64 3) fun t63 =>
 condW t63 (
 K (.string (ofL [102,97,108,115,101])) w14) (
 JoinW (fun J15 =>
 binW .eql t57 (.int .i64 4) fun t65 =>
 condW t65 (
 J15 [t65] w14) (
 binW .eql t57 (.int .i64 9) fun t66 =>
 J15 [t66] w14))
 fun s15 _ w16 =>
 condW (s15.getD 0 undef) (
 fldW 1 t5 fun t67 =>
 ldW false 1 t67 w16 fun t68 =>
 K t68 w16) (
 binW .eql t57 (.int .i64 5) fun t70 =>
 condW t70 (
 fldW 1 t5 fun t71 =>
 ldW false 1 t71 w16 fun t72 =>
 callF Tryz.prog 60 [t72] w16 fun t73 w17 =>
 binW .add (.string (ofL [34])) t73 fun t74 =>
 binW .add t74 (.string (ofL [34])) fun t75 =>
 K t75 w17) (
 binW .eql t57 (.int .i64 6) fun t77 =>
 condW t77 (
 ldW true 3 t2 w16 fun t78 =>
 ldW true 5 t5 w16 fun t79 =>
 callF Tryz.prog 62 [t78,t79,(s6.getD 0 undef)] w16 fun t81 w18 =>
 K t81 w18) (
 binW .eql t57 (.int .i64 7) fun t83 =>
 condW t83 (
 binW .add (.string (ofL [91])) t55 fun t85 =>
 binW .add t85 (.string (ofL [93])) fun t86 =>
 K t86 w16) (
 binW .eql t57 (.int .i64 8) fun t88 =>
 condW t88 (
 binW .add (.string (ofL [123])) t55 fun t90 =>
 binW .add t90 (.string (ofL [125])) fun t91 =>
 K t91 w16) (
 binW .eql t57 (.int .i64 10) fun t93 =>
 condW t93 (
 ixaW none 1 (s6.getD 0 undef) (.int .i64 0) fun t95 =>
 ldW false 1 t95 w16.drew fun t96 =>
 binW .add (.string (ofL [40])) t96 fun t97 =>
 binW .add t97 (.string (ofL [41,46])) fun t98 =>
 fldW 1 t5 fun t99 =>
 ldW false 1 t99 w16.drew fun t100 =>
 binW .add t98 t100 fun t101 =>
 K t101 w16.drew) (
 binW .eql t57 (.int .i64 30) fun t103 =>
 condW t103 (
 ixaW none 1 (s6.getD 0 undef) (.int .i64 0) fun t105 =>
 ldW false 1 t105 w16.drew fun t106 =>
 binW .add (.string (ofL [40])) t106 fun t107 =>
 binW .add t107 (.string (ofL [41,91,42,93,46])) fun t108 =>
 fldW 1 t5 fun t109 =>
 ldW false 1 t109 w16.drew fun t110 =>
 binW .add t108 t110 fun t111 =>
 K t111 w16.drew) (
 binW .eql t57 (.int .i64 11) fun t113 =>
 condW t113 (
 ixaW none 1 (s6.getD 0 undef) (.int .i64 0) fun t115 =>
 ldW false 1 t115 w16.drew fun t116 =>
 binW .add (.string (ofL [40])) t116 fun t117 =>
 binW .add t117 (.string (ofL [41,91])) fun t118 =>
 ixaW none 1 (s6.getD 0 undef) (.int .i64 1) fun t120 =>
 ldW false 1 t120 w16.drew fun t121 =>
 binW .add t118 t121 fun t122 =>
 binW .add t122 (.string (ofL [93])) fun t123 =>
 K t123 w16.drew) (
 binW .eql t57 (.int .i64 12) fun t125 =>
 condW t125 (
 fldW 1 t5 fun t126 =>
 ldW false 1 t126 w16 fun t127 =>
 binW .add t127 (.string (ofL [40])) fun t128 =>
 binW .add t128 t55 fun t130 =>
 binW .add t130 (.string (ofL [41])) fun t131 =>
 K t131 w16) (
 binW .eql t57 (.int .i64 13) fun t133 =>
 condW t133 (
 binW .add (.string (ofL [40,45])) t55 fun t135 =>
 binW .add t135 (.string (ofL [41])) fun t136 =>
 K t136 w16) (
 binW .eql t57 (.int .i64 14) fun t138 =>
 condW t138 (
 binW .add (.string (ofL [40,33])) t55 fun t140 =>
 binW .add t140 (.string (ofL [41])) fun t141 =>
 K t141 w16) (
 binW .eql t57 (.int .i64 28) fun t143 =>
 condW t143 (
 ixaW none 1 (s6.getD 0 undef) (.int .i64 0) fun t145 =>
 ldW false 1 t145 w16.drew fun t146 =>
 binW .add (.string (ofL [40])) t146 fun t147 =>
 binW .add t147 (.string (ofL [32,63,32])) fun t148 =>
 ixaW none 1 (s6.getD 0 undef) (.int .i64 1) fun t150 =>
 ldW false 1 t150 w16.drew fun t151 =>
 binW .add t148 t151 fun t152 =>
 binW .add t152 (.string (ofL [32,58,32])) fun t153 =>
 ixaW none 1 (s6.getD 0 undef) (.int .i64 2) fun t155 =>
 ldW false 1 t155 w16.drew fun t156 =>
 binW .add t153 t156 fun t157 =>
 binW .add t157 (.string (ofL [41])) fun t158 =>
 K t158 w16.drew) (
 binW .eql t57 (.int .i64 29) fun t160 =>
 condW t160 (
 fldW 1 t5 fun t161 =>
 ldW false 1 t161 w16.drew fun t162 =>
 binW .add (.string (ofL [91,102,111,114,32])) t162 fun t163 =>
 binW .add t163 (.string (ofL [32,105,110,32])) fun t164 =>
 ixaW none 1 (s6.getD 0 undef) (.int .i64 0) fun t166 =>
 ldW false 1 t166 w16.drew fun t167 =>
 binW .add t164 t167 fun t168 =>
 binW .add t168 (.string (ofL [32,58,32])) fun t169 =>
 ixaW none 1 (s6.getD 0 undef) (.int .i64 1) fun t171 =>
 ldW false 1 t171 w16.drew fun t172 =>
 binW .add t169 t172 fun t173 =>
 binW .add t173 (.string (ofL [93])) fun t174 =>
 K t174 w16.drew) (
 ixaW none 1 (s6.getD 0 undef) (.int .i64 0) fun t176 =>
 ldW false 1 t176 w16.drew fun t177 =>
 binW .add (.string (ofL [40])) t177 fun t178 =>
 binW .add t178 (.string (ofL [32])) fun t179 =>
 fldW 0 t5 fun t180 =>
 ldW false 1 t180 w16.drew fun t181 =>
 ixaW none 1 (s6.getD 0 undef) (.int .i64 1) fun t186 =>
 ldW false 1 t186 w16.drew fun t187 =>
 callF Tryz.prog 63 [t181] w16.drew fun t182 w19 =>
 (ldW false 1 t186 w19 fun x => x = t187) ∧
 (ldW false 1 t176 w19 fun x => x = t177) ∧
 binW .add t179 t182 fun t183 =>
 binW .add t183 (.string (ofL [32])) fun t184 =>
 binW .add t184 t187 fun t188 =>
 binW .add t188 (.string (ofL [41])) fun t189 =>
 K t189 w19))))))))))))))))))
theorem W32_ok {v0 v1 : Value} {w : World} {K : Value → World → Prop} (h : W32 v0 v1 w K) : callF Tryz.prog 32 [v0,v1] w K :=
 tie _ 32 Tryz.f32 plan32 _ w K 2 _ rfl mixed Tryz.func32 (by kernel_rfl) (by kernel_rfl) Tryz.call32 h
def plan33 : Plan := { js := [(48,⟨[70],[15],70⟩),(31,⟨[48],[13],48⟩),(12,⟨[32],[11],32⟩)],ds := [(42,⟨[0,1,2,3,4,5,6,7,8,9,11,12],[[],[],[1],[],[3],[1,2,3,4],[1,2,3,4,5],[],[],[8],[7,8,9],[1,2,3,4,5,6,7,8,9,10],[1,2,3,4,5,6,7,8,9,10,11],[0,1,2,3,4,5,6,7,8,9,10,11,12]]⟩)] }
def W33 (v0 v1 v2 v3 : Value) (w : World) (K : Value → World → Prop) : Prop :=
 boxW 28 v1 w fun t5 w1 =>
 fldW 1 t5 fun t16 =>
 ldW false 1 t16 w1 fun t17 =>
 ixaW none 5 t17 v2 fun t19 =>
 ldW true 5 t19 w1 fun t20 =>
 allocW 38 [(.string (ofL [])),(.slice none 0 0),(.slice none 0 0),(.slice none 0 0),(.int .i64 0)] w1 fun t8 w2 =>
 stW 5 t8 t20 w2 fun w3 =>
 callF Tryz.prog 64 [(.string (ofL [32,32])),v3] w3 fun t22 w4 =>
 fldW 0 t8 fun t25 =>
 ldW false 1 t25 w4 fun t26 =>
 binW .add t22 t26 fun t27 =>
 callF Tryz.prog 65 [v0,t27] w4 fun t28 w5 =>
 fldW 1 t8 fun t29 =>
 ldW false 1 t29 w5 fun t30 =>
 lenlW t30 fun t31 =>
 LoopW [(.int .i64 0)] w5 fun s6 _ w7 L6 =>
 binW .lss (s6.getD 0 undef) t31 fun t33 =>
 condW t33 (
 ixaW none 1 t30 (s6.getD 0 undef) fun t34 =>
 ldW false 1 t34 w7 fun t35 =>
 callF Tryz.prog 60 [t35] w7 fun t38 w8 =>
 binW .add (.string (ofL [32,34])) t38 fun t39 =>
 binW .add t39 (.string (ofL [34])) fun t40 =>
 callF Tryz.prog 65 [v0,t40] w8 fun t41 w9 =>
 binW .add (s6.getD 0 undef) (.int .i64 1) fun t42 =>
 L6 [t42] w9) (
 callF Tryz.prog 65 [v0,(.string (ofL [32,123,10]))] w7 fun t44 w10 =>
 fldW 2 t8 fun t45 =>
 ldW false 1 t45 w10 fun t46 =>
 lenlW t46 fun t47 =>
 LoopW [(.int .i64 0)] w10 fun s11 _ w12 L11 =>
 binW .lss (s11.getD 0 undef) t47 fun t49 =>
 condW t49 (
 ixaW none 3 t46 (s11.getD 0 undef) fun t50 =>
 ldW true 3 t50 w12 fun t51 =>
 allocW 40 [(.string (ofL [])),(.int .i64 0),(.int .i64 0)] w12 fun t13 w13 =>
 stW 3 t13 t51 w13 fun w14 =>
 binW .add t22 (.string (ofL [32,32])) fun t54 =>
 fldW 0 t13 fun t55 =>
 ldW false 1 t55 w14.drew fun t56 =>
 binW .add t54 t56 fun t57 =>
 binW .add t57 (.string (ofL [32,61,32])) fun t58 =>
 ldW true 3 t5 w14.drew fun t59 =>
 fldW 1 t13 fun t60 =>
 ldW false 1 t60 w14.drew fun t61 =>
 callF Tryz.prog 32 [t59,t61] w14.drew fun t62 w15 =>
 (ldW false 1 t55 w15 fun x => x = t56) ∧
 binW .add t58 t62 fun t63 =>
 binW .add t63 (.string (ofL [10])) fun t64 =>
 callF Tryz.prog 65 [v0,t64] w15 fun t65 w16 =>
 binW .add (s11.getD 0 undef) (.int .i64 1) fun t66 =>
 L11 [t66] w16) (
 fldW 3 t8 fun t67 =>
 ldW false 1 t67 w12 fun t68 =>
 lenlW t68 fun t69 =>
 LoopW [(.int .i64 0)] w12 fun s17 _ w18 L17 =>
 binW .lss (s17.getD 0 undef) t69 fun t71 =>
 condW t71 (
 ixaW none 1 t68 (s17.getD 0 undef) fun t72 =>
 ldW false 1 t72 w18 fun t73 =>
 ldW true 3 t5 w18 fun t75 =>
 binW .add v3 (.int .i64 1) fun t78 =>
 callF Tryz.prog 33 [v0,t75,t73,t78] w18 fun t79 w19 =>
 binW .add (s17.getD 0 undef) (.int .i64 1) fun t80 =>
 L17 [t80] w19) (
 binW .add t22 (.string (ofL [125,10])) fun t83 =>
 callF Tryz.prog 65 [v0,t83] w18 fun t84 w20 =>
 K (.tuple #[]) w20)))
theorem W33_ok {v0 v1 v2 v3 : Value} {w : World} {K : Value → World → Prop} (h : W33 v0 v1 v2 v3 w K) : callF Tryz.prog 33 [v0,v1,v2,v3] w K :=
 tie _ 33 Tryz.f33 plan33 _ w K 4 _ rfl mixed Tryz.func33 (by kernel_rfl) (by kernel_rfl) Tryz.call33 h
def plan60 : Plan := { js := [(18,⟨[5],[5],8⟩),(22,⟨[12],[],12⟩),(8,⟨[],[5],8⟩)],ds := [] }
def W60 (v0 : Value) (w : World) (K : Value → World → Prop) : Prop :=
 allocW 84 [(.pointer none),(.slice none 0 0)] w fun t3 w1 =>
 semE Tryz.prog (Instr.range 9 v0) w1 fun t7 w2 =>
 LoopW [] w2 fun s3 _ w4 L3 =>
 semE Tryz.prog (Instr.next t7 true 0) w4 fun t8 w5 =>
 extW 0 t8 fun t9 =>
 condW t9 (
 extW 2 t8 fun t10 =>
 JoinW (fun J6 =>
 JoinW (fun J7 =>
 binW .eql t10 (.int .i32 92) fun t13 =>
 condW t13 (
 J7 [t13] w5) (
 binW .eql t10 (.int .i32 34) fun t14 =>
 condW t14 (
 J7 [t14] w5) (
 binW .eql t10 (.int .i32 36) fun t15 =>
 J7 [t15] w5)))
 fun s7 _ w8 =>
 condW (s7.getD 0 undef) (
 callF Tryz.prog 89 [t3,(.int .u8 92)] w8 fun t16 w9 =>
 J6 [t10] w9) (
 binW .eql t10 (.int .i32 10) fun t18 =>
 condW t18 (
 callF Tryz.prog 89 [t3,(.int .u8 92)] w8 fun t19 w10 =>
 J6 [(.int .i32 110)] w10) (
 binW .eql t10 (.int .i32 9) fun t21 =>
 condW t21 (
 callF Tryz.prog 89 [t3,(.int .u8 92)] w8 fun t22 w11 =>
 J6 [(.int .i32 116)] w11) (
 binW .eql t10 (.int .i32 13) fun t24 =>
 condW t24 (
 callF Tryz.prog 89 [t3,(.int .u8 92)] w8 fun t25 w12 =>
 J6 [(.int .i32 114)] w12) (
 J6 [t10] w8)))))
 fun s6 _ w13 =>
 callF Tryz.prog 90 [t3,(s6.getD 0 undef)] w13 fun t27 w14 =>
 L3 [] w14) (
 callF Tryz.prog 34 [t3] w5 fun t28 w15 =>
 K t28 w15)
theorem W60_ok {v0 : Value} {w : World} {K : Value → World → Prop} (h : W60 v0 w K) : callF Tryz.prog 60 [v0] w K :=
 tie _ 60 Tryz.f60 plan60 _ w K 1 _ rfl mixed Tryz.func60 (by kernel_rfl) (by kernel_rfl) Tryz.call60 h
def plan62 : Plan := { js := [(17,⟨[],[8,9],14⟩),(10,⟨[13],[8,9],13⟩)],ds := [(24,⟨[0,1,2,3,4,5,6,7,8,9],[[],[0],[],[2],[],[2,3,4],[2,3,4,5],[0,1,2,3,4,5,6],[0,1,2,3,4,5,6,7],[0,1,2,3,4,5,6,7,8],[0,1,2,3,4,5,6,7,8,9],[0,1,2,3,4,5,6,7,8,9,10]]⟩)] }
def W62 (v0 v1 v2 : Value) (w : World) (K : Value → World → Prop) : Prop :=
 boxW 28 v0 w fun t3 w1 =>
 boxW 35 v1 w1 fun t4 w2 =>
 allocW 84 [(.pointer none),(.slice none 0 0)] w2 fun t7 w3 =>
 callF Tryz.prog 89 [t7,(.int .u8 34)] w3 fun t10 w4 =>
 lenlW v2 fun t12 =>
 LoopW [(.int .i64 0)] w4 fun s5 _ w6 L5 =>
 binW .lss (s5.getD 0 undef) t12 fun t14 =>
 condW t14 (
 JoinW (fun J7 =>
 ixaW none 1 v2 (s5.getD 0 undef) fun t16 =>
 ldW false 1 t16 w6 fun t17 =>
 fldW 3 t4 fun t18 =>
 ldW false 1 t18 w6 fun t19 =>
 ixaW none 1 t19 (s5.getD 0 undef) fun t21 =>
 ldW false 1 t21 w6 fun t22 =>
 binW .eql t22 (.string (ofL [116])) fun t23 =>
 condW t23 (
 fldW 0 t3 fun t24 =>
 ldW false 1 t24 w6.drew fun t25 =>
 fldW 2 t4 fun t26 =>
 ldW false 1 t26 w6.drew fun t27 =>
 ixaW none 1 t27 (s5.getD 0 undef) fun t29 =>
 ldW false 1 t29 w6.drew fun t30 =>
 ixaW none 5 t25 t30 fun t31 =>
 fldW 1 t31 fun t32 =>
 ldW false 1 t32 w6.drew fun t33 =>
 callF Tryz.prog 60 [t33] w6.drew fun t34 w8 =>
 callF Tryz.prog 65 [t7,t34] w8 fun t35 w9 =>
 J7 [] w9) (
 binW .add (.string (ofL [36,123])) t17 fun t37 =>
 binW .add t37 (.string (ofL [125])) fun t38 =>
 callF Tryz.prog 65 [t7,t38] w6 fun t39 w10 =>
 J7 [] w10))
 fun s7 _ w11 =>
 binW .add (s5.getD 0 undef) (.int .i64 1) fun t40 =>
 L5 [t40] w11) (
 callF Tryz.prog 89 [t7,(.int .u8 34)] w6 fun t41 w12 =>
 callF Tryz.prog 34 [t7] w12 fun t42 w13 =>
 K t42 w13)
theorem W62_ok {v0 v1 v2 : Value} {w : World} {K : Value → World → Prop} (h : W62 v0 v1 v2 w K) : callF Tryz.prog 62 [v0,v1,v2] w K :=
 tie _ 62 Tryz.f62 plan62 _ w K 3 _ rfl mixed Tryz.func62 (by kernel_rfl) (by kernel_rfl) Tryz.call62 h
def plan63 : Plan := { js := [],ds := [] }
def W63 (v0 : Value) (w : World) (K : Value → World → Prop) : Prop :=
 putW (List.replicate 13 (.string (ofL []))) [(0,1,(.string (ofL [43]))),(1,1,(.string (ofL [45]))),(2,1,(.string (ofL [42]))),(3,1,(.string (ofL [47]))),(4,1,(.string (ofL [37]))),(5,1,(.string (ofL [61,61]))),(6,1,(.string (ofL [33,61]))),(7,1,(.string (ofL [60]))),(8,1,(.string (ofL [62]))),(9,1,(.string (ofL [60,61]))),(10,1,(.string (ofL [62,61]))),(11,1,(.string (ofL [38,38]))),(12,1,(.string (ofL [124,124])))] fun c1 =>
 binW .sub v0 (.int .i64 15) fun t5 =>
 ixgW 13 false 1 (.agg c1.toArray) t5 fun t6 =>
 K t6 w
theorem W63_ok {v0 : Value} {w : World} {K : Value → World → Prop} (h : W63 v0 w K) : callF Tryz.prog 63 [v0] w K :=
 tie _ 63 Tryz.f63 plan63 _ w K 1 _ rfl mixed Tryz.func63 (by kernel_rfl) (by kernel_rfl) Tryz.call63 h
end Go.Proofs.YtofhaneggcpdaaaGreatDoor
namespace Go.Proofs.YtofhaneggcpdaaaGreatDoor
open Go Go.Eng Go.RowKit Go.Syn Go.Lex
set_option maxRecDepth 100000
variable [HX]
theorem plain_same {u : Str} (h : ∀ c ∈ u,c ≠ 92 ∧ c ≠ 34 ∧ c ≠ 36 ∧ c ≠ 10 ∧ c ≠ 9 ∧ c ≠ 13) : plainM u = u := by
 induction u with
 | nil => rfl
 | cons c u ih =>
   have h1 := h c (by simp)
   rw [plain_cons,ih fun d hd => h d (List.mem_cons_of_mem _ hd)]
   unfold plainB
   rw [if_neg (by rintro (e | e | e); exact h1.1 e; exact h1.2.1 e; exact h1.2.2.1 e),if_neg h1.2.2.2.1,if_neg h1.2.2.2.2.1,if_neg h1.2.2.2.2.2]
   rfl
theorem plain_app (a b : Str) : plainM (a ++ b) = plainM a ++ plainM b := List.flatMap_append
theorem plain_len (s : Str) : (plainM s).length ≤ 2 * s.length := by
 induction s with
 | nil => exact Nat.le_refl _
 | cons c s ih =>
   rw [plain_cons,List.length_append,List.length_cons]
   have : (plainB c).length ≤ 2 := by
     have := plain_b c
     generalize plainB c = p at this
     cases this <;> simp
   omega
theorem splain_p {s : Str} {w : World} {K : Value → World → Prop} (hs : Utf s) (hl : s.length ≤ 1000000000) (hK : ∀ w',Ext w w' → K (str (plainM s)) w') : callF Tryz.prog 60 [str s] w K := by
 refine W60_ok ?_
 unfold W60
 refine bnew (B := w.heap.size) (Nat.le_refl _) fun b w1 hbb h1 hx1 => ?_
 have hz1 := hx1.size
 have hb1 := h1.lt
 refine range_str ?_
 have hc2 : Chg (BCh w1 w.heap.size b) w1 (w1.alloc (.stringIter (ofL s) 0)) := Chg.of_ext (Chg.alloc (Chg.refl _ _) _)
 refine ⟨fun s' w4 => ∃ p,p ≤ s.length ∧ Utf (s.drop p) ∧ w4.heap[w1.heap.size]? = some (.stringIter (ofL s) p) ∧ Bld w4 w.heap.size b (plainM (s.take p)) ∧ Chg (BCh w1 w.heap.size b) w1 w4,
   fun _ w4 => match w4.heap[w1.heap.size]? with | some (.stringIter _ p) => s.length - p | _ => 0,
   ⟨0,Nat.zero_le _,by rw [List.drop_zero]; exact hs,heap_anew _ _ _ rfl,by rw [List.take_zero]; exact h1.ext (Chg.alloc (Chg.refl _ _) _),hc2⟩,?_⟩
 rintro s' g w4 ⟨p,hp,hu,hit,h4,hc4⟩
 have hz4 := hc4.size
 have hfl := plain_len (s.take p)
 have htl : (s.take p).length = p := by rw [List.length_take]; omega
 refine next_str hit (fun hpe => ?_) (fun hpl w5 hit5 hc5 hz5 => ?_)
 · rw [ext_tuple]
   refine ⟨.bool false,rfl,?_⟩
   rw [condW_false]
   obtain rfl : p = s.length := by omega
   rw [List.take_length] at h4
   refine bstring_p h4 (by omega) fun w6 hc6 => ?_
   refine hK w6 ((BCh.new hx1 (Nat.le_refl _) h1.base hc4).then hc6 fun k hk e => by omega)
 · have hne : s.drop p ≠ [] := fun e => by have := List.drop_eq_nil_iff.1 e; omega
   obtain ⟨u,r,hru,hur,hdr⟩ : ∃ u r,Rn u ∧ Utf r ∧ s.drop p = u ++ r := by
     cases hd : s.drop p with
     | nil => exact absurd hd hne
     | cons x y =>
       rw [hd] at hu
       generalize he : x :: y = z at hu
       cases hu with
       | nil => cases he
       | cons h1 h2 => exact ⟨_,_,h1,h2,rfl⟩
   have hrm : runeM s p = u.length := hru.at hdr
   have hup := hru.pos
   obtain ⟨c,hc⟩ := rune_good hpl (by omega)
   rw [hrm] at hc
   have htk : (s.drop p).take u.length = u := by rw [hdr,List.take_left]
   have hnext : s.take (p + u.length) = s.take p ++ u := by rw [List.take_add,htk]
   have hdr2 : s.drop (p + u.length) = r := drop_app hdr
   have hdec := hc.dec
   have hct := hc.top
   have hcv := hc.val
   have hcu : wrM c = u := by rw [← wr_enc (by omega),hc.bytes,htk]
   rw [hdec] at hit5
   have h5 : Bld w5 w.heap.size b (plainM (s.take p)) := h4.chg hc5 (fun e => by have := e; omega) fun k hk e => by
     obtain ⟨_,c',hc'⟩ := hk
     have e : k = w1.heap.size := e
     rw [e,hit] at hc'; cases hc'
   have hc5' : Chg (BCh w1 w.heap.size b) w1 w5 := hc4.then hc5 fun k hk e => by omega
   have hfit := hc.fits
   have fin : ∀ w6,Bld w6 w.heap.size b (plainM (s.take p) ++ plainM u) → Chg (BCh w5 w.heap.size b) w5 w6 → (fun (s' : List Value) w4 => ∃ p,p ≤ s.length ∧ Utf (s.drop p) ∧ w4.heap[w1.heap.size]? = some (.stringIter (ofL s) p) ∧ Bld w4 w.heap.size b (plainM (s.take p)) ∧ Chg (BCh w1 w.heap.size b) w1 w4) [] w6 ∧
       (match w6.heap[w1.heap.size]? with | some (.stringIter _ p) => s.length - p | _ => 0) < (match w4.heap[w1.heap.size]? with | some (.stringIter _ p) => s.length - p | _ => 0) := by
     intro w6 h6 hc6
     have hit6 := BCh.iter hc6 hit5 (by omega)
     refine ⟨⟨p + u.length,hfit,by rw [hdr2]; exact hur,hit6,?_,BCh.trans hc5' hc6⟩,?_⟩
     · rw [hnext,plain_app]; exact h6
     · rw [hit6,hit]
       show s.length - (p + u.length) < s.length - p
       omega
   rw [ext_tuple]
   refine ⟨.bool true,rfl,?_⟩
   rw [condW_true,ext_tuple]
   refine ⟨.int .i32 (c : Int),by rw [hdec]; rfl,?_⟩
   have same : c ≠ 92 → c ≠ 34 → c ≠ 36 → c ≠ 10 → c ≠ 9 → c ≠ 13 → plainM u = u := fun a1 a2 a3 a4 a5 a6 => by
     refine plain_same fun d hd => ?_
     have key : ∀ k : UInt8,k.toNat < 128 → c ≠ k.toNat → d ≠ k := fun k hk hck e => by
       subst e
       rcases hru.cases with ⟨x,hx,hxl⟩ | hh
       · subst hx
         rw [List.mem_singleton] at hd
         subst hd
         have hcx : c = d.toNat := by
           have := (hc.low rfl).1
           rw [this]
           have e := byteM_in hpl
           rw [Go.Eng.byte_at (show s.drop p = d :: r from hdr)] at e
           omega
         exact hck hcx
       · have := hh d hd
         omega
     exact ⟨key 92 (by decide) a1,key 34 (by decide) a2,key 36 (by decide) a3,key 10 (by decide) a4,key 9 (by decide) a5,key 13 (by decide) a6⟩
   refine JoinW.cut (fun st w' => ∃ (c' : Nat) (pre : Str),st = [.int .i32 (c' : Int)] ∧ (c' < 55296 ∨ 57343 < c' ∧ c' ≤ 1114111) ∧ pre.length ≤ 1 ∧ pre ++ wrM c' = plainM u ∧ Bld w' w.heap.size b (plainM (s.take p) ++ pre) ∧ Chg (BCh w5 w.heap.size b) w5 w') ?_ ?_
   · refine JoinW.cut (fun st w' => st = [.bool (decide (c = 92 ∨ c = 34 ∨ c = 36))] ∧ w' = w5) ?_ ?_
     · rw [bin_eql,condW_dec]
       refine ⟨fun h => ?_,fun h => ?_⟩
       · rw [decide_eq_true h,decide_eq_true (.inl (by omega))]; exact ⟨rfl,rfl⟩
       rw [bin_eql,condW_dec]
       refine ⟨fun h => ?_,fun h => ?_⟩
       · rw [decide_eq_true h,decide_eq_true (.inr (.inl (by omega)))]; exact ⟨rfl,rfl⟩
       rw [bin_eql]
       rw [show decide ((c : Int) = 36) = decide (c = 92 ∨ c = 34 ∨ c = 36) by rw [decide_eq_decide]; omega]
       exact ⟨rfl,rfl⟩
     rintro st g7 w8 ⟨rfl,rfl⟩
     simp only [List.getD_cons_zero]
     have wr : ∀ {c' : Nat},c' < 128 → ∀ w9,Bld w9 w.heap.size b (plainM (s.take p) ++ [UInt8.ofNat 92]) → Chg (BCh w8 w.heap.size b) w8 w9 → [92] ++ wrM c' = plainM u → ∃ (c'' : Nat) (pre : Str),[Value.int .i32 (c' : Int)] = [.int .i32 (c'' : Int)] ∧ (c'' < 55296 ∨ 57343 < c'' ∧ c'' ≤ 1114111) ∧ pre.length ≤ 1 ∧ pre ++ wrM c'' = plainM u ∧ Bld w9 w.heap.size b (plainM (s.take p) ++ pre) ∧ Chg (BCh w8 w.heap.size b) w8 w9 :=
       fun {c'} h1 w9 h2 h3 h4 => ⟨c',[92],rfl,.inl (by omega),Nat.le_refl _,h4,h2,h3⟩
     rw [condW_dec]
     refine ⟨fun h => ?_,fun h => ?_⟩
     · refine wbyte_p (n := 92) h5 (by omega) (by omega) (by omega) fun w9 h9 hc9 => ?_
       refine wr (by omega) w9 h9 hc9 ?_
       rw [← hcu]
       rcases h with rfl | rfl | rfl <;> rfl
     rw [bin_eql,condW_dec]
     refine ⟨fun h2 => ?_,fun h2 => ?_⟩
     · refine wbyte_p (n := 92) h5 (by omega) (by omega) (by omega) fun w9 h9 hc9 => ?_
       refine wr (c' := 110) (by omega) w9 h9 hc9 ?_
       rw [← hcu,show c = 10 by omega]; rfl
     rw [bin_eql,condW_dec]
     refine ⟨fun h3 => ?_,fun h3 => ?_⟩
     · refine wbyte_p (n := 92) h5 (by omega) (by omega) (by omega) fun w9 h9 hc9 => ?_
       refine wr (c' := 116) (by omega) w9 h9 hc9 ?_
       rw [← hcu,show c = 9 by omega]; rfl
     rw [bin_eql,condW_dec]
     refine ⟨fun h4 => ?_,fun h4 => ?_⟩
     · refine wbyte_p (n := 92) h5 (by omega) (by omega) (by omega) fun w9 h9 hc9 => ?_
       refine wr (c' := 114) (by omega) w9 h9 hc9 ?_
       rw [← hcu,show c = 13 by omega]; rfl
     refine ⟨c,[],rfl,by omega,Nat.zero_le _,?_,by rw [List.append_nil]; exact h5,Chg.refl _ _⟩
     rw [List.nil_append,hcu]
     exact (same (by omega) (by omega) (by omega) (by omega) (by omega) (by omega)).symm
   rintro st g6 w13 ⟨c',pre,rfl,hcv',hpl',hw,h13,hc13⟩
   simp only [List.getD_cons_zero]
   have hz13 := hc13.size
   refine wrune_p h13 (by omega) (by rw [List.length_append]; omega) hcv' fun v w14 h14 hc14 => ?_
   rw [List.append_assoc,hw] at h14
   exact fin w14 h14 (BCh.trans hc13 hc14)
end Go.Proofs.YtofhaneggcpdaaaGreatDoor
namespace Go.Proofs.YtofhaneggcpdaaaGreatDoor
open Go Go.Eng Go.RowKit Go.Syn Go.Lex
set_option maxRecDepth 100000
theorem cells_row {w : World} {b o : Nat} {c : Array Value} {T : TypeId} {fr : Nat × Nat} {d : List Value} (hb : w.heap[b]? = some (.cells c T fr)) (hd : ∀ j,j < d.length → c[o + j]? = d[j]?) : ∀ (n i : Nat),i + n = d.length → cellsAt w ⟨b,o,none⟩ i n = some (d.drop i)
 | 0,i,h => by simp only [cellsAt]; rw [List.drop_of_length_le (by omega)]
 | n + 1,i,h => by
   have hi : i < d.length := by omega
   simp only [cellsAt,add_mk,cell_eq,hb,cellO_some,hd i hi,List.getElem?_eq_getElem hi]
   rw [cells_row hb hd n (i + 1) (by omega)]
   simp
theorem ixa_row {w : World} {T : TypeId} {v : Value} {n size : Nat} {cs d : List Value} {k : IntKind} {i : Nat} {K : Value → Prop} (h : SlAt w T v n cs) (hl : cs.length = n * size) (hs : 0 < size) (hi : i < n) (hd : (cs.drop (i * size)).take size = d) (hK : K (.agg d.toArray)) :
   ixaW none size v (.int k i) fun t => ldW true size t w K := by
 have hlt : i * size + size ≤ n * size := by rw [← Nat.succ_mul]; exact Nat.mul_le_mul_right _ hi
 have hdl : d.length = size := by rw [← hd,List.length_take,List.length_drop]; omega
 refine ixa_at h hl hs hi fun b o c fr hb hc => ?_
 rw [ld_agg]
 refine ⟨d,?_,hK⟩
 have := cells_row (d := d) hb (fun j hj => by rw [hc j (by omega),← hd,List.getElem?_take_of_lt (by omega),List.getElem?_drop]) size 0 (by omega)
 simpa using this
theorem atr_row {l : List Atr} {i : Nat} {a : Atr} (h : l[i]? = some a) : ((atrs l).drop (i * 3)).take 3 = [str a.n,i64 (a.e : Nat),i64 a.a] := by
 have g : ∀ j,j < 3 → (atrs l)[i * 3 + j]? = [str a.n,i64 (a.e : Nat),i64 a.a][j]? := fun j hj => flat3_get _ (fun _ => rfl) l i j a h hj
 apply List.ext_getElem?
 intro j
 by_cases hj : j < 3
 · rw [List.getElem?_take_of_lt hj,List.getElem?_drop,g j hj]
 · rw [List.getElem?_eq_none (by rw [List.length_take]; omega),List.getElem?_eq_none (by simp; omega)]
theorem int_get {l : List Nat} {i x : Nat} (h : l[i]? = some x) : (ints l)[i]? = some (i64 (x : Nat)) := by simp [ints,h]
variable [HX]
end Go.Proofs.YtofhaneggcpdaaaGreatDoor
namespace Go.Proofs.YtofhaneggcpdaaaGreatDoor
open Go Go.Eng Go.RowKit Go.Syn Go.Lex
set_option maxRecDepth 100000
theorem ixg_m {len k : Nat} {l : List Value} {x : Value} {K : Value → Prop} (hk : k < len) (hx : l[k]? = some x) (h : K x) : ixgW len false 1 (.agg l.toArray) (i64 (k : Nat)) K := by
 refine ⟨by omega,by omega,?_⟩
 show ∃ c,l.toArray[((k : Nat) : Int).toNat * 1]? = some c ∧ K c
 exact ⟨x,by rw [Int.toNat_natCast,Nat.mul_one,List.getElem?_toArray]; exact hx,h⟩
theorem strs_get {l : List Str} {k : Nat} (h : k < l.length) : (strs l)[k]? = some (str (l.getD k [])) := by
 rw [strs,List.getElem?_map,List.getElem?_eq_getElem h,List.getD_eq_getElem?_getD,List.getElem?_eq_getElem h]; rfl
theorem ixa_split {s : Nat} {v i : Value} {F : Value → Prop} (h : ixaW none s v i F) : ∃ p,ixaW none s v i (fun x => x = p) ∧ F p := by
 unfold ixaW at h ⊢
 split at h
 all_goals first
   | exact h.elim
   | exact ⟨_,⟨h.1,h.2.1,rfl⟩,h.2.2⟩
section
variable [HX]
end
end Go.Proofs.YtofhaneggcpdaaaGreatDoor
namespace Go.Proofs.YtofhaneggcpdaaaGreatDoor
open Go Go.Eng Go.RowKit Go.Syn Go.Lex
set_option maxRecDepth 100000
def ExV (w : World) (e : Ex) (c : List Value) : Prop :=
 ∃ va vk,c = [i64 e.k,str e.t,va,vk,i64 e.a] ∧ SlAt w IntT va e.args.length (ints e.args) ∧ SlAt w StT vk e.keys.length (strs e.keys)
def BkV (w : World) (b : Blk) (c : List Value) : Prop :=
 ∃ vl va vb,c = [str b.typ,vl,va,vb,i64 b.a] ∧ SlAt w StT vl b.labels.length (strs b.labels) ∧ SlAt w AtT va b.attrs.length (atrs b.attrs) ∧ SlAt w IntT vb b.blocks.length (ints b.blocks)
structure FV (w : World) (M : Lay) (fl : Fl) : Prop where
 oE : SlAt w ExT M.vE fl.ex.length M.cE
 oB : SlAt w BkT M.vB fl.bl.length M.cB
 oT : SlAt w IntT M.vT fl.top.length (ints fl.top)
 ee : RowsR (ExV w) 5 fl.ex M.cE
 bb : RowsR (BkV w) 5 fl.bl M.cB
theorem FO.fv {w : World} {B : Nat} {M : Lay} {fl : Fl} (h : FO w B M fl) : FV w M fl :=
 ⟨h.oE.sl,h.oB.sl,h.oT.sl,h.ee.imp fun _ _ _ ⟨va,vk,e,h1,h2⟩ => ⟨va,vk,e,h1.sl,h2.sl⟩,h.bb.imp fun _ _ _ ⟨vl,va,vb,e,h0,h1,h2⟩ => ⟨vl,va,vb,e,h0.sl,h1.sl,h2.sl⟩⟩
theorem FV.ext {w w' : World} {M : Lay} {fl : Fl} (h : FV w M fl) (hx : Ext w w') : FV w' M fl :=
 ⟨h.oE.ext hx,h.oB.ext hx,h.oT.ext hx,h.ee.imp fun _ _ _ ⟨va,vk,e,h1,h2⟩ => ⟨va,vk,e,h1.ext hx,h2.ext hx⟩,h.bb.imp fun _ _ _ ⟨vl,va,vb,e,h0,h1,h2⟩ => ⟨vl,va,vb,e,h0.ext hx,h1.ext hx,h2.ext hx⟩⟩
theorem FV.exI {w : World} {M : Lay} {fl : Fl} {i : Nat} {e : Ex} {k : IntKind} (h : FV w M fl) (hi : fl.ex[i]? = some e) : ∃ va vk,SlAt w IntT va e.args.length (ints e.args) ∧ SlAt w StT vk e.keys.length (strs e.keys) ∧ ∃ p,ixaW none 5 M.vE (.int k i) (fun x => x = p) ∧ ldW true 5 p w fun x => x = .agg [i64 e.k,str e.t,va,vk,i64 e.a].toArray := by
 obtain ⟨va,vk,ec,h1,h2⟩ := h.ee.2 i e hi
 exact ⟨va,vk,h1,h2,ixa_split (ixa_row (K := fun x => x = _) h.oE h.ee.1 (by omega) (List.getElem?_eq_some_iff.1 hi).1 ec rfl)⟩
theorem ld_to {n : Nat} {agg : Bool} {p v : Value} {w : World} {K : Value → Prop} (h : ldW agg n p w fun x => x = v) (hK : K v) : ldW agg n p w K := by
 unfold ldW at h ⊢
 split at h
 · cases agg with
   | true => obtain ⟨l,h1,rfl⟩ := h; exact ⟨l,h1,hK⟩
   | false => obtain ⟨x,h1,rfl⟩ := h; exact ⟨x,h1,hK⟩
 · exact h.elim
theorem ixa_to {s : Nat} {v i p : Value} {K : Value → Prop} (h : ixaW none s v i fun x => x = p) (hK : K p) : ixaW none s v i K := by
 unfold ixaW at h ⊢
 split at h
 all_goals first
   | exact h.elim
   | exact ⟨h.1,h.2.1,by have e := h.2.2; rw [e]; exact hK⟩
section
variable [HX]
end
end Go.Proofs.YtofhaneggcpdaaaGreatDoor
namespace Go.Proofs.YtofhaneggcpdaaaGreatDoor
open Go Go.Eng Go.RowKit Go.Syn Go.Lex
set_option maxRecDepth 100000
theorem fld5 {b : Nat} {T : TypeId} {c : List Value} {off : Nat} {v : Value} {w : World} {K : Value → Prop} (hw : w.heap[b]? = some (.cells c.toArray T (0,0))) (hv : c[off]? = some v) (hk : K v) : fldW off (.pointer (some ⟨b,0,none⟩)) fun t => ldW false 1 t w K := by
 rw [fld_ptr,ld_one]
 refine ⟨v,?_,hk⟩
 rw [add_mk,cell_eq,hw,cellO_some,Nat.zero_add,List.getElem?_toArray]
 exact hv
theorem ld5 {b : Nat} {T : TypeId} {c : List Value} {off : Nat} {v : Value} {w : World} (hw : w.heap[b]? = some (.cells c.toArray T (0,0))) (hv : c[off]? = some v) : ldW false 1 (.pointer (some ((⟨b,0,none⟩ : Addr).add off))) w fun x => x = v := by
 have := fld5 (K := fun x => x = v) hw hv rfl
 rwa [fld_ptr] at this
section
variable [HX]
end
end Go.Proofs.YtofhaneggcpdaaaGreatDoor
namespace Go.Proofs.YtofhaneggcpdaaaGreatDoor
open Go Go.Eng Go.RowKit Go.Syn Go.Lex
set_option maxRecDepth 100000
section
variable {w w' : World} {B g r p : Nat} {M : Lay} {fl : Fl} {v : Value}
theorem ld_row {a n : Nat} {T : TypeId} {d : List Value} {K : Value → Prop} (h : w.heap[a]? = some (.cells d.toArray T (0,0))) (hn : d.length = n) (hK : K (.agg d.toArray)) : ldW true n (.pointer (some ⟨a,0,none⟩)) w K := by
 rw [ld_agg]
 refine ⟨d,?_,hK⟩
 have := cells_row (o := 0) (d := d) h (fun j hj => by rw [Nat.zero_add]; simp) n 0 (by omega)
 simpa using this
end
end Go.Proofs.YtofhaneggcpdaaaGreatDoor
namespace Go.Syn
open Go Go.Eng Go.Lex
section
variable {io : Nat} {b : Bool} {c : Int} {pe : List Ex} {pb : List Blk} {s s2 : PS}
theorem nowS_f (s : PS) : (nowS s).toks = s.toks ∧ (nowS s).off = s.off ∧ (nowS s).deep = s.deep ∧ (nowS s).quiet = s.quiet ∧ (nowS s).ex = s.ex ∧ (nowS s).bl = s.bl := by
 unfold nowS; split <;> exact ⟨rfl,rfl,rfl,rfl,rfl,rfl⟩
end
end Go.Syn
namespace Go.Proofs.YtofhaneggcpdaaaGreatDoor
open Go Go.Eng Go.RowKit Go.Syn Go.Lex
set_option maxRecDepth 100000
structure JV (w0 w : World) (B a9 a12 n m : Nat) (M : Lay) (fl : Fl) (vE vB vT : Value) (i j : Nat) (t : List Nat) : Prop where
 F : FO w B M fl
 h9 : w.heap[a9]? = some (.cells [M.vE,M.vB,M.vT].toArray FlT (0,0))
 h12 : w.heap[a12]? = some (.cells [vE,vB,vT].toArray FlT (0,0))
 oE : Own w (a12 + 1) ExT 5 vE i ((M.cE.drop (n * 5)).take (i * 5))
 oB : Own w (a12 + 1) BkT 5 vB j ((M.cB.drop (m * 5)).take (j * 5))
 oT : Own w (a12 + 1) IntT 1 vT t.length (ints t)
 ch : Ext w0 w
 lo : w0.heap.size ≤ B ∧ B ≤ a9 ∧ a9 < a12
 lt : ∀ k ∈ ub ([M.vE,M.vB,M.vT] ++ (M.cE ++ M.cB)),k < a9
 dEB : ∀ k,vE.ownBlock = some k → vB.ownBlock ≠ some k
 dET : ∀ k,vE.ownBlock = some k → vT.ownBlock ≠ some k
 dBT : ∀ k,vB.ownBlock = some k → vT.ownBlock ≠ some k
section
variable {w0 w w' w1 w2 : World} {B a9 a12 n m g : Nat} {M : Lay} {fl fl' : Fl} {vE vB vT v' : Value} {i j : Nat} {t : List Nat}
end
end Go.Proofs.YtofhaneggcpdaaaGreatDoor
namespace Go.Syn
open Go Go.Eng Go.Lex
variable {α β : Type} {io : Nat} {b : Bool} {c : Int} {pe : List Ex} {pb : List Blk}
theorem bind_ok {r : R α} {f : α → PS → R β} {y : β} {s' : PS} (h : r.bind f = .ok y s') : ∃ x s1,r = .ok x s1 ∧ f x s1 = .ok y s' := by
 cases r with
 | ok x s1 => exact ⟨x,s1,rfl,h⟩
 | err a e => cases h
variable {s s2 : PS}
end Go.Syn









namespace Go.Proofs.YtofhaneggcpdaaaGreatDoor
open Go Go.Eng Go.RowKit Go.Syn Go.Lex
set_option maxRecDepth 100000
theorem utf_scan {s : Str} {l : List Tok} (h : scanM s = .ok l) : Utf s := by
 unfold scanM at h
 split at h
 · cases h
 cases hb : badF (s.length + 1) s 0 with
 | some i => rw [hb] at h; cases h
 | none =>
   have := badF_utf (s := s) (s.length + 1) 0 (by omega) hb
   rwa [List.drop_zero] at this
end Go.Proofs.YtofhaneggcpdaaaGreatDoor

namespace Go.Proofs.YtofhaneggcpdaaaGreatDoor
open Go Go.Eng Go.RowKit Go.Syn Go.Lex
set_option maxRecDepth 100000
theorem parse_small {t : Str} {y : Fl} (h : parseM t = .ok y) : (∀ e ∈ y.ex,∀ a ∈ e.args,a < y.ex.length) ∧ (∀ b ∈ y.bl,(∀ u ∈ b.attrs,u.e < y.ex.length) ∧ ∀ c ∈ b.blocks,c < y.bl.length) ∧ ∀ k ∈ y.top,k < y.bl.length := by
 have hf := forms_plain t
 rw [h] at hf
 obtain ⟨_,hfe,hfb,_⟩ := hf
 have hE := once_of hfe
 have hB := once_of hfb
 rw [List.length_map] at hE hB
 refine ⟨fun e he a ha => hE.lt a (List.mem_append_left _ (List.mem_flatten.2 ⟨_,List.mem_map.2 ⟨e,he,rfl⟩,ha⟩)),fun b hb => ⟨fun u hu => hE.lt _ (List.mem_append_right _ ?_),fun c hc => hB.lt c (List.mem_append_left _ (List.mem_flatten.2 ⟨_,List.mem_map.2 ⟨b,hb,rfl⟩,hc⟩))⟩,fun k hk => hB.lt k (List.mem_append_right _ hk)⟩
 exact List.mem_flatMap.2 ⟨b,hb,List.mem_map.2 ⟨u,hu,rfl⟩⟩
theorem row_get {c l : List Value} {r n p : Nat} (h : (c.drop (r * n)).take n = l) (hp : p < n) : c[r * n + p]? = l[p]? := by
 rw [← h,List.getElem?_take_of_lt hp,List.getElem?_drop]
theorem FO.one {w : World} {B : Nat} {M : Lay} {fl : Fl} (h : FO w B M fl) : [M.vE,M.vB,M.vT].all one1 = true := by
 obtain ⟨p1,c1,e1,_⟩ := h.oE.sl.shape
 obtain ⟨p2,c2,e2,_⟩ := h.oB.sl.shape
 obtain ⟨p3,c3,e3,_⟩ := h.oT.sl.shape
 rw [e1,e2,e3]; rfl
end Go.Proofs.YtofhaneggcpdaaaGreatDoor
namespace Go.Proofs.YtofhaneggcpdaaaGreatDoor
open Go Go.Eng Go.RowKit Go.Syn Go.Lex
set_option maxRecDepth 100000
variable [HX]
def tplP (f : Fl) (e : Ex) (l : List Str) (k : Nat) : Str := if e.keys.getD k [] = [116] then plainM (f.ex.getD (e.args.getD k 0) ⟨0,[],[],[],0⟩).t else [36,123] ++ l.getD k [] ++ [125]
theorem tpl_next (f : Fl) (e : Ex) (l : List Str) (k : Nat) : tplM f e l (k + 1) = tplM f e l k ++ tplP f e l k := by
 unfold tplM
 rw [List.range_succ,List.map_append,List.flatten_append]
 simp [tplP]
theorem tpl_le (f : Fl) (e : Ex) (l : List Str) : ∀ (n k : Nat), k ≤ n → (tplM f e l k).length ≤ (tplM f e l n).length
  | 0, k, h => by obtain rfl : k = 0 := by omega
                  exact Nat.le_refl _
  | n + 1, k, h => by
    by_cases e1 : k = n + 1
    · rw [e1]; exact Nat.le_refl _
    · have := tpl_le f e l n k (by omega)
      rw [tpl_next, List.length_append]; omega
theorem sign_s {k : Int} {w : World} {K : Value → World → Prop} (h1 : 15 ≤ k) (h2 : k ≤ 27) (hK : K (str (sigT.getD (k - 15).toNat [])) w) : callF Tryz.prog 63 [i64 k] w K := by
 refine W63_ok ?_
 unfold W63
 simp only [List.replicate_succ,List.replicate_zero,put_str,put_nil,List.length_cons,List.length_nil,List.set_cons_zero,List.set_cons_succ,Nat.reduceAdd,Nat.reduceLT,true_and,Nat.zero_lt_succ]
 rw [bin_sub,wrap_id (by omega) (by omega)]
 obtain ⟨n,hn⟩ : ∃ n : Nat,k - 15 = (n : Nat) := ⟨(k - 15).toNat,by omega⟩
 rw [hn]
 rw [hn,Int.toNat_natCast] at hK
 show ixgW 13 false 1 (.agg (strs sigT).toArray) (i64 (n : Nat)) fun t6 => K t6 w
 refine ixg_m (len := 13) (l := strs sigT) (k := n) (x := str (sigT.getD n [])) ?_ ?_ ?_
 · omega
 · exact strs_get (by show n < 13; omega)
 · exact hK
theorem template_p {f : Fl} {e : Ex} {M : Lay} {va vk vl : Value} {l : List Str} {w : World} {K : Value → World → Prop} (hf : FV w M f) (ha : SlAt w IntT va e.args.length (ints e.args)) (hk : SlAt w StT vk e.keys.length (strs e.keys)) (hl : SlAt w StT vl l.length (strs l))
   (h1 : l.length = e.args.length) (h2 : e.keys.length = e.args.length) (hin : ∀ a ∈ e.args,a < f.ex.length) (hut : ∀ x ∈ f.ex,Utf x.t ∧ x.t.length ≤ 1000000000) (hfew : l.length ≤ 1000000) (hL : (tplM f e l l.length).length ≤ 10000000000000)
   (hK : ∀ w',Ext w w' → K (str ([34] ++ tplM f e l l.length ++ [34])) w') : callF Tryz.prog 62 [.agg [M.vE,M.vB,M.vT].toArray,.agg [i64 e.k,str e.t,va,vk,i64 e.a].toArray,vl] w K := by
 refine W62_ok ?_
 unfold W62
 have emax : IntKind.i64.max = 9223372036854775807 := by decide
 refine box_new (z := [M.vE,M.vB,M.vT]) fun p w1 hp hz1 hb1 hx1 => ?_
 refine box_new (z := [i64 e.k,str e.t,va,vk,i64 e.a]) fun p2 w2 hp2 hz2 hb2 hx2 => ?_
 have hb1 := hx2.at hb1 id
 have hx12 := hx1.trans hx2
 have hf := hf.ext hx12
 have ha := ha.ext hx12
 have hk := hk.ext hx12
 have hl := hl.ext hx12
 refine bnew (B := w2.heap.size) (Nat.le_refl _) fun b w3 hbb h3 hx3 => ?_
 have hz3 := hx3.size
 have hb3 := h3.lt
 refine wbyte_p (n := 34) h3 (by omega) (by simp) (by omega) fun w4 h4 hc4 => ?_
 rw [lenl_at hl]
 refine LoopW.go (fun st w' => ∃ k : Nat,st = [i64 (k : Nat)] ∧ k ≤ l.length ∧ Bld w' w2.heap.size b ([34] ++ tplM f e l k) ∧ Chg (BCh w3 w2.heap.size b) w3 w') (fun st _ => match st with | [.int _ k] => l.length - k.toNat | _ => 0) ⟨0,rfl,by omega,h4,hc4⟩ ?_
 rintro st g w6 ⟨k,rfl,hkl,h6,hc6⟩
 have hx6 : Ext w2 w6 := BCh.new hx3 (Nat.le_refl _) h3.base hc6
 have hz6 := hx6.size
 simp only [List.getD_cons_zero]
 rw [bin_lss,condW_dec]
 have hle := tpl_le f e l l.length k hkl
 refine ⟨fun hlt => ?_,fun hge => ?_⟩
 · have hlt : k < l.length := by omega
   have hnx := tpl_next f e l k
   have hle2 := tpl_le f e l l.length (k + 1) (by omega)
   rw [hnx,List.length_append] at hle2
   refine JoinW.cut (fun st w' => st = [] ∧ Bld w' w2.heap.size b ([34] ++ tplM f e l (k + 1)) ∧ Chg (BCh w3 w2.heap.size b) w3 w') ?_ ?_
   · refine ixa_ld (hl.ext hx6) (by simp [strs]) (strs_get hlt) ?_
     refine fld5 (off := 3) (hx6.at hb2 id) rfl ?_
     refine ixa_ld (hk.ext hx6) (by simp [strs]) (strs_get (show k < e.keys.length by omega)) ?_
     rw [bin_seq,condW_dec]
     refine ⟨fun ht => ?_,fun ht => ?_⟩
     · have hp : tplP f e l k = plainM (f.ex.getD (e.args.getD k 0) ⟨0,[],[],[],0⟩).t := by unfold tplP; rw [if_pos ht]
       have hx6d := hx6.trans (ext_drew w6)
       refine fld5 (off := 0) (hx6d.at hb1 id) rfl ?_
       refine fld5 (off := 2) (hx6d.at hb2 id) rfl ?_
       have hk2 : k < e.args.length := by omega
       have ge := List.getElem?_eq_getElem hk2
       have hd : e.args.getD k 0 = e.args[k] := by rw [List.getD_eq_getElem?_getD,ge]; rfl
       rw [hd] at hp
       have hai := hin e.args[k] (List.getElem_mem hk2)
       generalize e.args[k] = a at ge hp hai
       refine ixa_ld (ha.ext hx6d) (by simp [ints]) (int_get ge) ?_
       have gx := List.getElem?_eq_getElem hai
       have hdx : f.ex.getD a ⟨0,[],[],[],0⟩ = f.ex[a] := by rw [List.getD_eq_getElem?_getD,gx]; rfl
       rw [hdx] at hp
       have hu := hut f.ex[a] (List.getElem_mem hai)
       generalize f.ex[a] = x at gx hp hu
       obtain ⟨va',vk',_,_,pp,q1,q2⟩ := (hf.ext hx6d).exI (k := .i64) gx
       have ld : ∀ {K' : Value → Prop},K' (str x.t) → ixaW none 5 M.vE (i64 (a : Nat)) fun t => fldW 1 t fun t => ldW false 1 t w6.drew K' := fun {K'} hk' => by
         obtain ⟨va2,vk2,ec,_,_⟩ := (hf.ext hx6d).ee.2 a x gx
         refine ixa_at (hf.ext hx6d).oE (hf.ext hx6d).ee.1 (by omega) hai fun bb o c fr hbb hcs => ?_
         rw [fld_ptr,ld_one]
         have h0 := hcs 1 (by omega)
         have h1 := congrArg (fun l => l[1]?) ec
         simp only [List.getElem?_take_of_lt (show 1 < 5 by omega),List.getElem?_drop,List.getElem?_cons_zero,List.getElem?_cons_succ] at h1
         exact ⟨_,by rw [add_mk,cell_eq,hbb,cellO_some,h0]; exact h1,hk'⟩
       refine ld ?_
       refine splain_p hu.1 hu.2 fun w8 hx8 => ?_
       have h8 := (h6.ext (ext_drew w6)).ext hx8
       have hz8 := hx8.size
       have hzd : w6.drew.heap.size = w6.heap.size := rfl
       rw [hp] at hnx hle2
       refine wstr_p h8 (by omega) (by simp only [List.length_append,List.length_cons,List.length_nil]; omega) fun v w9 h9 hc9 => ?_
       refine ⟨rfl,?_,BCh.trans (BCh.ext (BCh.ext hc6 (ext_drew w6)) hx8) hc9⟩
       rw [hnx,← List.append_assoc]; exact h9
     · have hp : tplP f e l k = [36,123] ++ l.getD k [] ++ [125] := by unfold tplP; rw [if_neg ht]
       rw [hp] at hnx hle2
       simp only [List.length_append,List.length_cons,List.length_nil] at hle2
       rw [bin_sadd]
       refine ⟨by rw [emax]; simp only [List.length_append,List.length_cons,List.length_nil]; omega,?_⟩
       rw [bin_sadd]
       refine ⟨by rw [emax]; simp only [List.length_append,List.length_cons,List.length_nil]; omega,?_⟩
       refine wstr_p h6 (by omega) (by simp only [List.length_append,List.length_cons,List.length_nil]; omega) fun v w9 h9 hc9 => ?_
       refine ⟨rfl,?_,BCh.trans hc6 hc9⟩
       rw [hnx,← List.append_assoc]; exact h9
   · rintro st g7 w11 ⟨rfl,h11,hc11⟩
     rw [bin_add,upi (by omega)]
     refine ⟨⟨k + 1,rfl,by omega,h11,hc11⟩,?_⟩
     simp only [Int.toNat_natCast]; omega
 · obtain rfl : k = l.length := by omega
   refine wbyte_p (n := 34) h6 (by omega) (by simp only [List.length_append,List.length_cons,List.length_nil]; omega) (by omega) fun w12 h12 hc12 => ?_
   have hz12 := hc12.size
   refine bstring_p h12 (by omega) fun w13 hc13 => ?_
   exact hK w13 (hx12.trans ((BCh.new hx3 (Nat.le_refl _) h3.base (BCh.trans hc6 hc12)).then hc13 fun k hk e => by omega))
end Go.Proofs.YtofhaneggcpdaaaGreatDoor
namespace Go.Proofs.YtofhaneggcpdaaaGreatDoor
open Go Go.Eng Go.RowKit Go.Syn Go.Lex
set_option maxRecDepth 100000
set_option maxHeartbeats 1000000
structure XOk (e : Ex) : Prop where
 lo : 1 ≤ e.k
 hi : e.k ≤ 30
 ut : Utf e.t ∧ e.t.length ≤ 1000000000
 uk : ∀ s ∈ e.keys,Utf s ∧ s.length ≤ 1000000000
 few : e.args.length ≤ 100000
 a6 : e.k = 6 → e.keys.length = e.args.length
 a8 : e.k = 8 → e.keys.length = e.args.length
 a1 : e.k = 10 ∨ e.k = 30 → 1 ≤ e.args.length
 a2 : e.k = 11 ∨ e.k = 29 ∨ 15 ≤ e.k ∧ e.k ≤ 27 → 2 ≤ e.args.length
 a3 : e.k = 28 → 3 ≤ e.args.length
structure FOk (f : Fl) : Prop where
 ahead : ∀ (i : Nat) (e : Ex),f.ex[i]? = some e → ∀ a ∈ e.args,a < i
 xs : ∀ e ∈ f.ex,XOk e
 few : f.ex.length ≤ 100000
 len : ∀ i,(exprM f i).length ≤ 1000000000000
 keyl : ∀ e ∈ f.ex,e.k = 8 → ∀ s ∈ e.keys,s.length ≤ 10000000
 join : ∀ e ∈ f.ex,(joinL (argsT e (exprM f)) [44,32]).length ≤ 100000000000000
variable [HX]
theorem sjoin_p {l : List Str} {T : TypeId} {v : Value} {sep : Str} {w : World} {K : Value → World → Prop} (h : SlAt w T v l.length (l.map str)) (hl : l.length ≤ 1000000) (hs : (joinL l sep).length ≤ 140737488355328) (hK : ∀ w',Ext w w' → K (str (joinL l sep)) w') :
   callF Tryz.prog 61 [v,str sep] w K := by
 obtain ⟨p,cap,rfl,hc,hp,hcells⟩ := h
 have hm : (l.map ofL).map (fun x => x.data.toList) = l := by rw [List.map_map]; exact (List.map_congr_left (fun x _ => by simp [ofL])).trans (List.map_id l)
 by_cases hne : l = []
 · subst hne
   refine of_calls (args := #[.slice p 0 cap,str sep]) Tryz.call61 ((Tryz.strings_Join_none p cap (ofL sep) w).mono ?_)
   rintro e w' ⟨rfl,rfl⟩
   exact ⟨_,rfl,hK _ (Chg.refl _ _)⟩
 · obtain ⟨b,off,c,fr,rfl,hb,hcs⟩ := hcells (by simpa using hne)
   have hll : (l.map ofL).length = l.length := List.length_map _
   refine of_calls (args := #[.slice (some ⟨b,off,none⟩) l.length cap,str sep]) Tryz.call61 ?_
   have := Tryz.strings_Join b off cap (l.map ofL) (ofL sep) w (fun j x hx => ?_) (at_lt hb) (by rw [hll]; omega) (by rw [hll]; exact hc) (by rw [hm,ofL_data]; exact hs)
   · rw [hll,hm,ofL_data] at this
     refine this.mono ?_
     rintro e w' ⟨rfl,hbl⟩
     exact ⟨_,rfl,hK _ (Chg.of_below hbl)⟩
   · rw [List.getElem?_map,Option.map_eq_some_iff] at hx
     obtain ⟨y,hy,rfl⟩ := hx
     have hj := (List.getElem?_eq_some_iff.1 hy).1
     rw [cell_eq,hb,cellO_some,hcs j (by simpa using hj),List.getElem?_map,hy]
     rfl
theorem showX_p {f : Fl} {M : Lay} (hO : FOk f) : ∀ (i : Nat) (w : World) (K : Value → World → Prop),i ≤ 1000000 → FV w M f → (∀ w',Ext w w' → K (str (exprM f i)) w') → callF Tryz.prog 32 [.agg [M.vE,M.vB,M.vT].toArray,i64 (i : Nat)] w K := by
 intro i
 induction i using Nat.strongRecOn with
 | ind i ih =>
 intro w K hi hf hK
 refine W32_ok ?_
 unfold W32
 have emax : IntKind.i64.max = 9223372036854775807 := by decide
 refine box_new (z := [M.vE,M.vB,M.vT]) fun p w1 hp hz1 hb1 hx1 => ?_
 have hf1 := hf.ext hx1
 rw [bin_lss,decide_eq_false (by omega)]
 refine GdW.look (decide (f.ex.length ≤ i)) (fun _ J hJ => ?_) fun g => ?_
 · refine fld5 (off := 0) hb1 rfl ?_
   rw [lenl_at hf1.oE,bin_geq]
   have : decide ((f.ex.length : Int) ≤ (i : Int)) = decide (f.ex.length ≤ i) := by rw [decide_eq_decide]; omega
   rw [this]; exact hJ
 rw [isB_f,Bool.not_false,cond_true,List.getD_cons_zero,pick_f,condW_dec]
 refine ⟨fun hge => ?_,fun hlt => ?_⟩
 · have : exprM f i = [] := by
     unfold exprM
     rw [exprF,List.getElem?_eq_none hge]
   rw [this] at hK
   exact hK _ hx1
 have hlt : i < f.ex.length := by omega
 have ge := List.getElem?_eq_getElem hlt
 generalize f.ex[i] = e at ge
 have hm := List.mem_of_getElem? ge
 have hX := hO.xs e hm
 have hah := hO.ahead i e ge
 have hL := hO.len i
 have heq := expr_eq hO.ahead ge
 rw [heq] at hK hL
 obtain ⟨va,vk,oA,oK,pp,q1,q2⟩ := hf1.exI (k := .i64) ge
 refine fld5 (off := 0) hb1 rfl ?_
 refine ixa_to q1 ?_
 refine ld_to q2 ?_
 have one5 : [i64 e.k,str e.t,va,vk,i64 e.a].all one1 = true := by
   obtain ⟨p1,c1,e1,_⟩ := oA.shape
   obtain ⟨p2,c2,e2,_⟩ := oK.shape
   rw [e1,e2]; rfl
 refine alloc_new fun a5 w4 ha5 hz4 hb4 hx4 => ?_
 refine st_agg_at (l := [i64 e.k,str e.t,va,vk,i64 e.a]) hb4 rfl rfl one5 fun w5 hz5 hb5 hc5 => ?_
 have hx15 : Ext w1 w5 := hx4.new hc5 (by omega)
 have hb1 := hx15.at hb1 id
 have hf := hf1.ext hx15
 have oA := oA.ext hx15
 have oK := oK.ext hx15
 have hx5 := hx1.trans hx15
 clear hf1 hx15 hc5 hb4 hx4 q1 q2
 refine fld5 (off := 2) hb5 rfl ?_
 rw [lenl_at oA]
 have hal : (argsT e (exprM f)).length = e.args.length := by unfold argsT; rw [List.length_map,List.length_range]
 have hag : ∀ k,k < e.args.length → (argsT e (exprM f))[k]? = some (argT e (exprM f) k) := fun k hk => by
   unfold argsT
   rw [List.getElem?_map,List.getElem?_range hk]; rfl
 have harg : ∀ k,k < e.args.length → (argT e (exprM f) k).length ≤ 2000000000000 := fun k hk => by
   unfold argT
   have h1 := hO.len (e.args.getD k 0)
   rw [List.length_append]
   split
   · rename_i h8
     have h2 := hX.a8 h8
     have h3 := hO.keyl e hm h8 (e.keys.getD k []) (by rw [List.getD_eq_getElem?_getD,List.getElem?_eq_getElem (show k < e.keys.length by omega)]; exact List.getElem_mem _)
     have h4 := plain_len (e.keys.getD k [])
     simp only [List.length_append,List.length_cons,List.length_nil]
     omega
   · simp only [List.length_nil]; omega
 have hfewA := hX.few
 refine LoopW.go (fun st w' => ∃ (k : Nat) (v : Value),st = [v,i64 (k : Nat)] ∧ k ≤ e.args.length ∧ Own w' w5.heap.size StT 1 v k (strs ((argsT e (exprM f)).take k)) ∧ Ext w5 w') (fun st _ => match st with | [_,.int _ k] => e.args.length - k.toNat | _ => 0) ⟨0,.slice none 0 0,rfl,by omega,⟨by simp [strs],.inl ⟨rfl,rfl⟩⟩,Chg.refl _ _⟩ ?_
 rintro st g w7 ⟨k,v,rfl,hk,hO7,hx7⟩
 simp only [List.getD_cons_zero,List.getD_cons_succ]
 rw [bin_lss,condW_dec]
 refine ⟨fun hlt2 => ?_,fun hge2 => ?_⟩
 · have hlt2 : k < e.args.length := by omega
   have gk := List.getElem?_eq_getElem hlt2
   have hgd : e.args.getD k 0 = e.args[k] := by rw [List.getD_eq_getElem?_getD,gk]; rfl
   have hai := hah e.args[k] (List.getElem_mem hlt2)
   have hak := hag k hlt2
   have hargk := harg k hlt2
   unfold argT at hak hargk
   rw [hgd] at hak hargk
   generalize e.args[k] = q at gk hai hak hargk
   refine ixa_ld (oA.ext hx7) (by simp [ints]) (int_get gk) ?_
   refine ld_row (hx7.at hb1 id) rfl ?_
   refine ih q hai w7 _ (by omega) (hf.ext hx7) fun w8 hx8 => ?_
   have hx58 := hx7.trans hx8
   refine JoinW.cut (fun st w' => st = [str ((if e.k = 8 then [34] ++ plainM (e.keys.getD k []) ++ [34,32,61,32] else []) ++ exprM f q)] ∧ Ext w8 w') ?_ ?_
   · refine fld5 (off := 0) (hx58.at hb5 id) rfl ?_
     rw [bin_eql,condW_dec]
     refine ⟨fun h8 => ?_,fun h8 => ?_⟩
     · rw [if_pos h8] at hargk ⊢
       have hkl : k < e.keys.length := by have := hX.a8 h8; omega
       refine fld5 (off := 3) (hx58.at hb5 id) rfl ?_
       refine ixa_ld (oK.ext hx58) (by simp [strs]) (strs_get hkl) ?_
       have hu := hX.uk (e.keys.getD k []) (by rw [List.getD_eq_getElem?_getD,List.getElem?_eq_getElem hkl]; exact List.getElem_mem _)
       refine splain_p hu.1 hu.2 fun w10 hx10 => ?_
       simp only [List.length_append,List.length_cons,List.length_nil] at hargk
       rw [bin_sadd]
       refine ⟨by rw [emax,List.length_cons,List.length_nil]; omega,?_⟩
       rw [bin_sadd]
       refine ⟨by rw [emax]; simp only [List.length_append,List.length_cons,List.length_nil]; omega,?_⟩
       rw [bin_sadd]
       refine ⟨by rw [emax]; simp only [List.length_append,List.length_cons,List.length_nil]; omega,?_⟩
       exact ⟨rfl,hx10⟩
     · rw [if_neg h8]
       exact ⟨rfl,Chg.refl _ _⟩
   · rintro st g9 w11 ⟨rfl,hx11⟩
     simp only [List.getD_cons_zero]
     refine bsl_str fun r w12 hr hz12 hrb hx12 => ?_
     have hx712 := (hx8.trans hx11).trans hx12
     have hz712 := hx712.size
     have hz57 := hx7.size
     refine append_own3 el_st (hO7.ext hx712) (slat_new' (n := 1) (T := StT) hrb) rfl (fun u hu => by simp only [List.mem_singleton] at hu; subst hu; rfl) (by omega) (by omega) (by omega) fun v' w13 hO13 hc13 hv13 => ?_
     rw [bin_add,upi (by omega)]
     refine ⟨⟨k + 1,v',rfl,by omega,?_,(hx7.trans hx712).then hc13 fun b hb hv => by have := (own_lt hO7 hv).2; omega⟩,?_⟩
     · have e1 : strs ((argsT e (exprM f)).take (k + 1)) = strs ((argsT e (exprM f)).take k) ++ [str ((if e.k = 8 then [34] ++ plainM (e.keys.getD k []) ++ [34,32,61,32] else []) ++ exprM f q)] := by
         rw [List.take_add_one,hak]; simp [strs]
       rw [e1]; exact hO13
     · simp only [Int.toNat_natCast]; omega
 obtain rfl : k = e.args.length := by omega
 rw [← hal,List.take_length] at hO7
 have hsl := hO7.sl
 have hgl : ∀ k,k < e.args.length → (strs (argsT e (exprM f)))[k]? = some (str ((argsT e (exprM f)).getD k [])) := fun k hk => strs_get (by omega)
 have hjb : (joinL (argsT e (exprM f)) [44,32]).length ≤ 140737488355328 := Nat.le_trans (hO.join e hm) (by decide)
 clear harg hag
 generalize argsT e (exprM f) = l at *
 refine sjoin_p (l := l) (T := StT) hsl (by omega) hjb fun w14 hx14 => ?_
 have hx514 := hx7.trans hx14
 have hxT := hx5.trans hx514
 have hxD := hxT.trans (ext_drew w14)
 have hb5d := (hx514.trans (ext_drew w14)).at hb5 id
 have hb1 := hx514.at hb1 id
 have hb5 := hx514.at hb5 id
 have hsl := hsl.ext hx14
 have hsd := hsl.ext (ext_drew w14)
 have gl : ∀ {k : Nat} {K' : Value → Prop},k < e.args.length → K' (str (l.getD k [])) → ixaW none 1 v (i64 (k : Nat)) fun t => ldW false 1 t w14.drew K' := fun {k} {K'} hk h => ixa_ld hsd (by simp [strs]) (hgl k hk) h
 have gp : ∀ {k : Nat},k < e.args.length → ∃ q,ixaW none 1 v (i64 (k : Nat)) (fun x => x = q) ∧ ldW false 1 q w14.drew fun x => x = str (l.getD k []) := fun {k} hk => ixa_split (ixa_ld (K := fun x => x = str (l.getD k [])) hsd (by simp [strs]) (hgl k hk) rfl)
 clear hgl ih hO7 hx7 hx14
 refine fld5 (off := 0) hb5 rfl ?_
 rw [bin_eql,condW_dec]
 refine ⟨fun h1 => ?_,fun n1 => ?_⟩
 · rw [show showK f e l = [110,117,108,108] by unfold showK; rw [h1]; rfl] at hK
   exact hK _ hxT
 rw [bin_eql,condW_dec]
 refine ⟨fun h1 => ?_,fun n2 => ?_⟩
 · rw [show showK f e l = [116,114,117,101] by unfold showK; rw [h1]; rfl] at hK
   exact hK _ hxT
 rw [bin_eql,condW_dec]
 refine ⟨fun h1 => ?_,fun n3 => ?_⟩
 · rw [show showK f e l = [102,97,108,115,101] by unfold showK; rw [h1]; rfl] at hK
   exact hK _ hxT
 refine JoinW.cut (fun st w' => st = [.bool (decide (e.k = 4 ∨ e.k = 9))] ∧ w' = w14) ?_ ?_
 · rw [bin_eql,condW_dec]
   refine ⟨fun h => ?_,fun h => ?_⟩
   · rw [decide_eq_true h,decide_eq_true (.inl h)]; exact ⟨rfl,rfl⟩
   · rw [bin_eql,show decide (e.k = 9) = decide (e.k = 4 ∨ e.k = 9) by rw [decide_eq_decide]; omega]
     exact ⟨rfl,rfl⟩
 rintro st g15 w16 ⟨rfl,rfl⟩
 simp only [List.getD_cons_zero]
 rw [condW_dec]
 refine ⟨fun h1 => ?_,fun n4 => ?_⟩
 · rw [show showK f e l = e.t by unfold showK; rw [if_neg n1,if_neg n2,if_neg n3,if_pos h1]] at hK
   refine fld5 (off := 1) hb5 rfl ?_
   exact hK _ hxT
 rw [bin_eql,condW_dec]
 refine ⟨fun h1 => ?_,fun n5 => ?_⟩
 · have hs : showK f e l = [34] ++ plainM e.t ++ [34] := by unfold showK; rw [h1]; rfl
   rw [hs] at hK hL
   refine fld5 (off := 1) hb5 rfl ?_
   refine splain_p hX.ut.1 hX.ut.2 fun w17 hx17 => ?_
   rw [bin_sadd]; refine ⟨by rw [emax]; simp only [List.length_append,List.length_cons,List.length_nil] at hL ⊢; omega,?_⟩
   rw [bin_sadd]; refine ⟨by rw [emax]; simp only [List.length_append,List.length_cons,List.length_nil] at hL ⊢; omega,?_⟩
   exact hK _ (hxT.trans hx17)
 rw [bin_eql,condW_dec]
 refine ⟨fun h1 => ?_,fun n6 => ?_⟩
 · have hs : showK f e l = [34] ++ tplM f e l l.length ++ [34] := by unfold showK; rw [h1]; rfl
   rw [hs] at hK hL
   simp only [List.length_append,List.length_cons,List.length_nil] at hL
   refine ld_row hb1 rfl ?_
   refine ld_row hb5 rfl ?_
   refine template_p (hf.ext hx514) (oA.ext hx514) (oK.ext hx514) hsl hal (hX.a6 h1) (fun a ha => by have := hah a ha; omega) (fun x hx => (hO.xs x hx).ut) (by omega) (by omega) fun w18 hx18 => ?_
   exact hK _ (hxT.trans hx18)
 rw [bin_eql,condW_dec]
 refine ⟨fun h1 => ?_,fun n7 => ?_⟩
 · have hs : showK f e l = [91] ++ joinL l [44,32] ++ [93] := by unfold showK; rw [h1]; rfl
   rw [hs] at hK hL
   rw [bin_sadd]; refine ⟨by rw [emax]; simp only [List.length_append,List.length_cons,List.length_nil] at hL ⊢; omega,?_⟩
   rw [bin_sadd]; refine ⟨by rw [emax]; simp only [List.length_append,List.length_cons,List.length_nil] at hL ⊢; omega,?_⟩
   exact hK _ hxT
 rw [bin_eql,condW_dec]
 refine ⟨fun h1 => ?_,fun n8 => ?_⟩
 · have hs : showK f e l = [123] ++ joinL l [44,32] ++ [125] := by unfold showK; rw [h1]; rfl
   rw [hs] at hK hL
   rw [bin_sadd]; refine ⟨by rw [emax]; simp only [List.length_append,List.length_cons,List.length_nil] at hL ⊢; omega,?_⟩
   rw [bin_sadd]; refine ⟨by rw [emax]; simp only [List.length_append,List.length_cons,List.length_nil] at hL ⊢; omega,?_⟩
   exact hK _ hxT
 rw [bin_eql,condW_dec]
 refine ⟨fun h1 => ?_,fun n10 => ?_⟩
 · have hs : showK f e l = [40] ++ l.getD 0 [] ++ [41,46] ++ e.t := by unfold showK; rw [h1]; rfl
   rw [hs] at hK hL
   have ha := hX.a1 (.inl h1)
   refine gl (k := 0) (by omega) ?_
   rw [bin_sadd]; refine ⟨by rw [emax]; simp only [List.length_append,List.length_cons,List.length_nil] at hL ⊢; omega,?_⟩
   rw [bin_sadd]; refine ⟨by rw [emax]; simp only [List.length_append,List.length_cons,List.length_nil] at hL ⊢; omega,?_⟩
   refine fld5 (off := 1) hb5d rfl ?_
   rw [bin_sadd]; refine ⟨by rw [emax]; simp only [List.length_append,List.length_cons,List.length_nil] at hL ⊢; omega,?_⟩
   exact hK _ hxD
 rw [bin_eql,condW_dec]
 refine ⟨fun h1 => ?_,fun n30 => ?_⟩
 · have hs : showK f e l = [40] ++ l.getD 0 [] ++ [41,91,42,93,46] ++ e.t := by unfold showK; rw [h1]; rfl
   rw [hs] at hK hL
   have ha := hX.a1 (.inr h1)
   refine gl (k := 0) (by omega) ?_
   rw [bin_sadd]; refine ⟨by rw [emax]; simp only [List.length_append,List.length_cons,List.length_nil] at hL ⊢; omega,?_⟩
   rw [bin_sadd]; refine ⟨by rw [emax]; simp only [List.length_append,List.length_cons,List.length_nil] at hL ⊢; omega,?_⟩
   refine fld5 (off := 1) hb5d rfl ?_
   rw [bin_sadd]; refine ⟨by rw [emax]; simp only [List.length_append,List.length_cons,List.length_nil] at hL ⊢; omega,?_⟩
   exact hK _ hxD
 rw [bin_eql,condW_dec]
 refine ⟨fun h1 => ?_,fun n11 => ?_⟩
 · have hs : showK f e l = [40] ++ l.getD 0 [] ++ [41,91] ++ l.getD 1 [] ++ [93] := by unfold showK; rw [h1]; rfl
   rw [hs] at hK hL
   have ha := hX.a2 (.inl h1)
   refine gl (k := 0) (by omega) ?_
   rw [bin_sadd]; refine ⟨by rw [emax]; simp only [List.length_append,List.length_cons,List.length_nil] at hL ⊢; omega,?_⟩
   rw [bin_sadd]; refine ⟨by rw [emax]; simp only [List.length_append,List.length_cons,List.length_nil] at hL ⊢; omega,?_⟩
   refine gl (k := 1) (by omega) ?_
   rw [bin_sadd]; refine ⟨by rw [emax]; simp only [List.length_append,List.length_cons,List.length_nil] at hL ⊢; omega,?_⟩
   rw [bin_sadd]; refine ⟨by rw [emax]; simp only [List.length_append,List.length_cons,List.length_nil] at hL ⊢; omega,?_⟩
   exact hK _ hxD
 rw [bin_eql,condW_dec]
 refine ⟨fun h1 => ?_,fun n12 => ?_⟩
 · have hs : showK f e l = e.t ++ [40] ++ joinL l [44,32] ++ [41] := by unfold showK; rw [h1]; rfl
   rw [hs] at hK hL
   refine fld5 (off := 1) hb5 rfl ?_
   rw [bin_sadd]; refine ⟨by rw [emax]; simp only [List.length_append,List.length_cons,List.length_nil] at hL ⊢; omega,?_⟩
   rw [bin_sadd]; refine ⟨by rw [emax]; simp only [List.length_append,List.length_cons,List.length_nil] at hL ⊢; omega,?_⟩
   rw [bin_sadd]; refine ⟨by rw [emax]; simp only [List.length_append,List.length_cons,List.length_nil] at hL ⊢; omega,?_⟩
   exact hK _ hxT
 rw [bin_eql,condW_dec]
 refine ⟨fun h1 => ?_,fun n13 => ?_⟩
 · have hs : showK f e l = [40,45] ++ joinL l [44,32] ++ [41] := by unfold showK; rw [h1]; rfl
   rw [hs] at hK hL
   rw [bin_sadd]; refine ⟨by rw [emax]; simp only [List.length_append,List.length_cons,List.length_nil] at hL ⊢; omega,?_⟩
   rw [bin_sadd]; refine ⟨by rw [emax]; simp only [List.length_append,List.length_cons,List.length_nil] at hL ⊢; omega,?_⟩
   exact hK _ hxT
 rw [bin_eql,condW_dec]
 refine ⟨fun h1 => ?_,fun n14 => ?_⟩
 · have hs : showK f e l = [40,33] ++ joinL l [44,32] ++ [41] := by unfold showK; rw [h1]; rfl
   rw [hs] at hK hL
   rw [bin_sadd]; refine ⟨by rw [emax]; simp only [List.length_append,List.length_cons,List.length_nil] at hL ⊢; omega,?_⟩
   rw [bin_sadd]; refine ⟨by rw [emax]; simp only [List.length_append,List.length_cons,List.length_nil] at hL ⊢; omega,?_⟩
   exact hK _ hxT
 rw [bin_eql,condW_dec]
 refine ⟨fun h1 => ?_,fun n28 => ?_⟩
 · have hs : showK f e l = [40] ++ l.getD 0 [] ++ [32,63,32] ++ l.getD 1 [] ++ [32,58,32] ++ l.getD 2 [] ++ [41] := by unfold showK; rw [h1]; rfl
   rw [hs] at hK hL
   have ha := hX.a3 h1
   refine gl (k := 0) (by omega) ?_
   rw [bin_sadd]; refine ⟨by rw [emax]; simp only [List.length_append,List.length_cons,List.length_nil] at hL ⊢; omega,?_⟩
   rw [bin_sadd]; refine ⟨by rw [emax]; simp only [List.length_append,List.length_cons,List.length_nil] at hL ⊢; omega,?_⟩
   refine gl (k := 1) (by omega) ?_
   rw [bin_sadd]; refine ⟨by rw [emax]; simp only [List.length_append,List.length_cons,List.length_nil] at hL ⊢; omega,?_⟩
   rw [bin_sadd]; refine ⟨by rw [emax]; simp only [List.length_append,List.length_cons,List.length_nil] at hL ⊢; omega,?_⟩
   refine gl (k := 2) (by omega) ?_
   rw [bin_sadd]; refine ⟨by rw [emax]; simp only [List.length_append,List.length_cons,List.length_nil] at hL ⊢; omega,?_⟩
   rw [bin_sadd]; refine ⟨by rw [emax]; simp only [List.length_append,List.length_cons,List.length_nil] at hL ⊢; omega,?_⟩
   exact hK _ hxD
 rw [bin_eql,condW_dec]
 refine ⟨fun h1 => ?_,fun n29 => ?_⟩
 · have hs : showK f e l = [91,102,111,114,32] ++ e.t ++ [32,105,110,32] ++ l.getD 0 [] ++ [32,58,32] ++ l.getD 1 [] ++ [93] := by unfold showK; rw [h1]; rfl
   rw [hs] at hK hL
   have ha := hX.a2 (.inr (.inl h1))
   refine fld5 (off := 1) hb5d rfl ?_
   rw [bin_sadd]; refine ⟨by rw [emax]; simp only [List.length_append,List.length_cons,List.length_nil] at hL ⊢; omega,?_⟩
   rw [bin_sadd]; refine ⟨by rw [emax]; simp only [List.length_append,List.length_cons,List.length_nil] at hL ⊢; omega,?_⟩
   refine gl (k := 0) (by omega) ?_
   rw [bin_sadd]; refine ⟨by rw [emax]; simp only [List.length_append,List.length_cons,List.length_nil] at hL ⊢; omega,?_⟩
   rw [bin_sadd]; refine ⟨by rw [emax]; simp only [List.length_append,List.length_cons,List.length_nil] at hL ⊢; omega,?_⟩
   refine gl (k := 1) (by omega) ?_
   rw [bin_sadd]; refine ⟨by rw [emax]; simp only [List.length_append,List.length_cons,List.length_nil] at hL ⊢; omega,?_⟩
   rw [bin_sadd]; refine ⟨by rw [emax]; simp only [List.length_append,List.length_cons,List.length_nil] at hL ⊢; omega,?_⟩
   exact hK _ hxD
 have hlo := hX.lo
 have hhi := hX.hi
 have hrange : 15 ≤ e.k ∧ e.k ≤ 27 := by omega
 have ha := hX.a2 (.inr (.inr hrange))
 have hs : showK f e l = [40] ++ l.getD 0 [] ++ [32] ++ sigT.getD (e.k - 15).toNat [] ++ [32] ++ l.getD 1 [] ++ [41] := by
   unfold showK
   rw [if_neg n1,if_neg n2,if_neg n3,if_neg n4,if_neg n5,if_neg n6,if_neg n7,if_neg n8,if_neg n10,if_neg n30,if_neg n11,if_neg n12,if_neg n13,if_neg n14,if_neg n28,if_neg n29]
 rw [hs] at hK hL
 obtain ⟨p0,i0,l0⟩ := gp (k := 0) (by omega)
 obtain ⟨p1,i1,l1⟩ := gp (k := 1) (by omega)
 refine ixa_to i0 ?_
 refine ld_to l0 ?_
 rw [bin_sadd]; refine ⟨by rw [emax]; simp only [List.length_append,List.length_cons,List.length_nil] at hL ⊢; omega,?_⟩
 rw [bin_sadd]; refine ⟨by rw [emax]; simp only [List.length_append,List.length_cons,List.length_nil] at hL ⊢; omega,?_⟩
 refine fld5 (off := 0) hb5d rfl ?_
 refine ixa_to i1 ?_
 refine ld_to l1 ?_
 refine sign_s hrange.1 hrange.2 ?_
 refine ⟨l1,l0,?_⟩
 rw [bin_sadd]; refine ⟨by rw [emax]; simp only [List.length_append,List.length_cons,List.length_nil] at hL ⊢; omega,?_⟩
 rw [bin_sadd]; refine ⟨by rw [emax]; simp only [List.length_append,List.length_cons,List.length_nil] at hL ⊢; omega,?_⟩
 rw [bin_sadd]; refine ⟨by rw [emax]; simp only [List.length_append,List.length_cons,List.length_nil] at hL ⊢; omega,?_⟩
 rw [bin_sadd]; refine ⟨by rw [emax]; simp only [List.length_append,List.length_cons,List.length_nil] at hL ⊢; omega,?_⟩
 exact hK _ hxD
end Go.Proofs.YtofhaneggcpdaaaGreatDoor
namespace Go.Proofs.YtofhaneggcpdaaaGreatDoor
open Go Go.Eng Go.RowKit Go.Syn Go.Lex
set_option maxRecDepth 100000
set_option maxHeartbeats 1000000
structure BOk (f : Fl) : Prop where
 ahead : ∀ (i : Nat) (b : Blk),f.bl[i]? = some b → ∀ a ∈ b.blocks,a < i
 few : f.bl.length ≤ 100000 ∧ f.top.length ≤ 100000 ∧ ∀ b ∈ f.bl,b.labels.length ≤ 1000000 ∧ b.attrs.length ≤ 1000000 ∧ b.blocks.length ≤ 1000000
 ut : ∀ b ∈ f.bl,∀ s ∈ b.labels,Utf s ∧ s.length ≤ 1000000000
 at_ : ∀ b ∈ f.bl,∀ a ∈ b.attrs,a.e ≤ 1000000
theorem labs_next {l : List Str} {k : Nat} {s : Str} (h : l[k]? = some s) : labsM (l.take (k + 1)) = labsM (l.take k) ++ ([32,34] ++ plainM s ++ [34]) := by
 unfold labsM
 rw [List.take_add_one,h,List.map_append,List.flatten_append]
 simp
theorem flat_next {α : Type} (F : α → Str) {l : List α} {k : Nat} {s : α} (h : l[k]? = some s) : ((l.take (k + 1)).map F).flatten = ((l.take k).map F).flatten ++ F s := by
 rw [List.take_add_one,h,List.map_append,List.flatten_append]
 simp
theorem flat_take_le {α : Type} (F : α → Str) (l : List α) (k : Nat) : ((l.take k).map F).flatten.length ≤ (l.map F).flatten.length := by
 have : l.map F = (l.take k).map F ++ (l.drop k).map F := by rw [← List.map_append,List.take_append_drop]
 rw [this,List.flatten_append,List.length_append]; omega
theorem labs_take_le (l : List Str) (k : Nat) : (labsM (l.take k)).length ≤ (labsM l).length := flat_take_le _ l k
theorem in_len (n : Nat) : (inM n).length = 2 * n := by
 unfold inM
 induction n with
 | zero => rfl
 | succ n ih => rw [List.replicate_succ,List.flatten_cons,List.length_append,ih]; simp; omega
theorem srepL (l : Str) : ∀ n,Lib.repeatL l n = (List.replicate n l).flatten
 | 0 => rfl
 | n + 1 => by rw [Lib.repeatL,srepL l n,List.replicate_succ,List.flatten_cons]
variable [HX]
theorem srepeat_p {s : Str} {n : Nat} {w : World} {K : Value → World → Prop} (hs : s.length ≤ 1000) (hn : n ≤ 1000000) (hK : ∀ w',Ext w w' → K (str (List.replicate n s).flatten) w') : callF Tryz.prog 64 [str s,i64 (n : Nat)] w K := by
 refine of_calls (args := #[str s,i64 (n : Nat)]) Tryz.call64 ((Tryz.strings_Repeat (ofL s) n w (by omega) (by rw [ofL_size]; exact Nat.le_trans (Nat.mul_le_mul hs hn) (by decide))).mono ?_)
 rintro e w' ⟨rfl,hb⟩
 rw [ofL_data,srepL]
 exact ⟨_,rfl,hK _ (Chg.of_below hb)⟩
theorem showB_p {f : Fl} {M : Lay} (hO : FOk f) (hB : BOk f) {w0 : World} (hf : FV w0 M f) : ∀ (i : Nat) (w : World) (K : Value → World → Prop) (B b : Nat) (l : Str) (n : Nat),i < f.bl.length → n + i ≤ 1000000 → Bld w B b l → Ext w0 w → w0.heap.size ≤ B → B ≤ w.heap.size → l.length + (blockM f i n).length ≤ 120000000000000 →
   (∀ w',Bld w' B b (l ++ blockM f i n) → Chg (BCh w B b) w w' → K (.tuple #[]) w') → callF Tryz.prog 33 [.pointer (some ⟨b,0,none⟩),.agg [M.vE,M.vB,M.vT].toArray,i64 (i : Nat),i64 (n : Nat)] w K := by
 intro i
 induction i using Nat.strongRecOn with
 | ind i ih =>
 intro w K B b l n hi hn hbl h0 hB0 hBw hL hK
 refine W33_ok ?_
 unfold W33
 have emax : IntKind.i64.max = 9223372036854775807 := by decide
 have hbB := hbl.base
 refine box_new (z := [M.vE,M.vB,M.vT]) fun p w1 hp hz1 hb1 hx1 => ?_
 have hbw := hbl.lt
 have hbl1 := hbl.ext hx1
 have hf1 := hf.ext (h0.trans hx1)
 have ge := List.getElem?_eq_getElem hi
 generalize f.bl[i] = x at ge
 have hm := List.mem_of_getElem? ge
 have hah := hB.ahead i x ge
 have heq := block_eq hB.ahead ge n
 rw [heq] at hK hL
 obtain ⟨few1,few2,few3⟩ := hB.few.2.2 x hm
 have hut := hB.ut x hm
 have hat := hB.at_ x hm
 have hin := in_len n
 obtain ⟨vl,va,vb,erow,oL,oA,oB⟩ := hf.bb.2 i x ge
 refine fld5 (off := 1) hb1 rfl ?_
 refine ixa_row (d := [str x.typ,vl,va,vb,i64 x.a]) hf1.oB hf1.bb.1 (by omega) hi erow ?_
 have one5 : [str x.typ,vl,va,vb,i64 x.a].all one1 = true := by
   obtain ⟨p0,c0,e0,_⟩ := oL.shape
   obtain ⟨p1,c1,e1,_⟩ := oA.shape
   obtain ⟨p2,c2,e2,_⟩ := oB.shape
   rw [e0,e1,e2]; rfl
 refine alloc_new fun a8 w2 ha8 hz2 hb2 hx2 => ?_
 refine st_agg_at (l := [str x.typ,vl,va,vb,i64 x.a]) hb2 rfl rfl one5 fun w3 hz3 hb3 hc3 => ?_
 have hx13 : Ext w1 w3 := hx2.new hc3 (by omega)
 have hz13 := hx13.size
 refine srepeat_p (by simp) (by omega) fun w4 hx4 => ?_
 rw [show (List.replicate n ([32,32] : Str)).flatten = inM n from rfl]
 have hx14 := hx13.trans hx4
 have hx04 := (h0.trans hx1).trans hx14
 have hbl4 := hbl1.ext hx14
 have hb14 := hx14.at hb1 id
 have hb84 := hx4.at hb3 id
 have hz4 := hx14.size
 have hpb : p ≠ b := by omega
 have h8b : a8 ≠ b := by omega
 have hxw4 : Ext w w4 := hx1.trans hx14
 simp only [List.length_append,List.length_cons,List.length_nil] at hL
 have hKc : ∀ w',Bld w' B b (l ++ (inM n ++ x.typ ++ labsM x.labels ++ [32,123,10] ++ (x.attrs.map (atrM f n)).flatten ++ (x.blocks.map fun k => blockM f k (n + 1)).flatten ++ inM n ++ [125,10])) → Chg (BCh w4 B b) w4 w' → K (.tuple #[]) w' := fun w' h1 h2 => hK w' h1 (BCh.from hxw4 h2)
 clear hK hb1 hb2 hb3 hc3 hx2 hx13 hbl1 hf1 hx1 hx14 hx4 hz13
 -- what stays
 have st : ∀ {w'},Chg (BCh w4 B b) w4 w' → w'.heap[p]? = some (.cells [M.vE,M.vB,M.vT].toArray FlT (0,0)) ∧ w'.heap[a8]? = some (.cells [str x.typ,vl,va,vb,i64 x.a].toArray BkT (0,0)) ∧ Ext w0 w' ∧ w4.heap.size ≤ w'.heap.size := fun {w'} hc =>
   ⟨BCh.keep hc hb14 hpb (by decide),BCh.keep hc hb84 h8b (by decide),BCh.new hx04 hB0 hbB hc,hc.size⟩
 have far : ∀ {v : Value} {T : TypeId} {c : Nat} {cs : List Value} {w'},SlAt w0 T v c cs → Chg (BCh w4 B b) w4 w' → SlAt w' T v c cs := fun hs hc => hs.ext (BCh.new hx04 hB0 hbB hc)
 -- the first line
 refine fld5 (off := 0) hb84 rfl ?_
 rw [bin_sadd]
 refine ⟨by rw [emax]; omega,?_⟩
 refine wstr_p hbl4 (by omega) (by rw [List.length_append]; omega) fun v5 w5 h5 hc5 => ?_
 obtain ⟨s5p,s5a,s5x,s5z⟩ := st hc5
 refine fld5 (off := 1) s5a rfl ?_
 rw [lenl_at (far oL hc5)]
 refine LoopW.go (fun st w' => ∃ k : Nat,st = [i64 (k : Nat)] ∧ k ≤ x.labels.length ∧ Bld w' B b (l ++ (inM n ++ x.typ) ++ labsM (x.labels.take k)) ∧ Chg (BCh w4 B b) w4 w') (fun st _ => match st with | [.int _ k] => x.labels.length - k.toNat | _ => 0) ⟨0,rfl,by omega,by rw [List.take_zero]; simpa [labsM] using h5,hc5⟩ ?_
 clear h5 hc5 s5p s5a s5x s5z
 rintro st' g w7 ⟨k,rfl,hk,h7,hc7⟩
 obtain ⟨s7p,s7a,s7x,s7z⟩ := st hc7
 simp only [List.getD_cons_zero]
 rw [bin_lss,condW_dec]
 have hlk := labs_take_le x.labels k
 refine ⟨fun hlt => ?_,fun hge => ?_⟩
 · have hlt : k < x.labels.length := by omega
   have gk := List.getElem?_eq_getElem hlt
   have hgd : x.labels.getD k [] = x.labels[k] := by rw [List.getD_eq_getElem?_getD,gk]; rfl
   have hu := hut x.labels[k] (List.getElem_mem hlt)
   have hsg := strs_get hlt
   rw [hgd] at hsg
   have hnx := labs_next gk
   have hle := labs_take_le x.labels (k + 1)
   generalize x.labels[k] = s at gk hu hsg hnx
   rw [hnx] at hle
   simp only [List.length_append,List.length_cons,List.length_nil] at hle
   refine ixa_ld (far oL hc7) (by simp [strs]) hsg ?_
   refine splain_p hu.1 hu.2 fun w8 hx8 => ?_
   rw [bin_sadd]; refine ⟨by rw [emax]; simp only [List.length_append,List.length_cons,List.length_nil]; omega,?_⟩
   rw [bin_sadd]; refine ⟨by rw [emax]; simp only [List.length_append,List.length_cons,List.length_nil]; omega,?_⟩
   have hz8 := hx8.size
   refine wstr_p (h7.ext hx8) (by omega) (by simp only [List.length_append,List.length_cons,List.length_nil]; omega) fun v9 w9 h9 hc9 => ?_
   rw [bin_add,upi (by omega)]
   refine ⟨⟨k + 1,rfl,by omega,by rw [hnx,← List.append_assoc]; exact h9,BCh.trans (BCh.ext hc7 hx8) hc9⟩,?_⟩
   simp only [Int.toNat_natCast]; omega
 obtain rfl : k = x.labels.length := by omega
 rw [List.take_length] at h7
 refine wstr_p h7 (by omega) (by simp only [List.length_append,List.length_cons,List.length_nil]; omega) fun v10 w10 h10 hc10 => ?_
 have hc10 := BCh.trans hc7 hc10
 clear h7 hc7 s7p s7a s7x s7z hlk hge
 obtain ⟨s5p,s5a,s5x,s5z⟩ := st hc10
 -- the attributes
 refine fld5 (off := 2) s5a rfl ?_
 rw [lenl_at (far oA hc10)]
 refine LoopW.go (fun st w' => ∃ k : Nat,st = [i64 (k : Nat)] ∧ k ≤ x.attrs.length ∧ Bld w' B b (l ++ (inM n ++ x.typ) ++ labsM x.labels ++ [32,123,10] ++ ((x.attrs.take k).map (atrM f n)).flatten) ∧ Chg (BCh w4 B b) w4 w') (fun st _ => match st with | [.int _ k] => x.attrs.length - k.toNat | _ => 0) ⟨0,rfl,by omega,by rw [List.take_zero]; simpa using h10,hc10⟩ ?_
 clear h10 hc10 s5p s5a s5x s5z
 rintro st' g w12 ⟨k,rfl,hk,h12,hc12⟩
 obtain ⟨s7p,s7a,s7x,s7z⟩ := st hc12
 simp only [List.getD_cons_zero]
 rw [bin_lss,condW_dec]
 have hlk := flat_take_le (atrM f n) x.attrs k
 refine ⟨fun hlt => ?_,fun hge => ?_⟩
 · have hlt : k < x.attrs.length := by omega
   have gk := List.getElem?_eq_getElem hlt
   have hae := hat x.attrs[k] (List.getElem_mem hlt)
   have hnx := flat_next (atrM f n) gk
   have hle := flat_take_le (atrM f n) x.attrs (k + 1)
   generalize x.attrs[k] = a at gk hae hnx
   rw [hnx] at hle
   have heA : atrM f n a = inM n ++ [32,32] ++ a.n ++ [32,61,32] ++ exprM f a.e ++ [10] := rfl
   rw [heA] at hle
   simp only [List.length_append,List.length_cons,List.length_nil] at hle
   refine ixa_row (d := [str a.n,i64 (a.e : Nat),i64 a.a]) (far oA hc12) (atrs_len _) (by omega) hlt (atr_row gk) ?_
   refine alloc_new fun a13 w13 ha13 hz13 hb13 hx13 => ?_
   refine st_agg_at (l := [str a.n,i64 (a.e : Nat),i64 a.a]) hb13 rfl rfl rfl fun w14 hz14 hb14' hc14 => ?_
   have hx14 : Ext w12 w14 := hx13.new hc14 (by omega)
   have hx14d := hx14.trans (ext_drew w14)
   have hb14d := (ext_drew w14).at hb14' id
   rw [bin_sadd]; refine ⟨by rw [emax]; simp only [List.length_append,List.length_cons,List.length_nil]; omega,?_⟩
   rw [fld_ptr]
   refine ld_to (ld5 (off := 0) hb14d rfl) ?_
   rw [bin_sadd]; refine ⟨by rw [emax]; simp only [List.length_append,List.length_cons,List.length_nil]; omega,?_⟩
   rw [bin_sadd]; refine ⟨by rw [emax]; simp only [List.length_append,List.length_cons,List.length_nil]; omega,?_⟩
   refine ld_row (hx14d.at s7p id) rfl ?_
   refine fld5 (off := 1) hb14d rfl ?_
   refine showX_p hO a.e _ _ hae (hf.ext (s7x.trans hx14d)) fun w15 hx15 => ?_
   refine ⟨ld5 (off := 0) (hx15.at hb14d id) rfl,?_⟩
   rw [bin_sadd]; refine ⟨by rw [emax]; simp only [List.length_append,List.length_cons,List.length_nil]; omega,?_⟩
   rw [bin_sadd]; refine ⟨by rw [emax]; simp only [List.length_append,List.length_cons,List.length_nil]; omega,?_⟩
   have hx1215 := hx14d.trans hx15
   have hz15 := hx1215.size
   refine wstr_p (h12.ext hx1215) (by omega) (by simp only [List.length_append,List.length_cons,List.length_nil]; omega) fun v16 w16 h16 hc16 => ?_
   rw [bin_add,upi (by omega)]
   refine ⟨⟨k + 1,rfl,by omega,by rw [hnx,← List.append_assoc]; exact h16,BCh.trans (BCh.ext hc12 hx1215) hc16⟩,?_⟩
   simp only [Int.toNat_natCast]; omega
 obtain rfl : k = x.attrs.length := by omega
 rw [List.take_length] at h12
 -- the blocks
 refine fld5 (off := 3) s7a rfl ?_
 rw [lenl_at (far oB hc12)]
 refine LoopW.go (fun st w' => ∃ k : Nat,st = [i64 (k : Nat)] ∧ k ≤ x.blocks.length ∧ Bld w' B b (l ++ (inM n ++ x.typ) ++ labsM x.labels ++ [32,123,10] ++ (x.attrs.map (atrM f n)).flatten ++ ((x.blocks.take k).map fun k => blockM f k (n + 1)).flatten) ∧ Chg (BCh w4 B b) w4 w') (fun st _ => match st with | [.int _ k] => x.blocks.length - k.toNat | _ => 0) ⟨0,rfl,by omega,by rw [List.take_zero]; simpa using h12,hc12⟩ ?_
 clear h12 hc12 s7p s7a s7x s7z hlk hge
 rintro st' g w18 ⟨k,rfl,hk,h18,hc18⟩
 obtain ⟨s7p,s7a,s7x,s7z⟩ := st hc18
 simp only [List.getD_cons_zero]
 rw [bin_lss,condW_dec]
 have hlk := flat_take_le (fun k => blockM f k (n + 1)) x.blocks k
 refine ⟨fun hlt => ?_,fun hge => ?_⟩
 · have hlt : k < x.blocks.length := by omega
   have gk := List.getElem?_eq_getElem hlt
   have hai := hah x.blocks[k] (List.getElem_mem hlt)
   have hnx := flat_next (fun k => blockM f k (n + 1)) gk
   have hle := flat_take_le (fun k => blockM f k (n + 1)) x.blocks (k + 1)
   generalize x.blocks[k] = q at gk hai hnx
   rw [hnx] at hle
   simp only [List.length_append] at hle
   refine ixa_ld (far oB hc18) (by simp [ints]) (int_get gk) ?_
   refine ld_row s7p rfl ?_
   rw [bin_add,upi (by omega)]
   refine ih q hai w18 _ B b _ (n + 1) (by omega) (by omega) h18 s7x hB0 (by omega) (by simp only [List.length_append,List.length_cons,List.length_nil]; omega) fun w19 h19 hc19 => ?_
   rw [bin_add,upi (by omega)]
   refine ⟨⟨k + 1,rfl,by omega,by rw [hnx,← List.append_assoc]; exact h19,BCh.trans hc18 hc19⟩,?_⟩
   simp only [Int.toNat_natCast]; omega
 obtain rfl : k = x.blocks.length := by omega
 rw [List.take_length] at h18
 rw [bin_sadd]; refine ⟨by rw [emax]; simp only [List.length_append,List.length_cons,List.length_nil]; omega,?_⟩
 refine wstr_p h18 (by omega) (by simp only [List.length_append,List.length_cons,List.length_nil]; omega) fun v20 w20 h20 hc20 => ?_
 refine hKc w20 ?_ (BCh.trans hc18 hc20)
 simpa only [List.append_assoc] using h20
theorem showF_p {f : Fl} {M : Lay} (hO : FOk f) (hB : BOk f) {w : World} {K : Value → World → Prop} (hf : FV w M f) (hin : ∀ i ∈ f.top,i < f.bl.length) (hL : (fileM f).length ≤ 120000000000000) (hK : ∀ w',Ext w w' → K (str (fileM f)) w') : callF Tryz.prog 13 [.agg [M.vE,M.vB,M.vT].toArray] w K := by
 refine W13_ok ?_
 unfold W13
 refine box_new (z := [M.vE,M.vB,M.vT]) fun p w1 hp hz1 hb1 hx1 => ?_
 refine bnew (B := w1.heap.size) (Nat.le_refl _) fun b w2 hbb h2 hx2 => ?_
 have hz2 := hx2.size
 have hb2 := h2.lt
 have hf1 := hf.ext hx1
 have few := hB.few
 refine fld5 (off := 2) (hx2.at hb1 id) rfl ?_
 rw [lenl_at (hf1.ext hx2).oT]
 refine LoopW.go (fun st w' => ∃ k : Nat,st = [i64 (k : Nat)] ∧ k ≤ f.top.length ∧ Bld w' w1.heap.size b ((f.top.take k).map fun i => blockM f i 0).flatten ∧ Chg (BCh w2 w1.heap.size b) w2 w') (fun st _ => match st with | [.int _ k] => f.top.length - k.toNat | _ => 0) ⟨0,rfl,by omega,h2,Chg.refl _ _⟩ ?_
 rintro st g w4 ⟨k,rfl,hk,h4,hc4⟩
 have hx4 : Ext w1 w4 := BCh.new hx2 (Nat.le_refl _) h2.base hc4
 have hz4 := hx4.size
 simp only [List.getD_cons_zero]
 rw [bin_lss,condW_dec]
 refine ⟨fun hlt => ?_,fun hge => ?_⟩
 · have hlt : k < f.top.length := by omega
   have gk := List.getElem?_eq_getElem hlt
   have hai := hin f.top[k] (List.getElem_mem hlt)
   have hnx := flat_next (fun i => blockM f i 0) gk
   have hle := flat_take_le (fun i => blockM f i 0) f.top (k + 1)
   generalize f.top[k] = q at gk hai hnx
   rw [hnx] at hle
   unfold fileM at hL
   simp only [List.length_append] at hle
   refine ixa_ld (hf1.ext hx4).oT (by simp [ints]) (int_get gk) ?_
   refine ld_row (hx4.at hb1 id) rfl ?_
   refine showB_p hO hB hf1 q w4 _ w1.heap.size b _ 0 hai (by omega) h4 hx4 (Nat.le_refl _) (by omega) (by omega) fun w5 h5 hc5 => ?_
   rw [bin_add,upi (by omega)]
   refine ⟨⟨k + 1,rfl,by omega,by rw [hnx]; exact h5,BCh.trans hc4 hc5⟩,?_⟩
   simp only [Int.toNat_natCast]; omega
 · obtain rfl : k = f.top.length := by omega
   rw [List.take_length] at h4
   refine bstring_p h4 (by omega) fun w6 hc6 => ?_
   exact hK w6 (hx1.trans (hx4.then hc6 fun k hk e => by omega))
end Go.Proofs.YtofhaneggcpdaaaGreatDoor


namespace Go.Proofs.YtofhaneggcpdaaaGreatDoor
open Go Go.Eng Go.Lex Go.Syn
set_option maxRecDepth 100000
def sgL : List Str := [[124,124],[38,38],[61,61],[33,61],[60],[62],[60,61],[62,61],[43],[45],[42],[47],[37]]
def sg (s : Nat) : Str := sgL.getD s [41]
end Go.Proofs.YtofhaneggcpdaaaGreatDoor



namespace Go.Proofs.YtofhaneggcpdaaaGreatDoor
open Go Go.Eng Go.Lex Go.Syn
set_option maxRecDepth 100000
theorem plain_len2 (s : Str) : (plainM s).length ≤ 2 * s.length := by
 induction s with
 | nil => exact Nat.le_refl _
 | cons c s ih =>
   rw [plain_cons,List.length_append,List.length_cons]
   have : (plainB c).length ≤ 2 := by
     have := plain_b c
     generalize plainB c = p at this
     cases this <;> simp
   omega
end Go.Proofs.YtofhaneggcpdaaaGreatDoor
namespace Go.Proofs.YtofhaneggcpdaaaGreatDoor
open Go Go.Eng Go.Lex Go.Syn
set_option maxRecDepth 100000
theorem utf_take {s : Str} (h : Utf s) : ∀ {k : Nat},(∀ c,s[k]? = some c → c.toNat < 128) → Utf (s.take k) := by
 induction h with
 | nil => intro k _; rw [List.take_nil]; exact .nil
 | @cons u r hu hr ih =>
   intro k hc
   by_cases hk : u.length ≤ k
   · rw [List.take_append,List.take_of_length_le hk]
     refine Utf.cons hu (ih fun c h2 => hc c ?_)
     rw [List.getElem?_append_right hk]; exact h2
   · by_cases h0 : k = 0
     · rw [h0,List.take_zero]; exact .nil
     · have hlt : k < u.length := by omega
       have hg := hc u[k] (by rw [List.getElem?_append_left hlt,List.getElem?_eq_getElem hlt])
       rcases hu.cases with ⟨x,rfl,_⟩ | hh
       · simp only [List.length_cons,List.length_nil] at hlt; omega
       · have := hh u[k] (List.getElem_mem hlt); omega
theorem run_all (q : UInt8 → Bool) : ∀ s : Str,∀ c ∈ s.take (runM q s),q c = true
 | [],c,h => by simp at h
 | d :: r,c,h => by
   unfold runM at h
   split at h
   · rename_i hq
     rw [List.take_succ_cons] at h
     rcases List.mem_cons.1 h with rfl | h
     · exact hq
     · exact run_all q r c h
   · simp at h
theorem rn_low {c : UInt8} (h1 : c.toNat < 128) : Rn [c] := by
 refine ⟨by simp,?_⟩
 have hall : ∀ c : Fin 256,c.val < 128 → runeM [UInt8.ofNat c.val] 0 = 1 := by decide +kernel
 have := hall ⟨c.toNat,UInt8.toNat_lt c⟩ h1
 rw [UInt8.ofNat_toNat] at this
 exact this
theorem ascii_u {s : Str} (h : ∀ c ∈ s,c.toNat < 128) : Utf s := by
 induction s with
 | nil => exact .nil
 | cons c s ih => exact Utf.cons (rn_low (h c (by simp))) (ih fun d hd => h d (List.mem_cons_of_mem _ hd))
theorem hereL_app2 (a b : Str) : hereL (a ++ b) = hereL a ++ hereL b := by
 induction a with
 | nil => rfl
 | cons c a ih =>
   rw [List.cons_append]
   simp only [hereL]
   rw [ih]
   repeat' split
   all_goals rfl
theorem hereL_utf {s : Str} (h : Utf s) : Utf (hereL s) := by
 induction h with
 | nil => exact .nil
 | @cons u r hu hr ih =>
   rw [hereL_app2]
   refine Utf.app ?_ ih
   rcases hu.cases with ⟨x,rfl,hx⟩ | hh
   · refine ascii_u fun c hc => ?_
     simp only [hereL] at hc
     repeat' split at hc
     all_goals
       simp only [List.mem_cons,List.not_mem_nil,or_false] at hc
     · rcases hc with rfl | rfl
       · decide
       · exact hx
     · rcases hc with rfl | rfl <;> decide
     · rcases hc with rfl | rfl <;> decide
     · subst hc; exact hx
   · have e : ∀ v : Str,(∀ c ∈ v,128 ≤ c.toNat) → hereL v = v := by
       intro v
       induction v with
       | nil => intro _; rfl
       | cons c v ihv =>
         intro hv
         have hc := hv c (by simp)
         have ne : ∀ k : UInt8,k.toNat < 128 → (c == k) = false := fun k hk => by
           rw [beq_eq_false_iff_ne]; rintro rfl; omega
         simp only [hereL,ne 92 (by decide),ne 34 (by decide),ne 36 (by decide),ne 9 (by decide),ne 13 (by decide)]
         rw [ihv fun d hd => hv d (List.mem_cons_of_mem _ hd)]
         rfl
     rw [e u hh]
     exact Utf.one hu
theorem hereF_utf : ∀ (n : Nat) (name s : Str),Utf s → (hereF n name s).2.2 = 0 → Utf (hereF n name s).1
 | 0,_,_,_,h => by cases h
 | n + 1,name,s,hu,h => by
   simp only [hereF] at h ⊢
   split
   · exact .nil
   rename_i n1
   rw [if_neg n1] at h
   split
   · exact .nil
   rename_i n2
   rw [if_neg n2] at h
   split
   · rename_i h3
     have hg : s[runM (fun b => b != 10) s]? = some 10 := by
       have hlt : runM (fun b => b != 10) s < s.length := by omega
       have := run_stop (fun b => b != 10) s s[runM (fun b => b != 10) s] (by rw [List.head?_drop,List.getElem?_eq_getElem hlt])
       rw [List.getElem?_eq_getElem hlt]
       have : s[runM (fun b => b != 10) s] = 10 := by simpa using this
       rw [this]
     have ih := hereF_utf n name _ (utf_past hu hg (by decide)) h3
     exact ((hereL_utf (utf_take hu (k := runM (fun b => b != 10) s) fun c hc => by rw [hg] at hc; injection hc with hc; rw [← hc]; decide)).app (ascii_u (by decide))).app ih
   · exact .nil
structure TokP (t : Tok) : Prop where
 ut : Utf t.t ∧ t.t.length ≤ 100000
 name : t.k = 1 → (∃ c r,t.t = c :: r ∧ isLetter c = true) ∧ ∀ d ∈ t.t,isName d = true
 num : t.k = 2 → ∀ d ∈ t.t,isDigit d = true
theorem one_tok {c : UInt8} {r : Str} (h : Utf (c :: r)) (h0 : (oneM (c :: r)).2.2 = 0) (hl : (c :: r).length ≤ 16384) (hts : (oneM (c :: r)).1.k = 3 → (oneM (c :: r)).1.t.length ≤ 100000) : TokP (oneM (c :: r)).1 := by
 have tl : ∀ n,((c :: r).take n).length ≤ 100000 := fun n => by rw [List.length_take]; omega
 rw [one_cons] at h0 hts ⊢
 split
 · exact ⟨⟨ascii_u (by decide),by decide⟩,fun e => absurd e (by decide),fun e => absurd e (by decide)⟩
 rename_i n1
 rw [if_neg n1] at h0 hts
 split
 · rename_i e
   refine ⟨⟨ascii_u fun d hd => name_low (run_all _ _ d hd),tl _⟩,fun _ => ⟨⟨c,r.take (runM isName r),?_,e⟩,fun d hd => run_all _ _ d hd⟩,fun e => absurd e (show ¬ (1 : Int) = 2 by decide)⟩
   show (c :: r).take (runM isName (c :: r)) = _
   have : isName c = true := by unfold isName; rw [e]; rfl
   have hrun : runM isName (c :: r) = runM isName r + 1 := by rw [runM,if_pos this]
   rw [hrun,List.take_succ_cons]
 rename_i n2
 rw [if_neg n2] at h0 hts
 split
 · exact ⟨⟨ascii_u fun d hd => digit_low (run_all _ _ d hd),tl _⟩,fun e => absurd e (show ¬ (2 : Int) = 1 by decide),fun _ d hd => run_all _ _ d hd⟩
 rename_i n3
 rw [if_neg n3] at h0 hts
 split
 · rename_i e
   rw [if_pos e] at h0 hts
   split
   · rename_i h1
     rw [if_pos h1] at hts
     refine ⟨⟨?_,hts rfl⟩,fun e => absurd e (show ¬ (3 : Int) = 1 by decide),fun e => absurd e (show ¬ (3 : Int) = 2 by decide)⟩
     rw [textF_x (by simp only [List.length_cons]; omega)] at h1 ⊢
     have he := text_end _ r 0 _ (Nat.le_refl _) (Prod.ext rfl h1 : textX r 0 = ((textX r 0).1,0))
     have e34 : c = 34 := by simpa using e
     have hr : Utf r := utf_cons h (by rw [e34]; decide)
     exact utf_take hr fun x hx => by rw [he] at hx; injection hx with hx; rw [← hx]; decide
   · exact ⟨⟨.nil,Nat.zero_le _⟩,fun e => absurd e (show ¬ (0 : Int) = 1 by decide),fun e => absurd e (show ¬ (0 : Int) = 2 by decide)⟩
 rename_i n4
 rw [if_neg n4] at h0 hts
 split
 · rename_i h1
   rw [if_pos h1] at h0 hts
   refine ⟨⟨?_,hts rfl⟩,fun e => absurd e (show ¬ (3 : Int) = 1 by decide),fun e => absurd e (show ¬ (3 : Int) = 2 by decide)⟩
   show Utf (heredocM (c :: r)).1
   have h0 : (heredocM (c :: r)).2.2 = 0 := h0
   unfold heredocM at h0 ⊢
   simp only at h0 ⊢
   generalize (if isLetter (((c :: r).drop 2).headD 0) = true then runM isName ((c :: r).drop 2) else 0) = n at h0 ⊢
   split
   · exact .nil
   rename_i m1
   rw [if_neg m1] at h0
   split
   · rename_i m2
     rw [if_pos m2] at h0
     split
     · rename_i m3
       refine hereF_utf _ _ _ ?_ m3
       rw [List.head?_drop] at m2
       exact utf_past h m2 (by decide)
     · exact .nil
   · exact .nil
 rename_i n5
 rw [if_neg n5] at h0 hts
 refine ⟨⟨ascii_u fun d hd => ?_,?_⟩,fun e => absurd e (show ¬ (4 : Int) = 1 by decide),fun e => absurd e (show ¬ (4 : Int) = 2 by decide)⟩
 · have hd : d ∈ signM (c :: r) := hd
   unfold signM at hd
   split at hd
   · rename_i q1
     have : ∀ x ∈ signs2,∀ d ∈ x,d.toNat < 128 := by decide
     exact this _ (List.contains_iff_mem.1 q1) d hd
   split at hd
   · rename_i q2
     have hd : d = c := by simpa using hd
     rw [hd]
     exact sign_low q2
   · cases hd
 · show (signM (c :: r)).length ≤ 100000
   unfold signM
   repeat' split
   · exact tl 2
   · exact tl 1
   · exact Nat.zero_le _
end Go.Proofs.YtofhaneggcpdaaaGreatDoor
namespace Go.Proofs.YtofhaneggcpdaaaGreatDoor
open Go Go.Eng Go.Lex Go.Syn
set_option maxRecDepth 100000
theorem TokP.at_ {t : Tok} (h : TokP t) (a : Int) : TokP ⟨t.k,t.t,a⟩ := ⟨h.ut,h.name,h.num⟩
theorem scanF_tok : ∀ (n : Nat) (s : Str) (a cnt : Nat) (l : List Tok),Utf s → s.length ≤ 16384 → scanF n s a cnt = .ok l → TS l → ∀ t ∈ l,TokP t
 | 0,_,_,_,_,_,_,h,_ => by simp [scanF] at h
 | n + 1,s,a,cnt,l,hu,hl,h,hts => by
   simp only [scanF] at h
   have hsk := skip_utf (s.length + 1) s hu
   generalize skipF (s.length + 1) s = k at *
   split at h
   · cases h
   split at h
   · injection h with h
     subst h
     intro t ht
     rw [List.mem_singleton] at ht
     subst ht
     exact ⟨⟨.nil,Nat.zero_le _⟩,fun e => absurd e (show ¬ (0 : Int) = 1 by decide),fun e => absurd e (show ¬ (0 : Int) = 2 by decide)⟩
   rename_i h2
   split at h
   · cases h
   rename_i h3
   have h3 : (oneM (s.drop k.1)).2.2 = 0 := by simpa using h3
   split at h
   · cases h
   split at h
   · rename_i l2 hr
     injection h with h
     subst h
     have hdl : (s.drop k.1).length ≤ 16384 := by rw [List.length_drop]; omega
     cases hd : s.drop k.1 with
     | nil => exact absurd hd h2
     | cons c r =>
       rw [hd] at h3 hsk hr hdl hts
       have hd2 : ((c :: r).drop (oneM (c :: r)).2.1).length ≤ 16384 := by rw [List.length_drop]; omega
       have ih := scanF_tok n _ _ _ _ (one_utf hsk h3) hd2 hr fun t ht => hts t (List.mem_cons_of_mem _ ht)
       intro t ht
       rcases List.mem_cons.1 ht with rfl | ht
       · exact (one_tok hsk h3 hdl fun e => (hts _ List.mem_cons_self e).2).at_ _
       · exact ih t ht
   · rename_i hne
     exact absurd h (hne l)
theorem scanM_tok {s : Str} {l : List Tok} (h : scanM s = .ok l) : ∀ t ∈ l,TokP t := by
 have hts := scan_ts h
 have hl := (scan_few h).2
 have hu := utf_scan h
 unfold scanM at h
 rw [if_neg (by omega)] at h
 split at h
 · cases h
 · exact scanF_tok _ _ _ _ _ hu hl h hts
theorem bra_end : ∀ (N : Nat) (r : Str) (d : Int),r.length ≤ N → r.length ≤ braX r d ∨ ∃ k,braX r d = k + 1 ∧ r[k]? = some 125
 | N,[],d,_ => .inl (Nat.zero_le _)
 | 0,c :: r,d,h => by simp at h
 | N + 1,c :: r,d,h => by
   have hr : r.length ≤ N := by simp only [List.length_cons] at h; omega
   have up : ∀ d' : Int,(c :: r).length ≤ 1 + braX r d' ∨ ∃ k,1 + braX r d' = k + 1 ∧ (c :: r)[k]? = some 125 := fun d' => by
     rcases bra_end N r d' hr with h1 | ⟨k,h1,h2⟩
     · left; simp only [List.length_cons]; omega
     · exact .inr ⟨k + 1,by omega,by rw [List.getElem?_cons_succ]; exact h2⟩
   rw [braX_cons]
   by_cases h1 : c = 123
   · rw [if_pos h1]; exact up _
   rw [if_neg h1]
   by_cases h2 : c = 125
   · rw [if_pos h2]
     by_cases h3 : d - 1 = 0
     · rw [if_pos h3]; exact .inr ⟨0,rfl,by rw [h2]; rfl⟩
     · rw [if_neg h3]; exact up _
   rw [if_neg h2]
   by_cases h3 : c = 34
   · rw [if_pos h3]
     have ih := bra_end N (r.drop (quoX r)) d (by rw [List.length_drop]; omega)
     rw [List.length_drop] at ih
     rcases ih with h4 | ⟨k,h4,h5⟩
     · left; simp only [List.length_cons]; omega
     · right
       rw [List.getElem?_drop] at h5
       exact ⟨quoX r + k + 1,by omega,by rw [List.getElem?_cons_succ]; exact h5⟩
   · rw [if_neg h3]; exact up _
theorem ins_at : ∀ (N : Nat) (s : Str) (i e : Nat),s.length ≤ N → insP s = some (i,e) → s[i]? = some 36 ∧ e = i + 1 + braM (s.drop (i + 1))
 | _,[],_,_,_,h => by simp [Syn.insP] at h
 | _,[_],_,_,_,h => by simp [Syn.insP] at h
 | 0,_ :: _ :: _,_,_,hl,_ => by simp at hl
 | N + 1,c :: d :: r,i,e,hl,h => by
   simp only [List.length_cons] at hl
   rw [Syn.insP] at h
   by_cases h1 : c = 92
   · rw [if_pos h1,Option.map_eq_some_iff] at h
     obtain ⟨⟨i',e'⟩,h2,h3⟩ := h
     injection h3 with h3 h4
     subst h3 h4
     obtain ⟨q1,q2⟩ := ins_at N r i' e' (by omega) h2
     refine ⟨by rw [List.getElem?_cons_succ,List.getElem?_cons_succ]; exact q1,?_⟩
     rw [show i' + 2 + 1 = (i' + 1) + 1 + 1 by omega,List.drop_succ_cons,List.drop_succ_cons,q2]
     omega
   rw [if_neg h1] at h
   by_cases h2 : c = 36 ∧ d = 123
   · rw [if_pos h2] at h
     injection h with h
     injection h with h3 h4
     subst h3 h4
     exact ⟨by rw [h2.1]; rfl,by rw [List.drop_succ_cons,List.drop_zero]⟩
   · rw [if_neg h2,Option.map_eq_some_iff] at h
     obtain ⟨⟨i',e'⟩,h2,h3⟩ := h
     injection h3 with h3 h4
     subst h3 h4
     obtain ⟨q1,q2⟩ := ins_at N (d :: r) i' e' (by simp only [List.length_cons]; omega) h2
     refine ⟨by rw [List.getElem?_cons_succ]; exact q1,?_⟩
     show e' + 1 = i' + 1 + 1 + braM ((d :: r).drop (i' + 1))
     omega
theorem ins_utf {s : Str} {i e : Nat} (h : Utf s) (hi : insP s = some (i,e)) : Utf (s.take i) ∧ Utf (s.drop e) := by
 obtain ⟨h1,h2⟩ := ins_at s.length s i e (Nat.le_refl _) hi
 refine ⟨utf_take h fun c hc => by rw [h1] at hc; injection hc with hc; rw [← hc]; decide,?_⟩
 have hb := bra_end _ (s.drop (i + 1)) 0 (Nat.le_refl _)
 rw [show braX (s.drop (i + 1)) 0 = braM (s.drop (i + 1)) from rfl] at hb
 rcases hb with hb | ⟨k,hb,hk⟩
 · rw [List.length_drop] at hb
   rw [List.drop_eq_nil_of_le (by omega)]
   exact .nil
 · rw [List.getElem?_drop] at hk
   rw [h2,hb,show i + 1 + (k + 1) = i + 1 + k + 1 by omega]
   exact utf_past h hk (by decide)
theorem says_le : ∀ (N : Nat) (s : Str),s.length ≤ N → (saysM s).length ≤ s.length
 | _,[],_ => Nat.le_refl _
 | _,[c],_ => by simp only [saysM]; split <;> simp
 | 0,_ :: _ :: _,h => by simp at h
 | N + 1,c :: e :: r,h => by
   simp only [List.length_cons] at h
   simp only [saysM]
   split
   · have := says_le N r (by omega)
     simp only [List.length_cons]; omega
   · have := says_le N (e :: r) (by simp only [List.length_cons]; omega)
     simp only [List.length_cons] at this ⊢; omega
theorem says_skip (r : Str) : ∀ v : Str,(∀ c ∈ v,c ≠ 92) → saysM (v ++ r) = v ++ saysM r
 | [],_ => rfl
 | [c],h => by
   have hc := h c (by simp)
   cases r with
   | nil => simp [saysM,hc]
   | cons d r => simp only [List.cons_append,List.nil_append,saysM]; rw [if_neg hc]
 | c :: d :: v,h => by
   have hc := h c (by simp)
   have ih := says_skip r (d :: v) fun x hx => h x (List.mem_cons_of_mem _ hx)
   simp only [List.cons_append] at ih ⊢
   simp only [saysM]
   rw [if_neg hc]
   rw [show saysM (d :: (v ++ r)) = d :: (v ++ saysM r) from ih]
theorem says_utf : ∀ (N : Nat) (s : Str),s.length ≤ N → Utf s → Utf (saysM s)
 | N,s,hN,h => by
   cases h with
   | nil => exact .nil
   | @cons u r hu hr =>
     have hlen := hu.pos
     rw [List.length_append] at hN
     rcases hu.cases with ⟨x,rfl,hx⟩ | hh
     · by_cases h92 : x = 92
       · subst h92
         cases hr with
         | nil => exact .nil
         | @cons u2 r2 hu2 hr2 =>
           rw [List.length_append] at hN
           have hl2 := hu2.pos
           cases N with
           | zero => simp at hN
           | succ N =>
             have ih := says_utf N r2 (by simp only [List.length_cons,List.length_nil] at hN; omega) hr2
             rcases hu2.cases with ⟨y,rfl,hy⟩ | hh2
             · show Utf (saysM (92 :: y :: r2))
               simp only [saysM]
               rw [if_pos trivial]
               refine Utf.cons (u := [_]) (rn_low ?_) ih
               repeat' split
               · decide
               · decide
               · decide
               · exact hy
             · cases u2 with
               | nil => simp at hl2
               | cons y v =>
                 have hy := hh2 y (by simp)
                 have ne : ∀ k : UInt8,k.toNat < 128 → y ≠ k := fun k hk e => by rw [e] at hy; omega
                 have hv : ∀ c ∈ v,c ≠ 92 := fun c hc e => by have := hh2 c (List.mem_cons_of_mem _ hc); rw [e] at this; exact absurd this (by decide)
                 show Utf (saysM (92 :: y :: (v ++ r2)))
                 simp only [saysM]
                 rw [if_pos trivial,if_neg (ne 110 (by decide)),if_neg (ne 116 (by decide)),if_neg (ne 114 (by decide)),says_skip r2 v hv]
                 exact Utf.cons hu2 ih
       · cases N with
         | zero => simp at hN
         | succ N =>
           rw [says_skip r [x] (fun c hc => by rw [List.mem_singleton] at hc; rw [hc]; exact h92)]
           exact Utf.cons (rn_low hx) (says_utf N r (by simp only [List.length_cons,List.length_nil] at hN; omega) hr)
     · cases N with
       | zero => omega
       | succ N =>
         rw [says_skip r u fun c hc e => by have := hh c hc; rw [e] at this; exact absurd this (by decide)]
         exact Utf.cons hu (says_utf N r (by omega) hr)
end Go.Proofs.YtofhaneggcpdaaaGreatDoor
namespace Go.Proofs.YtofhaneggcpdaaaGreatDoor
open Go Go.Eng Go.Lex Go.Syn
set_option maxRecDepth 100000
structure XE (e : Ex) : Prop where
 kd : 1 ≤ e.k ∧ e.k ≤ 30
 ut : Utf e.t ∧ e.t.length ≤ 100000
 uk : ∀ s ∈ e.keys,Utf s ∧ s.length ≤ 100000
 nl : e.k ≠ 5 → ∀ c ∈ e.t,c ≠ 10
 a6 : e.k = 6 ∨ e.k = 8 → e.keys.length = e.args.length
 a1 : e.k = 10 ∨ e.k = 30 → 1 ≤ e.args.length
 a2 : e.k = 11 ∨ e.k = 29 ∨ 15 ≤ e.k ∧ e.k ≤ 27 → 2 ≤ e.args.length
 a3 : e.k = 28 → 3 ≤ e.args.length
def TKs (s : PS) : Prop := (∀ t ∈ s.toks,TokP t) ∧ s.toks.length ≤ 4097
structure K1 (s s' : PS) : Prop where
 toks : s'.toks = s.toks
 bl : s'.bl = s.bl
 ex : (∀ e ∈ s.ex,XE e) → ∀ e ∈ s'.ex,XE e
theorem K1.refl (s : PS) : K1 s s := ⟨rfl,rfl,fun h => h⟩
theorem K1.trans {s s1 s2 : PS} (h : K1 s s1) (h' : K1 s1 s2) : K1 s s2 := ⟨h'.toks.trans h.toks,h'.bl.trans h.bl,fun hx => h'.ex (h.ex hx)⟩
theorem K1.tk {s s' : PS} (h : K1 s s') (ht : TKs s) : TKs s' := by unfold TKs; rw [h.toks]; exact ht
theorem K1.of {s s' : PS} (h1 : s'.toks = s.toks) (h2 : s'.bl = s.bl) (h3 : s'.ex = s.ex) : K1 s s' := ⟨h1,h2,fun h => by rw [h3]; exact h⟩
theorem k_now (s : PS) : K1 s (nowS s) := K1.of (nowS_f s).1 (nowS_f s).2.2.2.2.2 (nowS_f s).2.2.2.2.1
theorem k_step (s : PS) : K1 s (step1 s) := K1.of rfl rfl rfl
theorem k_next (s : PS) : K1 s (nextS s) := by unfold nextS; split; exact (k_now s).trans (k_step _); exact k_now s
theorem k_take (s : PS) (w : Str) : K1 s (takeS s w).2 := by unfold takeS; split; exact (k_now s).trans (k_step _); exact k_now s
theorem k_lines (s : PS) : K1 s (linesS s) := K1.of (nowS_f s).1 (nowS_f s).2.2.2.2.2 (nowS_f s).2.2.2.2.1
theorem k_want {s : PS} {w : Str} {x : Unit} {s' : PS} (h : wantR s w = .ok x s') : K1 s s' := by
 unfold wantR at h
 split at h
 · injection h with _ h; rw [← h]; exact (k_now s).trans (k_step _)
 · cases h
theorem k_kind {s : PS} {k : Int} {t : Tok} {s' : PS} (h : kindR s k = .ok t s') : K1 s s' ∧ t = cur s ∧ t.k = k := by
 unfold kindR at h
 split at h
 · rename_i hk
   injection h with h1 h2; subst h1 h2; exact ⟨k_next s,rfl,hk⟩
 · cases h
theorem k_put {s : PS} {e : Ex} {x : Nat} {s' : PS} (he : XE e) (h : putR s e = .ok x s') : K1 s s' := by
 injection h with _ h
 subst h
 refine ⟨rfl,rfl,fun hx y hy => ?_⟩
 rcases List.mem_append.1 hy with hy | hy
 · exact hx y hy
 · rw [List.mem_singleton] at hy; rw [hy]; exact he
theorem cur_tk {s : PS} (h : TKs s) : TokP (cur s) := by
 have hd : TokP (tokI (nowS s)) := by
   unfold tokI
   rw [List.getD_eq_getElem?_getD,(nowS_f s).1]
   cases hg : s.toks[(nowS s).i]? with
   | none => exact ⟨⟨.nil,Nat.zero_le _⟩,fun e => absurd e (show ¬ (0 : Int) = 1 by decide),fun e => absurd e (show ¬ (0 : Int) = 2 by decide)⟩
   | some t => exact h.1 t (List.mem_of_getElem? hg)
 exact hd.at_ _
theorem k_within {α : Type} {s : PS} {a : Int} {q : Bool} {f : PS → R α} {x : α} {s' : PS} (h : within s a q f = .ok x s') (hf : ∀ s1 s2,K1 s s1 → f s1 = .ok x s2 → K1 s1 s2) : K1 s s' := by
 unfold within at h
 split at h
 · cases h
 obtain ⟨y,s1,e1,e2⟩ := bind_ok h
 injection e2 with e2 e3
 subst e2 e3
 have h0 : K1 s { s with deep := s.deep + 1,quiet := q } := K1.of rfl rfl rfl
 have h1 := hf _ _ h0 e1
 exact ⟨h1.toks,h1.bl,h1.ex⟩
def KE (F : PS → R Nat) : Prop := ∀ s x s',TKs s → F s = .ok x s' → K1 s s'
theorem dead_ke : KE dead := fun s x s' _ h => by cases h
theorem XE.of {k : Int} {t : Str} {us : List Nat} {ks : List Str} {a : Int} (hk : 1 ≤ k ∧ k ≤ 30) (ht : Utf t ∧ t.length ≤ 100000) (hn : k ≠ 5 → ∀ c ∈ t,c ≠ 10) (hks : ∀ s ∈ ks,Utf s ∧ s.length ≤ 100000)
   (h : (k = 6 ∨ k = 8 → ks.length = us.length) ∧ (k = 10 ∨ k = 30 → 1 ≤ us.length) ∧ (k = 11 ∨ k = 29 ∨ 15 ≤ k ∧ k ≤ 27 → 2 ≤ us.length) ∧ (k = 28 → 3 ≤ us.length)) : XE ⟨k,t,us,ks,a⟩ :=
 ⟨hk,ht,hks,hn,h.1,h.2.1,h.2.2.1,h.2.2.2⟩
theorem nil_t : Utf ([] : Str) ∧ ([] : Str).length ≤ 100000 := ⟨.nil,Nat.zero_le _⟩
theorem nil_n {k : Int} : k ≠ 5 → ∀ c ∈ ([] : Str),c ≠ (10 : UInt8) := fun _ c h => by cases h
theorem nil_k : ∀ s ∈ ([] : List Str),Utf s ∧ s.length ≤ 100000 := fun s h => by cases h
theorem name_n {t : Tok} (h : TokP t) (hk : t.k = 1) : ∀ c ∈ t.t,c ≠ (10 : UInt8) := fun c hc e => by
 have := (h.name hk).2 c hc
 rw [e] at this
 exact absurd this (by decide)
theorem num_n {t : Tok} (h : TokP t) (hk : t.k = 2) : ∀ c ∈ t.t,c ≠ (10 : UInt8) := fun c hc e => by
 have := h.num hk c hc
 rw [e] at this
 exact absurd this (by decide)
theorem says_ok {t : Str} (h : Utf t) (hl : t.length ≤ 100000) : Utf (saysM t) ∧ (saysM t).length ≤ 100000 := ⟨says_utf _ t (Nat.le_refl _) h,Nat.le_trans (says_le _ t (Nat.le_refl _)) hl⟩
variable {E S : PS → R Nat}
theorem k_inner (hE : KE E) {s : PS} {t : Str} {a : Int} {x : Nat} {s' : PS} (h : innerR E s t a = .ok x s') : K1 s s' := by
 unfold innerR at h
 cases hs : scanM t with
 | bad k p => rw [hs] at h; cases h
 | ok l =>
   rw [hs] at h
   simp only at h
   obtain ⟨y,q,e1,e2⟩ := bind_ok h
   obtain ⟨t',q',e3,e4⟩ := bind_ok e2
   injection e4 with e4 e5
   subst e5
   have h1 := hE _ _ _ ⟨scanM_tok hs,(scan_few hs).1⟩ e1
   have h2 := (k_kind e3).1
   exact ⟨rfl,h2.bl.trans h1.bl,fun hx => h2.ex (h1.ex hx)⟩
theorem k_parts (hE : KE E) : ∀ (n : Nat) (s : PS) (rest : Str) (a : Int) (us : List Nat) (ks : List Str) (x : List Nat × List Str) (s' : PS),Utf rest → rest.length ≤ 100000 → us.length = ks.length → (∀ k ∈ ks,Utf k ∧ k.length ≤ 100000) → partsF E n s rest a us ks = .ok x s' →
   K1 s s' ∧ x.1.length = x.2.length ∧ ∀ k ∈ x.2,Utf k ∧ k.length ≤ 100000
 | 0,_,_,_,_,_,_,_,_,_,_,_,h => by cases h
 | n + 1,s,rest,a,us,ks,x,s',hu,hl,hlen,hks,h => by
   have key : ∀ (ks : List Str) (c : UInt8),c.toNat < 128 → (∀ k ∈ ks,Utf k ∧ k.length ≤ 100000) → ∀ k ∈ ks ++ [[c]],Utf k ∧ k.length ≤ 100000 := fun ks c hc hks k hk => by
     rcases List.mem_append.1 hk with hk | hk
     · exact hks k hk
     · rw [List.mem_singleton] at hk; rw [hk]; exact ⟨Utf.one (rn_low hc),(show 1 ≤ 100000 by decide)⟩
   have put5 : ∀ (s : PS) (u : Str) (a : Int),Utf u → u.length ≤ 100000 → K1 s { s with ex := s.ex ++ [⟨5,saysM u,[],[],a⟩] } := fun s u a hu hl => k_put (s := s) (e := ⟨5,saysM u,[],[],a⟩) (x := s.ex.length) (XE.of (by decide) (says_ok hu hl) (fun h => absurd rfl h) nil_k (by simp)) rfl
   simp only [partsF] at h
   split at h
   · injection h with h1 h2
     subst h1 h2
     exact ⟨K1.refl _,hlen,hks⟩
   split at h
   · injection h with h1 h2
     subst h1 h2
     exact ⟨put5 _ _ _ hu hl,by simp [hlen],key ks 116 (by decide) hks⟩
   · rename_i i e hi
     obtain ⟨u1,u2⟩ := ins_utf hu hi
     have l1 : (rest.take i).length ≤ 100000 := by rw [List.length_take]; omega
     have l2 : (rest.drop e).length ≤ 100000 := by rw [List.length_drop]; omega
     have hs1 : K1 s (if 0 < i then { s with ex := s.ex ++ [⟨5,saysM (rest.take i),[],[],a⟩] } else s) := by
       split
       · exact put5 _ _ _ u1 l1
       · exact K1.refl _
     have hl1 : (if 0 < i then us ++ [s.ex.length] else us).length = (if 0 < i then ks ++ [[116]] else ks).length := by split <;> simp [hlen]
     have hk1 : ∀ k ∈ (if 0 < i then ks ++ [[116]] else ks),Utf k ∧ k.length ≤ 100000 := by
       split
       · exact key ks 116 (by decide) hks
       · exact hks
     generalize (if 0 < i then us ++ [s.ex.length] else us) = us1 at *
     generalize (if 0 < i then ks ++ [[116]] else ks) = ks1 at *
     generalize (if 0 < i then { s with ex := s.ex ++ [⟨5,saysM (rest.take i),[],[],a⟩] } else s) = s1 at *
     split at h
     · obtain ⟨y,s2,e1,e2⟩ := bind_ok h
       have h2 := k_within e1 fun q q2 _ e3 => k_inner hE e3
       obtain ⟨h3,h4,h5⟩ := k_parts hE n s2 _ _ _ _ x s' u2 l2 (by simp [hl1]) (key ks1 101 (by decide) hk1) e2
       exact ⟨hs1.trans (h2.trans h3),h4,h5⟩
     · obtain ⟨h3,h4,h5⟩ := k_parts hE n s1 _ _ _ _ x s' u2 l2 hl1 hk1 h
       exact ⟨hs1.trans h3,h4,h5⟩
theorem k_text (hE : KE E) {s : PS} {t : Tok} {x : Nat} {s' : PS} (ht : TokP t) (h : textR E s t = .ok x s') : K1 s s' := by
 unfold textR at h
 split at h
 · obtain ⟨y,s1,e1,e2⟩ := bind_ok h
   obtain ⟨h1,h2,h3⟩ := k_parts hE _ _ _ _ _ _ _ _ ht.ut.1 ht.ut.2 rfl nil_k e1
   exact h1.trans (k_put (XE.of (by decide) nil_t nil_n h3 ⟨fun _ => h2.symm,by simp,by simp,by simp⟩) e2)
 · exact k_put (XE.of (by decide) (says_ok ht.ut.1 ht.ut.2) (fun h => absurd rfl h) nil_k (by simp)) h
theorem k_args (hE : KE E) (w : Str) : ∀ (n : Nat) (s : PS) (out : List Nat) (x : List Nat) (s' : PS),TKs s → argsF E w n s out = .ok x s' → K1 s s'
 | 0,_,_,_,_,_,h => by cases h
 | n + 1,s,out,x,s',ht,h => by
   simp only [argsF] at h
   split at h
   · injection h with _ h; rw [← h]; exact k_take s w
   have ht1 := (k_take s w).tk ht
   split at h
   · obtain ⟨y,s1,e1,e2⟩ := bind_ok h
     have h1 := hE _ _ _ ht1 e1
     exact (k_take s w).trans (h1.trans (k_args hE w n s1 _ x s' (h1.tk ht1) e2))
   · obtain ⟨y,s1,e1,e2⟩ := bind_ok h
     have h1 := k_want e1
     have ht2 := h1.tk ht1
     have h01 := (k_take s w).trans h1
     split at e2
     · injection e2 with _ e2; rw [← e2]; exact h01.trans (k_take s1 w)
     · obtain ⟨z,s2,e3,e4⟩ := bind_ok e2
       have ht3 := (k_take s1 w).tk ht2
       have h2 := hE _ _ _ ht3 e3
       exact h01.trans ((k_take s1 w).trans (h2.trans (k_args hE w n s2 _ x s' (h2.tk ht3) e4)))
theorem k_list (hE : KE E) {s : PS} {a : Int} {e : Ex} {s' : PS} (ht : TKs s) (h : listR E s a = .ok e s') : K1 s s' ∧ XE e := by
 unfold listR at h
 simp only at h
 split at h
 · obtain ⟨us,s1,e1,e2⟩ := bind_ok h
   injection e2 with e2 e3
   subst e2 e3
   have h0 := (k_step s).trans (k_now (step1 s))
   exact ⟨h0.trans (k_args hE _ _ _ _ _ _ (h0.tk ht) e1),XE.of (by decide) nil_t nil_n nil_k (by simp)⟩
 · have h0 := ((k_step s).trans (k_now (step1 s))).trans (k_step _)
   obtain ⟨t,s2,e1,h⟩ := bind_ok h
   obtain ⟨k1,r1,r2⟩ := k_kind e1
   have tk1 : TokP t := by rw [r1]; exact cur_tk (h0.tk ht)
   obtain ⟨u,s3,e2,h⟩ := bind_ok h
   obtain ⟨k2,_,_⟩ := k_kind e2
   have h03 := (h0.trans k1).trans k2
   split at h
   · cases h
   obtain ⟨x,s4,e3,h⟩ := bind_ok h
   have k3 := hE _ _ _ (h03.tk ht) e3
   obtain ⟨_,s5,e4,h⟩ := bind_ok h
   have h05 := (h03.trans k3).trans (k_want e4)
   obtain ⟨y,s6,e5,h⟩ := bind_ok h
   have k5 := hE _ _ _ (h05.tk ht) e5
   obtain ⟨_,s7,e6,h⟩ := bind_ok h
   have k6 := k_want e6
   injection h with e7 e8
   subst e7 e8
   exact ⟨(h05.trans k5).trans k6,XE.of (by decide) tk1.ut (fun _ => name_n tk1 r2) nil_k (by simp)⟩
theorem k_obj (hE : KE E) (a : Int) : ∀ (n : Nat) (s : PS) (us : List Nat) (ks : List Str) (e : Ex) (s' : PS),TKs s → us.length = ks.length → (∀ k ∈ ks,Utf k ∧ k.length ≤ 100000) → objF E a n s us ks = .ok e s' → K1 s s' ∧ XE e
 | 0,_,_,_,_,_,_,_,_,h => by cases h
 | n + 1,s,us,ks,e,s',ht,hlen,hks,h => by
   simp only [objF] at h
   split at h
   · injection h with h1 h2
     subst h1 h2
     exact ⟨k_take s _,XE.of (by decide) nil_t nil_n hks ⟨fun _ => hlen.symm,by simp,by simp,by simp⟩⟩
   have h1 := k_take s [125]
   have ht1 := h1.tk ht
   have tk := cur_tk ht1
   have h12 := h1.trans (k_next (takeS s [125]).2)
   obtain ⟨k,s3,e1,h⟩ := bind_ok h
   have hk : K1 (nextS (takeS s [125]).2) s3 ∧ Utf k ∧ k.length ≤ 100000 := by
     split at e1
     · unfold plainR at e1
       split at e1
       · cases e1
       · injection e1 with e2 e3; rw [← e2,← e3]; exact ⟨K1.refl _,says_ok tk.ut.1 tk.ut.2⟩
     · split at e1
       · injection e1 with e2 e3; rw [← e2,← e3]; exact ⟨K1.refl _,tk.ut⟩
       · cases e1
   have h13 := h12.trans hk.1
   split at h
   · cases h
   obtain ⟨_,s4,e2,h⟩ := bind_ok h
   have h14 := h13.trans (k_want e2)
   obtain ⟨x,s5,e3,h⟩ := bind_ok h
   have h15 := h14.trans (hE _ _ _ (h14.tk ht) e3)
   split at h
   · cases h
   have hc : K1 s (linesS (if (takeS s5 [44]).1 = true then (takeS s5 [44]).2 else nowS (takeS s5 [44]).2)) := by
     split
     · exact h15.trans ((k_take s5 _).trans (k_lines _))
     · exact h15.trans ((k_take s5 _).trans ((k_now _).trans (k_lines _)))
   obtain ⟨g1,g2⟩ := k_obj hE a n _ _ _ e s' (hc.tk ht) (by simp [hlen]) (fun q hq => by
     rcases List.mem_append.1 hq with hq | hq
     · exact hks q hq
     · rw [List.mem_singleton] at hq; rw [hq]; exact hk.2) h
   exact ⟨hc.trans g1,g2⟩
theorem namedK_in (t : Str) : namedK t = 1 ∨ namedK t = 2 ∨ namedK t = 3 ∨ namedK t = 9 := by
 unfold namedK
 repeat' split
 all_goals simp
theorem k_atom (hE : KE E) : KE (atomR E) := by
 intro s x s' ht h
 have tk := cur_tk ht
 have h0 := k_now s
 unfold atomR at h
 simp only at h
 split at h
 · rename_i hk
   exact (h0.trans (k_step _)).trans (k_put (XE.of (by decide) tk.ut (fun _ => num_n tk hk) nil_k (by simp)) h)
 split at h
 · exact (h0.trans (k_step _)).trans (k_text hE tk h)
 split at h
 · rename_i hk
   have h1 := h0.trans (k_step (nowS s))
   split at h
   · obtain ⟨us,s2,e1,e2⟩ := bind_ok h
     have h2 := k_within e1 fun q q2 hq e3 => (k_step q).trans (k_args hE _ _ _ _ _ _ ((k_step q).tk (hq.tk ((h1.trans (k_now _)).tk ht))) e3)
     exact ((h1.trans (k_now _)).trans h2).trans (k_put (XE.of (by decide) tk.ut (fun _ => name_n tk hk.1) nil_k (by simp)) e2)
   · have hn := namedK_in (cur s).t
     refine (h1.trans (k_now _)).trans (k_put (XE.of (by omega) ?_ ?_ nil_k ?_) h)
     · split
       · exact tk.ut
       · exact nil_t
     · intro _ c hc
       split at hc
       · exact name_n tk hk.1 c hc
       · cases hc
     · refine ⟨fun _ => rfl,fun e => by omega,fun e => by omega,fun e => by omega⟩
 split at h
 · refine h0.trans (k_within h fun q q2 hq e1 => ?_)
   obtain ⟨y,q1,e2,e3⟩ := bind_ok e1
   obtain ⟨_,q3,e4,e5⟩ := bind_ok e3
   injection e5 with _ e5
   subst e5
   have ht1 := (k_step q).tk (hq.tk (h0.tk ht))
   exact (k_step q).trans ((hE _ _ _ ht1 e2).trans (k_want e4))
 split at h
 · obtain ⟨e,s2,e1,e2⟩ := bind_ok h
   have hx : XE e := by
     unfold within at e1
     split at e1
     · cases e1
     obtain ⟨y,q,e3,e4⟩ := bind_ok e1
     injection e4 with e4 _
     subst e4
     exact (k_list hE (s := { nowS s with deep := (nowS s).deep + 1,quiet := true }) (h0.tk ht) e3).2
   have h2 := k_within e1 fun q q2 hq e3 => (k_list hE (hq.tk (h0.tk ht)) e3).1
   exact (h0.trans h2).trans (k_put hx e2)
 split at h
 · obtain ⟨e,s2,e1,e2⟩ := bind_ok h
   have ob : ∀ q q2,TKs q → objR E q (cur s).a = .ok e q2 → K1 q q2 ∧ XE e := fun q q2 hq e3 => by
     unfold objR at e3
     have h1 := (k_step q).trans (k_lines (step1 q))
     obtain ⟨g1,g2⟩ := k_obj hE _ _ _ _ _ _ _ (h1.tk hq) rfl nil_k e3
     exact ⟨h1.trans g1,g2⟩
   have hx : XE e := by
     unfold within at e1
     split at e1
     · cases e1
     obtain ⟨y,q,e3,e4⟩ := bind_ok e1
     injection e4 with e4 _
     subst e4
     exact (ob { nowS s with deep := (nowS s).deep + 1,quiet := false } _ (h0.tk ht) e3).2
   have h2 := k_within e1 fun q q2 hq e3 => (ob q q2 (hq.tk (h0.tk ht)) e3).1
   exact (h0.trans h2).trans (k_put hx e2)
 · cases h
theorem k_post (hE : KE E) : ∀ (n : Nat) (s : PS) (x y : Nat) (s' : PS),TKs s → postF E n s x = .ok y s' → K1 s s'
 | 0,_,_,_,_,_,h => by cases h
 | n + 1,s,x,y,s',ht,h => by
   simp only [postF] at h
   have h0 := k_now s
   have ht0 := h0.tk ht
   split at h
   · obtain ⟨u,s2,e1,h⟩ := bind_ok h
     obtain ⟨k1,r1,r2⟩ := k_kind e1
     have h1 := h0.trans (k_take (nowS s) [46])
     have tk : TokP u := by rw [r1]; exact cur_tk (h1.tk ht)
     have h2 := h1.trans k1
     obtain ⟨z,s3,e2,h⟩ := bind_ok h
     have h3 := h2.trans (k_put (XE.of (by decide) tk.ut (fun _ => name_n tk r2) nil_k (by simp)) e2)
     exact h3.trans (k_post hE n _ _ _ _ (h3.tk ht) h)
   split at h
   · obtain ⟨o,s2,e1,h⟩ := bind_ok h
     have h2 : K1 s s2 := h0.trans (k_within e1 fun q q2 hq e3 => by
       have hq1 := (k_step q).trans (k_take (step1 q) [42])
       have htq := hq1.tk (hq.tk ht0)
       split at e3
       · obtain ⟨_,q3,e4,e5⟩ := bind_ok e3
         injection e5 with _ e5
         subst e5
         exact hq1.trans (k_want e4)
       · obtain ⟨z,q1,e4,e5⟩ := bind_ok e3
         obtain ⟨_,q3,e6,e7⟩ := bind_ok e5
         injection e7 with _ e7
         subst e7
         exact hq1.trans ((hE _ _ _ htq e4).trans (k_want e6)))
     cases o with
     | some q =>
       simp only at h
       obtain ⟨z,s3,e2,h⟩ := bind_ok h
       have h3 := h2.trans (k_put (XE.of (by decide) nil_t nil_n nil_k (by simp)) e2)
       exact h3.trans (k_post hE n _ _ _ _ (h3.tk ht) h)
     | none =>
       simp only at h
       obtain ⟨_,s3,e2,h⟩ := bind_ok h
       have h3 := h2.trans (k_want e2)
       obtain ⟨u,s4,e3,h⟩ := bind_ok h
       obtain ⟨k1,r1,r2⟩ := k_kind e3
       have tk : TokP u := by rw [r1]; exact cur_tk (h3.tk ht)
       have h4 := h3.trans k1
       obtain ⟨z,s5,e4,h⟩ := bind_ok h
       have h5 := h4.trans (k_put (XE.of (by decide) tk.ut (fun _ => name_n tk r2) nil_k (by simp)) e4)
       exact h5.trans (k_post hE n _ _ _ _ (h5.tk ht) h)
   · injection h with _ h
     rw [← h]; exact h0
theorem k_sign (hE : KE E) (hS : KE S) : KE (signR E S) := by
 intro s x s' ht h
 have h0 := k_now s
 have ht0 := h0.tk ht
 unfold signR at h
 simp only at h
 split at h
 · obtain ⟨y,s2,e1,e2⟩ := bind_ok h
   have h2 := h0.trans (k_within e1 fun q q2 hq e3 => (k_step q).trans (hS _ _ _ ((k_step q).tk (hq.tk ht0)) e3))
   exact h2.trans (k_put (XE.of (by decide) nil_t nil_n nil_k (by simp)) e2)
 split at h
 · obtain ⟨y,s2,e1,e2⟩ := bind_ok h
   have h2 := h0.trans (k_within e1 fun q q2 hq e3 => (k_step q).trans (hS _ _ _ ((k_step q).tk (hq.tk ht0)) e3))
   exact h2.trans (k_put (XE.of (by decide) nil_t nil_n nil_k (by simp)) e2)
 · unfold postR at h
   obtain ⟨y,s1,e1,e2⟩ := bind_ok h
   have h1 := h0.trans (k_atom hE _ _ _ ht0 e1)
   exact h1.trans (k_post hE _ _ _ _ _ (h1.tk ht) e2)
theorem levK_in {t : Tok} {n : Nat} (h : levelK t n ≠ 0) : 15 ≤ levelK t n ∧ levelK t n ≤ 27 := by
 unfold levelK joinK at h ⊢
 repeat' split at h
 all_goals first
   | exact absurd rfl h
   | (simp_all <;> decide)
theorem k_join {J : PS → R Nat} (hJ : KE J) (n : Nat) : ∀ (f : Nat) (s : PS) (a x : Nat) (s' : PS),TKs s → joinF J n f s a = .ok x s' → K1 s s'
 | 0,_,_,_,_,_,h => by cases h
 | f + 1,s,a,x,s',ht,h => by
   simp only [joinF] at h
   split at h
   · injection h with _ h; rw [← h]; exact k_now s
   rename_i hk
   have h0 := (k_now s).trans (k_step _)
   obtain ⟨b,s1,e1,h⟩ := bind_ok h
   have h1 := h0.trans (hJ _ _ _ (h0.tk ht) e1)
   obtain ⟨y,s2,e2,h⟩ := bind_ok h
   have hl := levK_in hk
   have h2 := h1.trans (k_put (XE.of (by omega) nil_t nil_n nil_k ⟨fun e => by omega,fun e => by omega,fun _ => by simp,fun e => by omega⟩) e2)
   exact h2.trans (k_join hJ n f _ _ _ _ (h2.tk ht) h)
theorem k_joinU (hE : KE E) (hS : KE S) : ∀ m,KE (joinU E S m)
 | 0 => k_sign hE hS
 | m + 1 => fun s x s' ht h => by
   have h : (joinU E S m s).bind (fun a s1 => joinF (joinU E S m) (5 - m) (s.toks.length + 1) s1 a) = .ok x s' := h
   obtain ⟨a,s1,e1,e2⟩ := bind_ok h
   have h1 := k_joinU hE hS m _ _ _ ht e1
   exact h1.trans (k_join (k_joinU hE hS m) _ _ _ _ _ _ (h1.tk ht) e2)
theorem k_expr (hE : KE E) (hS : KE S) : KE (exprR E S) := by
 intro s x s' ht h
 unfold exprR at h
 obtain ⟨a,s1,e1,h⟩ := bind_ok h
 have h1 := k_joinU hE hS 6 _ _ _ ht e1
 simp only at h
 have h2 := h1.trans (k_take s1 [63])
 split at h
 · obtain ⟨z,s2,e2,e3⟩ := bind_ok h
   have h3 := h2.trans (k_within e2 fun q q2 hq e4 => by
     have htq := hq.tk (h2.tk ht)
     obtain ⟨y,q1,e5,e6⟩ := bind_ok e4
     have g1 := hE _ _ _ htq e5
     obtain ⟨_,q3,e7,e8⟩ := bind_ok e6
     have g2 := g1.trans (k_want e7)
     obtain ⟨y2,q4,e9,e10⟩ := bind_ok e8
     injection e10 with _ e10
     subst e10
     exact g2.trans (hE _ _ _ (g2.tk htq) e9))
   exact h3.trans (k_put (XE.of (by decide) nil_t nil_n nil_k (by simp)) e3)
 · injection h with _ h
   rw [← h]; exact h2
theorem k_exprD : ∀ d,KE (exprD d).1 ∧ KE (exprD d).2
 | 0 => ⟨k_expr dead_ke dead_ke,k_sign dead_ke dead_ke⟩
 | d + 1 => ⟨k_expr (k_exprD d).1 (k_exprD d).2,k_sign (k_exprD d).1 (k_exprD d).2⟩
end Go.Proofs.YtofhaneggcpdaaaGreatDoor
namespace Go.Proofs.YtofhaneggcpdaaaGreatDoor
open Go Go.Eng Go.Lex Go.Syn
set_option maxRecDepth 100000
def NameS (t : Str) : Prop := (∃ c r,t = c :: r ∧ isLetter c = true) ∧ (∀ d ∈ t,isName d = true) ∧ t.length ≤ 100000
structure XB (b : Blk) : Prop where
 ty : NameS b.typ
 lb : ∀ s ∈ b.labels,Utf s ∧ s.length ≤ 100000
 at_ : ∀ a ∈ b.attrs,NameS a.n
 few : b.labels.length ≤ 5000
def HB : Nat → List Blk → Nat → Prop
 | 0,_,_ => False
 | d + 1,bl,i => ∃ b,bl[i]? = some b ∧ ∀ k ∈ b.blocks,HB d bl k
theorem pre_get {α : Type} {l m : List α} (h : l <+: m) {i : Nat} {x : α} (hi : l[i]? = some x) : m[i]? = some x := by
 obtain ⟨t,rfl⟩ := h
 rw [List.getElem?_append_left (List.getElem?_eq_some_iff.1 hi).1]; exact hi
theorem HB.mono {l m : List Blk} (h : l <+: m) : ∀ {d i : Nat},HB d l i → HB d m i
 | 0,_,hh => hh
 | d + 1,i,⟨b,h1,h2⟩ => ⟨b,pre_get h h1,fun k hk => HB.mono h (h2 k hk)⟩
structure K2 (s s' : PS) : Prop where
 toks : s'.toks = s.toks
 pre : s.bl <+: s'.bl
 bl : (∀ b ∈ s.bl,XB b) → ∀ b ∈ s'.bl,XB b
 ex : (∀ e ∈ s.ex,XE e) → ∀ e ∈ s'.ex,XE e
theorem K1.k2 {s s' : PS} (h : K1 s s') : K2 s s' := ⟨h.toks,by rw [h.bl]; exact List.prefix_refl _,fun hb => by rw [h.bl]; exact hb,h.ex⟩
theorem K2.trans {s s1 s2 : PS} (h : K2 s s1) (h' : K2 s1 s2) : K2 s s2 := ⟨h'.toks.trans h.toks,h.pre.trans h'.pre,fun hb => h'.bl (h.bl hb),fun hx => h'.ex (h.ex hx)⟩
theorem K2.tk {s s' : PS} (h : K2 s s') (ht : TKs s) : TKs s' := by unfold TKs; rw [h.toks]; exact ht
theorem k2_within {α : Type} {s : PS} {a : Int} {q : Bool} {f : PS → R α} {x : α} {s' : PS} (h : within s a q f = .ok x s') : ∃ s1 s2,K1 s s1 ∧ s1.bl = s.bl ∧ f s1 = .ok x s2 ∧ s'.toks = s2.toks ∧ s'.bl = s2.bl ∧ s'.ex = s2.ex := by
 unfold within at h
 split at h
 · cases h
 obtain ⟨y,s1,e1,e2⟩ := bind_ok h
 injection e2 with e2 e3
 subst e2 e3
 exact ⟨{ s with deep := s.deep + 1,quiet := q },s1,K1.of rfl rfl rfl,rfl,e1,rfl,rfl,rfl⟩
theorem name_s {t : Tok} (h : TokP t) (hk : t.k = 1) : NameS t.t := ⟨(h.name hk).1,(h.name hk).2,h.ut.2⟩
theorem k_labels : ∀ (n : Nat) (s : PS) (ls : List Str) (x : List Str) (s' : PS),TKs s → (∀ l ∈ ls,Utf l ∧ l.length ≤ 100000) → labelsF n s ls = .ok x s' → K1 s s' ∧ (∀ l ∈ x,Utf l ∧ l.length ≤ 100000) ∧ x.length ≤ ls.length + n
 | 0,_,_,_,_,_,_,h => by cases h
 | n + 1,s,ls,x,s',ht,hl,h => by
   simp only [labelsF] at h
   split at h
   · have tk := cur_tk ht
     obtain ⟨y,s1,e1,e2⟩ := bind_ok h
     have h1 : s1 = nextS s ∧ y = saysM (cur s).t := by
       unfold plainR at e1
       split at e1
       · cases e1
       · injection e1 with e3 e4; exact ⟨e4.symm,e3.symm⟩
     have k1 : K1 s s1 := by rw [h1.1]; exact k_next s
     obtain ⟨g1,g2,g3⟩ := k_labels n s1 _ x s' (k1.tk ht) (fun l hm => by
       rcases List.mem_append.1 hm with hm | hm
       · exact hl l hm
       · rw [List.mem_singleton] at hm; rw [hm,h1.2]; exact says_ok tk.ut.1 tk.ut.2) e2
     exact ⟨k1.trans g1,g2,by rw [List.length_append] at g3; simp only [List.length_cons,List.length_nil] at g3; omega⟩
   · injection h with h1 h2
     rw [← h1,← h2]; exact ⟨k_now s,hl,by omega⟩
def KB (d : Nat) (B : PS → R Nat) : Prop := ∀ s x s',TKs s → B s = .ok x s' → K2 s s' ∧ HB d s'.bl x
theorem dead_kb : KB 0 dead := fun s x s' _ h => by cases h
variable {E B : PS → R Nat} {d : Nat}
theorem k_item (hE : KE E) (hB : KB d B) {s : PS} {us : List Atr} {bs : List Nat} {x : List Atr × List Nat} {s' : PS} (ht : TKs s) (hu : ∀ a ∈ us,NameS a.n) (hb : ∀ k ∈ bs,HB d s.bl k) (h : itemR E B s us bs = .ok x s') :
   K2 s s' ∧ (∀ a ∈ x.1,NameS a.n) ∧ ∀ k ∈ x.2,HB d s'.bl k := by
 unfold itemR at h
 obtain ⟨t,s1,e1,h⟩ := bind_ok h
 obtain ⟨k1,r1,r2⟩ := k_kind e1
 have tk : TokP t := by rw [r1]; exact cur_tk ht
 have k2 := k1.trans (k_take s1 [61])
 split at h
 · obtain ⟨y,s2,e2,h⟩ := bind_ok h
   have k3 := k2.trans (hE _ _ _ (k2.tk ht) e2)
   injection h with h1 h2
   subst h1 h2
   refine ⟨k3.k2,fun a ha => ?_,fun k hk => by rw [k3.bl]; exact hb k hk⟩
   rcases List.mem_append.1 ha with ha | ha
   · exact hu a ha
   · rw [List.mem_singleton] at ha; rw [ha]; exact name_s tk r2
 · obtain ⟨y,s2,e2,h⟩ := bind_ok h
   have k3 : K1 s { (takeS s1 [61]).2 with i := (takeS s1 [61]).2.i - 1 } := k2.trans (K1.of rfl rfl rfl)
   obtain ⟨g1,g2⟩ := hB _ _ _ (k3.tk ht) e2
   injection h with h1 h2
   subst h1 h2
   have k4 := k3.k2.trans g1
   refine ⟨k4,hu,fun k hk => ?_⟩
   rcases List.mem_append.1 hk with hk | hk
   · exact (hb k hk).mono k4.pre
   · rw [List.mem_singleton] at hk; rw [hk]; exact g2
theorem k_items (hE : KE E) (hB : KB d B) : ∀ (n : Nat) (s : PS) (us : List Atr) (bs : List Nat) (x : List Atr × List Nat) (s' : PS),TKs s → (∀ a ∈ us,NameS a.n) → (∀ k ∈ bs,HB d s.bl k) → itemsF E B n s us bs = .ok x s' →
   K2 s s' ∧ (∀ a ∈ x.1,NameS a.n) ∧ ∀ k ∈ x.2,HB d s'.bl k
 | 0,_,_,_,_,_,_,_,_,h => by cases h
 | n + 1,s,us,bs,x,s',ht,hu,hb,h => by
   simp only [itemsF] at h
   have k1 := k_take s [125]
   split at h
   · injection h with h1 h2
     subst h1 h2
     exact ⟨k1.k2,hu,fun k hk => by rw [k1.bl]; exact hb k hk⟩
   obtain ⟨y,s1,e1,h⟩ := bind_ok h
   obtain ⟨g1,g2,g3⟩ := k_item hE hB (k1.tk ht) hu (fun k hk => by rw [k1.bl]; exact hb k hk) e1
   split at h
   · cases h
   have k3 := (k_now s1).trans (k_lines (nowS s1))
   have k4 := (k1.k2.trans g1).trans k3.k2
   obtain ⟨q1,q2,q3⟩ := k_items hE hB n _ _ _ x s' (k4.tk ht) g2 (fun k hk => by rw [k3.bl]; exact g3 k hk) h
   exact ⟨k4.trans q1,q2,q3⟩
theorem k_block (hE : KE E) (hB : KB d B) : KB (d + 1) (blockR E B) := by
 intro s x s' ht h
 unfold blockR at h
 obtain ⟨t,s1,e1,h⟩ := bind_ok h
 obtain ⟨k1,r1,r2⟩ := k_kind e1
 have tk : TokP t := by rw [r1]; exact cur_tk ht
 obtain ⟨ls,s2,e2,h⟩ := bind_ok h
 obtain ⟨k2,hls,hll⟩ := k_labels _ _ _ _ _ (k1.tk ht) (fun l hl => by cases hl) e2
 have k12 := k1.trans k2
 split at h
 · cases h
 obtain ⟨y,s3,e3,h⟩ := bind_ok h
 obtain ⟨q,q2,w1,w2,w3,w4,w5,w6⟩ := k2_within e3
 have kq := ((k12.trans (k_now s2)).trans w1).trans ((k_step q).trans (k_lines (step1 q)))
 obtain ⟨g1,g2,g3⟩ := k_items hE hB _ _ _ _ _ _ (kq.tk ht) (fun a ha => by cases ha) (fun k hk => by cases hk) w3
 have k5 := kq.k2.trans g1
 injection h with h1 h2
 subst h1 h2
 have hx : XB ⟨t.t,ls,y.1,y.2,t.a⟩ := ⟨name_s tk r2,hls,g2,by show ls.length ≤ 5000; have := ht.2; simp only [List.length_nil] at hll; omega⟩
 refine ⟨⟨w4.trans k5.toks,?_,fun hb b hm => ?_,fun he => by show ∀ e ∈ s3.ex,XE e; rw [w6]; exact k5.ex he⟩,?_⟩
 · show s.bl <+: s3.bl ++ _
   rw [w5]; exact k5.pre.trans (List.prefix_append _ _)
 · have hm : b ∈ s3.bl ++ [⟨t.t,ls,y.1,y.2,t.a⟩] := hm
   rcases List.mem_append.1 hm with hm | hm
   · rw [w5] at hm; exact k5.bl hb b hm
   · rw [List.mem_singleton] at hm; rw [hm]; exact hx
 · refine ⟨⟨t.t,ls,y.1,y.2,t.a⟩,?_,fun k hk => ?_⟩
   · show (s3.bl ++ [_])[s3.bl.length]? = _
     rw [List.getElem?_append_right (Nat.le_refl _),Nat.sub_self]; rfl
   · refine (g3 k hk).mono ?_
     show q2.bl <+: s3.bl ++ _
     rw [← w5]; exact List.prefix_append _ _
theorem k_blockD : ∀ d,KB (d + 1) (blockD d)
 | 0 => k_block dead_ke dead_kb
 | d + 1 => k_block (k_exprD d).1 (k_blockD d)
theorem k_top : ∀ (n : Nat) (s : PS) (top x : List Nat) (s' : PS),TKs s → (∀ k ∈ top,HB 25 s.bl k) → topF n s top = .ok x s' → K2 s s' ∧ ∀ k ∈ x,HB 25 s'.bl k
 | 0,_,_,_,_,_,_,h => by cases h
 | n + 1,s,top,x,s',ht,hb,h => by
   simp only [topF] at h
   have k1 := k_now s
   split at h
   · injection h with h1 h2
     subst h1 h2
     exact ⟨k1.k2,fun k hk => by rw [k1.bl]; exact hb k hk⟩
   obtain ⟨y,s1,e1,h⟩ := bind_ok h
   obtain ⟨g1,g2⟩ := k_blockD 24 _ _ _ (k1.tk ht) e1
   split at h
   · cases h
   have k3 := (k_now s1).trans (k_lines (nowS s1))
   have k4 := (k1.k2.trans g1).trans k3.k2
   obtain ⟨q1,q2⟩ := k_top n _ _ x s' (k4.tk ht) (fun k hk => by
     rcases List.mem_append.1 hk with hk | hk
     · exact (hb k hk).mono k4.pre
     · rw [List.mem_singleton] at hk; rw [hk,k3.bl]; exact g2) h
   exact ⟨k4.trans q1,q2⟩
theorem parse_shape {t : Str} {f : Fl} (h : parseM t = .ok f) : (∀ e ∈ f.ex,XE e) ∧ (∀ b ∈ f.bl,XB b) ∧ ∀ k ∈ f.top,HB 25 f.bl k := by
 unfold parseM at h
 cases hs : scanM t with
 | bad c a => rw [hs] at h; cases h
 | ok l =>
   rw [hs] at h
   simp only at h
   cases hr : topF (l.length + 1) (linesS ⟨l,0,0,0,false,[],[]⟩) [] with
   | err c a => rw [hr] at h; cases h
   | ok top s' =>
     rw [hr] at h
     injection h with h
     subst h
     have k1 := k_lines ⟨l,0,0,0,false,[],[]⟩
     obtain ⟨g1,g2⟩ := k_top _ _ _ _ _ (k1.tk ⟨scanM_tok hs,(scan_few hs).1⟩) (fun k hk => by cases hk) hr
     have g := k1.k2.trans g1
     exact ⟨g.ex (fun e he => by cases he),g.bl (fun b hb => by cases hb),g2⟩
end Go.Proofs.YtofhaneggcpdaaaGreatDoor
namespace Go.Proofs.YtofhaneggcpdaaaGreatDoor
open Go Go.Eng Go.Lex Go.Syn
set_option maxRecDepth 100000
def lenS (l : List Str) : Nat := sumN (l.map List.length)
theorem flat_lenS : ∀ l : List Str,l.flatten.length = lenS l
 | [] => rfl
 | x :: l => by
   unfold lenS
   rw [List.flatten_cons,List.length_append,List.map_cons,sumN_cons,flat_lenS l]; rfl
theorem join_lenS (sep : Str) : ∀ l : List Str,(joinL l sep).length ≤ lenS l + l.length * sep.length
 | [] => by simp [joinL]
 | [x] => by simp [joinL,List.intercalate,lenS,sumN]
 | x :: y :: r => by
   have ih := join_lenS sep (y :: r)
   have e : joinL (x :: y :: r) sep = x ++ sep ++ joinL (y :: r) sep := by simp [joinL,List.intercalate]
   have e2 : lenS (x :: y :: r) = x.length + lenS (y :: r) := rfl
   rw [e,List.length_append,List.length_append,e2,show (x :: y :: r).length = (y :: r).length + 1 from rfl,Nat.succ_mul]
   omega
theorem three_lenS : ∀ l : List Str,(l.getD 0 []).length + (l.getD 1 []).length + (l.getD 2 []).length ≤ lenS l
 | [] => by simp [lenS,sumN]
 | [a] => by simp [lenS,sumN]
 | [a,b] => by simp [lenS,sumN]
 | a :: b :: c :: r => by simp [lenS,sumN]; omega
def wF (f : Fl) : Nat → Nat → Nat
 | 0,_ => 0
 | n + 1,i => match f.ex[i]? with
   | none => 0
   | some e => (60 + 2 * e.t.length + 200100 * e.args.length) + sumN (e.args.map (wF f n))
def wE (f : Fl) (i : Nat) : Nat := wF f (i + 1) i
def ownE (f : Fl) (i : Nat) : Nat := match f.ex[i]? with
 | none => 0
 | some e => 60 + 2 * e.t.length + 200100 * e.args.length
def AhE (f : Fl) : Prop := ∀ (i : Nat) (e : Ex),f.ex[i]? = some e → ∀ a ∈ e.args,a < i
section
variable {f : Fl}
theorem wF_eq (hah : AhE f) : ∀ (n i : Nat),i < n → wF f n i = wE f i := by
 intro n i
 induction i using Nat.strongRecOn generalizing n with
 | ind i ih =>
   intro hi
   obtain ⟨n,rfl⟩ : ∃ m,n = m + 1 := ⟨n - 1,by omega⟩
   unfold wE
   simp only [wF]
   cases he : f.ex[i]? with
   | none => rfl
   | some e =>
     simp only
     congr 2
     apply List.map_congr_left
     intro a ha
     have := hah i e he a ha
     rw [ih a this n (by omega),ih a this i this]
theorem wE_eq (hah : AhE f) {i : Nat} {e : Ex} (he : f.ex[i]? = some e) : wE f i = (60 + 2 * e.t.length + 200100 * e.args.length) + sumN (e.args.map (wE f)) := by
 show wF f (i + 1) i = _
 simp only [wF,he]
 congr 2
 apply List.map_congr_left
 intro a ha
 exact wF_eq hah i a (hah i e he a ha)
theorem args_lenS (hah : AhE f) {e : Ex} (hx : XE e) (hle : ∀ a ∈ e.args,(exprM f a).length ≤ wE f a) : lenS (argsT e (exprM f)) ≤ 200005 * e.args.length + sumN (e.args.map (wE f)) ∧ (e.k ≠ 8 → lenS (argsT e (exprM f)) ≤ sumN (e.args.map (wE f))) := by
 have key : ∀ (c : Nat),(∀ k,k < e.args.length → (argT e (exprM f) k).length ≤ c + (exprM f (e.args.getD k 0)).length) → lenS (argsT e (exprM f)) ≤ c * e.args.length + sumN (e.args.map (wE f)) := fun c hc => by
   unfold lenS argsT
   rw [List.map_map]
   refine Nat.le_trans (sumN_le _ _ (fun k => c + wE f (e.args.getD k 0)) fun k hk => ?_) ?_
   · rw [List.mem_range] at hk
     have h1 := hc k hk
     have h2 := hle (e.args.getD k 0) (by rw [List.getD_eq_getElem?_getD,List.getElem?_eq_getElem hk]; exact List.getElem_mem _)
     simp only [Function.comp]
     omega
   · rw [sumN_add,sumN_const,List.length_range]
     have : (List.range e.args.length).map (fun k => wE f (e.args.getD k 0)) = e.args.map (wE f) := by
       apply List.ext_getElem (by simp)
       intro i h1 h2
       simp only [List.length_map] at h2
       simp [List.getElem?_eq_getElem h2]
     rw [this,Nat.mul_comm]; exact Nat.le_refl _
 refine ⟨key 200005 fun k hk => ?_,fun h8 => ?_⟩
 · unfold argT
   rw [List.length_append]
   split
   · rename_i h8
     have h2 := hx.a6 (.inr h8)
     have h3 := (hx.uk (e.keys.getD k []) (by rw [List.getD_eq_getElem?_getD,List.getElem?_eq_getElem (show k < e.keys.length by omega)]; exact List.getElem_mem _)).2
     have h4 := plain_len2 (e.keys.getD k [])
     simp only [List.length_append,List.length_cons,List.length_nil]
     omega
   · simp
 · have := key 0 fun k hk => by unfold argT; rw [if_neg h8]; simp
   omega
theorem tpl_lenS (hah : AhE f) {e : Ex} {l : List Str} (hl : l = argsT e (exprM f)) (h8 : e.k ≠ 8) (hle : ∀ a ∈ e.args,(exprM f a).length ≤ wE f a) : (tplM f e l l.length).length ≤ 3 * e.args.length + sumN (e.args.map (wE f)) := by
 have hal : l.length = e.args.length := by rw [hl]; unfold argsT; rw [List.length_map,List.length_range]
 unfold tplM
 rw [flat_lenS,hal]
 unfold lenS
 rw [List.map_map]
 refine Nat.le_trans (sumN_le _ _ (fun k => 3 + wE f (e.args.getD k 0)) fun k hk => ?_) ?_
 · rw [List.mem_range] at hk
   have hm : e.args.getD k 0 ∈ e.args := by rw [List.getD_eq_getElem?_getD,List.getElem?_eq_getElem hk]; exact List.getElem_mem _
   have h2 := hle _ hm
   simp only [Function.comp]
   split
   · have h3 := plain_len2 (f.ex.getD (e.args.getD k 0) ⟨0,[],[],[],0⟩).t
     generalize e.args.getD k 0 = a at *
     cases hg : f.ex[a]? with
     | none =>
       rw [List.getD_eq_getElem?_getD,hg]
       show (plainM []).length ≤ _
       exact Nat.zero_le _
     | some x =>
       rw [List.getD_eq_getElem?_getD,hg] at h3 ⊢
       simp only [Option.getD_some] at h3 ⊢
       have := wE_eq hah hg
       omega
   · have hg : l.getD k [] = exprM f (e.args.getD k 0) := by
       rw [hl]
       unfold argsT
       rw [List.getD_eq_getElem?_getD,List.getElem?_map,List.getElem?_range hk]
       show argT e (exprM f) k = _
       unfold argT
       rw [if_neg h8]; rfl
     rw [hg]
     simp only [List.length_append,List.length_cons,List.length_nil]
     omega
 · rw [sumN_add,sumN_const,List.length_range]
   have : (List.range e.args.length).map (fun k => wE f (e.args.getD k 0)) = e.args.map (wE f) := by
     apply List.ext_getElem (by simp)
     intro i h1 h2
     simp only [List.length_map] at h2
     simp [List.getElem?_eq_getElem h2]
   rw [this,Nat.mul_comm]; exact Nat.le_refl _
theorem expr_le (hah : AhE f) (hX : ∀ e ∈ f.ex,XE e) : ∀ i,(exprM f i).length ≤ wE f i := by
 intro i
 induction i using Nat.strongRecOn with
 | ind i ih =>
   cases he : f.ex[i]? with
   | none =>
     unfold exprM
     rw [exprF,he]
     exact Nat.zero_le _
   | some e =>
     have hx := hX e (List.mem_of_getElem? he)
     have hle : ∀ a ∈ e.args,(exprM f a).length ≤ wE f a := fun a ha => ih a (hah i e he a ha)
     obtain ⟨a1,a2⟩ := args_lenS hah hx hle
     have hal : (argsT e (exprM f)).length = e.args.length := by unfold argsT; rw [List.length_map,List.length_range]
     rw [expr_eq hah he,wE_eq hah he]
     have h3 := three_lenS (argsT e (exprM f))
     have hj := join_lenS [44,32] (argsT e (exprM f))
     have hp := plain_len2 e.t
     have ht : e.k = 6 → (tplM f e (argsT e (exprM f)) (argsT e (exprM f)).length).length ≤ 3 * e.args.length + sumN (e.args.map (wE f)) := fun h6 => tpl_lenS hah rfl (by omega) hle
     have hsg : (sigT.getD (e.k - 15).toNat []).length ≤ 2 := by
       have : ∀ s ∈ sigT,s.length ≤ 2 := by decide
       rw [List.getD_eq_getElem?_getD]
       cases hg : sigT[(e.k - 15).toNat]? with
       | none => exact Nat.zero_le _
       | some s => exact this s (List.mem_of_getElem? hg)
     simp only [List.length_cons,List.length_nil] at hj
     generalize argsT e (exprM f) = l at *
     generalize sumN (e.args.map (wE f)) = S at *
     unfold showK
     simp only
     by_cases n1 : e.k = 1
     · rw [if_pos n1]
       simp only [List.length_append,List.length_cons,List.length_nil]
       omega
     rw [if_neg n1]
     by_cases n2 : e.k = 2
     · rw [if_pos n2]
       simp only [List.length_append,List.length_cons,List.length_nil]
       omega
     rw [if_neg n2]
     by_cases n3 : e.k = 3
     · rw [if_pos n3]
       simp only [List.length_append,List.length_cons,List.length_nil]
       omega
     rw [if_neg n3]
     by_cases n4 : e.k = 4 ∨ e.k = 9
     · rw [if_pos n4]
       omega
     rw [if_neg n4]
     by_cases n5 : e.k = 5
     · rw [if_pos n5]
       unfold Syn.quotM
       simp only [List.length_append,List.length_cons,List.length_nil]
       omega
     rw [if_neg n5]
     by_cases n6 : e.k = 6
     · rw [if_pos n6]
       have := ht n6
       simp only [List.length_append,List.length_cons,List.length_nil]
       omega
     rw [if_neg n6]
     by_cases n7 : e.k = 7
     · rw [if_pos n7]
       simp only [List.length_append,List.length_cons,List.length_nil]
       omega
     rw [if_neg n7]
     by_cases n8 : e.k = 8
     · rw [if_pos n8]
       simp only [List.length_append,List.length_cons,List.length_nil]
       omega
     rw [if_neg n8]
     by_cases n10 : e.k = 10
     · rw [if_pos n10]
       simp only [List.length_append,List.length_cons,List.length_nil]
       omega
     rw [if_neg n10]
     by_cases n30 : e.k = 30
     · rw [if_pos n30]
       simp only [List.length_append,List.length_cons,List.length_nil]
       omega
     rw [if_neg n30]
     by_cases n11 : e.k = 11
     · rw [if_pos n11]
       simp only [List.length_append,List.length_cons,List.length_nil]
       omega
     rw [if_neg n11]
     by_cases n12 : e.k = 12
     · rw [if_pos n12]
       simp only [List.length_append,List.length_cons,List.length_nil]
       omega
     rw [if_neg n12]
     by_cases n13 : e.k = 13
     · rw [if_pos n13]
       simp only [List.length_append,List.length_cons,List.length_nil]
       omega
     rw [if_neg n13]
     by_cases n14 : e.k = 14
     · rw [if_pos n14]
       simp only [List.length_append,List.length_cons,List.length_nil]
       omega
     rw [if_neg n14]
     by_cases n28 : e.k = 28
     · rw [if_pos n28]
       simp only [List.length_append,List.length_cons,List.length_nil]
       omega
     rw [if_neg n28]
     by_cases n29 : e.k = 29
     · rw [if_pos n29]
       simp only [List.length_append,List.length_cons,List.length_nil]
       omega
     rw [if_neg n29]
     simp only [List.length_append,List.length_cons,List.length_nil]
     omega
end
end Go.Proofs.YtofhaneggcpdaaaGreatDoor
namespace Go.Proofs.YtofhaneggcpdaaaGreatDoor
open Go Go.Eng Go.Lex Go.Syn
set_option maxRecDepth 100000
theorem exL_get {f : Fl} {i : Nat} {us : List Nat} (h : (exL f.ex)[i]? = some us) : ∃ e,f.ex[i]? = some e ∧ us = e.args := by
 unfold exL at h
 rw [List.getElem?_map,Option.map_eq_some_iff] at h
 obtain ⟨e,h1,h2⟩ := h
 exact ⟨e,h1,h2.symm⟩
theorem blL_get {f : Fl} {i : Nat} {us : List Nat} (h : (blL f.bl)[i]? = some us) : ∃ e,f.bl[i]? = some e ∧ us = e.blocks := by
 unfold blL at h
 rw [List.getElem?_map,Option.map_eq_some_iff] at h
 obtain ⟨e,h1,h2⟩ := h
 exact ⟨e,h1,h2.symm⟩
theorem flat_sum (L : List (List Nat)) : sumN (L.map List.length) = L.flatten.length := by
 induction L with
 | nil => rfl
 | cons x L ih => rw [List.map_cons,sumN_cons,List.flatten_cons,List.length_append,ih]
theorem own_sum {f : Fl} (hX : ∀ e ∈ f.ex,XE e) {r : List Nat} (h : Forest (exL f.ex) r) (few : f.ex.length ≤ 100000) : sumN ((List.range f.ex.length).map (ownE f)) ≤ 45000000000 := by
 have e1 := range_get f.ex (fun o => match o with | none => 0 | some e => 60 + 2 * e.t.length + 200100 * e.args.length)
 have e2 : sumN ((List.range f.ex.length).map (ownE f)) = sumN (f.ex.map fun e => 60 + 2 * e.t.length + 200100 * e.args.length) := e1
 rw [e2]
 refine Nat.le_trans (sumN_le _ _ (fun e => 200060 + 200100 * e.args.length) fun e he => ?_) ?_
 · have := (hX e he).ut.2; omega
 · rw [sumN_add,sumN_const,sumN_mul]
   have h1 : sumN (f.ex.map fun e => e.args.length) = (exL f.ex).flatten.length := by
     rw [← flat_sum]; unfold exL; rw [List.map_map]; rfl
   have h2 := (once_of h).len
   rw [List.length_append] at h2
   have h3 : (exL f.ex).length = f.ex.length := by unfold exL; rw [List.length_map]
   rw [h1]
   have h4 : f.ex.length * 200060 ≤ 20006000000 := Nat.le_trans (Nat.mul_le_mul_right 200060 few) (by decide)
   generalize f.ex.length * 200060 = X at *
   generalize (exL f.ex).flatten.length = Y at *
   clear h1
   omega
def wBF (f : Fl) : Nat → Nat → Nat
 | 0,_ => 0
 | n + 1,i => match f.bl[i]? with
   | none => 0
   | some b => (1000115300 + sumN (b.attrs.map fun a => 100100 + wE f a.e)) + sumN (b.blocks.map (wBF f n))
def wB (f : Fl) (i : Nat) : Nat := wBF f (i + 1) i
def ownB (f : Fl) (i : Nat) : Nat := match f.bl[i]? with
 | none => 0
 | some b => 1000115300 + sumN (b.attrs.map fun a => 100100 + wE f a.e)
def AhB (f : Fl) : Prop := ∀ (i : Nat) (b : Blk),f.bl[i]? = some b → ∀ a ∈ b.blocks,a < i
theorem wBF_eq {f : Fl} (hah : AhB f) : ∀ (n i : Nat),i < n → wBF f n i = wB f i := by
 intro n i
 induction i using Nat.strongRecOn generalizing n with
 | ind i ih =>
   intro hi
   obtain ⟨n,rfl⟩ : ∃ m,n = m + 1 := ⟨n - 1,by omega⟩
   unfold wB
   simp only [wBF]
   cases he : f.bl[i]? with
   | none => rfl
   | some e =>
     simp only
     congr 2
     apply List.map_congr_left
     intro a ha
     have := hah i e he a ha
     rw [ih a this n (by omega),ih a this i this]
theorem wB_eq {f : Fl} (hah : AhB f) {i : Nat} {b : Blk} (he : f.bl[i]? = some b) : wB f i = (1000115300 + sumN (b.attrs.map fun a => 100100 + wE f a.e)) + sumN (b.blocks.map (wB f)) := by
 show wBF f (i + 1) i = _
 simp only [wBF,he]
 congr 2
 apply List.map_congr_left
 intro a ha
 exact wBF_eq hah i a (hah i b he a ha)
theorem block_le {f : Fl} (hE : AhE f) (hX : ∀ e ∈ f.ex,XE e) (hah : AhB f) (hB : ∀ b ∈ f.bl,XB b) : ∀ (d i n : Nat),HB d f.bl i → n + d ≤ 26 → (blockM f i n).length ≤ wB f i
 | 0,_,_,h,_ => h.elim
 | d + 1,i,n,⟨b,h1,h2⟩,hn => by
   have hb := hB b (List.mem_of_getElem? h1)
   rw [block_eq hah h1 n,wB_eq hah h1]
   have hin := in_len n
   have hlab : (labsM b.labels).length ≤ 5000 * 200003 := by
     unfold labsM
     rw [flat_lenS]
     unfold lenS
     rw [List.map_map]
     refine Nat.le_trans (sumN_le _ _ (fun _ => 200003) fun s hs => ?_) ?_
     · have h3 := (hb.lb s hs).2
       have h4 := plain_len2 s
       simp only [Function.comp,List.length_append,List.length_cons,List.length_nil]
       omega
     · rw [sumN_const]
       exact Nat.mul_le_mul_right _ hb.few
   have hat : ((b.attrs.map (atrM f n)).flatten).length ≤ sumN (b.attrs.map fun a => 100100 + wE f a.e) := by
     rw [flat_lenS]
     unfold lenS
     rw [List.map_map]
     refine sumN_le _ _ _ fun a ha => ?_
     have h3 := (hb.at_ a ha).2.2
     have h4 := expr_le hE hX a.e
     unfold atrM
     simp only [Function.comp,List.length_append,List.length_cons,List.length_nil]
     omega
   have hbl : ((b.blocks.map fun k => blockM f k (n + 1)).flatten).length ≤ sumN (b.blocks.map (wB f)) := by
     rw [flat_lenS]
     unfold lenS
     rw [List.map_map]
     exact sumN_le _ _ _ fun k hk => block_le hE hX hah hB d k (n + 1) (h2 k hk) (by omega)
   have hty := hb.ty.2.2
   simp only [List.length_append,List.length_cons,List.length_nil]
   omega
theorem sumN_flat {α : Type} (F : α → List Nat) (W : Nat → Nat) (l : List α) : sumN (l.map fun x => sumN ((F x).map W)) = sumN ((l.flatMap F).map W) := by
 induction l with
 | nil => rfl
 | cons x l ih => rw [List.map_cons,sumN_cons,ih,List.flatMap_cons,List.map_append,sumN_app]
theorem file_shown {t : Str} {f : Fl} (h : parseM t = .ok f) (few : f.ex.length ≤ 100000 ∧ f.bl.length ≤ 100000 ∧ f.top.length ≤ 100000) : FOk f ∧ BOk f ∧ (∀ i ∈ f.top,i < f.bl.length) ∧ (fileM f).length ≤ 120000000000000 := by
 obtain ⟨hX,hB,hT⟩ := parse_shape h
 have hf := forms_plain t
 rw [h] at hf
 obtain ⟨_,hfe,hfb,_⟩ := hf
 obtain ⟨sm1,sm2,sm3⟩ := parse_small h
 have hE : AhE f := fun i e he a ha => hfe.ahead i e.args (by unfold exL; rw [List.getElem?_map,he]; rfl) a ha
 have hA : AhB f := fun i b he a ha => hfb.ahead i b.blocks (by unfold blL; rw [List.getElem?_map,he]; rfl) a ha
 have lE : (exL f.ex).length = f.ex.length := by unfold exL; rw [List.length_map]
 have lB : (blL f.bl).length = f.bl.length := by unfold blL; rw [List.length_map]
 have own := own_sum hX hfe few.1
 have hWE : ∀ i us,(exL f.ex)[i]? = some us → wE f i = ownE f i + sumN (us.map (wE f)) := fun i us hi => by
   obtain ⟨e,h1,rfl⟩ := exL_get hi
   rw [wE_eq hE h1]
   unfold ownE
   rw [h1]
 have hWB : ∀ i us,(blL f.bl)[i]? = some us → wB f i = ownB f i + sumN (us.map (wB f)) := fun i us hi => by
   obtain ⟨e,h1,rfl⟩ := blL_get hi
   rw [wB_eq hA h1]
   unfold ownB
   rw [h1]
 have each : ∀ i,i < f.ex.length → wE f i ≤ 45000000000 := fun i hi => by
   have := forest_each hfe (ownE f) (wE f) hWE (f.ex.length - 1 - i) i (by omega)
   rw [lE] at this
   omega
 have oE := (once_of hfe).len
 have oB := (once_of hfb).len
 rw [List.length_append,lE] at oE
 rw [List.length_append,lB] at oB
 have argl : ∀ e ∈ f.ex,e.args.length ≤ 100000 := fun e he => by
   have h1 : e.args.length ≤ (exL f.ex).flatten.length := by
     rw [← flat_sum]
     exact sumN_mem (List.mem_map.2 ⟨e.args,List.mem_map.2 ⟨e,he,rfl⟩,rfl⟩)
   omega
 refine ⟨⟨hE,fun e he => ?_,few.1,fun i => ?_,fun e he h8 s hs => by have := ((hX e he).uk s hs).2; omega,fun e he => ?_⟩,⟨hA,⟨few.2.1,few.2.2,fun b hb => ⟨by have := (hB b hb).few; omega,?_,?_⟩⟩,fun b hb s hs => ?_,fun b hb a ha => by have := (sm2 b hb).1 a ha; omega⟩,sm3,?_⟩
 · have hx := hX e he
   exact ⟨hx.kd.1,hx.kd.2,⟨hx.ut.1,by have := hx.ut.2; omega⟩,fun s hs => ⟨(hx.uk s hs).1,by have := (hx.uk s hs).2; omega⟩,argl e he,fun h => hx.a6 (.inl h),fun h => hx.a6 (.inr h),hx.a1,hx.a2,hx.a3⟩
 · by_cases hi : i < f.ex.length
   · have h1 := expr_le hE hX i
     have h2 := each i hi
     omega
   · unfold exprM
     rw [exprF,List.getElem?_eq_none (by omega)]
     exact Nat.zero_le _
 · obtain ⟨i,hi⟩ := List.mem_iff_getElem?.1 he
   have h1 := (args_lenS hE (hX e he) fun a _ => expr_le hE hX a).1
   have h2 := join_lenS [44,32] (argsT e (exprM f))
   have h3 := wE_eq hE hi
   have h4 := each i (List.getElem?_eq_some_iff.1 hi).1
   have hal : (argsT e (exprM f)).length = e.args.length := by unfold argsT; rw [List.length_map,List.length_range]
   rw [hal] at h2
   simp only [List.length_cons,List.length_nil] at h2
   omega
 · have h1 : b.attrs.length ≤ (erefs f.bl).length := by
     have : (b.attrs.map (·.e)).length ≤ (erefs f.bl).length := by
       unfold erefs
       rw [List.flatMap_def,← flat_sum]
       exact sumN_mem (List.mem_map.2 ⟨b.attrs.map (·.e),List.mem_map.2 ⟨b,hb,rfl⟩,rfl⟩)
     rwa [List.length_map] at this
   omega
 · have h1 : b.blocks.length ≤ (blL f.bl).flatten.length := by
     rw [← flat_sum]
     exact sumN_mem (List.mem_map.2 ⟨b.blocks,List.mem_map.2 ⟨b,hb,rfl⟩,rfl⟩)
   omega
 · have := (hB b hb).lb s hs
   exact ⟨this.1,by omega⟩
 · have h1 : (fileM f).length ≤ sumN (f.top.map (wB f)) := by
     unfold fileM
     rw [flat_lenS]
     unfold lenS
     rw [List.map_map]
     exact sumN_le _ _ _ fun k hk => block_le hE hX hA hB 25 k 0 (hT k hk) (by omega)
   have h2 := forest_sum hfb (ownB f) (wB f) hWB
   rw [lB] at h2
   have h3 : sumN ((List.range f.bl.length).map (ownB f)) = sumN (f.bl.map fun b => 1000115300 + sumN (b.attrs.map fun a => 100100 + wE f a.e)) := range_get f.bl (fun o => match o with | none => 0 | some b => 1000115300 + sumN (b.attrs.map fun a => 100100 + wE f a.e))
   have h4 : sumN (f.bl.map fun b => sumN (b.attrs.map fun a => 100100 + wE f a.e)) = 100100 * (erefs f.bl).length + sumN ((erefs f.bl).map (wE f)) := by
     have e1 : (f.bl.map fun b => sumN (b.attrs.map fun a => 100100 + wE f a.e)) = f.bl.map fun b => sumN ((b.attrs.map (·.e)).map fun x => 100100 + wE f x) := by
       apply List.map_congr_left
       intro b _
       rw [List.map_map]; rfl
     rw [e1,sumN_flat (fun b : Blk => b.attrs.map (·.e)) (fun x => 100100 + wE f x),sumN_add,sumN_const,Nat.mul_comm]
   have h5 := forest_sum hfe (ownE f) (wE f) hWE
   rw [lE] at h5
   rw [h3,sumN_add,sumN_const,h4,h5] at h2
   have h6 := Nat.mul_le_mul_right 1000115300 few.2.1
   omega
end Go.Proofs.YtofhaneggcpdaaaGreatDoor
namespace Go.Proofs.YtofhaneggcpdaaaGreatDoor
open Go Go.Eng Go.Lex Go.Syn
set_option maxRecDepth 100000
def NL (s : Str) : Prop := ∀ d ∈ s,d ≠ (10 : UInt8)
theorem NL.app {a b : Str} (h : NL a) (h' : NL b) : NL (a ++ b) := fun d hd => (List.mem_append.1 hd).elim (h d) (h' d)
theorem NL.nil : NL [] := fun d hd => by cases hd
theorem nl_c {s : Str} (h : s.all (fun d => d != 10) = true) : NL s := fun d hd => by
 have := List.all_eq_true.1 h d hd
 simpa using this
theorem nl_plain (s : Str) : NL (plainM s) := fun d hd => by
 obtain ⟨c,_,h⟩ := List.mem_flatMap.1 hd
 have hp := plain_b c
 generalize plainB c = q at hp h
 cases hp with
 | esc e h2 _ =>
   simp only [List.mem_cons,List.not_mem_nil,or_false] at h
   rcases h with rfl | rfl
   · decide
   · intro e10; rw [e10] at h2; exact absurd h2 (by decide)
 | lit _ _ _ h4 => rw [List.mem_singleton] at h; rw [h]; exact h4
theorem nl_getD {l : List Str} (h : ∀ s ∈ l,NL s) (k : Nat) : NL (l.getD k []) := by
 rw [List.getD_eq_getElem?_getD]
 cases hg : l[k]? with
 | none => exact NL.nil
 | some s => exact h s (List.mem_of_getElem? hg)
theorem nl_join {sep : Str} (hs : NL sep) : ∀ l : List Str,(∀ s ∈ l,NL s) → NL (joinL l sep)
 | [],_ => NL.nil
 | [x],h => by
   have := h x (by simp)
   simpa [joinL,List.intercalate] using this
 | x :: y :: r,h => by
   have e : joinL (x :: y :: r) sep = x ++ sep ++ joinL (y :: r) sep := by simp [joinL,List.intercalate]
   rw [e]
   exact ((h x (by simp)).app hs).app (nl_join hs (y :: r) fun s hm => h s (List.mem_cons_of_mem _ hm))
theorem nl_flat {l : List Str} (h : ∀ s ∈ l,NL s) : NL l.flatten := fun d hd => by
 obtain ⟨s,hs,hd⟩ := List.mem_flatten.1 hd
 exact h s hs d hd
theorem nl_show {f : Fl} {e : Ex} {l : List Str} (hx : XE e) (hl : ∀ s ∈ l,NL s) : NL (showK f e l) := by
 have g := nl_getD hl
 have hj := nl_join (sep := [44,32]) (nl_c (by decide)) l hl
 have ht : e.k ≠ 5 → NL e.t := hx.nl
 have htp : NL (tplM f e l l.length) := by
   unfold tplM
   refine nl_flat fun s hs => ?_
   obtain ⟨k,_,rfl⟩ := List.mem_map.1 hs
   split
   · exact nl_plain _
   · exact ((nl_c (by decide)).app (g k)).app (nl_c (by decide))
 have hsg : NL (sigT.getD (e.k - 15).toNat []) := by
   refine nl_getD (fun s hs => nl_c ?_) _
   have : ∀ s ∈ sigT,s.all (fun d => d != 10) = true := by decide
   exact this s hs
 unfold showK
 simp only
 by_cases n1 : e.k = 1
 · rw [if_pos n1]; exact nl_c (by decide)
 rw [if_neg n1]
 by_cases n2 : e.k = 2
 · rw [if_pos n2]; exact nl_c (by decide)
 rw [if_neg n2]
 by_cases n3 : e.k = 3
 · rw [if_pos n3]; exact nl_c (by decide)
 rw [if_neg n3]
 by_cases n4 : e.k = 4 ∨ e.k = 9
 · rw [if_pos n4]; exact ht (by omega)
 rw [if_neg n4]
 by_cases n5 : e.k = 5
 · rw [if_pos n5]; unfold Syn.quotM; exact ((nl_c (by decide)).app (nl_plain _)).app (nl_c (by decide))
 rw [if_neg n5]
 have ht := ht n5
 by_cases n6 : e.k = 6
 · rw [if_pos n6]; exact ((nl_c (by decide)).app htp).app (nl_c (by decide))
 rw [if_neg n6]
 by_cases n7 : e.k = 7
 · rw [if_pos n7]; exact ((nl_c (by decide)).app hj).app (nl_c (by decide))
 rw [if_neg n7]
 by_cases n8 : e.k = 8
 · rw [if_pos n8]; exact ((nl_c (by decide)).app hj).app (nl_c (by decide))
 rw [if_neg n8]
 by_cases n10 : e.k = 10
 · rw [if_pos n10]; exact (((nl_c (by decide)).app (g 0)).app (nl_c (by decide))).app ht
 rw [if_neg n10]
 by_cases n30 : e.k = 30
 · rw [if_pos n30]; exact (((nl_c (by decide)).app (g 0)).app (nl_c (by decide))).app ht
 rw [if_neg n30]
 by_cases n11 : e.k = 11
 · rw [if_pos n11]; exact ((((nl_c (by decide)).app (g 0)).app (nl_c (by decide))).app (g 1)).app (nl_c (by decide))
 rw [if_neg n11]
 by_cases n12 : e.k = 12
 · rw [if_pos n12]; exact ((ht.app (nl_c (by decide))).app hj).app (nl_c (by decide))
 rw [if_neg n12]
 by_cases n13 : e.k = 13
 · rw [if_pos n13]; exact ((nl_c (by decide)).app hj).app (nl_c (by decide))
 rw [if_neg n13]
 by_cases n14 : e.k = 14
 · rw [if_pos n14]; exact ((nl_c (by decide)).app hj).app (nl_c (by decide))
 rw [if_neg n14]
 by_cases n28 : e.k = 28
 · rw [if_pos n28]; exact ((((((nl_c (by decide)).app (g 0)).app (nl_c (by decide))).app (g 1)).app (nl_c (by decide))).app (g 2)).app (nl_c (by decide))
 rw [if_neg n28]
 by_cases n29 : e.k = 29
 · rw [if_pos n29]; exact ((((((nl_c (by decide)).app ht).app (nl_c (by decide))).app (g 0)).app (nl_c (by decide))).app (g 1)).app (nl_c (by decide))
 rw [if_neg n29]
 exact ((((((nl_c (by decide)).app (g 0)).app (nl_c (by decide))).app hsg).app (nl_c (by decide))).app (g 1)).app (nl_c (by decide))
theorem nl_expr {f : Fl} (hE : AhE f) (hX : ∀ e ∈ f.ex,XE e) : ∀ i,NL (exprM f i) := by
 intro i
 induction i using Nat.strongRecOn with
 | ind i ih =>
   cases he : f.ex[i]? with
   | none =>
     unfold exprM
     rw [exprF,he]
     exact NL.nil
   | some e =>
     rw [expr_eq hE he]
     refine nl_show (hX e (List.mem_of_getElem? he)) fun s hs => ?_
     unfold argsT at hs
     obtain ⟨k,hk,rfl⟩ := List.mem_map.1 hs
     rw [List.mem_range] at hk
     unfold argT
     refine NL.app ?_ (ih _ (hE i e he _ (by rw [List.getD_eq_getElem?_getD,List.getElem?_eq_getElem hk]; exact List.getElem_mem _)))
     split
     · exact ((nl_c (by decide)).app (nl_plain _)).app (nl_c (by decide))
     · exact NL.nil
def Ln (k : Nat) (s : Str) : Prop := ∃ c r,s = inM k ++ c :: (r ++ [10]) ∧ c ≠ 32 ∧ c ≠ 10 ∧ NL r
def Lns : List Nat → Str → Prop
 | [],s => s = []
 | k :: ks,s => ∃ a b,s = a ++ b ∧ Ln k a ∧ Lns ks b
theorem Lns.app : ∀ {ks js : List Nat} {a b : Str},Lns ks a → Lns js b → Lns (ks ++ js) (a ++ b)
 | [],_,a,b,h,h' => by
   have h : a = [] := h
   rw [h]; exact h'
 | k :: ks,js,a,b,⟨x,y,h1,h2,h3⟩,h' => ⟨x,y ++ b,by rw [h1,List.append_assoc],h2,h3.app h'⟩
theorem Lns.one {k : Nat} {s : Str} (h : Ln k s) : Lns [k] s := ⟨s,[],by simp,h,rfl⟩
theorem Lns.flat {α : Type} (F : α → Str) (G : α → List Nat) : ∀ l : List α,(∀ x ∈ l,Lns (G x) (F x)) → Lns (l.flatMap G) (l.map F).flatten
 | [],_ => rfl
 | x :: l,h => by
   rw [List.flatMap_cons,List.map_cons,List.flatten_cons]
   exact (h x (by simp)).app (Lns.flat F G l fun y hy => h y (List.mem_cons_of_mem _ hy))
theorem in_succ (n : Nat) : inM (n + 1) = inM n ++ [32,32] := by
 unfold inM
 rw [List.replicate_succ',List.flatten_append]; simp
theorem name_first {t : Str} (h : NameS t) : ∃ c r,t = c :: r ∧ c ≠ 32 ∧ c ≠ 10 ∧ NL r := by
 obtain ⟨⟨c,r,e,hc⟩,hn,_⟩ := h
 refine ⟨c,r,e,?_,?_,fun d hd e10 => ?_⟩
 · rintro rfl; exact absurd hc (by decide)
 · rintro rfl; exact absurd hc (by decide)
 · have := hn d (by rw [e]; exact List.mem_cons_of_mem _ hd)
   rw [e10] at this
   exact absurd this (by decide)
def LBF : Nat → Fl → Nat → Nat → List Nat
 | 0,_,_,_ => []
 | m + 1,f,i,n => match f.bl[i]? with
   | none => []
   | some b => [n] ++ (b.attrs.map fun _ => n + 1) ++ (b.blocks.flatMap fun k => LBF m f k (n + 1)) ++ [n]
def LB (f : Fl) (i n : Nat) : List Nat := LBF (i + 1) f i n
theorem LBF_eq {f : Fl} (hA : AhB f) : ∀ (m i n : Nat),i < m → LBF m f i n = LB f i n := by
 intro m i
 induction i using Nat.strongRecOn generalizing m with
 | ind i ih =>
   intro n hi
   obtain ⟨m,rfl⟩ : ∃ j,m = j + 1 := ⟨m - 1,by omega⟩
   unfold LB
   simp only [LBF]
   cases he : f.bl[i]? with
   | none => rfl
   | some b =>
     simp only
     have e : b.blocks.flatMap (fun k => LBF m f k (n + 1)) = b.blocks.flatMap (fun k => LBF i f k (n + 1)) := by
       rw [List.flatMap_def,List.flatMap_def]
       congr 1
       apply List.map_congr_left
       intro k hk
       have ha := hA i b he k hk
       rw [ih _ ha m _ (by omega),ih _ ha i _ ha]
     rw [e]
theorem LB_eq {f : Fl} (hA : AhB f) {i : Nat} {b : Blk} (he : f.bl[i]? = some b) (n : Nat) : LB f i n = [n] ++ (b.attrs.map fun _ => n + 1) ++ (b.blocks.flatMap fun k => LB f k (n + 1)) ++ [n] := by
 show LBF (i + 1) f i n = _
 simp only [LBF,he]
 have e : b.blocks.flatMap (fun k => LBF i f k (n + 1)) = b.blocks.flatMap (fun k => LB f k (n + 1)) := by
   rw [List.flatMap_def,List.flatMap_def]
   congr 1
   apply List.map_congr_left
   intro k hk
   exact LBF_eq hA i k _ (hA i b he k hk)
 rw [e]
theorem block_lns {f : Fl} (hE : AhE f) (hX : ∀ e ∈ f.ex,XE e) (hA : AhB f) (hB : ∀ b ∈ f.bl,XB b) : ∀ (i n : Nat),i < f.bl.length → Lns (LB f i n) (blockM f i n) := by
 intro i
 induction i using Nat.strongRecOn with
 | ind i ih =>
   intro n hi
   have he := List.getElem?_eq_getElem hi
   generalize f.bl[i] = b at he
   have hb := hB b (List.mem_of_getElem? he)
   rw [LB_eq hA he,block_eq hA he]
   have h1 : Ln n (inM n ++ b.typ ++ labsM b.labels ++ [32,123,10]) := by
     obtain ⟨c,r,e,h2,h3,h4⟩ := name_first hb.ty
     refine ⟨c,r ++ labsM b.labels ++ [32,123],by rw [e]; simp,h2,h3,(h4.app ?_).app (nl_c (by decide))⟩
     unfold labsM
     refine nl_flat fun s hs => ?_
     obtain ⟨l,_,rfl⟩ := List.mem_map.1 hs
     exact ((nl_c (by decide)).app (nl_plain _)).app (nl_c (by decide))
   have h2 : Lns (b.attrs.map fun _ => n + 1) (b.attrs.map (atrM f n)).flatten := by
     have := Lns.flat (atrM f n) (fun _ => [n + 1]) b.attrs fun a ha => by
       refine Lns.one ?_
       obtain ⟨c,r,e,h2,h3,h4⟩ := name_first (hb.at_ a ha)
       refine ⟨c,r ++ [32,61,32] ++ exprM f a.e,?_,h2,h3,(h4.app (nl_c (by decide))).app (nl_expr hE hX _)⟩
       unfold atrM
       rw [in_succ,e]; simp
     have e : b.attrs.flatMap (fun _ => [n + 1]) = b.attrs.map fun _ => n + 1 := by
       generalize b.attrs = l
       induction l with
       | nil => rfl
       | cons x l ih => rw [List.flatMap_cons,ih]; rfl
     rwa [e] at this
   have h3 : Lns (b.blocks.flatMap fun k => LB f k (n + 1)) (b.blocks.map fun k => blockM f k (n + 1)).flatten := Lns.flat _ _ _ fun k hk => by
     have ha := hA i b he k hk
     exact ih k ha (n + 1) (by omega)
   have h4 : Ln n (inM n ++ [125,10]) := ⟨125,[],by simp,by decide,by decide,NL.nil⟩
   have := (((Lns.one h1).app h2).app h3).app (Lns.one h4)
   simpa only [List.append_assoc] using this
theorem file_lns {f : Fl} (hE : AhE f) (hX : ∀ e ∈ f.ex,XE e) (hA : AhB f) (hB : ∀ b ∈ f.bl,XB b) (hin : ∀ i ∈ f.top,i < f.bl.length) : Lns (f.top.flatMap fun i => LB f i 0) (fileM f) := by
 unfold fileM
 exact Lns.flat _ _ _ fun i hi => block_lns hE hX hA hB i 0 (hin i hi)
def ownL (f : Fl) (D : Nat → Nat) (k i : Nat) : Nat := match f.bl[i]? with
 | none => 0
 | some b => (if D i = k then 2 else 0) + if D i + 1 = k then b.attrs.length else 0
theorem count_flat {α : Type} (G : α → List Nat) (k : Nat) (l : List α) : (l.flatMap G).count k = sumN (l.map fun x => (G x).count k) := by
 induction l with
 | nil => rfl
 | cons x l ih => rw [List.flatMap_cons,List.count_append,ih,List.map_cons,sumN_cons]
theorem lines_count {f : Fl} (hA : AhB f) (hfb : Forest (blL f.bl) f.top) {D : Nat → Nat} (h0 : ∀ r ∈ f.top,D r = 0) (h1 : ∀ (i : Nat) (b : Blk),f.bl[i]? = some b → ∀ k ∈ b.blocks,D k = D i + 1) (k : Nat) :
   (f.top.flatMap fun i => LB f i 0).count k = sumN ((List.range f.bl.length).map (ownL f D k)) := by
 have hW : ∀ i us,(blL f.bl)[i]? = some us → (LB f i (D i)).count k = ownL f D k i + sumN (us.map fun j => (LB f j (D j)).count k) := fun i us hi => by
   obtain ⟨b,hb,rfl⟩ := blL_get hi
   rw [LB_eq hA hb]
   unfold ownL
   rw [hb]
   simp only [List.count_append]
   have e1 : (b.attrs.map fun _ => D i + 1).count k = if D i + 1 = k then b.attrs.length else 0 := by
     generalize b.attrs = l
     induction l with
     | nil => simp
     | cons x l ih =>
       rw [List.map_cons,List.count_cons,ih]
       by_cases hk : D i + 1 = k
       · simp [hk]
       · simp [hk]
   have e2 : (b.blocks.flatMap fun j => LB f j (D i + 1)).count k = sumN (b.blocks.map fun j => (LB f j (D j)).count k) := by
     rw [count_flat]
     congr 1
     apply List.map_congr_left
     intro j hj
     rw [h1 i b hb j hj]
   rw [e1,e2]
   have e3 : List.count k [D i] = if D i = k then 1 else 0 := by
     rw [List.count_singleton]
     by_cases hk : D i = k
     · simp [hk]
     · simp [hk]
   rw [e3]
   by_cases hk : D i = k
   · simp only [hk,if_true]; omega
   · simp only [hk,if_false]; omega
 have hs := forest_sum hfb (ownL f D k) (fun j => (LB f j (D j)).count k) hW
 have lB : (blL f.bl).length = f.bl.length := by unfold blL; rw [List.length_map]
 rw [lB] at hs
 rw [count_flat,← hs]
 congr 1
 apply List.map_congr_left
 intro r hr
 rw [h0 r hr]
end Go.Proofs.YtofhaneggcpdaaaGreatDoor
