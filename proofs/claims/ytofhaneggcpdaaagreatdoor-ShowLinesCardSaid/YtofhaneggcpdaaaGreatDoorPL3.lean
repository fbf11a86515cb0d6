/- One plain sentence: weakest preconditions, contracts and plain laws that the claim rests on, text behind text. Conditions: those that each states. -/
import Derived.Test.YtofhaneggcpdaaaGreatDoorPL2
import Derived.Test.YtofhaneggcpdaaaGreatDoorPL1
set_option linter.all false
set_option linter.unusedSimpArgs false
set_option linter.unusedVariables false
set_option linter.unusedSectionVars false
namespace Go.Proofs.YtofhaneggcpdaaaGreatDoor
open Go Go.Eng Go.RowKit
set_option maxRecDepth 100000
abbrev u8 (n : Nat) : Value := .int .u8 (n : Int)
theorem or192 : ∀ x : Fin 32,IntKind.u8.wrap (BitVec.ofInt IntKind.u8.bits 192 ||| BitVec.ofInt IntKind.u8.bits ((x.val : Nat) : Int)).toNat = ((192 + x.val : Nat) : Int) := by decide +kernel
theorem or224 : ∀ x : Fin 16,IntKind.u8.wrap (BitVec.ofInt IntKind.u8.bits 224 ||| BitVec.ofInt IntKind.u8.bits ((x.val : Nat) : Int)).toNat = ((224 + x.val : Nat) : Int) := by decide +kernel
theorem or240 : ∀ x : Fin 8,IntKind.u8.wrap (BitVec.ofInt IntKind.u8.bits 240 ||| BitVec.ofInt IntKind.u8.bits ((x.val : Nat) : Int)).toNat = ((240 + x.val : Nat) : Int) := by decide +kernel
theorem or128 : ∀ x : Fin 64,IntKind.u8.wrap (BitVec.ofInt IntKind.u8.bits 128 ||| BitVec.ofInt IntKind.u8.bits ((x.val : Nat) : Int)).toNat = ((128 + x.val : Nat) : Int) := by decide +kernel
theorem and63 : ∀ x : Fin 256,IntKind.u8.wrap (BitVec.ofInt IntKind.u8.bits ((x.val : Nat) : Int) &&& BitVec.ofInt IntKind.u8.bits 63).toNat = ((x.val % 64 : Nat) : Int) := by decide +kernel
theorem u8_wrap (n : Nat) : IntKind.u8.wrap (n : Int) = ((n % 256 : Nat) : Int) := by
 simp only [IntKind.wrap,IntKind.bits,IntKind.signed,Bool.false_and]
 rw [show (2 : Int) ^ 8 = 256 by decide]
 simp
theorem u32_wrap {n : Nat} (h : n < 4294967296) : IntKind.u32.wrap (n : Int) = (n : Int) := by
 simp only [IntKind.wrap,IntKind.bits,IntKind.signed,Bool.false_and]
 rw [show (2 : Int) ^ 32 = 4294967296 by decide]
 simp only [Bool.false_eq_true,if_false]
 omega
theorem shr_n (r k : Nat) (hk : k ≤ 32) (K : Value → Prop) : binW .shr (.int .i32 (r : Int)) (.int .u64 (k : Int)) K ↔ K (.int .i32 ((r / 2 ^ k : Nat) : Int)) := by
 have e : (r : Int).fdiv (2 ^ min (k : Int).toNat IntKind.i32.bits) = ((r / 2 ^ k : Nat) : Int) := by
   rw [Int.toNat_natCast,show min k IntKind.i32.bits = k from Nat.min_eq_left hk,Int.fdiv_eq_ediv_of_nonneg _ (by exact Int.le_of_lt (Int.pow_pos (by decide)))]
   rw [Int.natCast_ediv,Int.natCast_pow]; rfl
 simp only [binW]
 rw [e]
 constructor
 · exact fun h => h.2
 · exact fun h => ⟨by omega,h⟩
theorem tail_n (x : Nat) (K : Value → Prop) : (cvtW .u8 (.int .i32 (x : Int)) fun t => binW .and t (.int .u8 63) fun t => binW .or (.int .u8 128) t K) ↔ K (u8 (128 + x % 64)) := by
 rw [cvt_int,u8_wrap,bin_and,and63 ⟨x % 256,by omega⟩,bin_or,or128 ⟨x % 256 % 64,by omega⟩]
 simp only
 rw [show x % 256 % 64 = x % 64 by omega]
theorem row2 {w : World} {a b : Nat} {K : Value → World → Prop} (hK : ∀ t w',SlAt w' U8 t 2 [u8 a,u8 b] → Ext w w' → K t w') : bslW U8 2 [(.int .u8 0),(.int .u8 0)] [(0,1,u8 a),(1,1,u8 b)] w K := by
 rw [bslW]
 simp only [put_int,put_nil,List.length_cons,List.length_nil,List.set_cons_zero,List.set_cons_succ]
 refine ⟨by omega,by omega,?_⟩
 refine hK _ _ ⟨_,_,rfl,Nat.le_refl _,fun e => (by cases e),fun _ => ⟨_,_,_,_,rfl,heap_anew _ _ _ rfl,fun i _ => by rw [Nat.zero_add]; simp⟩⟩ (Chg.alloc (Chg.refl _ _) _)
theorem row3 {w : World} {a b c : Nat} {K : Value → World → Prop} (hK : ∀ t w',SlAt w' U8 t 3 [u8 a,u8 b,u8 c] → Ext w w' → K t w') : bslW U8 3 [(.int .u8 0),(.int .u8 0),(.int .u8 0)] [(0,1,u8 a),(1,1,u8 b),(2,1,u8 c)] w K := by
 rw [bslW]
 simp only [put_int,put_nil,List.length_cons,List.length_nil,List.set_cons_zero,List.set_cons_succ]
 refine ⟨by omega,by omega,by omega,?_⟩
 refine hK _ _ ⟨_,_,rfl,Nat.le_refl _,fun e => (by cases e),fun _ => ⟨_,_,_,_,rfl,heap_anew _ _ _ rfl,fun i _ => by rw [Nat.zero_add]; simp⟩⟩ (Chg.alloc (Chg.refl _ _) _)
theorem row4 {w : World} {a b c d : Nat} {K : Value → World → Prop} (hK : ∀ t w',SlAt w' U8 t 4 [u8 a,u8 b,u8 c,u8 d] → Ext w w' → K t w') : bslW U8 4 [(.int .u8 0),(.int .u8 0),(.int .u8 0),(.int .u8 0)] [(0,1,u8 a),(1,1,u8 b),(2,1,u8 c),(3,1,u8 d)] w K := by
 rw [bslW]
 simp only [put_int,put_nil,List.length_cons,List.length_nil,List.set_cons_zero,List.set_cons_succ]
 refine ⟨by omega,by omega,by omega,by omega,?_⟩
 refine hK _ _ ⟨_,_,rfl,Nat.le_refl _,fun e => (by cases e),fun _ => ⟨_,_,_,_,rfl,heap_anew _ _ _ rfl,fun i _ => by rw [Nat.zero_add]; simp⟩⟩ (Chg.alloc (Chg.refl _ _) _)
theorem u8s_nat (l : List Nat) (h : ∀ x ∈ l,x < 256) : u8s (l.map b8) = l.map u8 := by
 unfold u8s
 rw [List.map_map]
 apply List.map_congr_left
 intro x hx
 have := h x hx
 simp only [Function.comp,b8,UInt8.toNat_ofNat',u8]
 rw [Nat.mod_eq_of_lt (by omega)]
section
variable [HX]
theorem arune_p {w : World} {B r : Nat} {l : Str} {v : Value} {K : Value → World → Prop} (hO : Own w B U8 1 v l.length (u8s l)) (hB : B ≤ w.heap.size) (hl : l.length + 4 ≤ 140737488355328) (hr : r < 55296 ∨ 57343 < r ∧ r ≤ 1114111)
   (hK : ∀ v' w',Own w' B U8 1 v' (l ++ wrM r).length (u8s (l ++ wrM r)) → (∀ k,¬ OwnS w B U8 k → k < w.heap.size → w'.heap[k]? = w.heap[k]?) → Chg (fun k => v.ownBlock = some k) w w' → K v' w') :
   callF Tryz.prog 115 [v,.int .i32 (r : Int)] w K := by
 have fin : ∀ (bs : List Nat) (t : Value) (w1 : World),wrM r = bs.map b8 → (∀ x ∈ bs,x < 256) → bs.length ≤ 4 → SlAt w1 U8 t bs.length (bs.map u8) → Ext w w1 → semE Tryz.prog (Builtin.append_ #[50,50] 50 #[v,t]) w1 K := by
   intro bs t w1 he hlt hlen ht hx
   refine append_own2 elem_u8 (hO.ext hx) ht (m := bs.length) (by simp) (fun u hu => by simp only [List.mem_map] at hu; obtain ⟨x,_,rfl⟩ := hu; rfl) (by omega) (by omega) (by have := hx.size; omega) fun v' w3 hO3 hc3 _ => ?_
   have hc : Chg (fun k => v.ownBlock = some k) w w3 := (Chg.of_ext hx).trans hc3
   refine hK v' w3 ?_ (fun k hk hlt => hc.heap k hlt fun e => hk (hO.block k e)) hc
   rw [u8s_app,he,u8s_nat bs hlt,List.length_append,List.length_map]
   exact hO3
 refine W115_ok ?_
 unfold W115
 rw [cvt_int,u32_wrap (by omega),bin_leq,condW_dec]
 refine ⟨fun h => ?_,fun h => ?_⟩
 · rw [cvt_int,u8_wrap,Nat.mod_eq_of_lt (by omega)]
   refine row_u8 fun t w1 ht hx => ?_
   refine fin [r] t w1 ?_ (fun x hx => by simp only [List.mem_singleton] at hx; omega) (by simp) ht hx
   unfold wrM; rw [if_pos (by omega)]; rfl
 refine W135_ok ?_
 unfold W135
 rw [cvt_int,u32_wrap (by omega),bin_leq,condW_dec]
 refine ⟨fun h2 => ?_,fun h2 => ?_⟩
 · rw [show (6 : Int) = ((6 : Nat) : Int) from rfl,shr_n r 6 (by omega),cvt_int,u8_wrap,show r / 2 ^ 6 % 256 = r / 64 by omega,bin_or,or192 ⟨r / 64,by omega⟩,tail_n]
   refine row2 fun t w1 ht hx => ?_
   refine fin [192 + r / 64,128 + r % 64] t w1 ?_ (fun x hx => by simp only [List.mem_cons,List.not_mem_nil,or_false] at hx; omega) (by simp) ht hx
   unfold wrM; rw [if_neg (by omega),if_pos (by omega)]; rfl
 refine JoinW.cut (fun s' w' => s' = [.bool (decide (r ≤ 65535))] ∧ w' = w) ?_ ?_
 · rw [bin_lss,condW_dec]
   refine ⟨fun h3 => ?_,fun h3 => ?_⟩
   · rw [decide_eq_true h3,decide_eq_true (by omega)]; exact ⟨rfl,rfl⟩
   · rw [bin_lss,decide_eq_true (show (57343 : Int) < (r : Int) by omega)]
     refine GdW.look (decide (r ≤ 65535)) (fun _ J hJ => ?_) fun g => ?_
     · rw [bin_leq]
       rw [show decide ((r : Int) ≤ 65535) = decide (r ≤ 65535) by rw [decide_eq_decide]; omega]
       exact hJ
     · exact ⟨rfl,rfl⟩
 rintro s' g w' ⟨rfl,rfl⟩
 simp only [List.getD_cons_zero]
 rw [condW_dec]
 refine ⟨fun h3 => ?_,fun h3 => ?_⟩
 · rw [show (12 : Int) = ((12 : Nat) : Int) from rfl,shr_n r 12 (by omega),cvt_int,u8_wrap,show r / 2 ^ 12 % 256 = r / 4096 by omega,bin_or,or224 ⟨r / 4096,by omega⟩,show (6 : Int) = ((6 : Nat) : Int) from rfl,shr_n r 6 (by omega),tail_n,tail_n]
   refine row3 fun t w1 ht hx => ?_
   refine fin [224 + r / 4096,128 + r / 64 % 64,128 + r % 64] t w1 ?_ (fun x hx => by simp only [List.mem_cons,List.not_mem_nil,or_false] at hx; omega) (by simp) ht hx
   unfold wrM; rw [if_neg (by omega),if_neg (by omega),if_pos (by omega)]; rfl
 rw [bin_gtr,decide_eq_true (show (65535 : Int) < (r : Int) by omega)]
 refine GdW.look true (fun _ J hJ => ?_) fun g => ?_
 · rw [bin_leq,decide_eq_true (show (r : Int) ≤ 1114111 by omega)]; exact hJ
 show condW (.bool true) _ _
 rw [condW_true]
 rw [show (18 : Int) = ((18 : Nat) : Int) from rfl,shr_n r 18 (by omega),cvt_int,u8_wrap,show r / 2 ^ 18 % 256 = r / 262144 by omega,bin_or,or240 ⟨r / 262144,by omega⟩,show (12 : Int) = ((12 : Nat) : Int) from rfl,shr_n r 12 (by omega),tail_n,show (6 : Int) = ((6 : Nat) : Int) from rfl,shr_n r 6 (by omega),tail_n,tail_n]
 refine row4 fun t w1 ht hx => ?_
 refine fin [240 + r / 262144,128 + r / 4096 % 64,128 + r / 64 % 64,128 + r % 64] t w1 ?_ (fun x hx => by simp only [List.mem_cons,List.not_mem_nil,or_false] at hx; omega) (by simp) ht hx
 unfold wrM; rw [if_neg (by omega),if_neg (by omega),if_neg (by omega)]; rfl
theorem wrune_p {w : World} {B b r : Nat} {l : Str} {K : Value → World → Prop} (h : Bld w B b l) (hB : B ≤ w.heap.size) (hl : l.length + 4 ≤ 140737488355328) (hr : r < 55296 ∨ 57343 < r ∧ r ≤ 1114111)
   (hK : ∀ v w',Bld w' B b (l ++ wrM r) → Chg (BCh w B b) w w' → K v w') : callF Tryz.prog 90 [.pointer (some ⟨b,0,none⟩),.int .i32 (r : Int)] w K := by
 have hb := h.base
 refine W90_ok ?_
 unfold W90
 refine check_p h fun v w1 h1 hO hz hc => ?_
 have hc1 : w1.cell? (⟨b,0,none⟩ : Addr) |>.isSome := by rw [cell_eq,h1]; rfl
 rw [nil_ptr,fld_ptr,ld_one]
 refine ⟨v,by rw [add_mk,cell_eq,h1]; rfl,?_⟩
 rw [lenl_at hO.sl,nil_ptr,fld_ptr,ld_one]
 refine ⟨v,by rw [add_mk,cell_eq,h1]; rfl,?_⟩
 refine arune_p hO (by omega) hl hr fun v' w2 hO2 _ hc2 => ?_
 rw [nil_ptr,fld_ptr]
 refine bstore (n := 0) h1 hO hb hc2 hO2 fun w4 hb4 hc4 _ => ?_
 obtain ⟨p,v4,h4,_,hO4,_⟩ := id hb4
 rw [nil_ptr,fld_ptr,ld_one]
 refine ⟨v4,by rw [add_mk,cell_eq,h4]; rfl,?_⟩
 rw [lenl_at hO4.sl,bin_sub]
 exact hK _ w4 hb4 (BCh.trans hc hc4)
end
end Go.Proofs.YtofhaneggcpdaaaGreatDoor

namespace Go.Proofs.YtofhaneggcpdaaaGreatDoor
open Go Go.Eng Go.RowKit Go.Syn Go.Lex
set_option maxRecDepth 100000
theorem bld_isb {w : World} {B b : Nat} {l : Str} (h : Bld w B b l) : Lib.IsBuilderF BdT U8 B b (Lib.byteCells l) w := by
 obtain ⟨p,v,h1,h2,h3,h4⟩ := h
 have hO : w.ownsRow B U8 1 v (u8s l).length (u8s l) := by rw [u8s_length]; exact h3
 have : Lib.BuilderAt BdT U8 B b p (u8s l) w := ⟨h4,v,h1,hO,fun e => bd_ne h1 (h3.block b e)⟩
 rcases h2 with rfl | rfl
 · exact .inl (Lib.BuilderAtF.of this)
 · exact .inr (Lib.BuilderAtF.of this)
theorem callV_cap' {P : Program} [HX] {g : FuncId} {args caps : List Value} {w : World} {K : Value → World → Prop} (h : callF P g (args ++ caps) w K) : callV P (.func (.func g) #[] caps.toArray) args w K := by
 unfold callV semN
 unfold callF at h
 have : (do let d ← (Deferred.ofValue (.func (.func g) #[] caps.toArray) args.toArray); invoke d.target d.args : Sem Next) = callFunc g (args ++ caps).toArray := by
   show callFunc g (#[] ++ args.toArray ++ caps.toArray) = _
   simp
 rw [this]
 exact h
theorem drop_len {s : Str} {i : Nat} (h : i < s.length) : s.drop i = s[i] :: s.drop (i + 1) := List.drop_eq_getElem_cons h
theorem pre_eq (s : Str) : Lib.hasPrefix s [36,123] = preM [36,123] s := rfl
section
variable [HX]
theorem bstring_p {w : World} {B b : Nat} {l : Str} {K : Value → World → Prop} (h : Bld w B b l) (hB : B ≤ w.heap.size) (hK : ∀ w',Chg (fun k => B ≤ k) w w' → K (str l) w') : callF Tryz.prog 34 [.pointer (some ⟨b,0,none⟩)] w K := by
 refine of_calls (args := #[.pointer (some ⟨b,0,none⟩)]) Tryz.call34 ((Tryz.Builder_String_any_k B b l w (bld_isb h) hB).mono ?_)
 rintro e w' ⟨rfl,_,hb,_⟩
 exact ⟨_,rfl,hK w' ⟨hb.os,hb.tape,hb.output,hb.size,fun k _ hn => hb.block k (by omega)⟩⟩
theorem hasp_p {s q : Str} {w : World} {K : Value → World → Prop} (hK : K (.bool (Lib.hasPrefix s q)) w) : callF Tryz.prog 36 [str s,str q] w K := by
 refine of_calls (args := #[str s,str q]) Tryz.call36 ((Tryz.strings_HasPrefix (ofL s) (ofL q) w).mono ?_)
 rintro e w' ⟨rfl,rfl⟩
 rw [ofL_data,ofL_data]
 exact ⟨_,rfl,hK⟩
theorem ixs_i {s : Str} {i : Nat} {K : Value → Prop} (h : i < s.length) (hK : K (.int .u8 (s[i].toNat : Nat))) : ixsW (str s) (i64 (i : Nat)) K := by
 rw [ixs_str]
 exact ⟨by omega,s[i],by simpa using List.getElem?_eq_getElem h,hK⟩
theorem u8_eq (c : UInt8) (k : Nat) (hk : k < 256) : decide (((c.toNat : Nat) : Int) = (k : Int)) = decide (c = UInt8.ofNat k) := by
 rw [decide_eq_decide]
 constructor
 · intro h
   have h : c.toNat = k := by omega
   rw [← h]; simp
 · intro h
   subst h
   rw [UInt8.toNat_ofNat']
   omega
theorem says_p {s : Str} {w : World} {K : Value → World → Prop} (he : escs s = true) (hl : s.length ≤ 1000000) (hK : ∀ w',Ext w w' → K (str (saysM s)) w') : callF Tryz.prog 79 [str s] w K := by
 refine W79_ok ?_
 unfold W79
 refine bnew (B := w.heap.size) (Nat.le_refl _) fun b w1 hb hB1 hx1 => ?_
 have hz1 := hx1.size
 refine LoopW.go (fun st w' => ∃ i out,st = [i64 (i : Nat)] ∧ i ≤ s.length ∧ Bld w' w.heap.size b out ∧ Ext w w' ∧ out ++ saysM (s.drop i) = saysM s ∧ out.length ≤ i ∧ escs (s.drop i) = true) (fun st _ => match st with | [.int _ i] => s.length - i.toNat | _ => 0)
   ⟨0,[],rfl,by omega,hB1,hx1,rfl,Nat.le_refl _,he⟩ ?_
 rintro st g w2 ⟨i,out,rfl,hi,hB2,hx2,hs,ho,hes⟩
 have hz2 := hx2.size
 simp only [List.getD_cons_zero]
 rw [lens_str,bin_lss,condW_dec]
 have fin : ∀ {w3 : World} {l : Str} {j : Nat} (c : UInt8),Chg (BCh w2 w.heap.size b) w2 w3 → Bld w3 w.heap.size b (out ++ [c]) → i ≤ j → j < s.length → (out ++ [c]) ++ saysM (s.drop (j + 1)) = saysM s → escs (s.drop (j + 1)) = true →
     (∃ i' out',[i64 ((j + 1 : Nat))] = [i64 (i' : Nat)] ∧ i' ≤ s.length ∧ Bld w3 w.heap.size b out' ∧ Ext w w3 ∧ out' ++ saysM (s.drop i') = saysM s ∧ out'.length ≤ i' ∧ escs (s.drop i') = true) ∧ s.length - ((j + 1 : Nat) : Int).toNat < s.length - ((i : Nat) : Int).toNat := fun {w3 l j} c hc hB3 hij hj he1 he2 => by
   refine ⟨⟨j + 1,out ++ [c],rfl,by omega,hB3,BCh.new hx2 (Nat.le_refl _) (by omega) hc,he1,by simp; omega,he2⟩,?_⟩
   simp only [Int.toNat_natCast]; omega
 refine ⟨fun hlt => ?_,fun hge => ?_⟩
 · have hlt : i < s.length := by omega
   refine ixs_i hlt ?_
   have hd := drop_len hlt
   have he0 := hes
   rw [hd] at hes hs
   refine JoinW.cut (fun st w' => w' = w2 ∧ ∃ (j : Nat) (c : UInt8),st = [i64 (j : Nat),.int .u8 (c.toNat : Nat)] ∧ i ≤ j ∧ j < s.length ∧ (out ++ [c]) ++ saysM (s.drop (j + 1)) = saysM s ∧ escs (s.drop (j + 1)) = true) ?_ ?_
   · rw [bin_eql,condW_dec]
     refine ⟨fun e => ?_,fun e => ?_⟩
     · have ec : s[i] = 92 := UInt8.toNat_inj.1 (by have e : (s[i].toNat : Int) = 92 := e; show s[i].toNat = 92; omega)
       have hlt2 : i + 1 < s.length := by
         by_cases h2 : i + 1 < s.length
         · exact h2
         · rw [List.drop_of_length_le (by omega),ec] at hes
           simp [escs] at hes
       have hd2 := drop_len hlt2
       rw [hd2,ec] at hes hs
       simp only [escs,if_true] at hes
       simp only [saysM,if_true] at hs
       rw [bin_add,upi (by omega)]
       refine ixs_i hlt2 ?_
       rw [bin_eql,condW_dec]
       refine ⟨fun e1 => ?_,fun e1 => ?_⟩
       · have e1 : s[i + 1] = 110 := UInt8.toNat_inj.1 (by have e : (s[i + 1].toNat : Int) = 110 := e1; show s[i + 1].toNat = 110; omega)
         rw [if_pos e1] at hs
         exact ⟨rfl,i + 1,10,rfl,by omega,hlt2,by rw [← hs]; simp,hes⟩
       have e1' : s[i + 1] ≠ 110 := fun h => e1 (by rw [h]; rfl)
       rw [bin_eql,condW_dec]
       rw [if_neg e1'] at hs
       refine ⟨fun e2 => ?_,fun e2 => ?_⟩
       · have e2 : s[i + 1] = 116 := UInt8.toNat_inj.1 (by have e : (s[i + 1].toNat : Int) = 116 := e2; show s[i + 1].toNat = 116; omega)
         rw [if_pos e2] at hs
         exact ⟨rfl,i + 1,9,rfl,by omega,hlt2,by rw [← hs]; simp,hes⟩
       have e2' : s[i + 1] ≠ 116 := fun h => e2 (by rw [h]; rfl)
       rw [bin_eql,condW_dec]
       rw [if_neg e2'] at hs
       refine ⟨fun e3 => ?_,fun e3 => ?_⟩
       · have e3 : s[i + 1] = 114 := UInt8.toNat_inj.1 (by have e : (s[i + 1].toNat : Int) = 114 := e3; show s[i + 1].toNat = 114; omega)
         rw [if_pos e3] at hs
         exact ⟨rfl,i + 1,13,rfl,by omega,hlt2,by rw [← hs]; simp,hes⟩
       have e3' : s[i + 1] ≠ 114 := fun h => e3 (by rw [h]; rfl)
       rw [if_neg e3'] at hs
       exact ⟨rfl,i + 1,s[i + 1],rfl,by omega,hlt2,by rw [← hs]; simp,hes⟩
     · have ec : s[i] ≠ 92 := fun h => e (by rw [h]; rfl)
       refine ⟨rfl,i,s[i],rfl,Nat.le_refl _,hlt,?_,?_⟩
       · rw [← hs]
         cases hr : s.drop (i + 1) with
         | nil => simp only [saysM]; rw [if_neg ec]; simp
         | cons x r => simp only [saysM]; rw [if_neg ec]; simp
       · cases hr : s.drop (i + 1) with
         | nil => rfl
         | cons x r => rw [hr] at hes; simp only [escs] at hes; rw [if_neg ec] at hes; exact hes
   rintro st g2 w3 ⟨rfl,j,c,rfl,hij,hj,he1,he2⟩
   simp only [List.getD_cons_zero,List.getD_cons_succ]
   refine wbyte_p (n := c.toNat) hB2 hz2 (by omega) (UInt8.toNat_lt c) fun w4 hB4 hc4 => ?_
   rw [bin_add,upi (by omega)]
   rw [UInt8.ofNat_toNat] at hB4
   exact fin (l := []) c hc4 hB4 hij hj he1 he2
 · obtain rfl : i = s.length := by omega
   rw [List.drop_length] at hs
   simp only [saysM,List.append_nil] at hs
   subst hs
   refine bstring_p hB2 hz2 fun w3 hc3 => ?_
   exact hK w3 (hx2.then hc3 fun k hk e => by omega)
end
end Go.Proofs.YtofhaneggcpdaaaGreatDoor
namespace Go.Proofs.YtofhaneggcpdaaaGreatDoor
open Go Go.Eng Go.RowKit Go.Syn Go.Lex
set_option maxRecDepth 100000
theorem drop_drop' (s : Str) (i j : Nat) : (s.drop i).drop j = s.drop (i + j) := List.drop_drop
section
variable [HX]
def BraC (n : Nat) : Prop := ∀ (s : Str) (w : World) (K : Value → World → Prop),s.length ≤ n → s.length ≤ 1000000 → K (i64 (braX s 0 : Nat)) w → callF Tryz.prog 102 [str s] w K
def QuoC (n : Nat) : Prop := ∀ (c : UInt8) (r : Str) (w : World) (K : Value → World → Prop),r.length < n → r.length ≤ 1000000 → K (i64 ((1 + quoX r : Nat) : Int)) w → callF Tryz.prog 130 [str (c :: r)] w K
theorem bra_step {n : Nat} (hq : QuoC n) : BraC n := by
 intro s w K hn hl hK
 refine W102_ok ?_
 unfold W102
 refine LoopW.go (fun st w' => ∃ (d : Int) (i : Nat),st = [i64 d,i64 (i : Nat)] ∧ i ≤ s.length ∧ w' = w ∧ i + braX (s.drop i) d = braX s 0 ∧ -(i : Int) ≤ d ∧ d ≤ i) (fun st _ => match st with | [_,.int _ i] => s.length - i.toNat | _ => 0) ⟨0,0,rfl,by omega,rfl,by simp,by omega,by omega⟩ ?_
 rintro st g w2 ⟨d,i,rfl,hi,rfl,hb,hd1,hd2⟩
 simp only [List.getD_cons_zero,List.getD_cons_succ]
 rw [lens_str,bin_lss,condW_dec]
 refine ⟨fun hlt => ?_,fun hge => ?_⟩
 · have hlt : i < s.length := by omega
   have hd := drop_len hlt
   rw [hd,braX_cons] at hb
   have cond : ∀ (k : Nat),k < 256 → (((s[i].toNat : Nat) : Int) = (k : Int) ↔ s[i] = UInt8.ofNat k) := fun k hk => by
     have := u8_eq s[i] k hk
     rwa [decide_eq_decide] at this
   refine JoinW.cut (fun st w' => w' = w2 ∧ ∃ (d' : Int) (j : Nat),st = [i64 d',i64 (j : Nat)] ∧ i ≤ j ∧ j < s.length ∧ j + 1 + braX (s.drop (j + 1)) d' = braX s 0 ∧ -((j + 1 : Nat) : Int) ≤ d' ∧ d' ≤ ((j + 1 : Nat) : Int)) ?_ ?_
   · refine ixs_i hlt ?_
     rw [bin_eql,condW_dec]
     refine ⟨fun e => ?_,fun e => ?_⟩
     · have e : s[i] = 123 := (cond 123 (by omega)).1 e
       rw [if_pos e] at hb
       rw [bin_add,wrap_id (by omega) (by omega)]
       exact ⟨rfl,d + 1,i,rfl,Nat.le_refl _,hlt,by omega,by omega,by omega⟩
     have e : ¬ s[i] = 123 := fun h => e ((cond 123 (by omega)).2 h)
     rw [if_neg e] at hb
     rw [bin_eql,condW_dec]
     refine ⟨fun e => ?_,fun e => ?_⟩
     · have e : s[i] = 125 := (cond 125 (by omega)).1 e
       rw [if_pos e] at hb
       rw [bin_sub,wrap_id (by omega) (by omega),bin_eql,condW_dec]
       refine ⟨fun h0 => ?_,fun h0 => ?_⟩
       · rw [if_pos h0] at hb
         rw [bin_add,upi (by omega),hb]
         exact hK
       · rw [if_neg h0] at hb
         exact ⟨rfl,d - 1,i,rfl,Nat.le_refl _,hlt,by omega,by omega,by omega⟩
     have e : ¬ s[i] = 125 := fun h => e ((cond 125 (by omega)).2 h)
     rw [if_neg e] at hb
     rw [bin_eql,condW_dec]
     refine ⟨fun e => ?_,fun e => ?_⟩
     · have e : s[i] = 34 := (cond 34 (by omega)).1 e
       rw [if_pos e] at hb
       rw [sls_str,bd_none,bd_some]
       refine ⟨by omega,by omega,?_⟩
       rw [List.take_length,Int.toNat_natCast,hd]
       refine hq _ _ _ _ (by rw [List.length_drop]; omega) (by rw [List.length_drop]; omega) ?_
       have hle := (bq_le _ (s.drop (i + 1)) (Nat.le_refl _)).2
       rw [List.length_drop] at hle
       rw [bin_sub,wrap_id (by omega) (by omega),bin_add,wrap_id (by omega) (by omega)]
       rw [drop_drop'] at hb
       refine ⟨rfl,d,i + quoX (s.drop (i + 1)),?_,by omega,?_,?_,by omega,by omega⟩
       · simp only [List.cons.injEq,Value.int.injEq,true_and,and_true]; omega
       · omega
       · rw [show i + quoX (s.drop (i + 1)) + 1 = i + 1 + quoX (s.drop (i + 1)) by omega]; omega
     have e : ¬ s[i] = 34 := fun h => e ((cond 34 (by omega)).2 h)
     rw [if_neg e] at hb
     exact ⟨rfl,d,i,rfl,Nat.le_refl _,hlt,by omega,by omega,by omega⟩
   rintro st g2 w3 ⟨rfl,d',j,rfl,hij,hj,hb',h1,h2⟩
   simp only [List.getD_cons_zero,List.getD_cons_succ]
   rw [bin_add,upi (by omega)]
   refine ⟨⟨d',j + 1,rfl,by omega,trivial,by omega,by omega,by omega⟩,?_⟩
   simp only [Int.toNat_natCast]; omega
 · obtain rfl : i = s.length := by omega
   rw [List.drop_length,braX_nil] at hb
   rw [← hb] at hK
   exact hK
theorem quo_step {n : Nat} (hbr : BraC n) : QuoC (n + 1) := by
 intro c r w K hn hl hK
 refine W130_ok ?_
 unfold W130
 have hlen : (c :: r).length = r.length + 1 := rfl
 refine LoopW.go (fun st w' => ∃ (i : Nat),st = [i64 ((i + 1 : Nat) : Int)] ∧ w' = w ∧ ((i ≤ r.length ∧ i + quoX (r.drop i) = quoX r) ∨ (i = r.length + 1 ∧ quoX r = r.length))) (fun st _ => match st with | [.int _ i] => r.length + 2 - i.toNat | _ => 0) ⟨0,rfl,rfl,.inl ⟨by omega,by simp⟩⟩ ?_
 rintro st g w2 ⟨i,rfl,rfl,hbi⟩
 simp only [List.getD_cons_zero,List.getD_cons_succ]
 rw [lens_str,bin_lss,condW_dec,hlen]
 refine ⟨fun hlt => ?_,fun hge => ?_⟩
 · have hlt : i < r.length := by omega
   obtain ⟨hi,hb⟩ := hbi.resolve_right (by omega)
   have hd := drop_len hlt
   rw [hd,quoX_cons] at hb
   have cond : ∀ (k : Nat),k < 256 → (((r[i].toNat : Nat) : Int) = (k : Int) ↔ r[i] = UInt8.ofNat k) := fun k hk => by
     have := u8_eq r[i] k hk
     rwa [decide_eq_decide] at this
   have ix : ∀ {KK : Value → Prop},KK (.int .u8 (r[i].toNat : Nat)) → ixsW (str (c :: r)) (i64 ((i + 1 : Nat) : Int)) KK := fun h => ixs_i (s := c :: r) (i := i + 1) (by rw [hlen]; omega) h
   refine JoinW.cut (fun st w' => w' = w2 ∧ ∃ (j : Nat),st = [i64 ((j + 1 : Nat) : Int)] ∧ i ≤ j ∧ ((j + 1 ≤ r.length ∧ j + 1 + quoX (r.drop (j + 1)) = quoX r) ∨ (j + 1 = r.length + 1 ∧ quoX r = r.length))) ?_ ?_
   · refine ix ?_
     rw [bin_eql,condW_dec]
     refine ⟨fun e => ?_,fun e => ?_⟩
     · have e : r[i] = 34 := (cond 34 (by omega)).1 e
       rw [if_pos e] at hb
       rw [bin_add,upi (by omega)]
       rw [← hb,show 1 + (i + 1) = i + 1 + 1 by omega] at hK
       exact hK
     have e : ¬ r[i] = 34 := fun h => e ((cond 34 (by omega)).2 h)
     rw [if_neg e] at hb
     refine ix ?_
     rw [bin_eql,condW_dec]
     refine ⟨fun e => ?_,fun e => ?_⟩
     · have e : r[i] = 92 := (cond 92 (by omega)).1 e
       rw [if_pos e] at hb
       rw [bin_add,upi (by omega)]
       refine ⟨rfl,i + 1,rfl,by omega,?_⟩
       cases hr : r.drop (i + 1) with
       | nil =>
         rw [hr] at hb
         have hle : r.length ≤ i + 1 := by
           have := congrArg List.length hr
           rw [List.length_drop,List.length_nil] at this; omega
         simp only at hb
         exact .inr ⟨by omega,by omega⟩
       | cons x rr =>
         rw [hr] at hb
         simp only at hb
         have e2 : r.drop (i + 1 + 1) = rr := by rw [← drop_drop',hr]; rfl
         have e3 := congrArg List.length hr
         rw [List.length_drop,List.length_cons] at e3
         exact .inl ⟨by omega,by rw [e2]; omega⟩
     have e : ¬ r[i] = 92 := fun h => e ((cond 92 (by omega)).2 h)
     rw [if_neg e] at hb
     rw [sls_str,bd_none,bd_some]
     refine ⟨by omega,by rw [hlen]; omega,?_⟩
     rw [List.take_length,Int.toNat_natCast,List.drop_succ_cons,hd]
     refine hasp_p ?_
     rw [pre_eq,condW_b]
     refine ⟨fun e => ?_,fun e => ?_⟩
     · rw [if_pos e] at hb
       rw [bin_add,upi (by omega),sls_str,bd_none,bd_some]
       refine ⟨by omega,by rw [hlen]; omega,?_⟩
       rw [List.take_length,Int.toNat_natCast,List.drop_succ_cons]
       refine hbr _ _ _ (by rw [List.length_drop]; omega) (by rw [List.length_drop]; omega) ?_
       have hle := braX_le (r.drop (i + 1)) 0
       rw [List.length_drop] at hle
       rw [bin_add,wrap_id (by omega) (by omega)]
       rw [drop_drop'] at hb
       refine ⟨rfl,i + braX (r.drop (i + 1)) 0,?_,by omega,.inl ⟨by omega,?_⟩⟩
       · simp only [List.cons.injEq,Value.int.injEq,true_and,and_true]; omega
       · rw [show i + braX (r.drop (i + 1)) 0 + 1 = i + 1 + braX (r.drop (i + 1)) 0 by omega]; omega
     · rw [if_neg (by rw [e]; decide)] at hb
       exact ⟨rfl,i,rfl,Nat.le_refl _,.inl ⟨by omega,by omega⟩⟩
   rintro st g2 w3 ⟨rfl,j,rfl,hij,hb'⟩
   simp only [List.getD_cons_zero,List.getD_cons_succ]
   rw [bin_add,upi (by omega)]
   refine ⟨⟨j + 1,rfl,trivial,hb'⟩,?_⟩
   simp only [Int.toNat_natCast]; omega
 · have hq : quoX r = r.length := by
     rcases hbi with ⟨hi,hb⟩ | h
     · rw [List.drop_of_length_le (by omega),quoX_nil] at hb
       omega
     · exact h.2
   rw [hq,show 1 + r.length = r.length + 1 by omega] at hK
   exact hK
theorem bra_quo : ∀ n,BraC n ∧ QuoC n
 | 0 => have hq : QuoC 0 := fun _ _ _ _ h => by omega
   ⟨bra_step hq,hq⟩
 | n + 1 => have hq := quo_step (bra_quo n).1
   ⟨bra_step hq,hq⟩
theorem braces_p {s : Str} {w : World} {K : Value → World → Prop} (hl : s.length ≤ 1000000) (hK : K (i64 (braM s : Nat)) w) : callF Tryz.prog 102 [str s] w K := (bra_quo s.length).1 s w K (Nat.le_refl _) hl hK
def insV (s : Str) : List Value := match Syn.insP s with | some (i,e) => [i64 (i : Nat),i64 (e : Nat)] | none => [i64 (-1),i64 0]
theorem insP_cons (c : UInt8) (r : Str) : Syn.insP (c :: r) = if c = 92 then (Syn.insP (r.drop 1)).map (fun x => (x.1 + 2,x.2 + 2)) else if preM [36,123] (c :: r) = true then some (0,1 + braM r) else (Syn.insP r).map fun x => (x.1 + 1,x.2 + 1) := by
 cases r with
 | nil =>
   simp only [Syn.insP,List.drop_nil,Option.map_none]
   split
   · rfl
   · simp [preM,List.isPrefixOf]
 | cons e r =>
   simp only [Syn.insP,List.drop_succ_cons,List.drop_zero]
   split
   · rfl
   · have : (c = 36 ∧ e = 123) ↔ preM [36,123] (c :: e :: r) = true := by
       simp [preM,List.isPrefixOf]
       exact ⟨fun h => ⟨h.1.symm,h.2.symm⟩,fun h => ⟨h.1.symm,h.2.symm⟩⟩
     by_cases h : c = 36 ∧ e = 123
     · rw [if_pos h,if_pos (this.1 h)]
     · rw [if_neg h,if_neg (fun x => h (this.2 x))]
theorem insertion_p {s : Str} {w : World} {K : Value → World → Prop} (hl : s.length ≤ 1000000) (hK : K (.tuple (insV s).toArray) w) : callF Tryz.prog 78 [str s] w K := by
 refine W78_ok ?_
 unfold W78
 refine LoopW.go (fun st w' => ∃ (i : Nat),st = [i64 (i : Nat)] ∧ w' = w ∧ Syn.insP s = (Syn.insP (s.drop i)).map fun x => (x.1 + i,x.2 + i)) (fun st _ => match st with | [.int _ i] => s.length + 1 - i.toNat | _ => 0) ⟨0,rfl,rfl,by rw [List.drop_zero]; cases Syn.insP s <;> rfl⟩ ?_
 rintro st g w2 ⟨i,rfl,rfl,hb⟩
 simp only [List.getD_cons_zero]
 rw [lens_str,bin_lss,condW_dec]
 unfold insV at hK
 refine ⟨fun hlt => ?_,fun hge => ?_⟩
 · have hlt : i < s.length := by omega
   have hd := drop_len hlt
   rw [hd,insP_cons] at hb
   have cond : ∀ (k : Nat),k < 256 → (((s[i].toNat : Nat) : Int) = (k : Int) ↔ s[i] = UInt8.ofNat k) := fun k hk => by
     have := u8_eq s[i] k hk
     rwa [decide_eq_decide] at this
   refine JoinW.cut (fun st w' => w' = w2 ∧ ∃ (j : Nat),st = [i64 (j : Nat)] ∧ i ≤ j ∧ j ≤ i + 1 ∧ Syn.insP s = (Syn.insP (s.drop (j + 1))).map fun x => (x.1 + (j + 1),x.2 + (j + 1))) ?_ ?_
   · refine ixs_i hlt ?_
     rw [bin_eql,condW_dec]
     refine ⟨fun e => ?_,fun e => ?_⟩
     · have e : s[i] = 92 := (cond 92 (by omega)).1 e
       rw [if_pos e,drop_drop'] at hb
       rw [bin_add,upi (by omega)]
       refine ⟨rfl,i + 1,rfl,by omega,by omega,?_⟩
       rw [hb,Option.map_map]
       congr 1
       funext x
       simp only [Function.comp,Prod.mk.injEq]
       omega
     have e : ¬ s[i] = 92 := fun h => e ((cond 92 (by omega)).2 h)
     rw [if_neg e] at hb
     rw [sls_str,bd_none,bd_some]
     refine ⟨by omega,by omega,?_⟩
     rw [List.take_length,Int.toNat_natCast,hd]
     refine hasp_p ?_
     rw [pre_eq,condW_b]
     refine ⟨fun e => ?_,fun e => ?_⟩
     · rw [if_pos e] at hb
       rw [bin_add,upi (by omega),bin_add,upi (by omega),sls_str,bd_none,bd_some]
       refine ⟨by omega,by omega,?_⟩
       rw [List.take_length,Int.toNat_natCast]
       refine braces_p (by rw [List.length_drop]; omega) ?_
       have hle := braX_le (s.drop (i + 1)) 0
       have eb : braM (s.drop (i + 1)) = braX (s.drop (i + 1)) 0 := rfl
       rw [List.length_drop] at hle
       rw [bin_add,wrap_id (by omega) (by omega)]
       rw [hb] at hK
       simp only [Option.map_some] at hK
       have e1 : ((0 + i : Nat) : Int) = (i : Int) := by omega
       have e2 : ((1 + braM (s.drop (i + 1)) + i : Nat) : Int) = ((i + 1 : Nat) : Int) + (braM (s.drop (i + 1)) : Nat) := by omega
       rw [e1,e2] at hK
       exact hK
     · rw [if_neg (by rw [e]; decide)] at hb
       refine ⟨rfl,i,rfl,by omega,by omega,?_⟩
       rw [hb,Option.map_map]
       congr 1
       funext x
       simp only [Function.comp,Prod.mk.injEq]
       omega
   rintro st g2 w3 ⟨rfl,j,rfl,hij,hj,hb'⟩
   simp only [List.getD_cons_zero]
   rw [bin_add,upi (by omega)]
   refine ⟨⟨j + 1,rfl,trivial,hb'⟩,?_⟩
   simp only [Int.toNat_natCast]; omega
 · rw [List.drop_of_length_le (by omega)] at hb
   rw [hb] at hK
   exact hK
end
end Go.Proofs.YtofhaneggcpdaaaGreatDoor
namespace Go.Proofs.YtofhaneggcpdaaaGreatDoor
open Go Go.Eng Go.RowKit Go.Syn Go.Lex
set_option maxRecDepth 100000
def signL : List Str := [[124,124],[38,38],[61,61],[33,61],[60],[62],[60,61],[62,61],[43],[45],[42],[47],[37]]
def levelGo (x : Int) : Int := if x = 0 then 27 else if x = 101 then 26 else if x = 202 then 20 else if x = 203 then 21 else if x = 304 then 22 else if x = 305 then 23 else if x = 306 then 24 else if x = 307 then 25 else if x = 408 then 15 else if x = 409 then 16 else if x = 510 then 17 else if x = 511 then 18 else if x = 512 then 19 else 0
theorem level_in : ∀ k : Fin 13,∀ n : Fin 6,levelGo ((n.val : Int) * 100 + (k.val : Int)) = joinK n.val (signL[k.val]'k.isLt) := by decide +kernel
theorem sidxF_get (x : Str) : ∀ (l : List Str) (i : Nat),(∃ k,l[k]? = some x ∧ sidxF l x i = ((i + k : Nat) : Int)) ∨ (x ∉ l ∧ sidxF l x i = -1)
 | [],i => .inr ⟨by simp,rfl⟩
 | a :: r,i => by
   simp only [sidxF]
   split
   · rename_i h
     exact .inl ⟨0,by simp [h],rfl⟩
   · rename_i h
     rcases sidxF_get x r (i + 1) with ⟨k,h1,h2⟩ | ⟨h1,h2⟩
     · exact .inl ⟨k + 1,by simpa using h1,by rw [h2]; omega⟩
     · exact .inr ⟨by simp [h,h1],h2⟩
theorem join_out {n : Nat} {x : Str} (h : x ∉ signL) : joinK n x = 0 := by
 simp only [signL,List.mem_cons,List.not_mem_nil,or_false,not_or] at h
 obtain ⟨h1,h2,h3,h4,h5,h6,h7,h8,h9,h10,h11,h12,h13⟩ := h
 unfold joinK
 simp only [if_neg h1,if_neg h2,if_neg h3,if_neg h4,if_neg h5,if_neg h6,if_neg h7,if_neg h8,if_neg h9,if_neg h10,if_neg h11,if_neg h12,if_neg h13,ite_self]
theorem level_pure {n : Nat} (hn : n ≤ 5) (x : Str) : levelGo ((n : Int) * 100 + sidxF signL x 0) = joinK n x := by
 rcases sidxF_get x signL 0 with ⟨k,h1,h2⟩ | ⟨h1,h2⟩
 · have hk : k < 13 := (List.getElem?_eq_some_iff.1 h1).1
   have := level_in ⟨k,hk⟩ ⟨n,by omega⟩
   rw [h2,Nat.zero_add,this]
   congr 1
   exact (List.getElem?_eq_some_iff.1 h1).2
 · rw [h2,join_out h1]
   have : ∀ m : Fin 6,levelGo ((m.val : Int) * 100 + -1) = 0 := by decide +kernel
   exact this ⟨n,by omega⟩
section
variable [HX]
theorem named_p {x : Str} {w : World} {K : Value → World → Prop} (hK : K (i64 (namedK x)) w) : callF Tryz.prog 151 [str x] w K := by
 refine W151_ok ?_
 unfold W151
 unfold namedK at hK
 rw [bin_seq,condW_dec]
 refine ⟨fun h => by rw [if_pos h] at hK; exact hK,fun h => ?_⟩
 rw [if_neg h] at hK
 rw [bin_seq,condW_dec]
 refine ⟨fun h => by rw [if_pos h] at hK; exact hK,fun h => ?_⟩
 rw [if_neg h] at hK
 rw [bin_seq,condW_dec]
 refine ⟨fun h => by rw [if_pos h] at hK; exact hK,fun h => ?_⟩
 rw [if_neg h] at hK
 exact hK
theorem row_any {T : TypeId} {n : Nat} {cs : List Value} {w : World} {K : Value → World → Prop} (h : ∀ v w',SlAt w' T v n cs → Ext w w' → K v w') (hn : cs.length = n) : K (.slice (some ⟨w.heap.size,0,none⟩) n n) (w.alloc (.cells cs.toArray T)) :=
 row_new fun a w' ha hz hb hx _ => h _ w' (slat_new hb hn) hx
theorem signs_row {w : World} {K : Value → World → Prop} (hK : ∀ v w',SlAt w' StT v 13 (strs signL) → Ext w w' → K v w') :
   bslW StT 13 (List.replicate 13 (.string (ofL []))) [(0,1,(.string (ofL [124,124]))),(1,1,(.string (ofL [38,38]))),(2,1,(.string (ofL [61,61]))),(3,1,(.string (ofL [33,61]))),(4,1,(.string (ofL [60]))),(5,1,(.string (ofL [62]))),(6,1,(.string (ofL [60,61]))),(7,1,(.string (ofL [62,61]))),(8,1,(.string (ofL [43]))),(9,1,(.string (ofL [45]))),(10,1,(.string (ofL [42]))),(11,1,(.string (ofL [47]))),(12,1,(.string (ofL [37])))] w K := by
 rw [bslW]
 simp only [List.replicate,put_str,put_nil,List.length_cons,List.length_nil,List.set_cons_zero,List.set_cons_succ,Nat.reduceAdd,Nat.reduceLT,true_and,Nat.zero_lt_succ]
 exact row_any hK rfl
theorem level_p {t : Tok} {n : Nat} {w : World} {K : Value → World → Prop} (hn : n ≤ 5) (hK : ∀ w',Ext w w' → K (i64 (levelK t n)) w') : callF Tryz.prog 132 [.agg (tokc t).toArray,i64 (n : Nat)] w K := by
 refine W132_ok ?_
 unfold W132
 refine box_new (z := tokc t) fun b w1 hb hz1 hbb hx1 => ?_
 unfold levelK at hK
 have ldc : ∀ {w' : World} {off : Nat} {v : Value} {KK : Value → Prop},w'.heap[b]? = some (.cells (tokc t).toArray TkT (0,0)) → (tokc t)[off]? = some v → KK v → fldW off (.pointer (some ⟨b,0,none⟩)) fun x => ldW false 1 x w' KK := fun h hv hk => by
   rw [fld_ptr,add_mk,Nat.zero_add,ld_one]
   exact ⟨_,by rw [cell_eq,h,cellO_some]; simpa using hv,hk⟩
 refine ldc hbb rfl ?_
 rw [bin_neq,condW_dec]
 refine ⟨fun h => ?_,fun h => ?_⟩
 · rw [if_neg h] at hK
   exact hK w1 hx1
 have h : t.k = 4 := by omega
 rw [if_pos h,← level_pure hn] at hK
 rw [bin_mul,wrap_id (by omega) (by omega)]
 refine signs_row fun v w2 hv hx2 => ?_
 refine ldc (hx2.at hbb id) rfl ?_
 refine index_p (l := signL) hv (by decide) ?_
 have hr : -1 ≤ sidxF signL t.t 0 ∧ sidxF signL t.t 0 ≤ 12 := by
   rcases sidxF_get t.t signL 0 with ⟨k,h1,h2⟩ | ⟨h1,h2⟩
   · have hk : k < 13 := (List.getElem?_eq_some_iff.1 h1).1
     rw [h2]; omega
   · rw [h2]; omega
 rw [bin_add,wrap_id (by omega) (by omega)]
 generalize (n : Int) * 100 + sidxF signL t.t 0 = x at *
 have hx := hK w2 (hx1.trans hx2)
 unfold levelGo at hx
 have step : ∀ {k r e : Int} {A B : Prop},((if x = k then r else e) = r → A) → (¬ x = k → B) → condW (.bool (decide (x = k))) A B := fun h1 h2 => by
   rw [condW_dec]
   exact ⟨fun e => h1 (if_pos e),h2⟩
 iterate 13
   rw [bin_eql,condW_dec]
   refine ⟨fun e => by rw [if_pos e] at hx; exact hx,fun e => ?_⟩
   rw [if_neg e] at hx
 exact hx
theorem slat_new' {w : World} {b n : Nat} {T : TypeId} {cs : List Value} (h : w.heap[b]? = some (.cells cs.toArray T (0,0))) (hn : 0 < n := by omega) : SlAt w T (.slice (some ⟨b,0,none⟩) n n) n cs :=
 ⟨_,_,rfl,Nat.le_refl _,fun e => (by cases e),fun _ => ⟨b,0,cs.toArray,_,rfl,h,fun i _ => by simp⟩⟩
section
variable {w0 w : World} {p f : Nat} {M : Lay} {vt : Value} {s : PS} {top : List Nat} {N : Int} {K : Value → World → Prop}
theorem plain_p {t : Tok} (h : PR w0 w p f M vt s top) (hx : TxOk t.t) (hl : t.t.length ≤ 1000000) (hK : ∀ l s',plainR s t = .ok l s' → ∀ w',Ext w w' → K (str l) w') (ht : ∀ c a,plainR s t = .err c a → Thr w0 f c a) :
   callF Tryz.prog 40 [.pointer (some ⟨p,0,none⟩),.agg (tokc t).toArray] w K := by
 refine W40_ok ?_
 unfold W40
 refine box_new (z := tokc t) fun b w1 hb hz1 hbb hx1 => ?_
 have h1 := h.ext hx1
 have L1 := h.loc hz1 hb hbb
 unfold plainR at hK ht
 refine JoinW.cut (fun _ w' => w' = w1 ∧ (Syn.insP t.t).isSome = false) ?_ ?_
 · refine L1.ldf rfl ?_
   refine insertion_p hl ?_
   rw [ext_tuple]
   unfold insV
   cases hi : Syn.insP t.t with
   | none =>
     refine ⟨i64 (-1),rfl,?_⟩
     rw [ext_tuple]
     refine ⟨i64 0,rfl,?_⟩
     rw [bin_geq,condW_dec]
     exact ⟨fun e => by omega,fun _ => ⟨rfl,rfl⟩⟩
   | some x =>
     refine ⟨i64 (x.1 : Nat),rfl,?_⟩
     rw [ext_tuple]
     refine ⟨i64 (x.2 : Nat),rfl,?_⟩
     rw [bin_geq,condW_dec]
     refine ⟨fun _ => ?_,fun e => by omega⟩
     refine L1.ldf rfl ?_
     exact fail_p h1 (ht _ _ (by rw [hi]; rfl))
 rintro st g w2 ⟨rfl,hi⟩
 rw [if_neg (by rw [hi]; decide)] at hK
 refine L1.ldf rfl ?_
 refine says_p ((tx_ins hx).1 (by cases hr : Syn.insP t.t with | none => rfl | some x => rw [hr] at hi; cases hi)) hl fun w3 hx3 => ?_
 exact hK _ _ rfl w3 (hx1.trans hx3)
theorem lines_step {s : PS} (h : (cur s).k = 5) : linesS (step1 (nowS s)) = linesS s := by
 have ht : (nowS s).toks = s.toks := by unfold nowS; split <;> rfl
 have hk : (tokI (nowS s)).k = 5 := h
 have hlt : (nowS s).i < (nowS s).toks.length := by
   by_cases hl : (nowS s).i < (nowS s).toks.length
   · exact hl
   · unfold tokI at hk
     rw [List.getD_eq_getElem?_getD,List.getElem?_eq_none (by omega)] at hk
     cases hk
 have hg : (nowS s).toks[(nowS s).i]? = some (tokI (nowS s)) := by unfold tokI; rw [List.getD_eq_getElem?_getD,List.getElem?_eq_getElem hlt]; rfl
 have e := lineRun_get hg
 rw [if_pos hk] at e
 have hq : s.quiet = false := by
   by_cases hq : s.quiet = true
   · exfalso
     have e2 : nowS (nowS s) = nowS s := nowS_idem s
     have hq2 : (nowS s).quiet = true := by unfold nowS; split <;> exact hq
     have e3 : (nowS (nowS s)).i = (nowS s).i + lineRun ((nowS s).toks.drop (nowS s).i) := by
       rw [nowS,if_pos hq2]
     rw [e2] at e3
     omega
   · simpa using hq
 have n1 : ∀ s : PS,s.quiet = false → nowS s = s := fun s h => by unfold nowS; rw [h]; rfl
 have h1 := n1 s hq
 rw [h1] at e ⊢
 have h2 := n1 (step1 s) hq
 unfold linesS
 rw [h1,h2]
 show ({ s with i := s.i + 1 + lineRun (s.toks.drop (s.i + 1)) } : PS) = { s with i := s.i + lineRun (s.toks.drop s.i) }
 rw [e]
 congr 1
 omega
theorem lines_stop {N : Int} {s : PS} (hs : WS N s) (h : (cur s).k ≠ 5) : linesS s = nowS s := by
 have hn := (now_go hs).ws hs
 have e := lineRun_get (tok_some hn)
 have hk : (tokI (nowS s)).k ≠ 5 := h
 rw [if_neg hk,(now_go hs).toks] at e
 unfold linesS
 rw [e]
 rfl
theorem lines_p (h : PR w0 w p f M vt s top) (hs : WS N s) (hN : N ≤ 1000000) (hl : s.toks.length ≤ 100000) (hK : ∀ w',PR w0 w' p f M vt (linesS s) top → Eff p f M M w w' → K (.tuple #[]) w') :
   callF Tryz.prog 19 [.pointer (some ⟨p,0,none⟩)] w K := by
 refine W19_ok ?_
 unfold W19
 refine LoopW.go (fun st w' => st = [] ∧ ∃ s1,PR w0 w' p f M vt s1 top ∧ WS N s1 ∧ s1.toks = s.toks ∧ linesS s1 = linesS s ∧ Eff p f M M w w') (fun _ w' => s.toks.length - psAt w' p) ⟨rfl,s,h,hs,rfl,rfl,Eff.refl _ _ _ _⟩ ?_
 rintro st g w2 ⟨rfl,s1,h2,hs1,et,el,he2⟩
 refine now_p h2 hs1 hN (by rw [et]; exact hl) fun w3 h3 he3 => ?_
 refine ⟨i64 (cur s1).k,rfl,?_⟩
 dsimp only
 rw [bin_eql,condW_dec]
 have hg := now_go hs1
 have hsn := hg.ws hs1
 refine ⟨fun hk => ?_,fun hk => ?_⟩
 · have hk0 : (cur s1).k ≠ 0 := by rw [hk]; decide
   have hst := step_go hs1 hk0
   refine h3.go (wsi hsn (by rw [hg.toks,et]; exact hl)) fun w4 h4 he4 hz4 => ?_
   refine ⟨⟨rfl,_,h4,hst.1.ws hs1,hst.1.toks.trans et,(lines_step hk).trans el,(he2.trans he3).trans he4⟩,?_⟩
   rw [h4.at_,h2.at_]
   have := hst.2
   have h5 := hst.1.lt
   rw [hst.1.toks,et] at h5
   omega
 · rw [lines_stop hs1 hk] at el
   rw [el] at h3
   exact hK w3 h3 (he2.trans he3)
theorem within_p {a : Int} {q : Bool} {fv : Value} (h : PR w0 w p f M vt s top) (hd : s.deep ≤ 24) (hbad : s.deep = 24 → Thr w0 f 7 a)
   (hf : s.deep ≠ 24 → ∀ w1,PR w0 w1 p f M vt { s with deep := s.deep + 1,quiet := q } top → Eff p f M M w w1 → callV Tryz.prog fv [] w1 fun _ w2 => ∃ M2 s2,PR w0 w2 p f M2 vt s2 top ∧ s2.deep = s.deep + 1 ∧
     ∀ w3,PR w0 w3 p f M2 vt { s2 with deep := s.deep,quiet := s.quiet } top → Eff p f M2 M2 w2 w3 → K (.tuple #[]) w3) :
   callF Tryz.prog 43 [.pointer (some ⟨p,0,none⟩),i64 a,.bool q,fv] w K := by
 refine W43_ok ?_
 unfold W43
 refine JoinW.cut (fun _ w' => w' = w ∧ s.deep ≠ 24) ?_ ?_
 · refine h.ld rfl ?_
   rw [bin_eql,condW_dec]
   refine ⟨fun e => ?_,fun e => ⟨rfl,fun h => e (by rw [h]; rfl)⟩⟩
   exact fail_p h (hbad (by omega))
 rintro st g w1 ⟨rfl,hne⟩
 refine h.ld rfl ?_
 refine h.ld rfl ?_
 rw [bin_add,upi (by omega)]
 refine h.st_deep fun w2 h2 he2 hz2 => ?_
 refine h2.st_quiet (q := q) fun w3 h3 he3 hz3 => ?_
 have hc := hf hne w3 h3 (he2.trans he3)
 refine Res.mono ?_ hc
 rintro v w4 ⟨M2,s2,h4,e4,hk⟩
 refine h4.ld rfl ?_
 rw [bin_sub,wrap_id (by omega) (by omega)]
 have e : ((s2.deep : Nat) : Int) - 1 = ((s.deep : Nat) : Int) := by omega
 rw [e]
 refine h4.st_deep fun w5 h5 he5 hz5 => ?_
 refine h5.st_quiet (q := s.quiet) fun w6 h6 he6 hz6 => ?_
 exact hk w6 h6 (he5.trans he6)
theorem put_p {M0 : Lay} {wb : World} {e : Ex} {d : List Value} (h : PR w0 w p f M vt s top) (he : Eff p f M0 M wb w) (hd : ExR w w0.heap.size e d) (hu : ∀ k ∈ ub d,Off w0 w p f M vt k) (hn : (ub d).Nodup) (hnew : ∀ k ∈ ub d,wb.heap.size ≤ k) (hlen : s.ex.length ≤ 1000000)
   (hK : ∀ M' w',PR w0 w' p f M' vt { s with ex := s.ex ++ [e] } top → Eff p f M0 M' wb w' → (∀ b T cs,Loc w0 w p f M vt b T cs → b ∉ ub d → Loc w0 w' p f M' vt b T cs) → K (i64 (s.ex.length : Nat)) w') :
   callF Tryz.prog 107 [.pointer (some ⟨p,0,none⟩),.agg d.toArray] w K := by
 refine W107_ok ?_
 unfold W107
 have hdl : d.length = 5 := by obtain ⟨va,vk,rfl,_⟩ := hd; rfl
 have hd1 : ∀ u ∈ d,one1 u = true := by
   obtain ⟨va,vk,rfl,h1,h2⟩ := hd
   obtain ⟨_,_,rfl,_⟩ := h1.sl.shape
   obtain ⟨_,_,rfl,_⟩ := h2.sl.shape
   intro u hu
   simp only [List.mem_cons,List.not_mem_nil,or_false] at hu
   rcases hu with rfl | rfl | rfl | rfl | rfl <;> rfl
 refine box_new (z := d) fun b w1 hb hz1 hbb hx1 => ?_
 have h1 := (h.ext hx1).drew
 have hx1' : Ext w w1.drew := hx1.trans (ext_drew _)
 have L1 := (h.loc hz1 hb hbb).drew
 have ldF : ∀ {w' : World},w'.heap[p]? = some (.cells [vt,i64 (s.i : Nat),i64 s.off,.pointer (some ⟨f,0,none⟩),i64 (s.deep : Nat),.bool s.quiet].toArray PsT (0,0)) → ldW false 1 (.pointer (some ((⟨p,0,none⟩ : Addr).add 3))) w' fun x => x = .pointer (some ⟨f,0,none⟩) := by
   intro w' h
   rw [ld_one]; exact ⟨_,by rw [add_mk,cell_eq,h,cellO_some]; rfl,rfl⟩
 have ldE : ∀ {w' : World} {v : Value} {r : List Value},w'.heap[f]? = some (.cells (v :: r).toArray FlT (0,0)) → w'.cell? ((⟨f,0,none⟩ : Addr).add 0) = some v := by
   intro w' v r h
   rw [add_mk,cell_eq,h,cellO_some]; rfl
 have use : ∀ k,M.vE.ownBlock = some k → k ∈ M.uses f := fun k hk => List.mem_cons_of_mem _ (ub_mem (v := M.vE) (by simp) hk)
 have nE : ¬ M.vE.ownBlock = some p := fun e => h.np (use p e)
 have nF : ¬ M.vE.ownBlock = some f := fun e => by
   have hnd := h.fr.nd
   rw [uses_E,List.nodup_cons] at hnd
   exact hnd.1 (List.mem_append_left _ (ub_one.2 e))
 have pf : p ≠ f := fun e => h.np (e ▸ List.mem_cons_self)
 have cF : ∀ {w' : World},w'.heap[p]? = some (.cells [vt,i64 (s.i : Nat),i64 s.off,.pointer (some ⟨f,0,none⟩),i64 (s.deep : Nat),.bool s.quiet].toArray PsT (0,0)) → w'.cell? ((⟨p,0,none⟩ : Addr).add 3) = some (.pointer (some ⟨f,0,none⟩)) := by
   intro w' h
   rw [add_mk,cell_eq,h,cellO_some]; rfl
 rw [nil_ptr,fld_ptr,ld_one]
 refine ⟨_,cF h1.ps,?_⟩
 rw [nil_ptr,fld_ptr,ld_one]
 refine ⟨_,cF h1.ps,?_⟩
 rw [nil_ptr,fld_ptr,ld_one]
 refine ⟨_,ldE h1.fr.hf,?_⟩
 refine ld_all L1.1 hdl ?_
 refine bsl_agg hdl rfl fun r w2 hr hz2 hrb hx2 => ?_
 have h2 := h1.ext hx2
 refine ⟨by rw [ld_one]; exact ⟨_,ldE h2.fr.hf,rfl⟩,ldF h2.ps,ldF h2.ps,?_⟩
 have hx02 : Ext w w2 := hx1'.trans hx2
 have hc0 : Chg (fun k => M.vE.ownBlock = some k) w w2 := Chg.of_ext hx02
 refine append_own3 el_ex h2.fr.oE (slat_new' (n := 1) (T := ExT) (cs := d) hrb) (by rw [hdl]) hd1 (by omega) (by omega) h2.base fun v' w3 hO3 hc3 hv3 => ?_
 have hp3 := hc3.at h2.ps nE
 have hf3 := hc3.at h2.fr.hf nF
 refine ⟨ldF hp3,?_⟩
 rw [nil_ptr,fld_ptr,add_mk,Nat.zero_add]
 obtain ⟨vp,vc,ev,_⟩ := hO3.sl.shape
 refine st_at hf3 (by rw [ev]; rfl) (by simp) fun w4 hz4 hf4 hc4 => ?_
 have hz02 := hx02.size
 obtain ⟨h4,he4,hk4⟩ := h.putE (w1 := w3) (w2 := w4) (v' := v') he hd hu hn hnew hO3 (hc0.trans hc3) (fun k hk => (hv3 k hk).imp id fun e => by omega) hc4 (by rw [hf4]; simp)
 rw [nil_ptr,fld_ptr,ld_one]
 refine ⟨_,cF h4.ps,?_⟩
 rw [nil_ptr,fld_ptr,ld_one]
 refine ⟨_,ldE h4.fr.hf,?_⟩
 dsimp only
 rw [ev,lenl_sl,bin_sub,wrap_id (by omega) (by omega)]
 have e1 : ((s.ex.length + 1 : Nat) : Int) - 1 = (s.ex.length : Nat) := by omega
 rw [e1]
 exact hK _ w4 h4 he4 hk4
end
end
end Go.Proofs.YtofhaneggcpdaaaGreatDoor
namespace Go.Proofs.YtofhaneggcpdaaaGreatDoor
open Go Go.Eng Go.RowKit Go.Syn Go.Lex
set_option maxRecDepth 100000
structure Gd (N : Int) (s : PS) (dl : Nat) : Prop where
 ws : WS N s
 hN : N ≤ 1000000
 few : s.toks.length ≤ 4097
 ts : TS s.toks
 phi : phi s ≤ 100000
 lev : s.deep + dl = 24
theorem Gd.l {N : Int} {s : PS} {dl : Nat} (h : Gd N s dl) : s.toks.length ≤ 100000 := by have := h.few; omega
theorem Gd.go {N : Int} {s s' : PS} {dl : Nat} (h : Gd N s dl) (hg : Go1 N s s') (hp : Syn.phi s' ≤ Syn.phi s) : Gd N s' dl :=
 ⟨hg.ws h.ws,h.hN,by rw [hg.toks]; exact h.few,by rw [hg.toks]; exact h.ts,Nat.le_trans hp h.phi,by rw [hg.deep]; exact h.lev⟩
theorem Gd.frame {N : Int} {s : PS} {dl : Nat} (h : Gd N s (dl + 1)) (q : Bool) : Gd N { s with deep := s.deep + 1,quiet := q } dl := ⟨ws_frame h.ws _ _,h.hN,h.few,h.ts,h.phi,by have := h.lev; show s.deep + 1 + dl = 24; omega⟩
theorem Gd.back {N : Int} {s s' : PS} {dl : Nat} {q : Bool} (h : Gd N s (dl + 1)) (h' : Gd N s' dl) : Gd N { s' with deep := s.deep,quiet := q } (dl + 1) := ⟨ws_frame h'.ws _ _,h.hN,h'.few,h'.ts,h'.phi,h.lev⟩
theorem Gd.now {N : Int} {s : PS} {dl : Nat} (h : Gd N s dl) : Gd N (nowS s) dl := h.go (now_go h.ws) (phi_now s)
theorem Gd.take {N : Int} {s : PS} {dl : Nat} (h : Gd N s dl) (w : Str) : Gd N (takeS s w).2 dl := h.go (take_go h.ws w).1 (phi_take s w).1
theorem Gd.lines {N : Int} {s : PS} {dl : Nat} (h : Gd N s dl) : Gd N (linesS s) dl := h.go (lines_go h.ws).1 (phi_lines s)
theorem Gd.next {N : Int} {s : PS} {dl : Nat} (h : Gd N s dl) : Gd N (nextS s) dl := h.go (next_go h.ws).1 (phi_next s).1
theorem Gd.step {N : Int} {s : PS} {dl : Nat} (h : Gd N s dl) (hk : (cur s).k ≠ 0) : Gd N (step1 (nowS s)) dl := h.go (step_go h.ws hk).1 (by have := (phi_go hk).2; omega)
theorem Gd.want {N : Int} {s s' : PS} {dl : Nat} (h : Gd N s dl) {w : Str} (e : wantR s w = .ok () s') : Gd N s' dl ∧ s.i < s'.i ∧ s'.ex = s.ex ∧ s'.bl = s.bl := by
 have h1 := want_sat h.ws w
 have h2 := phi_want s w
 rw [e] at h1 h2
 obtain ⟨g,x,b⟩ := h1
 exact ⟨h.go g.1 (by have h2 : Syn.phi s' + 1 ≤ Syn.phi s := h2; omega),g.2,x,b⟩
theorem Gd.kind {N : Int} {s s' : PS} {dl : Nat} {t : Tok} {k : Int} (h : Gd N s dl) (hk : k ≠ 0) (e : kindR s k = .ok t s') : Gd N s' dl ∧ s.i < s'.i ∧ s'.ex = s.ex ∧ s'.bl = s.bl ∧ t = cur s ∧ t.k = k := by
 have h1 := kind_sat h.ws k hk
 have h2 := phi_kind s k
 rw [e] at h1 h2
 obtain ⟨g,x,b,ht,hk⟩ := h1
 exact ⟨h.go g.1 h2.1,g.2,x,b,ht,hk⟩
theorem Gd.ex {N : Int} {s : PS} {dl : Nat} (h : Gd N s dl) : s.ex.length ≤ 100000 ∧ s.bl.length ≤ 100000 := by have := phi_ex s; have := h.phi; omega
structure Fine (F : PS → R Nat) : Prop where
 ok : ∀ N,EOk N F
 z : EZ F
theorem Gd.e {N : Int} {s s' : PS} {dl x : Nat} {F : PS → R Nat} (h : Gd N s dl) (hF : Fine F) (e : F s = .ok x s') : Gd N s' dl ∧ s.i < s'.i := by
 have h1 := hF.ok N s h.ws
 have h2 := hF.z s
 rw [e] at h1 h2
 exact ⟨h.go h1.1.1 h2,h1.1.2⟩
theorem Gd.at0 {N : Int} {s : PS} {dl : Nat} (h : Gd N s dl) : 0 ≤ (cur s).a ∧ (cur s).a ≤ 1000000 := by have := cur_pos h.ws; have := h.hN; omega
section
variable [HX]
def ScanC (w0 : World) (f : Nat) : Prop := ∀ (w : World) (K : Value → World → Prop) (s : Str),Chg (Of f) w0 w → s.length ≤ 1000000 →
 (∀ l,scanM s = .ok l → ∀ v w',Ext w w' → SlAt w' TkT v l.length (toks l) → (∀ k,v.ownBlock = some k → w.heap.size ≤ k ∧ k < w'.heap.size) → K (.tuple #[v,.pointer none]) w') →
 (∀ c a,scanM s = .bad c a → ∀ d w',Ext w w' → w.heap.size ≤ d → w'.heap[d]? = some (.cells [i64 c,str [],i64 a].toArray 48 (0,0)) → K (.tuple #[.slice none 0 0,.pointer (some ⟨d,0,none⟩)]) w') →
 callF Tryz.prog 17 [str s] w K
def EC (w0 : World) (f : Nat) (g : FuncId) (F : PS → R Nat) (dl : Nat) : Prop := ∀ (w : World) (p : Nat) (M : Lay) (vt : Value) (s : PS) (top : List Nat) (N : Int) (K : Value → World → Prop),PR w0 w p f M vt s top → Gd N s dl →
 (∀ x s',F s = .ok x s' → ∀ M' w',PR w0 w' p f M' vt s' top → Eff p f M M' w w' → K (i64 (x : Nat)) w') → (∀ c a,F s = .err c a → Thr w0 f c a) → callF Tryz.prog g [.pointer (some ⟨p,0,none⟩)] w K
structure Ro (w0 w : World) (p f : Nat) (M : Lay) (vt : Value) (wb : Nat) (T : TypeId) (m : Nat) (v : Value) (n : Nat) (xs : List Value) : Prop where
 own : Own w w0.heap.size T m v n xs
 off : ∀ k,v.ownBlock = some k → Off w0 w p f M vt k
 new : ∀ k,v.ownBlock = some k → wb ≤ k
section
variable {w0 w w' w1 : World} {p f b : Nat} {M M' : Lay} {vt : Value} {s : PS} {top : List Nat} {N : Int} {K : Value → World → Prop} {wb : Nat} {T : TypeId} {m : Nat} {v : Value} {n : Nat} {xs : List Value}
theorem Ro.nil (T : TypeId) (m : Nat) : Ro w0 w p f M vt wb T m (.slice none 0 0) 0 [] := ⟨⟨by simp,.inl ⟨rfl,rfl⟩⟩,fun k hk => by simp [Value.ownBlock] at hk,fun k hk => by simp [Value.ownBlock] at hk⟩
theorem Ro.eff (h : Ro w0 w p f M vt wb T m v n xs) (he : Eff p f M M' w w') : Ro w0 w' p f M' vt wb T m v n xs := ⟨he.own h.own h.off,fun k hk => (h.off k hk).eff he,h.new⟩
theorem Ro.ext (h : Ro w0 w p f M vt wb T m v n xs) (hx : Ext w w') : Ro w0 w' p f M vt wb T m v n xs := h.eff (Eff.ext hx)
theorem Ro.one (h : Ro w0 w p f M vt wb T m v n xs) (hc : Chg (One b) w w') (hb : v.ownBlock ≠ some b) : Ro w0 w' p f M vt wb T m v n xs :=
 ⟨own_at h.own hc fun k hk e => hb (by have e : k = b := e; rw [hk,e]),fun k hk => (h.off k hk).up hc.size,h.new⟩
theorem Ro.row {u : Value} (h : Ro w0 w p f M vt wb T m v n xs) (hc : Chg (fun k => u.ownBlock = some k) w w') (hb : ∀ k,v.ownBlock = some k → u.ownBlock ≠ some k) : Ro w0 w' p f M vt wb T m v n xs :=
 ⟨own_at h.own hc fun k hk e => hb k hk e,fun k hk => (h.off k hk).up hc.size,h.new⟩
theorem Loc.row {u : Value} {cs : List Value} (h : Loc w0 w p f M vt b T cs) (hc : Chg (fun k => u.ownBlock = some k) w w') (hb : u.ownBlock ≠ some b) : Loc w0 w' p f M vt b T cs := ⟨hc.at h.1 hb,h.2.up hc.size⟩
theorem PR.row {u : Value} (h : PR w0 w p f M vt s top) (hc : Chg (fun k => u.ownBlock = some k) w w') (hb : ∀ k,u.ownBlock = some k → Off w0 w p f M vt k) : PR w0 w' p f M vt s top :=
 h.keep hc (fun k hk e => by have := (hb k e).1.1; omega) (fun k hk e => (hb k e).2.2.1 hk) (fun e => (hb p e).2.1 rfl) fun k hk e => (hb k e).2.2.2 hk
theorem Ro.app {t : TypeId} {bytes : Nat} {r : Nat} {news : List Value} {ty : TypeId} (hT : ElemT Tryz.prog t T m bytes) (hR : Ro w0 w p f M vt wb T m v n xs) (hp : PR w0 w p f M vt s top) (hr : w.heap[r]? = some (.cells news.toArray T (0,0))) (hl : news.length = m) (h1 : ∀ u ∈ news,one1 u = true) (hn : n ≤ 1000000) (hby : bytes ≤ 1000) (hwb : wb ≤ w.heap.size)
   (hK : ∀ v' w',Ro w0 w' p f M vt wb T m v' (n + 1) (xs ++ news) → Chg (fun k => v.ownBlock = some k) w w' → (∀ k,v'.ownBlock = some k → v.ownBlock = some k ∨ w.heap.size ≤ k) → PR w0 w' p f M vt s top → K v' w') :
   semE Tryz.prog (Builtin.append_ #[t,t] ty #[v,.slice (some ⟨r,0,none⟩) 1 1]) w K := by
 have hb := hp.base
 have hbt : (n + 1) * bytes ≤ 140737488355328 := Nat.le_trans (Nat.mul_le_mul (show n + 1 ≤ 1000001 by omega) hby) (by decide)
 refine append_own3 hT hR.own (slat_new' (n := 1) hr) (by rw [hl]; omega) h1 (by omega) hbt hb fun v' w' hO hc hv => ?_
 refine hK v' w' ⟨hO,fun k hk => ?_,fun k hk => ?_⟩ hc hv (hp.row hc hR.off)
 · rcases hv k hk with e | e
   · exact (hR.off k e).up hc.size
   · exact hp.off_new e (own_lt hO hk).1
 · rcases hv k hk with e | e
   · exact hR.new k e
   · omega
theorem PR.inner {q : Nat} {v : Value} {q' : PS} (h : PR w0 w p f M vt s top) (hx : Ext w w1) (hq : PR w0 w' q f M' v q' top) (he : Eff q f M M' w1 w') (hqn : w.heap.size ≤ q) :
   PR w0 w' p f M' vt { s with ex := q'.ex,bl := q'.bl } top ∧ Eff p f M M' w w' := by
 have he' : Eff p f M M' w w' := Eff.anew hx he hqn
 have hz := hx.size
 have h1 := h.ext hx
 refine ⟨⟨hq.ch,hq.fr,?_,?_,fun e => ?_,h.lo,fun k hk => ⟨fun e => ?_,(h.nt k hk).2.1,Nat.lt_of_lt_of_le (h.nt k hk).2.2 he'.chg.size⟩⟩,he'⟩
 · exact he.chg.at h1.ps fun e => by
     rcases tn_use e with e | e
     · have := h.lt; omega
     · exact h.np e
 · exact slat_at h1.tk he.chg fun k hk e => by
     rcases tn_use e with e | e
     · have := (h.nt k hk).2.2; omega
     · exact (h.nt k hk).1 e
 · exact (he'.us p e).elim h.np fun e => by have := h.lt; omega
 · exact (he'.us k e).elim (h.nt k hk).1 fun e => by have := (h.nt k hk).2.2; omega
theorem inner_p {E : PS → R Nat} {dl : Nat} {t : Str} {a : Int} (hS : ScanC w0 f) (hE : EC w0 f 81 E dl) (hF : Fine E) (h : PR w0 w p f M vt s top) (hg : Gd N s dl) (h0 : 0 ≤ a) (h1 : a + t.length ≤ N) (hphi : Syn.phi s + t.length ≤ 100000)
   (hK : ∀ x s',innerR E s t a = .ok x s' → ∀ M' w',PR w0 w' p f M' vt s' top → Eff p f M M' w w' → K (i64 (x : Nat)) w') (ht : ∀ c a',innerR E s t a = .err c a' → Thr w0 f c a') :
   callF Tryz.prog 164 [.pointer (some ⟨p,0,none⟩),str t,i64 a] w K := by
 refine W164_ok ?_
 unfold W164
 have hN := hg.hN
 refine hS w _ t h.ch (by omega) (fun l hl v w1 hx1 hv hvn => ?_) (fun c b hb d w1 hx1 hd hdb => ?_)
 · rw [ext_tuple]
   refine ⟨v,rfl,?_⟩
   rw [ext_tuple]
   refine ⟨.pointer none,rfl,?_⟩
   refine JoinW.cut (fun _ w' => w' = w1) ?_ ?_
   · show condW (.bool false) _ _
     rw [condW_false]
   rintro st g w2 rfl
   have h2 := (h.ext hx1).drew
   have hx2 := hx1.trans (ext_drew w2)
   refine h2.ld rfl ?_
   refine h2.ld rfl ?_
   obtain ⟨q,cap,ev,_⟩ := hv.shape
   subst ev
   simp only [put_slice,put_int,put_ptr,put_nil,List.length_cons,List.length_nil,List.set_cons_zero,List.set_cons_succ,Nat.reduceAdd,Nat.reduceLT,true_and,Nat.zero_lt_succ]
   refine box_new (z := [.slice q l.length cap,i64 0,i64 a,.pointer (some ⟨f,0,none⟩),i64 (s.deep : Nat),.bool false]) fun qb w3 hq hz3 hqb hx3 => ?_
   have hx03 := hx2.trans hx3
   have h3 := h2.ext hx3
   have z2 : w2.drew.heap.size = w2.heap.size := rfl
   have hz1 := hx1.size
   have hq3 : PR w0 w3 qb f M (.slice q l.length cap) ⟨l,0,a,s.deep,false,s.ex,s.bl⟩ top :=
     ⟨h3.ch,h3.fr,hqb,hv.ext ((ext_drew w2).trans hx3),fun e => by have := h.fr.lt _ e; omega,by have := h.base; omega,fun k hk => by
       have hb := hvn k hk
       exact ⟨fun e => by have := h.fr.lt _ e; omega,by omega,by omega⟩⟩
   have htg := scan_tg hl h0 h1
   have hw := scan_wt hl
   have hgq : Gd N ⟨l,0,a,s.deep,false,s.ex,s.bl⟩ dl := ⟨⟨htg,List.length_pos_iff.2 htg.ne,hg.ws.pN⟩,hN,(scan_few hl).1,scan_ts hl,by
     unfold Syn.phi at hphi ⊢
     simp only [List.drop_zero]
     omega,hg.lev⟩
   unfold innerR at hK ht
   simp only [hl] at hK ht
   refine hE w3 qb M _ _ top N _ hq3 hgq (fun x q1 e1 M' w4 h4 he4 => ?_) fun c a' e1 => ht c a' (by rw [e1]; rfl)
   rw [e1] at hK ht
   simp only [R.bind] at hK ht
   obtain ⟨hg1,_⟩ := hgq.e hF e1
   refine kind_p h4 hg1.ws hN hg1.l (fun t' q2 e2 w5 h5 he5 => ?_) fun c a' e2 => ht c a' (by rw [e2])
   rw [e2] at hK
   obtain ⟨h6,he6⟩ := h.inner hx03 h5 (he4.trans he5) (by omega)
   exact hK x _ rfl M' w5 h6 he6
 · rw [ext_tuple]
   refine ⟨.slice none 0 0,rfl,?_⟩
   rw [ext_tuple]
   refine ⟨.pointer (some ⟨d,0,none⟩),rfl,?_⟩
   refine JoinW.cut (fun _ _ => False) ?_ (fun _ _ _ h => h.elim)
   show condW (.bool true) _ _
   rw [condW_true,nil_ptr,fld_ptr,ld_one]
   refine ⟨i64 c,by rw [add_mk,cell_eq,heap_drew,hdb,cellO_some]; rfl,?_⟩
   rw [nil_ptr,fld_ptr,ld_one]
   refine ⟨i64 b,by rw [add_mk,cell_eq,heap_drew,hdb,cellO_some]; rfl,?_⟩
   have hsb := scan_bad hb
   rw [bin_add,wrap_id (by omega) (by omega)]
   refine fail_p (h.ext hx1).drew (ht _ _ ?_)
   unfold innerR
   rw [hb]
end
end
end Go.Proofs.YtofhaneggcpdaaaGreatDoor
namespace Go.Proofs.YtofhaneggcpdaaaGreatDoor
open Go Go.Eng Go.RowKit Go.Syn Go.Lex
set_option maxRecDepth 100000
def insI (rest : Str) : Nat × Nat := match Syn.insP rest with | some x => x | none => (rest.length,rest.length)
def pieceS (s : PS) (rest : Str) (a : Int) : PS := if 0 < (insI rest).1 then { s with ex := s.ex ++ [⟨5,saysM (rest.take (insI rest).1),[],[],a⟩] } else s
theorem partsF_step {E : PS → R Nat} {n : Nat} {s : PS} {rest : Str} {a : Int} {av : List Nat} {ks : List Str} (hr : rest ≠ []) (hn : rest.length < n + 1) :
   partsF E (n + 1) s rest a av ks =
     (if (insI rest).1 < (insI rest).2 then (within (pieceS s rest a) (a + (insI rest).1) false fun q => innerR E q ((rest.drop ((insI rest).1 + 2)).take ((insI rest).2 - 1 - ((insI rest).1 + 2))) (a + (insI rest).1 + 2)).bind fun x s2 =>
       partsF E n s2 (rest.drop (insI rest).2) (a + (insI rest).2) ((if 0 < (insI rest).1 then av ++ [s.ex.length] else av) ++ [x]) ((if 0 < (insI rest).1 then ks ++ [[116]] else ks) ++ [[101]])
     else partsF E n (pieceS s rest a) (rest.drop (insI rest).2) (a + (insI rest).2) (if 0 < (insI rest).1 then av ++ [s.ex.length] else av) (if 0 < (insI rest).1 then ks ++ [[116]] else ks)) := by
 simp only [partsF]
 rw [if_neg hr]
 have hpos : 0 < rest.length := List.length_pos_iff.2 hr
 unfold insI pieceS insI
 cases hi : Syn.insP rest with
 | none =>
   simp only
   rw [if_neg (Nat.lt_irrefl _),if_pos hpos,if_pos hpos,if_pos hpos,List.drop_length,List.take_length]
   obtain ⟨m,rfl⟩ : ∃ m,n = m + 1 := ⟨n - 1,by omega⟩
   simp only [partsF,if_true]
 | some x => rfl
theorem insI_le {rest : Str} (hx : TxOk rest) : (insI rest).1 ≤ rest.length ∧ (insI rest).2 ≤ rest.length ∧ escs (rest.take (insI rest).1) = true ∧ TxOk (rest.drop (insI rest).2) ∧ ((insI rest).1 < (insI rest).2 → (insI rest).1 + 3 ≤ (insI rest).2) ∧ (rest ≠ [] → 0 < (insI rest).2) ∧ (insI rest).1 ≤ (insI rest).2 := by
 obtain ⟨h1,h2⟩ := tx_ins hx
 unfold insI
 cases hi : Syn.insP rest with
 | none =>
   simp only
   exact ⟨Nat.le_refl _,Nat.le_refl _,by rw [List.take_length]; exact h1 hi,by rw [List.drop_length]; exact .inl rfl,fun e => absurd e (Nat.lt_irrefl _),fun h => List.length_pos_iff.2 h,Nat.le_refl _⟩
 | some x =>
   obtain ⟨a,b,c,d⟩ := h2 x.1 x.2 hi
   simp only
   exact ⟨by omega,c,a,d,fun _ => b,fun _ => by omega,by omega⟩
section
variable [HX]
variable {w0 w w' w1 : World} {p f b : Nat} {M M' : Lay} {vt : Value} {s : PS} {top : List Nat} {N : Int} {K : Value → World → Prop}
abbrev PpT : TypeId := 58
structure TL (w0 w : World) (p f : Nat) (M : Lay) (vt : Value) (B1 b2 b7 b8 b9 : Nat) (ta : Int) (rest : Str) (a : Int) (va vk : Value) (av : List Nat) (ks : List Str) : Prop where
 l2 : Loc w0 w p f M vt b2 PpT [.pointer (some ⟨p,0,none⟩)]
 l7 : Loc w0 w p f M vt b7 ExT [i64 6,str [],va,vk,i64 ta]
 l8 : Loc w0 w p f M vt b8 StT [str rest]
 l9 : Loc w0 w p f M vt b9 IntT [i64 a]
 rA : Ro w0 w p f M vt B1 IntT 1 va av.length (ints av)
 rK : Ro w0 w p f M vt B1 StT 1 vk ks.length (strs ks)
 dd : ∀ k,va.ownBlock = some k → vk.ownBlock ≠ some k
 lt : b2 < B1 ∧ b7 < B1 ∧ b8 < B1 ∧ b9 < B1 ∧ B1 ≤ w.heap.size
 ne : b2 ≠ b7 ∧ b2 ≠ b8 ∧ b2 ≠ b9 ∧ b7 ≠ b8 ∧ b7 ≠ b9 ∧ b8 ≠ b9
section
variable {B1 b2 b7 b8 b9 : Nat} {ta : Int} {rest : Str} {a : Int} {va vk : Value} {av : List Nat} {ks : List Str}
theorem TL.eff (h : TL w0 w p f M vt B1 b2 b7 b8 b9 ta rest a va vk av ks) (he : Eff p f M M' w w') : TL w0 w' p f M' vt B1 b2 b7 b8 b9 ta rest a va vk av ks :=
 ⟨h.l2.eff he,h.l7.eff he,h.l8.eff he,h.l9.eff he,h.rA.eff he,h.rK.eff he,h.dd,⟨h.lt.1,h.lt.2.1,h.lt.2.2.1,h.lt.2.2.2.1,Nat.le_trans h.lt.2.2.2.2 he.chg.size⟩,h.ne⟩
theorem TL.ext (h : TL w0 w p f M vt B1 b2 b7 b8 b9 ta rest a va vk av ks) (hx : Ext w w') : TL w0 w' p f M vt B1 b2 b7 b8 b9 ta rest a va vk av ks := h.eff (Eff.ext hx)
theorem TL.one (h : TL w0 w p f M vt B1 b2 b7 b8 b9 ta rest a va vk av ks) (hc : Chg (One b) w w') (hb : B1 ≤ b) (hA : va.ownBlock ≠ some b) (hK : vk.ownBlock ≠ some b) : TL w0 w' p f M vt B1 b2 b7 b8 b9 ta rest a va vk av ks := by
 obtain ⟨q1,q2,q3,q4,q5⟩ := h.lt
 exact ⟨h.l2.one hc (by omega),h.l7.one hc (by omega),h.l8.one hc (by omega),h.l9.one hc (by omega),h.rA.one hc hA,h.rK.one hc hK,h.dd,⟨q1,q2,q3,q4,Nat.le_trans q5 hc.size⟩,h.ne⟩
theorem TL.noA (h : TL w0 w p f M vt B1 b2 b7 b8 b9 ta rest a va vk av ks) {k : Nat} (hk : k < B1) : va.ownBlock ≠ some k ∧ vk.ownBlock ≠ some k :=
 ⟨fun e => by have := h.rA.new k e; omega,fun e => by have := h.rK.new k e; omega⟩
theorem TL.args {w2 w3 : World} {va' : Value} {x : Nat} (h : TL w0 w p f M vt B1 b2 b7 b8 b9 ta rest a va vk av ks) (hR : Ro w0 w2 p f M vt B1 IntT 1 va' (av ++ [x]).length (ints (av ++ [x]))) (hc : Chg (fun k => va.ownBlock = some k) w w2) (hv : ∀ k,va'.ownBlock = some k → va.ownBlock = some k ∨ w.heap.size ≤ k)
   (hc3 : Chg (One b7) w2 w3) (hb : w3.heap[b7]? = some (.cells [i64 6,str [],va',vk,i64 ta].toArray ExT (0,0))) : TL w0 w3 p f M vt B1 b2 b7 b8 b9 ta rest a va' vk (av ++ [x]) ks := by
 obtain ⟨q1,q2,q3,q4,q5⟩ := h.lt
 obtain ⟨n1,n2,n3,n4,n5,n6⟩ := h.ne
 have z := hc3.size
 have o7 := ((h.l7.row hc (h.noA q2).1).2).up z
 refine ⟨(h.l2.row hc (h.noA q1).1).one hc3 n1,⟨hb,o7⟩,(h.l8.row hc (h.noA q3).1).one hc3 (Ne.symm n4),(h.l9.row hc (h.noA q4).1).one hc3 (Ne.symm n5),hR.one hc3 fun e => by have := hR.new b7 e; omega,
   (h.rK.row hc fun k hk e => h.dd k e hk).one hc3 (h.noA q2).2,fun k hk => ?_,⟨q1,q2,q3,q4,Nat.le_trans q5 (Nat.le_trans hc.size z)⟩,h.ne⟩
 rcases hv k hk with e | e
 · exact h.dd k e
 · intro e'
   have := (h.rK.off k e').1.2; omega
theorem TL.keys {w2 w3 : World} {vk' : Value} {x : Str} (h : TL w0 w p f M vt B1 b2 b7 b8 b9 ta rest a va vk av ks) (hR : Ro w0 w2 p f M vt B1 StT 1 vk' (ks ++ [x]).length (strs (ks ++ [x]))) (hc : Chg (fun k => vk.ownBlock = some k) w w2) (hv : ∀ k,vk'.ownBlock = some k → vk.ownBlock = some k ∨ w.heap.size ≤ k)
   (hc3 : Chg (One b7) w2 w3) (hb : w3.heap[b7]? = some (.cells [i64 6,str [],va,vk',i64 ta].toArray ExT (0,0))) : TL w0 w3 p f M vt B1 b2 b7 b8 b9 ta rest a va vk' av (ks ++ [x]) := by
 obtain ⟨q1,q2,q3,q4,q5⟩ := h.lt
 obtain ⟨n1,n2,n3,n4,n5,n6⟩ := h.ne
 have z := hc3.size
 have o7 := ((h.l7.row hc (h.noA q2).2).2).up z
 refine ⟨(h.l2.row hc (h.noA q1).2).one hc3 n1,⟨hb,o7⟩,(h.l8.row hc (h.noA q3).2).one hc3 (Ne.symm n4),(h.l9.row hc (h.noA q4).2).one hc3 (Ne.symm n5),(h.rA.row hc fun k hk e => h.dd k hk e).one hc3 (h.noA q2).1,
   hR.one hc3 fun e => by have := hR.new b7 e; omega,fun k hk e' => ?_,⟨q1,q2,q3,q4,Nat.le_trans q5 (Nat.le_trans hc.size z)⟩,h.ne⟩
 rcases hv k e' with e | e
 · exact h.dd k hk e
 · have := (h.rA.off k hk).1.2; omega
theorem TL.appA {x : Nat} {r : Nat} {ty : TypeId} {KW : World → Prop} (h : TL w0 w p f M vt B1 b2 b7 b8 b9 ta rest a va vk av ks) (hp : PR w0 w p f M vt s top) (hr : w.heap[r]? = some (.cells [i64 (x : Nat)].toArray IntT (0,0))) (hn : av.length ≤ 1000000)
   (hK : ∀ va' w',TL w0 w' p f M vt B1 b2 b7 b8 b9 ta rest a va' vk (av ++ [x]) ks → PR w0 w' p f M vt s top → Chg (fun k => va.ownBlock = some k ∨ k = b7) w w' → (∀ k,va'.ownBlock = some k → va.ownBlock = some k ∨ w.heap.size ≤ k) → KW w') :
   semE Tryz.prog (Builtin.append_ #[26,26] ty #[va,.slice (some ⟨r,0,none⟩) 1 1]) w fun t62 w36 => fldW 2 (.pointer (some ⟨b7,0,none⟩)) fun t63 => stW 1 t63 t62 w36 KW := by
 obtain ⟨q1,q2,q3,q4,q5⟩ := h.lt
 refine Ro.app el_int h.rA hp hr rfl (fun u hu => by simp only [List.mem_singleton] at hu; subst hu; rfl) hn (by decide) q5 fun v' w2 hR hc hv hp2 => ?_
 have e1 : (av ++ [x]).length = av.length + 1 := by simp
 have e2 : ints (av ++ [x]) = ints av ++ [i64 (x : Nat)] := by simp [ints]
 rw [← e1,← e2] at hR
 rw [fld_ptr,add_mk,Nat.zero_add]
 obtain ⟨vp,vc,ev,_⟩ := hR.own.sl.shape
 refine (h.l7.row hc (h.noA q2).1).st (by rw [ev]; rfl) (by simp) fun w3 L3 hc3 hz3 => ?_
 exact hK v' w3 (h.args hR hc hv hc3 (by rw [L3.1]; rfl)) (hp2.one hc3 ⟨⟨L3.2.1.1,by have := L3.2.1.2; omega⟩,L3.2.2⟩) ((hc.mono fun k _ e => .inl e).trans (hc3.mono fun k _ e => .inr e)) hv
theorem TL.appK {x : Str} {r : Nat} {ty : TypeId} {KW : World → Prop} (h : TL w0 w p f M vt B1 b2 b7 b8 b9 ta rest a va vk av ks) (hp : PR w0 w p f M vt s top) (hr : w.heap[r]? = some (.cells [str x].toArray StT (0,0))) (hn : ks.length ≤ 1000000)
   (hK : ∀ vk' w',TL w0 w' p f M vt B1 b2 b7 b8 b9 ta rest a va vk' av (ks ++ [x]) → PR w0 w' p f M vt s top → Chg (fun k => vk.ownBlock = some k ∨ k = b7) w w' → (∀ k,vk'.ownBlock = some k → vk.ownBlock = some k ∨ w.heap.size ≤ k) → KW w') :
   semE Tryz.prog (Builtin.append_ #[33,33] ty #[vk,.slice (some ⟨r,0,none⟩) 1 1]) w fun t62 w36 => fldW 3 (.pointer (some ⟨b7,0,none⟩)) fun t63 => stW 1 t63 t62 w36 KW := by
 obtain ⟨q1,q2,q3,q4,q5⟩ := h.lt
 refine Ro.app el_st h.rK hp hr rfl (fun u hu => by simp only [List.mem_singleton] at hu; subst hu; rfl) hn (by decide) q5 fun v' w2 hR hc hv hp2 => ?_
 have e1 : (ks ++ [x]).length = ks.length + 1 := by simp
 have e2 : strs (ks ++ [x]) = strs ks ++ [str x] := by simp [strs]
 rw [← e1,← e2] at hR
 rw [fld_ptr,add_mk,Nat.zero_add]
 obtain ⟨vp,vc,ev,_⟩ := hR.own.sl.shape
 refine (h.l7.row hc (h.noA q2).2).st (by rw [ev]; rfl) (by simp) fun w3 L3 hc3 hz3 => ?_
 exact hK v' w3 (h.keys hR hc hv hc3 (by rw [L3.1]; rfl)) (hp2.one hc3 ⟨⟨L3.2.1.1,by have := L3.2.1.2; omega⟩,L3.2.2⟩) ((hc.mono fun k _ e => .inl e).trans (hc3.mono fun k _ e => .inr e)) hv
theorem txt1_p {E : PS → R Nat} {dl i e b10 b11 : Nat} {M0 : Lay} {wb : World} (he0 : Eff p f M0 M wb w) (hw7 : wb.heap.size ≤ b7) (hwB : wb.heap.size ≤ B1) (hS : ScanC w0 f) (hE : EC w0 f 81 E dl) (hF : Fine E) (h : PR w0 w p f M vt s top) (hg : Gd N s dl) (hT : TL w0 w p f M vt B1 b2 b7 b8 b9 ta rest a va vk av ks)
   (l10 : Loc w0 w p f M vt b10 IntT [i64 (i : Nat)]) (l11 : Loc w0 w p f M vt b11 IntT [i64 (e : Nat)]) (n10 : va.ownBlock ≠ some b10 ∧ vk.ownBlock ≠ some b10 ∧ b10 ≠ b7) (n11 : va.ownBlock ≠ some b11 ∧ vk.ownBlock ≠ some b11 ∧ b11 ≠ b7)
   (hie : i + 3 ≤ e) (hel : e ≤ rest.length) (h0 : 0 ≤ a) (h1 : a + rest.length + 1 ≤ N) (hphi : Syn.phi s + (e - 1 - (i + 2)) ≤ 100000) (hn : av.length ≤ 1000000)
   (hK : ∀ x s',innerR E s ((rest.drop (i + 2)).take (e - 1 - (i + 2))) (a + i + 2) = .ok x s' → ∀ M' va' w',PR w0 w' p f M' vt s' top → Eff p f M0 M' wb w' → TL w0 w' p f M' vt B1 b2 b7 b8 b9 ta rest a va' vk (av ++ [x]) ks →
     Loc w0 w' p f M' vt b10 IntT [i64 (i : Nat)] → Loc w0 w' p f M' vt b11 IntT [i64 (e : Nat)] → (va'.ownBlock ≠ some b10 ∧ va'.ownBlock ≠ some b11) → K (.tuple #[]) w')
   (ht : ∀ c a',innerR E s ((rest.drop (i + 2)).take (e - 1 - (i + 2))) (a + i + 2) = .err c a' → Thr w0 f c a') :
   callF Tryz.prog 163 [.pointer (some ⟨b7,0,none⟩),.pointer (some ⟨b2,0,none⟩),.pointer (some ⟨b8,0,none⟩),.pointer (some ⟨b10,0,none⟩),.pointer (some ⟨b11,0,none⟩),.pointer (some ⟨b9,0,none⟩)] w K := by
 refine W163_ok ?_
 unfold W163
 have hN := hg.hN
 have T1 := hT.ext (ext_drew w)
 have h1' := h.drew
 have k10 := l10.drew
 have k11 := l11.drew
 rw [fld_ptr,add_mk,Nat.zero_add]
 refine T1.l7.ld rfl ?_
 refine T1.l2.ld rfl ?_
 refine T1.l8.ld rfl ?_
 refine k10.ld rfl ?_
 rw [bin_add,wrap_id (by omega) (by omega)]
 refine k11.ld rfl ?_
 rw [bin_sub,wrap_id (by omega) (by omega),sls_str,bd_some]
 refine ⟨by omega,by omega,?_⟩
 rw [bd_some]
 refine ⟨by omega,by omega,?_⟩
 refine T1.l9.ld rfl ?_
 refine k10.ld rfl ?_
 rw [bin_add,wrap_id (by omega) (by omega),bin_add,wrap_id (by omega) (by omega)]
 have et : (rest.take ((e : Int) - 1).toNat).drop ((i : Int) + 2).toNat = (rest.drop (i + 2)).take (e - 1 - (i + 2)) := by
   rw [show ((e : Int) - 1).toNat = e - 1 by omega,show ((i : Int) + 2).toNat = i + 2 by omega,List.drop_take]
 rw [et]
 have hlen : ((rest.drop (i + 2)).take (e - 1 - (i + 2))).length = e - 1 - (i + 2) := by rw [List.length_take,List.length_drop]; omega
 refine inner_p hS hE hF h1' hg (by omega) (by rw [hlen]; omega) (by rw [hlen]; exact hphi) (fun x s' hx M' w2 h2 he2 => ?_) ht
 have T2 := T1.eff he2
 have ld7 : ∀ {w3 : World},TL w0 w3 p f M' vt B1 b2 b7 b8 b9 ta rest a va vk av ks → ldW false 1 (.pointer (some ⟨b7,2,none⟩)) w3 fun x => x = va := fun T => T.l7.ld rfl rfl
 refine ⟨ld7 T2,?_⟩
 refine bsl_int1 fun r w3 hr hz3 hrb hx3 => ?_
 have T3 := T2.ext hx3
 refine ⟨ld7 T3,?_⟩
 refine T3.appA (h2.ext hx3) hrb hn fun va' w4 T4 h4 hc4 hv4 => ?_
 have he23 := (Eff.ext (ext_drew w)).trans (he2.x hx3)
 have z3 := he23.chg.size
 have j10 := (k10.eff he2).ext hx3
 have j11 := (k11.eff he2).ext hx3
 have b7o := T3.l7.2
 have heb : Eff p f M0 M' wb w4 := (he0.trans he23).then hc4 fun k hk e => by
   rcases e with e | e
   · have := hT.rA.new k e; omega
   · omega
 exact hK x s' hx M' va' w4 h4 heb T4 ⟨hc4.at j10.1 fun e => e.elim n10.1 n10.2.2,j10.2.up hc4.size⟩ ⟨hc4.at j11.1 fun e => e.elim n11.1 n11.2.2,j11.2.up hc4.size⟩ ⟨fun e => (hv4 _ e).elim n10.1 fun e => by have := j10.lt; omega,fun e => (hv4 _ e).elim n11.1 fun e => by have := j11.lt; omega⟩
end
end
end Go.Proofs.YtofhaneggcpdaaaGreatDoor
namespace Go.Proofs.YtofhaneggcpdaaaGreatDoor
open Go Go.Eng Go.RowKit Go.Syn Go.Lex
set_option maxRecDepth 100000
def strAt (w : World) (b : Nat) : Nat := match w.heap[b]? with | some (.cells c _ _) => (match (c[0]? : Option Value) with | some (Value.string t) => t.size | _ => 0) | _ => 0
section
variable [HX]
variable {w0 w w' w1 : World} {p f b : Nat} {M M' : Lay} {vt : Value} {s : PS} {top : List Nat} {N : Int} {K : Value → World → Prop}
theorem Loc.strat {rest : Str} (h : Loc w0 w p f M vt b StT [str rest]) : strAt w b = rest.length := by
 unfold strAt
 rw [h.1]
 simp [ofL_size]
theorem box_one {T : TypeId} {v : Value} {w : World} {K : Value → World → Prop} (h1 : one1 v = true) (h : ∀ a w',a = w.heap.size → w'.heap.size = w.heap.size + 1 → w'.heap[a]? = some (.cells [v].toArray T (0,0)) → Ext w w' → K (.pointer (some ⟨a,0,none⟩)) w') : boxW T v w K := by
 have hc : v.cells = #[v] := by cases v <;> first | rfl | (simp [one1] at h1)
 unfold boxW
 rw [hc]
 exact h _ _ rfl (by simp) (heap_anew _ _ _ rfl) (Chg.alloc (Chg.refl _ _) _)
theorem Gd.put {N : Int} {s : PS} {dl : Nat} (h : Gd N s dl) {e : Ex} (hp : Syn.phi s + 1 ≤ 100000) : Gd N { s with ex := s.ex ++ [e] } dl := ⟨⟨h.ws.tg,h.ws.lt,h.ws.pN⟩,h.hN,h.few,h.ts,Nat.le_trans (phi_put s e) hp,h.lev⟩
theorem put_text {M0 : Lay} {wb : World} {l : Str} {a : Int} (h : PR w0 w p f M vt s top) (he : Eff p f M0 M wb w) (hlen : s.ex.length ≤ 1000000)
   (hK : ∀ M' w',PR w0 w' p f M' vt { s with ex := s.ex ++ [⟨5,l,[],[],a⟩] } top → Eff p f M0 M' wb w' → (∀ b T cs,Loc w0 w p f M vt b T cs → Loc w0 w' p f M' vt b T cs) → (∀ wb T m v n xs,Ro w0 w p f M vt wb T m v n xs → Ro w0 w' p f M' vt wb T m v n xs) → w.heap.size ≤ w'.heap.size → K (i64 (s.ex.length : Nat)) w') :
   callF Tryz.prog 107 [.pointer (some ⟨p,0,none⟩),.agg [i64 5,str l,.slice none 0 0,.slice none 0 0,i64 a].toArray] w K := by
 have hub : ub [i64 5,str l,.slice none 0 0,.slice none 0 0,i64 a] = [] := rfl
 refine put_p (M0 := M) (wb := w) (e := ⟨5,l,[],[],a⟩) h (Eff.refl _ _ _ _) ⟨.slice none 0 0,.slice none 0 0,rfl,⟨by simp [ints],.inl ⟨rfl,rfl⟩⟩,⟨by simp [strs],.inl ⟨rfl,rfl⟩⟩⟩ (by rw [hub]; intro k hk; cases hk) (by rw [hub]; exact List.nodup_nil) (by rw [hub]; intro k hk; cases hk) hlen fun M' w' h' he' hl' => ?_
 exact hK M' w' h' (he.trans he') (fun b T cs hL => hl' b T cs hL (by rw [hub]; exact List.not_mem_nil)) (fun wb T m v n xs hR => hR.eff he') he'.chg.size
theorem text_p {E : PS → R Nat} {dl : Nat} {t : Tok} (hS : ScanC w0 f) (hE : ∀ d,dl = d + 1 → EC w0 f 81 E d) (hF : Fine E) (h : PR w0 w p f M vt s top) (hg : Gd N s dl) (hx : TxOk t.t) (hl : t.t.length ≤ 100000)
   (ha : 0 ≤ t.a ∧ t.a ≤ N) (hte : TextOk N t.a t.t) (hphi : Syn.phi s + wt { t with k := 3 } ≤ 100000)
   (hK : ∀ x s',textR E s t = .ok x s' → ∀ M' w',PR w0 w' p f M' vt s' top → Eff p f M M' w w' → K (i64 (x : Nat)) w') (ht : ∀ c a',textR E s t = .err c a' → Thr w0 f c a') :
   callF Tryz.prog 150 [.pointer (some ⟨p,0,none⟩),.agg (tokc t).toArray] w K := by
 refine W150_ok ?_
 unfold W150
 have hN := hg.hN
 refine box_one rfl fun b2 w1 hb2 hz1 hbb1 hx1 => ?_
 have h1 := h.ext hx1
 have L1 := h.loc hz1 hb2 hbb1
 refine box_new (z := tokc t) fun b3 w2 hb3 hz2 hbb2 hx2 => ?_
 have h2 := h1.ext hx2
 have L12 := L1.ext hx2
 have L2 := h1.loc hz2 hb3 hbb2
 have he2 : Eff p f M M w w2 := (Eff.ext hx1).x hx2
 refine L2.ldf rfl ?_
 refine insertion_p (by omega) ?_
 rw [ext_tuple]
 unfold textR at hK ht
 cases hi : Syn.insP t.t with
 | none =>
   have ei : insV t.t = [i64 (-1),i64 0] := by unfold insV; rw [hi]
   rw [ei]
   refine ⟨i64 (-1),rfl,?_⟩
   rw [ext_tuple]
   refine ⟨i64 0,rfl,?_⟩
   rw [bin_lss,condW_dec]
   refine ⟨fun _ => ?_,fun e => by omega⟩
   rw [hi] at hK ht
   simp only [Option.isSome_none,Bool.false_eq_true,if_false] at hK ht
   refine L12.drew.ld rfl ?_
   refine L2.drew.ldf rfl ?_
   rw [fld_ptr,add_mk,Nat.zero_add]
   refine L2.drew.ld rfl ?_
   refine says_p ((tx_ins hx).1 hi) (by omega) fun w3 hx3 => ?_
   have L3 := L2.drew.ext hx3
   have L13 := L12.drew.ext hx3
   refine ⟨L3.ld rfl rfl,L13.ld rfl rfl,?_⟩
   simp only [put_int,put_str,put_nil,List.length_cons,List.length_nil,List.set_cons_zero,List.set_cons_succ,Nat.reduceAdd,Nat.reduceLT,true_and,Nat.zero_lt_succ]
   have h3 := h2.drew.ext hx3
   refine put_text h3 ((he2.x (ext_drew w2)).x hx3) (by have := hg.ex; omega) fun M' w4 h4 he4 _ _ _ => ?_
   exact hK _ _ rfl M' w4 h4 he4
 | some ie =>
   have ei : insV t.t = [i64 (ie.1 : Nat),i64 (ie.2 : Nat)] := by unfold insV; rw [hi]
   rw [ei]
   refine ⟨i64 (ie.1 : Nat),rfl,?_⟩
   rw [ext_tuple]
   refine ⟨i64 (ie.2 : Nat),rfl,?_⟩
   rw [bin_lss,condW_dec]
   refine ⟨fun e => by omega,fun _ => ?_⟩
   rw [hi] at hK ht
   simp only [Option.isSome_some,if_true] at hK ht
   have hte : t.a + t.t.length + 2 ≤ N := hte.resolve_left fun e => by rw [e] at hi; cases hi
   have hwt : wt { t with k := 3 } = t.t.length + 2 := by unfold wt; rw [if_neg (by simp),if_pos ⟨rfl,by rw [hi]; rfl⟩]
   rw [hwt] at hphi
   refine L2.ldf rfl ?_
   simp only [put_int,put_str,put_nil,List.length_cons,List.length_nil,List.set_cons_zero,List.set_cons_succ,Nat.reduceAdd,Nat.reduceLT,true_and,Nat.zero_lt_succ]
   refine alloc_new fun b7 w3 hb7 hz3 hbb3 hx3 => ?_
   have h3 := h2.ext hx3
   have L3 := h2.loc hz3 hb7 hbb3
   refine st_agg_at (l := [i64 6,str [],.slice none 0 0,.slice none 0 0,i64 t.a]) hbb3 rfl rfl rfl fun w4 hz4 hbb4 hc4 => ?_
   have L4 : Loc w0 w4 p f M vt b7 ExT [i64 6,str [],.slice none 0 0,.slice none 0 0,i64 t.a] := ⟨hbb4,L3.2.up (by omega)⟩
   have h4 := h3.one hc4 L3.2
   have L14 := (L12.ext hx3).one hc4 (by omega)
   have L24 := (L2.ext hx3).one hc4 (by omega)
   have he4 : Eff p f M M w w4 := (he2.x hx3).one hc4 (by omega)
   refine JoinW.cut (fun st w' => ∃ b8 b9 B1,st = [.pointer (some ⟨b8,0,none⟩),.pointer (some ⟨b9,0,none⟩)] ∧ TL w0 w' p f M vt B1 b2 b7 b8 b9 t.a t.t (t.a + 1) (.slice none 0 0) (.slice none 0 0) [] [] ∧ PR w0 w' p f M vt s top ∧ Eff p f M M w w' ∧ w.heap.size ≤ B1 ∧ w.heap.size ≤ b8 ∧ w.heap.size ≤ b9) ?_ ?_
   · have L4d := L4.drew
     have L14d := L14.drew
     have L24d := L24.drew
     have h4d := h4.drew
     have he4d := he4.x (ext_drew w4)
     have ld1 : ∀ {w' : World},Loc w0 w' p f M vt b3 TkT (tokc t) → ldW false 1 (.pointer (some ⟨b3,1,none⟩)) w' fun x => x = str t.t := fun L => L.ld rfl rfl
     have ld2 : ∀ {w' : World},Loc w0 w' p f M vt b3 TkT (tokc t) → ldW false 1 (.pointer (some ⟨b3,2,none⟩)) w' fun x => x = i64 t.a := fun L => L.ld rfl rfl
     rw [fld_ptr,add_mk,Nat.zero_add]
     refine L24d.ld rfl ?_
     rw [fld_ptr,add_mk,Nat.zero_add]
     refine L24d.ld rfl ?_
     rw [bin_add,wrap_id (by omega) (by omega)]
     have zd : w4.drew.heap.size = w4.heap.size := rfl
     -- both orders come to two blocks
     have fin : ∀ {w5 : World} {b8 b9 : Nat},PR w0 w5 p f M vt s top → Eff p f M M w w5 → Loc w0 w5 p f M vt b2 PpT [.pointer (some ⟨p,0,none⟩)] → Loc w0 w5 p f M vt b7 ExT [i64 6,str [],.slice none 0 0,.slice none 0 0,i64 t.a] → Loc w0 w5 p f M vt b8 StT [str t.t] → Loc w0 w5 p f M vt b9 IntT [i64 (t.a + 1)] → w4.heap.size ≤ b8 → w4.heap.size ≤ b9 → b8 ≠ b9 →
         ∃ b8' b9' B1,[Value.pointer (some ⟨b8,0,none⟩),.pointer (some ⟨b9,0,none⟩)] = [.pointer (some ⟨b8',0,none⟩),.pointer (some ⟨b9',0,none⟩)] ∧ TL w0 w5 p f M vt B1 b2 b7 b8' b9' t.a t.t (t.a + 1) (.slice none 0 0) (.slice none 0 0) [] [] ∧ PR w0 w5 p f M vt s top ∧ Eff p f M M w w5 ∧ w.heap.size ≤ B1 ∧ w.heap.size ≤ b8' ∧ w.heap.size ≤ b9' := fun {w5 b8 b9} hp he l2 l7 l8 l9 g8 g9 gn =>
       ⟨b8,b9,w5.heap.size,rfl,⟨l2,l7,l8,l9,Ro.nil _ _,Ro.nil _ _,fun k hk => by simp [Value.ownBlock] at hk,⟨l2.lt,l7.lt,l8.lt,l9.lt,Nat.le_refl _⟩,⟨by omega,by omega,by omega,by omega,by omega,gn⟩⟩,hp,he,he.chg.size,by omega,by omega⟩
     refine ⟨?_,?_⟩
     · refine alloc_new fun b8 w5 hb8 hz5 hbb5 hx5 => ?_
       have L8 := h4d.loc hz5 hb8 hbb5
       have h5 := h4d.ext hx5
       have T5 := L24d.ext hx5
       refine ⟨ld2 T5,ld1 T5,?_⟩
       refine alloc_new fun b9 w6 hb9 hz6 hbb6 hx6 => ?_
       have L9 := h5.loc hz6 hb9 hbb6
       have h6 := h5.ext hx6
       have T6 := T5.ext hx6
       refine ⟨ld2 T6,ld1 T6,?_⟩
       refine (L8.ext hx6).st rfl (by simp) fun w7 L87 hc7 hz7 => ?_
       have h7 := h6.one hc7 (L8.ext hx6).2
       have T7 := T6.one hc7 (by omega)
       refine ⟨ld2 T7,?_⟩
       refine (L9.one hc7 (by omega)).st rfl (by simp) fun w8 L98 hc8 hz8 => ?_
       have h8 := h7.one hc8 (L9.one hc7 (by omega)).2
       exact fin h8 ((((he4d.x hx5).x hx6).one hc7 (by omega)).one hc8 (by omega)) ((((L14d.ext hx5).ext hx6).one hc7 (by omega)).one hc8 (by omega)) ((((L4d.ext hx5).ext hx6).one hc7 (by omega)).one hc8 (by omega)) (L87.one hc8 (by omega)) L98 (by omega) (by omega) (by omega)
     · refine alloc_new fun b9 w5 hb9 hz5 hbb5 hx5 => ?_
       have L9 := h4d.loc hz5 hb9 hbb5
       have h5 := h4d.ext hx5
       have T5 := L24d.ext hx5
       refine ⟨ld2 T5,ld1 T5,?_⟩
       refine alloc_new fun b8 w6 hb8 hz6 hbb6 hx6 => ?_
       have L8 := h5.loc hz6 hb8 hbb6
       have h6 := h5.ext hx6
       have T6 := T5.ext hx6
       refine ⟨ld2 T6,ld1 T6,?_⟩
       refine L8.st rfl (by simp) fun w7 L87 hc7 hz7 => ?_
       have h7 := h6.one hc7 L8.2
       have T7 := T6.one hc7 (by omega)
       refine ⟨ld2 T7,?_⟩
       refine ((L9.ext hx6).one hc7 (by omega)).st rfl (by simp) fun w8 L98 hc8 hz8 => ?_
       have h8 := h7.one hc8 ((L9.ext hx6).one hc7 (by omega)).2
       exact fin h8 ((((he4d.x hx5).x hx6).one hc7 (by omega)).one hc8 (by omega)) ((((L14d.ext hx5).ext hx6).one hc7 (by omega)).one hc8 (by omega)) ((((L4d.ext hx5).ext hx6).one hc7 (by omega)).one hc8 (by omega)) (L87.one hc8 (by omega)) L98 (by omega) (by omega) (by omega)
   rintro st g w5 ⟨b8,b9,B1,rfl,T5,h5,he5,hB1,hB8,hB9⟩
   simp only [List.getD_cons_zero,List.getD_cons_succ]
   clear L1 L12 L2 L3 L4 L14 L24
   have hz5 := he5.chg.size
   generalize hR : partsF E (t.t.length + 1) s t.t (t.a + 1) [] [] = R0 at hK ht
   refine LoopW.go (fun st w' => st = [] ∧ ∃ s1 M1 rest a va vk av ks n,PR w0 w' p f M1 vt s1 top ∧ Gd N s1 dl ∧ Eff p f M M1 w w' ∧ TL w0 w' p f M1 vt B1 b2 b7 b8 b9 t.a rest a va vk av ks ∧ partsF E n s1 rest a av ks = R0 ∧ rest.length < n ∧ TxOk rest ∧ 0 ≤ a ∧ a + rest.length + 1 ≤ N ∧ Syn.phi s1 + rest.length + 1 ≤ 100000 ∧ av.length + 2 * rest.length ≤ 2 * t.t.length ∧ ks.length = av.length)
     (fun _ w' => strAt w' b8) ⟨rfl,s,M,t.t,t.a + 1,_,_,[],[],t.t.length + 1,h5,hg,he5,T5,hR,by omega,hx,by omega,by omega,by omega,by simp,rfl⟩ ?_
   rintro st g2 w6 ⟨rfl,s1,M1,rest,a,va,vk,av,ks,n,h6,hg1,he6,T6,hpf,hn,hxr,ha0,haN,hph,hav,hks⟩
   have hw6 := he6.chg.size
   refine T6.l8.ld rfl ?_
   rw [bin_sne,condW_dec]
   refine ⟨fun hne => ?_,fun hne => ?_⟩
   · obtain ⟨n,rfl⟩ : ∃ m,n = m + 1 := ⟨n - 1,by omega⟩
     rw [partsF_step hne hn] at hpf
     obtain ⟨i1,i2,i3,i4,i5,i6,i7⟩ := insI_le hxr
     have i6 := i6 hne
     refine T6.l8.ld rfl ?_
     refine insertion_p (by omega) ?_
     have hlen : rest.length ≤ 100000 := by omega
     have two : ∃ u v : Int,insV rest = [i64 u,i64 v] ∧ ((Syn.insP rest = none ∧ u = -1) ∨ (Syn.insP rest ≠ none ∧ u = ((insI rest).1 : Nat) ∧ v = ((insI rest).2 : Nat))) := by
       unfold insI insV
       cases hr : Syn.insP rest with
       | none => exact ⟨-1,0,rfl,.inl ⟨rfl,rfl⟩⟩
       | some x => exact ⟨_,_,rfl,.inr ⟨by simp,rfl,rfl⟩⟩
     obtain ⟨u,v,euv,huv⟩ := two
     rw [euv,ext_tuple]
     refine ⟨i64 u,rfl,?_⟩
     rw [ext_tuple]
     refine ⟨i64 v,rfl,?_⟩
     refine alloc_new fun b10 w7 hb10 hz7 hbb7 hx7 => ?_
     have h7 := h6.ext hx7
     have T7 := T6.ext hx7
     have l10 := h6.loc hz7 hb10 hbb7
     refine alloc_new fun b11 w8 hb11 hz8 hbb8 hx8 => ?_
     have h8 := h7.ext hx8
     have T8 := T7.ext hx8
     have l11 := h7.loc hz8 hb11 hbb8
     have hB6 := T6.lt.2.2.2.2
     have nA10 : ∀ k,va.ownBlock = some k → k < w6.heap.size := fun k hk => (T6.rA.off k hk).1.2
     have nK10 : ∀ k,vk.ownBlock = some k → k < w6.heap.size := fun k hk => (T6.rK.off k hk).1.2
     have no10 : va.ownBlock ≠ some b10 ∧ vk.ownBlock ≠ some b10 := ⟨fun e => by have := nA10 _ e; omega,fun e => by have := nK10 _ e; omega⟩
     have no11 : va.ownBlock ≠ some b11 ∧ vk.ownBlock ≠ some b11 := ⟨fun e => by have := nA10 _ e; omega,fun e => by have := nK10 _ e; omega⟩
     refine (l10.ext hx8).st rfl (by simp) fun w9 l10 hc9 hz9 => ?_
     have h9 := h8.one hc9 l10.2
     have T9 := T8.one hc9 (by omega) no10.1 no10.2
     refine (l11.one hc9 (by omega)).st rfl (by simp) fun w10 l11 hc10 hz10 => ?_
     have l10 := l10.one hc10 (by omega)
     have h10 := h9.one hc10 l11.2
     have T10 := T9.one hc10 (by omega) no11.1 no11.2
     have he10 : Eff p f M M1 w w10 := (((he6.x hx7).x hx8).one hc9 (by omega)).one hc10 (by omega)
     simp only [List.set_cons_zero] at l10 l11
     refine JoinW.cut (fun _ w' => Loc w0 w' p f M1 vt b10 IntT [i64 ((insI rest).1 : Nat)] ∧ Loc w0 w' p f M1 vt b11 IntT [i64 ((insI rest).2 : Nat)] ∧ PR w0 w' p f M1 vt s1 top ∧ TL w0 w' p f M1 vt B1 b2 b7 b8 b9 t.a rest a va vk av ks ∧ Eff p f M M1 w w' ∧ w10.heap.size ≤ w'.heap.size) ?_ ?_
     · refine l10.ld rfl ?_
       rw [bin_lss,condW_dec]
       refine ⟨fun hlt => ?_,fun hge => ?_⟩
       · have hnone : Syn.insP rest = none := by
           rcases huv with h | h
           · exact h.1
           · omega
         have eI : insI rest = (rest.length,rest.length) := by unfold insI; rw [hnone]
         have T11 := T10.ext (ext_drew w10)
         refine T11.l8.ld rfl ?_
         rw [lens_str]
         refine T11.l8.ld rfl ?_
         rw [lens_str]
         refine l10.drew.st rfl (by simp) fun w12 l10 hc12 hz12 => ?_
         have h12 := h10.drew.one hc12 l10.2
         have T12 := T11.one hc12 (by omega) no10.1 no10.2
         refine ⟨T12.l8.ld rfl rfl,?_⟩
         have zd : w10.drew.heap.size = w10.heap.size := rfl
         refine (l11.drew.one hc12 (by omega)).st rfl (by simp) fun w13 l11 hc13 hz13 => ?_
         have h13 := h12.one hc13 l11.2
         have T13 := T12.one hc13 (by omega) no11.1 no11.2
         have l10 := l10.one hc13 (by omega)
         simp only [List.set_cons_zero] at l10 l11
         rw [eI]
         exact ⟨l10,l11,h13,T13,((he10.x (ext_drew _)).one hc12 (by omega)).one hc13 (by omega),by omega⟩
       · rcases huv with h | ⟨_,e1,e2⟩
         · omega
         · rw [e1] at l10; rw [e2] at l11
           exact ⟨l10,l11,h10,T10,he10,Nat.le_refl _⟩
     rintro _ g3 w14 ⟨l10,l11,h14,T14,he14,hz14⟩
     clear hc9 hc10 h7 h8 h9 h10 T7 T8 T9 T10 he10
     generalize hI : (insI rest).1 = I at *
     generalize hE' : (insI rest).2 = E' at *
     have hw14 := he14.chg.size
     -- the piece ahead of the insertion
     refine JoinW.cut (fun _ w' => ∃ M2 va2 vk2,PR w0 w' p f M2 vt (pieceS s1 rest a) top ∧ Eff p f M M2 w w' ∧ TL w0 w' p f M2 vt B1 b2 b7 b8 b9 t.a rest a va2 vk2 (if 0 < I then av ++ [s1.ex.length] else av) (if 0 < I then ks ++ [[116]] else ks) ∧ Loc w0 w' p f M2 vt b10 IntT [i64 (I : Nat)] ∧ Loc w0 w' p f M2 vt b11 IntT [i64 (E' : Nat)] ∧ (va2.ownBlock ≠ some b10 ∧ vk2.ownBlock ≠ some b10) ∧ (va2.ownBlock ≠ some b11 ∧ vk2.ownBlock ≠ some b11)) ?_ ?_
     · refine l10.ld rfl ?_
       rw [bin_gtr,condW_dec]
       unfold pieceS
       rw [hI]
       refine ⟨fun hpos => ?_,fun hpos => ?_⟩
       · have hpos : 0 < I := by omega
         simp only [if_pos hpos]
         have T15 := T14.ext (ext_drew w14)
         have h15 := h14.drew
         have l10 := l10.drew
         have l11 := l11.drew
         rw [fld_ptr,add_mk,Nat.zero_add]
         refine T15.l7.ld rfl ?_
         refine T15.l2.ld rfl ?_
         refine T15.l8.ld rfl ?_
         refine l10.ld rfl ?_
         rw [sls_str,bd_some]
         refine ⟨by omega,by omega,?_⟩
         rw [bd_none,List.drop_zero,Int.toNat_natCast]
         refine T15.l9.ld rfl ?_
         refine says_p i3 (by rw [List.length_take]; omega) fun w16 hx16 => ?_
         have T16 := T15.ext hx16
         have h16 := h15.ext hx16
         have l10 := l10.ext hx16
         have l11 := l11.ext hx16
         refine ⟨T16.l9.ld rfl rfl,T16.l2.ld rfl rfl,T16.l7.ld rfl rfl,?_⟩
         simp only [put_int,put_str,put_nil,List.length_cons,List.length_nil,List.set_cons_zero,List.set_cons_succ,Nat.reduceAdd,Nat.reduceLT,true_and,Nat.zero_lt_succ]
         have he16 := (he14.x (ext_drew w14)).x hx16
         refine put_text h16 he16 (by have := hg1.ex; omega) fun M2 w17 h17 he17 hl17 hr17 hz17 => ?_
         have T17 : TL w0 w17 p f M2 vt B1 b2 b7 b8 b9 t.a rest a va vk av ks := ⟨hl17 _ _ _ T16.l2,hl17 _ _ _ T16.l7,hl17 _ _ _ T16.l8,hl17 _ _ _ T16.l9,hr17 _ _ _ _ _ _ T16.rA,hr17 _ _ _ _ _ _ T16.rK,T16.dd,⟨T16.lt.1,T16.lt.2.1,T16.lt.2.2.1,T16.lt.2.2.2.1,Nat.le_trans T16.lt.2.2.2.2 hz17⟩,T16.ne⟩
         have l10 := hl17 _ _ _ l10
         have l11 := hl17 _ _ _ l11
         refine ⟨T17.l7.ld rfl rfl,?_⟩
         refine bsl_int1 fun r w18 hr hz18 hrb hx18 => ?_
         have T18 := T17.ext hx18
         refine ⟨T18.l7.ld rfl rfl,?_⟩
         refine T18.appA (h17.ext hx18) hrb (by omega) fun va2 w19 T19 h19 hc19 hv19 => ?_
         have n7 := T18.lt.2.1
         have l10' : Loc w0 w19 p f M2 vt b10 IntT [i64 (I : Nat)] := ⟨hc19.at (l10.ext hx18).1 fun e => e.elim no10.1 (by omega),(l10.ext hx18).2.up hc19.size⟩
         have l11' : Loc w0 w19 p f M2 vt b11 IntT [i64 (E' : Nat)] := ⟨hc19.at (l11.ext hx18).1 fun e => e.elim no11.1 (by omega),(l11.ext hx18).2.up hc19.size⟩
         have a10 : va2.ownBlock ≠ some b10 := fun e => (hv19 _ e).elim no10.1 fun e => by have := (l10.ext hx18).lt; omega
         have a11 : va2.ownBlock ≠ some b11 := fun e => (hv19 _ e).elim no11.1 fun e => by have := (l11.ext hx18).lt; omega
         have hw16 := he16.chg.size
         have he19 : Eff p f M M2 w w19 := (he17.x hx18).then hc19 fun k hk e => by
           rcases e with e | e
           · have := T6.rA.new k e; omega
           · omega
         rw [fld_ptr,add_mk,Nat.zero_add]
         refine T19.l7.ld rfl ?_
         refine bsl_str fun r2 w20 hr2 hz20 hrb2 hx20 => ?_
         have T20 := T19.ext hx20
         refine T20.appK (h19.ext hx20) hrb2 (by omega) fun vk2 w21 T21 h21 hc21 hv21 => ?_
         have hw19 := he19.chg.size
         refine ⟨M2,va2,vk2,h21,(he19.x hx20).then hc21 fun k hk e => ?_,T21,⟨hc21.at (l10'.ext hx20).1 fun e => e.elim no10.2 (by omega),(l10'.ext hx20).2.up hc21.size⟩,⟨hc21.at (l11'.ext hx20).1 fun e => e.elim no11.2 (by omega),(l11'.ext hx20).2.up hc21.size⟩,
           ⟨a10,fun e => (hv21 _ e).elim no10.2 fun e => by have := (l10'.ext hx20).lt; omega⟩,⟨a11,fun e => (hv21 _ e).elim no11.2 fun e => by have := (l11'.ext hx20).lt; omega⟩⟩
         rcases e with e | e
         · have := T6.rK.new k e; omega
         · omega
       · simp only [if_neg (show ¬ 0 < I by omega)]
         exact ⟨M1,va,vk,h14,he14,T14,l10,l11,no10,no11⟩
     rintro _ g4 w15 ⟨M2,va2,vk2,h15,he15,T15,l10,l11,no10,no11⟩
     have hg2 : Gd N (pieceS s1 rest a) dl ∧ Syn.phi (pieceS s1 rest a) ≤ Syn.phi s1 + I := by
       unfold pieceS
       rw [hI]
       split
       · have hp := phi_put s1 ⟨5,saysM (rest.take I),[],[],a⟩
         have hp : Syn.phi { s1 with ex := s1.ex ++ [⟨5,saysM (rest.take I),[],[],a⟩] } ≤ Syn.phi s1 + 1 := hp
         exact ⟨hg1.put (by omega),by omega⟩
       · exact ⟨hg1,by omega⟩
     obtain ⟨hg2,hp2⟩ := hg2
     have hav2 : (if 0 < I then av ++ [s1.ex.length] else av).length ≤ av.length + (if 0 < I then 1 else 0) := by split <;> simp
     have hks2 : (if 0 < I then ks ++ [[116]] else ks).length = (if 0 < I then av ++ [s1.ex.length] else av).length := by split <;> simp [hks]
     generalize (if 0 < I then av ++ [s1.ex.length] else av) = av2 at *
     generalize (if 0 < I then ks ++ [[116]] else ks) = ks2 at *
     generalize pieceS s1 rest a = s2 at *
     have hw15 := he15.chg.size
     -- the insertion
     refine JoinW.cut (fun _ w' => ∃ s3 M3 va3 vk3 av3 ks3,PR w0 w' p f M3 vt s3 top ∧ Gd N s3 dl ∧ Eff p f M M3 w w' ∧ TL w0 w' p f M3 vt B1 b2 b7 b8 b9 t.a rest a va3 vk3 av3 ks3 ∧ Loc w0 w' p f M3 vt b11 IntT [i64 (E' : Nat)] ∧ partsF E n s3 (rest.drop E') (a + E') av3 ks3 = R0 ∧ Syn.phi s3 + (rest.length - E') + 1 ≤ 100000 ∧ av3.length + 2 * (rest.length - E') ≤ 2 * t.t.length ∧ ks3.length = av3.length) ?_ ?_
     · refine l10.ld rfl ?_
       refine l11.ld rfl ?_
       rw [bin_lss,condW_dec]
       refine ⟨fun hlt => ?_,fun hge => ?_⟩
       · have hlt : I < E' := by omega
         have i5 := i5 hlt
         rw [if_pos hlt] at hpf
         refine T15.l2.ld rfl ?_
         refine T15.l9.ld rfl ?_
         refine l10.ld rfl ?_
         rw [bin_add,wrap_id (by omega) (by omega)]
         have hlev := hg2.lev
         have hsat := fun (d : Nat) (hd : dl = d + 1) => inner_sat (hF.ok N) (s := { s2 with deep := s2.deep + 1,quiet := false }) (ws_frame hg2.ws _ _) (t := (rest.drop (I + 2)).take (E' - 1 - (I + 2))) (a := a + I + 2) (by omega) (by rw [List.length_take,List.length_drop]; omega)
         refine within_p h15 (by omega) (fun hd => ht 7 (a + I) ?_) fun hd w16 h16 he16 => ?_
         · rw [← hpf]
           unfold within
           rw [if_pos hd]
           rfl
         obtain ⟨d,rfl⟩ : ∃ d,dl = d + 1 := ⟨dl - 1,by omega⟩
         have hgi := hg2.frame false
         have hwin : within s2 (a + I) false (fun q => innerR E q ((rest.drop (I + 2)).take (E' - 1 - (I + 2))) (a + I + 2)) = (innerR E { s2 with deep := s2.deep + 1,quiet := false } ((rest.drop (I + 2)).take (E' - 1 - (I + 2))) (a + I + 2)).bind fun x s' => .ok x { s' with deep := s2.deep,quiet := s2.quiet } := by
           unfold within
           rw [if_neg hd]
         rw [hwin] at hpf
         refine callV_cap' (caps := [.pointer (some ⟨b7,0,none⟩),.pointer (some ⟨b2,0,none⟩),.pointer (some ⟨b8,0,none⟩),.pointer (some ⟨b10,0,none⟩),.pointer (some ⟨b11,0,none⟩),.pointer (some ⟨b9,0,none⟩)]) ?_
         have n7 := T15.lt.2.1
         have hphi' : Syn.phi { s2 with deep := s2.deep + 1,quiet := false } = Syn.phi s2 := rfl
         refine txt1_p (he15.trans he16) (by omega) hB1 hS (hE d rfl) hF h16 hgi (T15.eff he16) (l10.eff he16) (l11.eff he16) ⟨no10.1,no10.2,by omega⟩ ⟨no11.1,no11.2,by omega⟩ i5 i2 ha0 haN (by show Syn.phi s2 + _ ≤ _; omega) (by split at hav2 <;> omega) (fun x s' hx' M3 va3 w17 h17 he17 T17 k10 k11 hno => ?_) fun c a' hx' => ht c a' ?_
         · rw [hx'] at hpf
           simp only [R.bind] at hpf
           have hs1 := hsat d rfl
           have hs2 := phi_inner hF.z { s2 with deep := s2.deep + 1,quiet := false } ((rest.drop (I + 2)).take (E' - 1 - (I + 2))) (a + I + 2)
           rw [hx'] at hs1 hs2
           have hs2 : Syn.phi s' ≤ Syn.phi s2 + ((rest.drop (I + 2)).take (E' - 1 - (I + 2))).length := hs2
           rw [List.length_take,List.length_drop] at hs2
           have hgs' : Gd N s' d := ⟨hs1.1.ws hgi.ws,hN,by rw [hs1.1.toks]; exact hgi.few,by rw [hs1.1.toks]; exact hgi.ts,by omega,by rw [hs1.1.deep]; exact hgi.lev⟩
           refine ⟨M3,s',h17,hs1.1.deep,fun w18 h18 he18 => ?_⟩
           have T18 := T17.eff he18
           rw [fld_ptr,add_mk,Nat.zero_add]
           refine T18.l7.ld rfl ?_
           refine bsl_str fun r2 w20 hr2 hz20 hrb2 hx20 => ?_
           have T20 := T18.ext hx20
           have k11 := (k11.eff he18).ext hx20
           refine T20.appK (h18.ext hx20) hrb2 (by split at hav2 <;> omega) fun vk3 w21 T21 h21 hc21 hv21 => ?_
           refine ⟨_,M3,va3,vk3,av2 ++ [x],ks2 ++ [[101]],h21,hg2.back hgs',((he17.trans he18).x hx20).then hc21 fun k hk e => ?_,T21,⟨hc21.at k11.1 fun e => e.elim no11.2 (by omega),k11.2.up hc21.size⟩,hpf,?_,?_,by simp [hks2]⟩
           · rcases e with e | e
             · have := T17.rK.new k e; omega
             · omega
           · show Syn.phi s' + _ + 1 ≤ _
             omega
           · simp only [List.length_append,List.length_cons,List.length_nil]
             split at hav2 <;> omega
         · rw [hx'] at hpf
           rw [← hpf]
           rfl
       · have hge : ¬ I < E' := by omega
         rw [if_neg hge] at hpf
         refine ⟨s2,M2,va2,vk2,av2,ks2,h15,hg2,he15,T15,l11,hpf,by omega,?_,hks2⟩
         split at hav2 <;> omega
     rintro _ g5 w22 ⟨s3,M3,va3,vk3,av3,ks3,h22,hg3,he22,T22,l11,hpf3,hp3,hav3,hks3⟩
     have T23 := T22.ext (ext_drew w22)
     have l11 := l11.drew
     have h23 := h22.drew
     have hw22 := he22.chg.size
     refine T23.l8.ld rfl ?_
     refine l11.ld rfl ?_
     rw [sls_str,bd_none,bd_some]
     refine ⟨by omega,by omega,?_⟩
     rw [List.take_length,Int.toNat_natCast]
     refine T23.l9.ld rfl ?_
     refine l11.ld rfl ?_
     rw [bin_add,wrap_id (by omega) (by omega)]
     obtain ⟨q1,q2,q3,q4,q5⟩ := T23.lt
     obtain ⟨m1,m2,m3,m4,m5,m6⟩ := T23.ne
     refine T23.l8.st rfl (by simp) fun w24 l8 hc24 hz24 => ?_
     have h24 := h23.one hc24 l8.2
     have l9 := T23.l9.one hc24 (Ne.symm m6)
     have l11 := l11.one hc24 (by omega)
     refine ⟨l11.ld rfl rfl,l9.ld rfl rfl,?_⟩
     refine l9.st rfl (by simp) fun w25 l9 hc25 hz25 => ?_
     have h25 := h24.one hc25 l9.2
     have l8 := l8.one hc25 m6
     simp only [List.set_cons_zero] at l8 l9
     have T25 : TL w0 w25 p f M3 vt B1 b2 b7 b8 b9 t.a (rest.drop E') (a + E') va3 vk3 av3 ks3 :=
       ⟨(T23.l2.one hc24 m2).one hc25 m3,(T23.l7.one hc24 m4).one hc25 m5,l8,l9,(T23.rA.one hc24 (T23.noA q3).1).one hc25 (T23.noA q4).1,(T23.rK.one hc24 (T23.noA q3).2).one hc25 (T23.noA q4).2,T23.dd,⟨q1,q2,q3,q4,by omega⟩,T23.ne⟩
     have zd : w22.drew.heap.size = w22.heap.size := rfl
     refine ⟨⟨rfl,s3,M3,rest.drop E',a + E',va3,vk3,av3,ks3,n,h25,hg3,((he22.x (ext_drew _)).one hc24 (by omega)).one hc25 (by omega),T25,hpf3,?_,i4,by omega,?_,?_,?_,hks3⟩,?_⟩
     · rw [List.length_drop]; omega
     · rw [List.length_drop]; omega
     · rw [List.length_drop]; exact hp3
     · rw [List.length_drop]; exact hav3
     · rw [T25.l8.strat,T6.l8.strat,List.length_drop]; omega
   · have hnil : rest = [] := by
       by_cases h : rest = []
       · exact h
       · exact absurd h hne
     subst hnil
     obtain ⟨n,rfl⟩ : ∃ m,n = m + 1 := ⟨n - 1,by omega⟩
     simp only [partsF,if_true] at hpf
     rw [← hpf] at hK ht
     refine T6.l2.ld rfl ?_
     refine ld_all T6.l7.1 rfl ?_
     have hub : ∀ k,k ∈ ub [i64 6,str [],va,vk,i64 t.a] ↔ va.ownBlock = some k ∨ vk.ownBlock = some k := fun k => by
       rw [show [i64 6,str [],va,vk,i64 t.a] = [i64 6,str []] ++ ([va] ++ ([vk] ++ [i64 t.a])) from rfl]
       simp only [ub_app,List.mem_append,ub_one]
       simp [ub,Value.ownBlock]
     have hnd : (ub [i64 6,str [],va,vk,i64 t.a]).Nodup := by
       rw [show [i64 6,str [],va,vk,i64 t.a] = [i64 6,str []] ++ ([va] ++ ([vk] ++ [i64 t.a])) from rfl]
       simp only [ub_app]
       rw [show ub [i64 6,str []] = [] from rfl,show ub [i64 t.a] = [] from rfl,List.nil_append,List.append_nil]
       exact List.nodup_append.2 ⟨ub_nodup1 _,ub_nodup1 _,fun x hx y hy e => by subst e; exact T6.dd x (ub_one.1 hx) (ub_one.1 hy)⟩
     refine put_p (e := ⟨6,[],av,ks,t.a⟩) h6 he6 ⟨va,vk,rfl,T6.rA.own,T6.rK.own⟩ (fun k hk => ((hub k).1 hk).elim (T6.rA.off k) (T6.rK.off k)) hnd (fun k hk => ?_) (by have := hg1.ex; omega) fun M' w7 h7 he7 _ => ?_
     · rcases (hub k).1 hk with e | e
       · have := T6.rA.new k e; omega
       · have := T6.rK.new k e; omega
     · exact hK _ _ rfl M' w7 h7 he7
end
end Go.Proofs.YtofhaneggcpdaaaGreatDoor
namespace Go.Proofs.YtofhaneggcpdaaaGreatDoor
open Go Go.Eng Go.RowKit Go.Syn Go.Lex
set_option maxRecDepth 100000
section
variable [HX]
structure ER (w0 w : World) (p f : Nat) (M : Lay) (vt : Value) (wb : Nat) (e : Ex) (va vk : Value) : Prop where
 rA : Ro w0 w p f M vt wb IntT 1 va e.args.length (ints e.args)
 rK : Ro w0 w p f M vt wb StT 1 vk e.keys.length (strs e.keys)
 dd : ∀ k,va.ownBlock = some k → vk.ownBlock ≠ some k
def exc (e : Ex) (va vk : Value) : List Value := [i64 e.k,str e.t,va,vk,i64 e.a]
section
variable {w0 w w' w1 : World} {p f b : Nat} {M M' M0 : Lay} {vt : Value} {s : PS} {top : List Nat} {N : Int} {K : Value → World → Prop} {e : Ex} {va vk : Value} {wbn : Nat} {wb : World} {dl : Nat}
theorem exc_one (h : ER w0 w p f M vt wbn e va vk) : (exc e va vk).all one1 = true := by
 obtain ⟨_,_,e1,_⟩ := h.rA.own.sl.shape
 obtain ⟨_,_,e2,_⟩ := h.rK.own.sl.shape
 subst e1 e2
 rfl
theorem ER.eff (h : ER w0 w p f M vt wbn e va vk) (he : Eff p f M M' w w') : ER w0 w' p f M' vt wbn e va vk := ⟨h.rA.eff he,h.rK.eff he,h.dd⟩
theorem ER.one (h : ER w0 w p f M vt wbn e va vk) (hc : Chg (One b) w w') (hA : va.ownBlock ≠ some b) (hK : vk.ownBlock ≠ some b) : ER w0 w' p f M vt wbn e va vk := ⟨h.rA.one hc hA,h.rK.one hc hK,h.dd⟩
theorem Ro.le {T : TypeId} {m n : Nat} {v : Value} {xs : List Value} {k : Nat} (h : Ro w0 w p f M vt wbn T m v n xs) (hk : k ≤ wbn) : Ro w0 w p f M vt k T m v n xs := ⟨h.own,h.off,fun j hj => Nat.le_trans hk (h.new j hj)⟩
theorem ER.le {k : Nat} (h : ER w0 w p f M vt wbn e va vk) (hk : k ≤ wbn) : ER w0 w p f M vt k e va vk := ⟨h.rA.le hk,h.rK.le hk,h.dd⟩
theorem ER.noK (hk : e.keys = []) (h : Ro w0 w p f M vt wbn IntT 1 va e.args.length (ints e.args)) : ER w0 w p f M vt wbn e va (.slice none 0 0) := ⟨h,by rw [hk]; exact Ro.nil _ _,fun k _ => by simp [Value.ownBlock]⟩
theorem ER.leaf (h1 : e.args = []) (h2 : e.keys = []) : ER w0 w p f M vt wbn e (.slice none 0 0) (.slice none 0 0) := ⟨by rw [h1]; exact Ro.nil _ _,by rw [h2]; exact Ro.nil _ _,fun k hk => by simp [Value.ownBlock] at hk⟩
theorem ub_exc (e : Ex) (va vk : Value) : ub (exc e va vk) = ub [va] ++ ub [vk] := by
 rw [show exc e va vk = [i64 e.k,str e.t] ++ ([va] ++ ([vk] ++ [i64 e.a])) from rfl]
 simp only [ub_app]
 rw [show ub [i64 e.k,str e.t] = [] from rfl,show ub [i64 e.a] = [] from rfl,List.nil_append,List.append_nil]
theorem put_e (h : PR w0 w p f M vt s top) (he : Eff p f M0 M wb w) (hE : ER w0 w p f M vt wb.heap.size e va vk) (hg : Gd N s dl)
   (hK : ∀ M' w',PR w0 w' p f M' vt { s with ex := s.ex ++ [e] } top → Eff p f M0 M' wb w' → (∀ b T cs,Loc w0 w p f M vt b T cs → va.ownBlock ≠ some b → vk.ownBlock ≠ some b → Loc w0 w' p f M' vt b T cs) → K (i64 (s.ex.length : Nat)) w') :
   callF Tryz.prog 107 [.pointer (some ⟨p,0,none⟩),.agg (exc e va vk).toArray] w K := by
 have hub : ∀ k,k ∈ ub (exc e va vk) ↔ va.ownBlock = some k ∨ vk.ownBlock = some k := fun k => by rw [ub_exc,List.mem_append,ub_one,ub_one]
 have hnd : (ub (exc e va vk)).Nodup := by
   rw [ub_exc]
   exact List.nodup_append.2 ⟨ub_nodup1 _,ub_nodup1 _,fun x hx y hy e => by subst e; exact hE.dd x (ub_one.1 hx) (ub_one.1 hy)⟩
 refine put_p (e := e) h he ⟨va,vk,rfl,hE.rA.own,hE.rK.own⟩ (fun k hk => ((hub k).1 hk).elim (hE.rA.off k) (hE.rK.off k)) hnd (fun k hk => ((hub k).1 hk).elim (hE.rA.new k) (hE.rK.new k)) (by have := hg.ex; omega) fun M' w' h' he' hl => ?_
 exact hK M' w' h' he' fun b T cs hL h1 h2 => hl b T cs hL fun hm => ((hub b).1 hm).elim h1 h2
theorem args_p {E : PS → R Nat} {x : Str} (hE : EC w0 f 81 E dl) (hF : Fine E) (h : PR w0 w p f M vt s top) (hg : Gd N s dl)
   (hK : ∀ l s',argsR E x s = .ok l s' → ∀ M' v w',PR w0 w' p f M' vt s' top → Gd N s' dl → Eff p f M M' w w' → Ro w0 w' p f M' vt w.heap.size IntT 1 v l.length (ints l) → K v w') (ht : ∀ c a',argsR E x s = .err c a' → Thr w0 f c a') :
   callF Tryz.prog 153 [.pointer (some ⟨p,0,none⟩),str x] w K := by
 refine W153_ok ?_
 unfold W153
 unfold argsR at hK ht
 generalize hR : argsF E x (s.toks.length + 1) s [] = R0 at hK ht
 have hN := hg.hN
 refine LoopW.go (fun st w' => ∃ v s1 M1 out n,st = [v] ∧ PR w0 w' p f M1 vt s1 top ∧ Gd N s1 dl ∧ Eff p f M M1 w w' ∧ Ro w0 w' p f M1 vt w.heap.size IntT 1 v out.length (ints out) ∧ argsF E x n s1 out = R0 ∧ s1.toks.length < n + s1.i ∧ out.length ≤ s1.i ∧ s1.toks.length = s.toks.length) (fun _ w' => s.toks.length - psAt w' p)
   ⟨_,s,M,[],s.toks.length + 1,rfl,h,hg,Eff.refl _ _ _ _,Ro.nil _ _,hR,by omega,by simp,rfl⟩ ?_
 rintro st g w2 ⟨v,s1,M1,out,n,rfl,h2,hg2,he2,hr2,hF2,hn,ho,htl⟩
 have hlt2 := hg2.ws.lt
 obtain ⟨n,rfl⟩ : ∃ m,n = m + 1 := ⟨n - 1,by omega⟩
 simp only [List.getD_cons_zero]
 refine take_p h2 hg2.ws hN hg2.l fun w3 h3 he3 => ?_
 simp only [argsF] at hF2
 have hg3 := hg2.take x
 have tg := take_go hg2.ws x
 have hr3 := hr2.eff he3
 have he23 := he2.trans he3
 have hw3 := he23.chg.size
 -- one more
 have more : ∀ {s4 : PS} {w4 : World},PR w0 w4 p f M1 vt s4 top → Gd N s4 dl → Eff p f M M1 w w4 → Ro w0 w4 p f M1 vt w.heap.size IntT 1 v out.length (ints out) → ((E s4).bind fun x' s' => argsF E x n s' (out ++ [x'])) = R0 → s1.i ≤ s4.i → s4.toks.length = s.toks.length →
     callF Tryz.prog 81 [.pointer (some ⟨p,0,none⟩)] w4 fun t20 w8 => bslW IntT 1 [(.int .i64 0)] [(0,1,t20)] w8 fun t21 w9 => semE Tryz.prog (Builtin.append_ #[26,26] 26 #[v,t21]) w9 fun t22 w10 =>
       (∃ v s1 M1 out n,[t22] = [v] ∧ PR w0 w10 p f M1 vt s1 top ∧ Gd N s1 dl ∧ Eff p f M M1 w w10 ∧ Ro w0 w10 p f M1 vt w.heap.size IntT 1 v out.length (ints out) ∧ argsF E x n s1 out = R0 ∧ s1.toks.length < n + s1.i ∧ out.length ≤ s1.i ∧ s1.toks.length = s.toks.length) ∧ s.toks.length - psAt w10 p < s.toks.length - psAt w2 p := fun {s4 w4} h4 hg4 he4 hr4 hF4 hi4 ht4 => by
   refine hE w4 p M1 vt s4 top N _ h4 hg4 (fun y s5 e5 M5 w5 h5 he5 => ?_) fun c a' e5 => ht c a' (by rw [← hF4,e5]; rfl)
   rw [e5] at hF4
   simp only [R.bind] at hF4
   obtain ⟨hg5,hi5⟩ := hg4.e hF e5
   have htk : s5.toks.length = s4.toks.length := by
     have := hF.ok N s4 hg4.ws
     rw [e5] at this
     exact congrArg List.length this.1.1.toks
   refine bsl_int1 fun r w6 hr hz6 hrb hx6 => ?_
   have h6 := h5.ext hx6
   have hr6 := (hr4.eff he5).ext hx6
   have he46 := (he4.trans he5).x hx6
   refine Ro.app el_int hr6 h6 hrb rfl (fun u hu => by simp only [List.mem_singleton] at hu; subst hu; rfl) (by have := hg4.few; have := hg4.ws.lt; omega) (by decide) he46.chg.size fun v' w7 hR7 hc7 hv7 h7 => ?_
   have hlt5 := hg5.ws.lt
   refine ⟨⟨v',s5,M5,out ++ [y],n,rfl,h7,hg5,he46.then hc7 fun k hk e => by have := hr6.new k e; omega,?_,hF4,by omega,by rw [List.length_append,List.length_cons,List.length_nil]; omega,by omega⟩,?_⟩
   · rw [List.length_append,List.length_cons,List.length_nil,ints_app]
     exact hR7
   · rw [h7.at_,h2.at_]; omega
 have ht3 : (takeS s1 x).2.toks.length = s.toks.length := by rw [tg.1.toks]; exact htl
 rw [un_not,condW_b]
 refine ⟨fun hnt => ?_,fun hyt => ?_⟩
 · have hnt : (takeS s1 x).1 = false := by simpa using hnt
   rw [if_neg (by rw [hnt]; decide)] at hF2
   by_cases hout : out = []
   · rw [if_pos hout] at hF2
     refine JoinW.cut (fun _ w' => w' = w3) ?_ ?_
     · rw [lenl_at hr3.own.sl,bin_gtr,condW_dec]
       exact ⟨fun e => by rw [hout] at e; simp at e,fun _ => rfl⟩
     rintro _ g2 w4 rfl
     exact more h3 hg3 he23 hr3 hF2 tg.1.le ht3
   · rw [if_neg hout] at hF2
     have hpos : 0 < out.length := List.length_pos_iff.2 hout
     refine JoinW.cut (fun _ w' => ∃ s4,PR w0 w' p f M1 vt s4 top ∧ Gd N s4 dl ∧ Eff p f M M1 w w' ∧ Ro w0 w' p f M1 vt w.heap.size IntT 1 v out.length (ints out) ∧ ((E s4).bind fun x' s' => argsF E x n s' (out ++ [x'])) = R0 ∧ s1.i ≤ s4.i ∧ s4.toks.length = s.toks.length) ?_ ?_
     · rw [lenl_at hr3.own.sl,bin_gtr,condW_dec]
       refine ⟨fun _ => ?_,fun e => absurd (by omega) e⟩
       refine want_p h3 hg3.ws hN hg3.l (fun s4 e4 w4 h4 he4 => ?_) fun c a' e4 => ht c a' (by rw [← hF2,e4]; rfl)
       rw [e4] at hF2
       simp only [R.bind] at hF2
       obtain ⟨hg4,hi4,_⟩ := hg3.want e4
       have hto4 := want_sat hg3.ws [44]
       rw [e4] at hto4
       refine take_p h4 hg4.ws hN hg4.l fun w5 h5 he5 => ?_
       have hr5 := (hr3.eff he4).eff he5
       have he25 := (he23.trans he4).trans he5
       have tg5 := take_go hg4.ws x
       rw [condW_b]
       refine ⟨fun hy => ?_,fun hy => ?_⟩
       · rw [if_pos hy] at hF2
         exact hK out _ hF2.symm M1 v w5 h5 (hg4.take x) he25 hr5
       · rw [if_neg (by rw [hy]; decide)] at hF2
         exact ⟨_,h5,hg4.take x,he25,hr5,hF2,by have := tg.1.le; have := tg5.1.le; omega,by rw [tg5.1.toks,hto4.1.1.toks]; exact ht3⟩
     rintro _ g2 w4 ⟨s4,h4,hg4,he4,hr4,hF4,hi4,ht4⟩
     exact more h4 hg4 he4 hr4 hF4 hi4 ht4
 · have hyt : (takeS s1 x).1 = true := by simpa using hyt
   rw [if_pos hyt] at hF2
   exact hK out _ hF2.symm M1 v w3 h3 hg3 he23 hr3
end
end
end Go.Proofs.YtofhaneggcpdaaaGreatDoor
namespace Go.Proofs.YtofhaneggcpdaaaGreatDoor
open Go Go.Eng Go.RowKit Go.Syn Go.Lex
set_option maxRecDepth 100000
section
variable [HX]
variable {w0 w w' w1 : World} {p f b : Nat} {M M' M0 : Lay} {vt : Value} {s : PS} {top : List Nat} {N : Int} {K : Value → World → Prop} {e : Ex} {va vk : Value} {wbn : Nat} {wb : World} {dl : Nat}
theorem ret_ex {cs : List Value} (hp : PR w0 w p f M vt s top) (hL : Loc w0 w p f M vt b ExT cs) (hc : cs.length = 5) (hE : ER w0 w p f M vt wbn e va vk) (hA : va.ownBlock ≠ some b) (hK' : vk.ownBlock ≠ some b)
   (hK : ∀ w',PR w0 w' p f M vt s top → Chg (One b) w w' → ER w0 w' p f M vt wbn e va vk → K (.agg (exc e va vk).toArray) w') :
   stW 5 (.pointer (some ⟨b,0,none⟩)) (.agg (exc e va vk).toArray) w fun w5 => ldW true 5 (.pointer (some ⟨b,0,none⟩)) w5 fun r6 => K r6 w5 :=
 ret_agg hL.1 rfl hc (exc_one hE) fun w' hcw => hK w' (hp.one hcw hL.2) hcw (hE.one hcw hA hK')
theorem app_arg {x r : Nat} {ty : TypeId} {k a : Int} {l : Str} {av : List Nat} {KW : World → Prop} (hL : Loc w0 w p f M vt b ExT [i64 k,str l,va,vk,i64 a]) (hR : Ro w0 w p f M vt wbn IntT 1 va av.length (ints av)) (hp : PR w0 w p f M vt s top) (hr : w.heap[r]? = some (.cells [i64 (x : Nat)].toArray IntT (0,0)))
   (hn : av.length ≤ 1000000) (hB : b < wbn) (hw : wbn ≤ w.heap.size)
   (hK : ∀ va' w',Loc w0 w' p f M vt b ExT [i64 k,str l,va',vk,i64 a] → Ro w0 w' p f M vt wbn IntT 1 va' (av ++ [x]).length (ints (av ++ [x])) → PR w0 w' p f M vt s top → Chg (fun k => va.ownBlock = some k ∨ k = b) w w' → (∀ k,va'.ownBlock = some k → va.ownBlock = some k ∨ w.heap.size ≤ k) → KW w') :
   semE Tryz.prog (Builtin.append_ #[26,26] ty #[va,.slice (some ⟨r,0,none⟩) 1 1]) w fun t62 w36 => fldW 2 (.pointer (some ⟨b,0,none⟩)) fun t63 => stW 1 t63 t62 w36 KW := by
 refine Ro.app el_int hR hp hr rfl (fun u hu => by simp only [List.mem_singleton] at hu; subst hu; rfl) hn (by decide) hw fun v' w2 hR2 hc hv hp2 => ?_
 have e1 : (av ++ [x]).length = av.length + 1 := by simp
 rw [← e1,show ints av ++ [i64 (x : Nat)] = ints (av ++ [x]) from by simp [ints]] at hR2
 rw [fld_ptr,add_mk,Nat.zero_add]
 obtain ⟨vp,vc,ev,_⟩ := hR2.own.sl.shape
 refine (hL.row hc fun e => by have := hR.new b e; omega).st (by rw [ev]; rfl) (by simp) fun w3 L3 hc3 hz3 => ?_
 exact hK v' w3 L3 (hR2.one hc3 fun e => by have := hR2.new b e; omega) (hp2.one hc3 L3.2) ((hc.mono fun k _ e => .inl e).trans (hc3.mono fun k _ e => .inr e)) hv
theorem list_p {E : PS → R Nat} {t : Tok} (hE : EC w0 f 81 E dl) (hF : Fine E) (h : PR w0 w p f M vt s top) (hg : Gd N s dl) (hc0 : (cur s).k ≠ 0) (hnow : nowS s = s)
   (hK : ∀ e s',listR E s t.a = .ok e s' → ∀ M' va vk w',PR w0 w' p f M' vt s' top → Gd N s' dl → Eff p f M M' w w' → ER w0 w' p f M' vt w.heap.size e va vk → K (.agg (exc e va vk).toArray) w') (ht : ∀ c a',listR E s t.a = .err c a' → Thr w0 f c a') :
   callF Tryz.prog 156 [.pointer (some ⟨p,0,none⟩),.agg (tokc t).toArray] w K := by
 refine W156_ok ?_
 unfold W156
 have hN := hg.hN
 have hg1 : Gd N (step1 s) dl := by have := hg.step hc0; rw [hnow] at this; exact this
 refine box_new (z := tokc t) fun b3 w1 hb3 hz1 hbb1 hx1 => ?_
 have h1 := h.ext hx1
 have L3 := h.loc hz1 hb3 hbb1
 refine alloc_new fun b4 w2 hb4 hz2 hbb2 hx2 => ?_
 have h2 := h1.ext hx2
 have L4 := h1.loc hz2 hb4 hbb2
 have L3 := L3.ext hx2
 have he2 : Eff p f M M w w2 := (Eff.ext hx1).x hx2
 refine h2.go (wsi hg.ws hg.l) fun w3 h3 he3 hz3 => ?_
 have L3 := L3.eff he3
 have L4 := L4.eff he3
 have he3 := he2.trans he3
 refine now_p h3 hg1.ws hN hg1.l fun w4 h4 he4 => ?_
 have L3 := L3.eff he4
 have L4 := L4.eff he4
 have he4 := he3.trans he4
 have lt3 := L3.lt
 have lt4 := L4.lt
 refine alloc_new fun b5 w5 hb5 hz5 hbb5 hx5 => ?_
 have h5 := h4.ext hx5
 have L5 := h4.loc hz5 hb5 hbb5
 have L3 := L3.ext hx5
 have L4 := L4.ext hx5
 have he5 := he4.x hx5
 have hw4 := he4.chg.size
 refine st_agg_at (l := tokc (cur (step1 s))) L5.1 rfl rfl rfl fun w6 hz6 hb6 hc6 => ?_
 have L5 : Loc w0 w6 p f M vt b5 TkT (tokc (cur (step1 s))) := ⟨hb6,L5.2.up (by omega)⟩
 have h6 := h5.one hc6 L5.2
 have L3 := L3.one hc6 (by omega)
 have L4 := L4.one hc6 (by omega)
 have he6 := he5.one hc6 (by omega)
 have hw6 := he6.chg.size
 have hgn := hg1.now
 refine L5.ldf rfl ?_
 rw [bin_neq]
 simp only [isB_f]
 refine GdW.look (decide ((cur (step1 s)).t ≠ kFor)) (fun _ J hJ => ?_) fun g => ?_
 · refine L5.ldf rfl ?_
   rw [bin_sne]
   exact hJ
 simp only [List.getD_cons_zero]
 rw [pick_gd_or,condW_b]
 unfold listR at hK ht
 simp only at hK ht
 refine ⟨fun hcc => ?_,fun hcc => ?_⟩
 · have hc : (cur (step1 s)).k ≠ 1 ∨ (cur (step1 s)).t ≠ kFor := by simpa using hcc
   rw [if_pos hc] at hK ht
   have L3 := L3.drew
   rw [fld_ptr,add_mk,Nat.zero_add]
   refine L3.ld rfl ?_
   refine args_p hE hF h6.drew hgn (fun l s' el M' v w7 h7 hg7 he7 hr7 => ?_) fun c a' el => ht c a' (by rw [el]; rfl)
   rw [el] at hK
   simp only [R.bind] at hK
   have L3 := L3.eff he7
   refine ⟨L3.ld rfl rfl,?_⟩
   obtain ⟨q,cap,ev,_⟩ := hr7.own.sl.shape
   subst ev
   simp only [put_int,put_slice,put_nil,List.length_cons,List.length_nil,List.set_cons_zero,List.set_cons_succ,Nat.reduceAdd,Nat.reduceLT,true_and,Nat.zero_lt_succ]
   have zd : w6.drew.heap.size = w6.heap.size := rfl
   have hER : ER w0 w7 p f M' vt w6.heap.size ⟨7,[],l,[],t.a⟩ (.slice q l.length cap) (.slice none 0 0) := ER.noK rfl hr7
   refine ret_ex (e := ⟨7,[],l,[],t.a⟩) h7 (L4.drew.eff he7) rfl hER (fun e => by have := hr7.new _ e; omega) (by simp [Value.ownBlock]) fun w8 h8 hc8 hE8 => ?_
   exact hK _ _ rfl M' _ _ w8 h8 hg7 (((he6.x (ext_drew w6)).trans he7).one hc8 (by omega)) (hE8.le (by omega))
 · have hc : ¬ ((cur (step1 s)).k ≠ 1 ∨ (cur (step1 s)).t ≠ kFor) := by simpa using hcc
   rw [if_neg hc] at hK ht
   have hk1 : (cur (step1 s)).k ≠ 0 := fun e => hc (.inl (by rw [e]; decide))
   have hgs := hg1.step hk1
   refine h6.go (wsi hgn.ws hgn.l) fun w7 h7 he7 hz7 => ?_
   have L3 := L3.eff he7
   have L4 := L4.eff he7
   have he7 := he6.trans he7
   -- the name
   refine JoinW.cut (fun st w' => ∃ b6 u s2,st = [.pointer (some ⟨b6,0,none⟩)] ∧ kindR (step1 (nowS (step1 s))) 1 = .ok u s2 ∧ PR w0 w' p f M vt s2 top ∧ Gd N s2 dl ∧ Eff p f M M w w' ∧ Loc w0 w' p f M vt b6 ExT [i64 29,str u.t,.slice none 0 0,.slice none 0 0,i64 t.a] ∧ Loc w0 w' p f M vt b4 ExT [.int .i64 0,.string (ofL []),.slice none 0 0,.slice none 0 0,.int .i64 0] ∧ b4 < b6 ∧ w.heap.size ≤ b6) ?_ ?_
   · have L3 := L3.drew
     have L4 := L4.drew
     have h7 := h7.drew
     have he7 := he7.x (ext_drew w7)
     have zd : w7.drew.heap.size = w7.heap.size := rfl
     have ld3 : ∀ {w' : World},Loc w0 w' p f M vt b3 TkT (tokc t) → ldW false 1 (.pointer (some ⟨b3,2,none⟩)) w' fun x => x = i64 t.a := fun L => L.ld rfl rfl
     rw [fld_ptr,add_mk,Nat.zero_add]
     refine L3.ld rfl ?_
     refine ⟨?_,?_⟩
     · refine kind_p h7 hgs.ws hN hgs.l (fun u s2 eu w8 h8 he8 => ?_) fun c a' eu => ht c a' (by rw [eu]; rfl)
       have L3 := L3.eff he8
       have L4 := L4.eff he8
       have he8 := he7.trans he8
       refine ⟨ld3 L3,str u.t,rfl,?_⟩
       simp only [put_int,put_str,put_nil,List.length_cons,List.length_nil,List.set_cons_zero,List.set_cons_succ,Nat.reduceAdd,Nat.reduceLT,true_and,Nat.zero_lt_succ]
       refine alloc_new fun b6 w9 hb6' hz9 hbb9 hx9 => ?_
       have L6 := h8.loc hz9 hb6' hbb9
       refine ⟨ld3 (L3.ext hx9),?_⟩
       refine st_agg_at (l := [i64 29,str u.t,.slice none 0 0,.slice none 0 0,i64 t.a]) L6.1 rfl rfl rfl fun w10 hz10 hbb10 hc10 => ?_
       have lt4' := L4.lt
       have hw8 := he8.chg.size
       exact ⟨b6,u,s2,rfl,eu,(h8.ext hx9).one hc10 L6.2,(hgs.kind (by decide) eu).1,(he8.x hx9).one hc10 (by omega),⟨hbb10,L6.2.up (by omega)⟩,(L4.ext hx9).one hc10 (by omega),by omega,by omega⟩
     · refine alloc_new fun b6 w9 hb6' hz9 hbb9 hx9 => ?_
       have L6 := h7.loc hz9 hb6' hbb9
       have L3 := L3.ext hx9
       have lt4' := L4.lt
       have hw8 := he7.chg.size
       refine ⟨ld3 L3,?_⟩
       refine kind_p (h7.ext hx9) hgs.ws hN hgs.l (fun u s2 eu w8 h8 he8 => ?_) fun c a' eu => ht c a' (by rw [eu]; rfl)
       have L3 := L3.eff he8
       have L4 := (L4.ext hx9).eff he8
       have L6 := L6.eff he8
       have he8 := (he7.x hx9).trans he8
       refine ⟨ld3 L3,str u.t,rfl,?_⟩
       simp only [put_int,put_str,put_nil,List.length_cons,List.length_nil,List.set_cons_zero,List.set_cons_succ,Nat.reduceAdd,Nat.reduceLT,true_and,Nat.zero_lt_succ]
       refine st_agg_at (l := [i64 29,str u.t,.slice none 0 0,.slice none 0 0,i64 t.a]) L6.1 rfl rfl rfl fun w10 hz10 hbb10 hc10 => ?_
       exact ⟨b6,u,s2,rfl,eu,h8.one hc10 L6.2,(hgs.kind (by decide) eu).1,he8.one hc10 (by omega),⟨hbb10,L6.2.up (by omega)⟩,L4.one hc10 (by omega),by omega,by omega⟩
   rintro st g2 w8 ⟨b6,u,s2,rfl,eu,h8,hg8,he8,L6,L4,hb46,hwb6⟩
   simp only [List.getD_cons_zero]
   rw [eu] at hK ht
   simp only [R.bind] at hK ht
   -- in
   refine JoinW.cut (fun _ w' => ∃ v s3,kindR s2 1 = .ok v s3 ∧ v.t = kIn ∧ PR w0 w' p f M vt s3 top ∧ Gd N s3 dl ∧ Eff p f M M w8 w') ?_ ?_
   · refine kind_p h8 hg8.ws hN hg8.l (fun v s3 ev w9 h9 he9 => ?_) fun c a' ev => ht c a' (by rw [ev])
     refine alloc_new fun b7 w10 hb7 hz10 hbb10 hx10 => ?_
     have h10 := h9.ext hx10
     have L7 := h9.loc hz10 hb7 hbb10
     refine st_agg_at (l := tokc v) L7.1 rfl rfl rfl fun w11 hz11 hbb11 hc11 => ?_
     have L7 : Loc w0 w11 p f M vt b7 TkT (tokc v) := ⟨hbb11,L7.2.up (by omega)⟩
     have h11 := h10.one hc11 L7.2
     have z9 := he9.chg.size
     refine L7.ldf rfl ?_
     rw [bin_sne,condW_dec]
     refine ⟨fun hne => ?_,fun hne => ⟨v,s3,ev,?_,h11,(hg8.kind (by decide) ev).1,(he9.x hx10).one hc11 (by omega)⟩⟩
     · refine L7.ldf rfl ?_
       exact fail_p h11 (ht _ _ (by rw [ev]; simp only; exact if_pos hne))
     · by_cases h : v.t = [105,110]
       · exact h
       · exact absurd h hne
   rintro _ g3 w9 ⟨v,s3,ev,hvt,h9,hg9,he9⟩
   rw [ev] at hK ht
   simp only [if_neg (show ¬ v.t ≠ kIn from fun h => h hvt)] at hK ht
   have L6 := (L6.eff he9).drew
   have L4 := (L4.eff he9).drew
   have h9 := h9.drew
   have he9 := (he8.trans he9).x (ext_drew w9)
   have zd : w9.drew.heap.size = w9.heap.size := rfl
   have hw9 := he9.chg.size
   have lt6 := L6.lt
   rw [fld_ptr,add_mk,Nat.zero_add]
   refine L6.ld rfl ?_
   -- the list
   refine hE w9.drew p M vt s3 top N _ h9 hg9 (fun x s4 ex M4 w10 h10 he10 => ?_) fun c a' ex => ht c a' (by rw [ex])
   rw [ex] at hK ht
   simp only at hK ht
   obtain ⟨hg10,_⟩ := hg9.e hF ex
   have L6 := L6.eff he10
   have L4 := L4.eff he10
   have he10 := he9.trans he10
   refine ⟨L6.ld rfl rfl,?_⟩
   refine bsl_int1 fun r w11 hr hz11 hrb hx11 => ?_
   have L6 := L6.ext hx11
   have L4 := L4.ext hx11
   have h11 := h10.ext hx11
   have he11 := he10.x hx11
   have hw11 := he11.chg.size
   have lt6 := L6.lt
   have lt4 := L4.lt
   refine ⟨L6.ld rfl rfl,?_⟩
   refine app_arg (wbn := w11.heap.size) (av := []) L6 (Ro.nil _ _) h11 hrb (by simp) lt6 (Nat.le_refl _) fun va1 w12 L6 hR12 h12 hc12 hv12 => ?_
   have he12 := he11.then hc12 fun k hk e => by
     rcases e with e | e
     · simp [Value.ownBlock] at e
     · omega
   have hw12 := he12.chg.size
   have L4 : Loc w0 w12 p f M4 vt b4 ExT [.int .i64 0,.string (ofL []),.slice none 0 0,.slice none 0 0,.int .i64 0] := ⟨hc12.at L4.1 fun e => e.elim (by simp [Value.ownBlock]) (by omega),L4.2.up hc12.size⟩
   have hz12 := hc12.size
   -- :
   refine want_p h12 hg10.ws hN hg10.l (fun s5 e5 w13 h13 he13 => ?_) fun c a' e5 => ht c a' (by rw [e5])
   rw [e5] at hK ht
   simp only at hK ht
   obtain ⟨hg13,_⟩ := hg10.want e5
   have L6 := (L6.eff he13).drew
   have L4 := (L4.eff he13).drew
   have hR13 := (hR12.eff he13).ext (ext_drew w13)
   have h13 := h13.drew
   have zd13 : w13.drew.heap.size = w13.heap.size := rfl
   have hz13 := he13.chg.size
   have he13 := (he12.trans he13).x (ext_drew w13)
   rw [fld_ptr,add_mk,Nat.zero_add]
   refine L6.ld rfl ?_
   refine hE w13.drew p M4 vt s5 top N _ h13 hg13 (fun y s6 ey M6 w14 h14 he14 => ?_) fun c a' ey => ht c a' (by rw [ey])
   rw [ey] at hK ht
   simp only at hK ht
   obtain ⟨hg14,_⟩ := hg13.e hF ey
   have L6 := L6.eff he14
   have L4 := L4.eff he14
   have hR14 := hR13.eff he14
   have hz14 := he14.chg.size
   have he14 := he13.trans he14
   refine ⟨L6.ld rfl rfl,?_⟩
   refine bsl_int1 fun r2 w15 hr2 hz15 hrb2 hx15 => ?_
   have L6 := L6.ext hx15
   have L4 := L4.ext hx15
   have h15 := h14.ext hx15
   have he15 := he14.x hx15
   refine ⟨L6.ld rfl rfl,?_⟩
   refine app_arg (wbn := w11.heap.size) (av := [x]) L6 (hR14.ext hx15) h15 hrb2 (by simp) (by omega) (by omega) fun va2 w16 L6 hR16 h16 hc16 hv16 => ?_
   have he16 := he15.then hc16 fun k hk e => by
     rcases e with e | e
     · have := hR14.new k e; omega
     · omega
   have L4 : Loc w0 w16 p f M6 vt b4 ExT [.int .i64 0,.string (ofL []),.slice none 0 0,.slice none 0 0,.int .i64 0] := ⟨hc16.at L4.1 fun e => e.elim (fun e => by have := hR14.new _ e; omega) (by omega),L4.2.up hc16.size⟩
   -- ]
   refine want_p h16 hg14.ws hN hg14.l (fun s7 e7 w17 h17 he17 => ?_) fun c a' e7 => ht c a' (by rw [e7])
   rw [e7] at hK
   simp only at hK
   obtain ⟨hg17,_⟩ := hg14.want e7
   have L6 := L6.eff he17
   have L4 := L4.eff he17
   have hR17 := hR16.eff he17
   have he17 := he16.trans he17
   refine ld_all L6.1 rfl ?_
   refine ret_ex (e := ⟨29,u.t,[x,y],[],t.a⟩) h17 L4 rfl (ER.noK rfl hR17) (fun e => by have := hR17.new _ e; omega) (by simp [Value.ownBlock]) fun w18 h18 hc18 hE18 => ?_
   exact hK _ _ rfl M6 _ _ w18 h18 hg17 (he17.one hc18 (by omega)) (hE18.le (by omega))
end
end Go.Proofs.YtofhaneggcpdaaaGreatDoor
namespace Go.Proofs.YtofhaneggcpdaaaGreatDoor
open Go Go.Eng Go.RowKit Go.Syn Go.Lex
set_option maxRecDepth 100000
theorem Gd.tx {N : Int} {s : PS} {dl : Nat} (h : Gd N s dl) (hk : (cur s).k = 3) : TxOk (cur s).t ∧ (cur s).t.length ≤ 100000 := by
 have hn := h.now
 have hm := List.mem_of_getElem? (tok_some hn.ws)
 have := hn.ts _ hm (show (tokI (nowS s)).k = 3 from hk)
 exact this
section
variable [HX]
variable {w0 w w' w1 : World} {p f b : Nat} {M M' M0 : Lay} {vt : Value} {s : PS} {top : List Nat} {N : Int} {K : Value → World → Prop} {e : Ex} {va vk : Value} {wbn : Nat} {wb : World} {dl : Nat}
theorem object_p {E : PS → R Nat} {t : Tok} (hE : EC w0 f 81 E dl) (hF : Fine E) (h : PR w0 w p f M vt s top) (hg : Gd N s dl) (hc0 : (cur s).k ≠ 0) (hnow : nowS s = s)
   (hK : ∀ e s',objR E s t.a = .ok e s' → ∀ M' va vk w',PR w0 w' p f M' vt s' top → Gd N s' dl → Eff p f M M' w w' → ER w0 w' p f M' vt w.heap.size e va vk → K (.agg (exc e va vk).toArray) w') (ht : ∀ c a',objR E s t.a = .err c a' → Thr w0 f c a') :
   callF Tryz.prog 158 [.pointer (some ⟨p,0,none⟩),.agg (tokc t).toArray] w K := by
 refine W158_ok ?_
 unfold W158
 have hN := hg.hN
 have hg1 : Gd N (step1 s) dl := by have := hg.step hc0; rw [hnow] at this; exact this
 refine box_new (z := tokc t) fun b3 w1 hb3 hz1 hbb1 hx1 => ?_
 have h1 := h.ext hx1
 have L3 := h.loc hz1 hb3 hbb1
 refine alloc_new fun b4 w2 hb4 hz2 hbb2 hx2 => ?_
 have h2 := h1.ext hx2
 have L4 := h1.loc hz2 hb4 hbb2
 have L3 := L3.ext hx2
 have he2 : Eff p f M M w w2 := (Eff.ext hx1).x hx2
 refine h2.go (wsi hg.ws hg.l) fun w3 h3 he3 hz3 => ?_
 have L3 := L3.eff he3
 have L4 := L4.eff he3
 have he3 := he2.trans he3
 refine L3.ldf rfl ?_
 simp only [put_int,put_str,put_nil,List.length_cons,List.length_nil,List.set_cons_zero,List.set_cons_succ,Nat.reduceAdd,Nat.reduceLT,true_and,Nat.zero_lt_succ]
 have lt4 := L4.lt
 refine alloc_new fun b5 w4 hb5 hz4 hbb4 hx4 => ?_
 have L5 := h3.loc hz4 hb5 hbb4
 have h4 := h3.ext hx4
 have L4 := L4.ext hx4
 refine st_agg_at (l := [i64 8,str [],.slice none 0 0,.slice none 0 0,i64 t.a]) L5.1 rfl rfl rfl fun w5 hz5 hbb5 hc5 => ?_
 have L5 : Loc w0 w5 p f M vt b5 ExT [i64 8,str [],.slice none 0 0,.slice none 0 0,i64 t.a] := ⟨hbb5,L5.2.up (by omega)⟩
 have h5 := h4.one hc5 L5.2
 have L4 := L4.one hc5 (by omega)
 have he5 : Eff p f M M w w5 := (he3.x hx4).one hc5 (by have := he3.chg.size; omega)
 refine lines_p h5 hg1.ws hN hg1.l fun w6 h6 he6 => ?_
 have L4 := L4.eff he6
 have L5 := L5.eff he6
 have he6 := he5.trans he6
 have hg6 := hg1.lines
 unfold objR at hK ht
 generalize hR : objF E t.a (s.toks.length + 1) (linesS (step1 s)) [] [] = R0 at hK ht
 have hw6 := he6.chg.size
 obtain ⟨B1,hB1⟩ : ∃ B1,B1 = w6.heap.size := ⟨_,rfl⟩
 have lt5 := L5.lt
 have lt4 := L4.lt
 have hw3 := he3.chg.size
 have htl0 : (linesS (step1 s)).toks.length = s.toks.length := congrArg List.length ((lines_go hg1.ws).1.toks)
 refine LoopW.go (fun st w' => st = [] ∧ ∃ s1 M1 av ks va vk n,PR w0 w' p f M1 vt s1 top ∧ Gd N s1 dl ∧ Eff p f M M1 w w' ∧ Loc w0 w' p f M1 vt b5 ExT [i64 8,str [],va,vk,i64 t.a] ∧ Loc w0 w' p f M1 vt b4 ExT [.int .i64 0,.string (ofL []),.slice none 0 0,.slice none 0 0,.int .i64 0] ∧
     Ro w0 w' p f M1 vt B1 IntT 1 va av.length (ints av) ∧ Ro w0 w' p f M1 vt B1 StT 1 vk ks.length (strs ks) ∧ (∀ k,va.ownBlock = some k → vk.ownBlock ≠ some k) ∧ B1 ≤ w'.heap.size ∧ objF E t.a n s1 av ks = R0 ∧ s1.toks.length < n + s1.i ∧ av.length ≤ s1.i ∧ ks.length = av.length ∧ s1.toks.length = s.toks.length) (fun _ w' => s.toks.length - psAt w' p)
   ⟨rfl,_,M,[],[],_,_,s.toks.length + 1,h6,hg6,he6,L5,L4,Ro.nil _ _,Ro.nil _ _,fun k hk => by simp [Value.ownBlock] at hk,by omega,hR,by omega,by simp,rfl,htl0⟩ ?_
 rintro st g w7 ⟨rfl,s1,M1,av,ks,va,vk,n,h7,hg7,he7,L5,L4,rA,rK,dd,hz7,hob,hn,hav,hks,htl⟩
 have hlt7 := hg7.ws.lt
 obtain ⟨n,rfl⟩ : ∃ m,n = m + 1 := ⟨n - 1,by omega⟩
 refine take_p h7 hg7.ws hN hg7.l fun w8 h8 he8 => ?_
 have L4 := L4.eff he8
 have L5 := L5.eff he8
 have rA := rA.eff he8
 have rK := rK.eff he8
 have hz8 := he8.chg.size
 have he8 := he7.trans he8
 have hg8 := hg7.take [125]
 have tg := take_go hg7.ws [125]
 have tgt := congrArg List.length tg.1.toks
 simp only [objF] at hob
 rw [un_not,condW_b]
 refine ⟨fun hnt => ?_,fun hyt => ?_⟩
 · have hnt : (takeS s1 [125]).1 = false := by simpa using hnt
   rw [if_neg (by rw [hnt]; decide)] at hob
   generalize hs2 : (takeS s1 [125]).2 = s2 at *
   refine next_p h8 hg8.ws hN hg8.l fun w9 h9 he9 => ?_
   have L4 := L4.eff he9
   have L5 := L5.eff he9
   have rA := rA.eff he9
   have rK := rK.eff he9
   have hz9 := he9.chg.size
   have he9 := he8.trans he9
   have hg9 := hg8.next
   have ng := next_go hg8.ws
   have ngt := congrArg List.length ng.1.toks
   have hc2 := hg8.at0
   have lt5 := L5.lt
   have lt4 := L4.lt
   refine alloc_new fun b6 w10 hb6 hz10 hbb10 hx10 => ?_
   have L6 := h9.loc hz10 hb6 hbb10
   have h10 := h9.ext hx10
   have L4 := L4.ext hx10
   have L5 := L5.ext hx10
   have nA6 : va.ownBlock ≠ some b6 := fun e => by have := (rA.off _ e).1.2; omega
   have nK6 : vk.ownBlock ≠ some b6 := fun e => by have := (rK.off _ e).1.2; omega
   have rA := rA.ext hx10
   have rK := rK.ext hx10
   refine st_agg_at (l := tokc (cur s2)) L6.1 rfl rfl rfl fun w11 hz11 hbb11 hc11 => ?_
   have L6 : Loc w0 w11 p f M1 vt b6 TkT (tokc (cur s2)) := ⟨hbb11,L6.2.up (by omega)⟩
   have h11 := h10.one hc11 L6.2
   have L4 := L4.one hc11 (by omega)
   have L5 := L5.one hc11 (by omega)
   have rA := rA.one hc11 nA6
   have rK := rK.one hc11 nK6
   have he11 : Eff p f M M1 w w11 := (he9.x hx10).one hc11 (by have := he9.chg.size; omega)
   have hw11 := he11.chg.size
   -- the key
   refine JoinW.cut (fun _ w' => ∃ k s3,(if (cur s2).k = 3 then plainR (nextS s2) (cur s2) else if (cur s2).k = 1 then .ok (cur s2).t (nextS s2) else .err 50 (cur s2).a) = .ok k s3 ∧ s3 = nextS s2 ∧ PR w0 w' p f M1 vt (nextS s2) top ∧ Loc w0 w' p f M1 vt b6 TkT [i64 (cur s2).k,str k,i64 (cur s2).a] ∧ Eff p f M M1 w w' ∧ Loc w0 w' p f M1 vt b5 ExT [i64 8,str [],va,vk,i64 t.a] ∧ Loc w0 w' p f M1 vt b4 ExT [.int .i64 0,.string (ofL []),.slice none 0 0,.slice none 0 0,.int .i64 0] ∧ Ro w0 w' p f M1 vt B1 IntT 1 va av.length (ints av) ∧ Ro w0 w' p f M1 vt B1 StT 1 vk ks.length (strs ks) ∧ w11.heap.size ≤ w'.heap.size) ?_ ?_
   · refine L6.ldf rfl ?_
     rw [bin_eql,condW_dec]
     refine ⟨fun hk3 => ?_,fun hk3 => ?_⟩
     · have htx := hg8.tx hk3
       rw [if_pos hk3] at hob
       refine ld_all L6.1 rfl ?_
       refine plain_p h11 htx.1 (by omega) (fun l s3 el w12 hx12 => ?_) fun c a' el => ht c a' (by rw [← hob,el]; rfl)
       rw [fld_ptr,add_mk,Nat.zero_add]
       refine (L6.ext hx12).st rfl (by simp [tokc]) fun w13 L6 hc13 hz13 => ?_
       have h13 := (h11.ext hx12).one hc13 L6.2
       have e3 : s3 = nextS s2 := by
         unfold plainR at el
         split at el
         · cases el
         · injection el with _ el; exact el.symm
       exact ⟨l,s3,by rw [if_pos hk3]; exact el,e3,h13,L6,(he11.x hx12).one hc13 (by have := he9.chg.size; omega),(L5.ext hx12).one hc13 (by omega),(L4.ext hx12).one hc13 (by omega),(rA.ext hx12).one hc13 nA6,(rK.ext hx12).one hc13 nK6,by have := hx12.size; omega⟩
     · rw [bin_eql,condW_dec]
       refine ⟨fun hk1 => ?_,fun hk1 => ?_⟩
       · exact ⟨_,_,by rw [if_neg hk3,if_pos hk1],rfl,h11,L6,he11,L5,L4,rA,rK,Nat.le_refl _⟩
       · refine L6.ldf rfl ?_
         refine fail_p h11 (ht 50 (cur s2).a ?_)
         rw [← hob,if_neg hk3,if_neg hk1]
         rfl
   rintro _ g2 w12 ⟨k,s3,ek,rfl,h12,L6,he12,L5,L4,rA,rK,hz12⟩
   rw [ek] at hob
   simp only [R.bind] at hob
   -- is it there?
   refine JoinW.cut (fun _ w' => w' = w12 ∧ ks.contains k = false) ?_ ?_
   · rw [fld_ptr,add_mk,Nat.zero_add]
     refine L5.ld rfl ?_
     refine L6.ldf rfl ?_
     refine containss_p rK.own.sl (by have := hg7.few; omega) ?_
     rw [condW_dec]
     refine ⟨fun hm => ?_,fun hm => ⟨rfl,by simpa using hm⟩⟩
     refine L6.ldf rfl ?_
     refine fail_p h12 (ht 2 (cur s2).a ?_)
     rw [← hob,if_pos (by simpa using hm)]
   rintro _ g3 w13 ⟨rfl,hnk⟩
   rw [if_neg (by rw [hnk]; decide)] at hob
   -- =
   refine want_p h12 hg9.ws hN hg9.l (fun s4 e4 w14 h14 he14 => ?_) fun c a' e4 => ht c a' (by rw [← hob,e4])
   rw [e4] at hob
   simp only at hob
   obtain ⟨hg14,hi14,_⟩ := hg9.want e4
   have w14s := want_sat hg9.ws [61]
   rw [e4] at w14s
   have w14t := congrArg List.length w14s.1.1.toks
   have L4 := (L4.eff he14).drew
   have L5 := (L5.eff he14).drew
   have L6 := (L6.eff he14).drew
   have rA := (rA.eff he14).ext (ext_drew w14)
   have rK := (rK.eff he14).ext (ext_drew w14)
   have hz14 := he14.chg.size
   have zd14 : w14.drew.heap.size = w14.heap.size := rfl
   have he14 := (he12.trans he14).x (ext_drew w14)
   have h14 := h14.drew
   rw [fld_ptr,add_mk,Nat.zero_add]
   refine L5.ld rfl ?_
   refine L6.ldf rfl ?_
   rw [fld_ptr,add_mk,Nat.zero_add]
   refine L5.ld rfl ?_
   refine bsl_str fun r w15 hr hz15 hrb hx15 => ?_
   have L4 := L4.ext hx15
   have L5 := L5.ext hx15
   have rA := rA.ext hx15
   have rK := rK.ext hx15
   have h15 := h14.ext hx15
   have he15 := he14.x hx15
   have hw15 := he15.chg.size
   refine ⟨L5.ld rfl rfl,L5.ld rfl rfl,?_⟩
   refine Ro.app el_st rK h15 hrb rfl (fun u hu => by simp only [List.mem_singleton] at hu; subst hu; rfl) (by have := hg7.few; omega) (by decide) (by omega) fun vk' w16 rK' hc16 hv16 h16 => ?_
   have L5 := L5.row hc16 fun e => by have := rK.new b5 e; omega
   have L4 := L4.row hc16 fun e => by have := rK.new b4 e; omega
   have dd' : ∀ k,va.ownBlock = some k → vk'.ownBlock ≠ some k := fun k hk e => (hv16 k e).elim (dd k hk) fun e => by have := (rA.off k hk).1.2; omega
   have rA := rA.row hc16 dd
   have he16 := he15.then hc16 fun k hk e => by have := rK.new k e; omega
   have hz16 := hc16.size
   refine ⟨L5.ld rfl rfl,?_⟩
   rw [fld_ptr,add_mk,Nat.zero_add]
   -- the value
   refine hE w16 p M1 vt s4 top N _ h16 hg14 (fun x s5 ex M5 w17 h17 he17 => ?_) fun c a' ex => ht c a' (by rw [← hob,ex])
   rw [ex] at hob
   simp only at hob
   obtain ⟨hg17,hi17⟩ := hg14.e hF ex
   have e17t := hF.ok N s4 hg14.ws
   rw [ex] at e17t
   have e17t := congrArg List.length e17t.1.1.toks
   have L4 := L4.eff he17
   have L5 := L5.eff he17
   have rA := rA.eff he17
   have rK := rK'.eff he17
   have hz17 := he17.chg.size
   have he17 := he16.trans he17
   refine ⟨L5.ld rfl rfl,?_⟩
   refine bsl_int1 fun r2 w18 hr2 hz18 hrb2 hx18 => ?_
   have L4 := L4.ext hx18
   have L5 := L5.ext hx18
   have rA := rA.ext hx18
   have rK := rK.ext hx18
   have h18 := h17.ext hx18
   have he18 := he17.x hx18
   have hw18 := he18.chg.size
   refine ⟨L5.ld rfl rfl,?_⟩
   refine Ro.app el_int rA h18 hrb2 rfl (fun u hu => by simp only [List.mem_singleton] at hu; subst hu; rfl) (by have := hg7.few; omega) (by decide) (by omega) fun va' w19 rA' hc19 hv19 h19 => ?_
   have L5 := L5.row hc19 fun e => by have := rA.new b5 e; omega
   have L4 := L4.row hc19 fun e => by have := rA.new b4 e; omega
   have dd2 : ∀ k,va'.ownBlock = some k → vk'.ownBlock ≠ some k := fun k hk e => (hv19 k hk).elim (fun h => dd' k h e) fun h => by have := (rK.off k e).1.2; omega
   have rK := rK.row hc19 fun k hk e => dd' k e hk
   have he19 := he18.then hc19 fun k hk e => by have := rA.new k e; omega
   have hz19 := hc19.size
   obtain ⟨vp,vc,ev,_⟩ := rK.own.sl.shape
   refine L5.st (by rw [ev]; rfl) (by simp) fun w20 L5 hc20 hz20 => ?_
   have h20 := h19.one hc20 L5.2
   have L4 := L4.one hc20 (by omega)
   have nA5 : va'.ownBlock ≠ some b5 := fun e => by have := rA'.new b5 e; omega
   have nK5 : vk'.ownBlock ≠ some b5 := fun e => by have := rK.new b5 e; omega
   have rA := rA'.one hc20 nA5
   have rK := rK.one hc20 nK5
   rw [fld_ptr,add_mk,Nat.zero_add]
   obtain ⟨vp2,vc2,ev2,_⟩ := rA.own.sl.shape
   refine L5.st (by rw [ev2]; rfl) (by simp) fun w21 L5 hc21 hz21 => ?_
   have h21 := h20.one hc21 L5.2
   have L4 := L4.one hc21 (by omega)
   have rA := rA.one hc21 nA5
   have rK := rK.one hc21 nK5
   have hw5 : w.heap.size ≤ b5 := by omega
   have he21 := (he19.one hc20 hw5).one hc21 hw5
   simp only [List.set_cons_zero,List.set_cons_succ] at L5
   have hg5 := hg17.take [44]
   have tg5 := take_go hg17.ws [44]
   have tg5t := congrArg List.length tg5.1.toks
   -- ,or a line's end,or }
   refine JoinW.cut (fun _ w' => ∃ s6,(s6 = (takeS s5 [44]).2 ∨ s6 = nowS (takeS s5 [44]).2) ∧ objF E t.a n (linesS s6) (av ++ [x]) (ks ++ [k]) = R0 ∧ PR w0 w' p f M5 vt s6 top ∧ Eff p f M5 M5 w21 w') ?_ ?_
   · refine take_p h21 hg17.ws hN hg17.l fun w22 h22 he22 => ?_
     rw [un_not]
     simp only [isB_t]
     by_cases hy : (takeS s5 [44]).1 = true
     · rw [hy,Bool.not_true,GdW_f]
       intro g4
       rw [pick_f]
       simp only [isB_t,GdW_f]
       intro g5
       rw [pick_f,condW_false]
       rw [if_neg (fun h => by rw [hy] at h; exact absurd h.1 (by decide)),if_pos hy] at hob
       exact ⟨_,.inl rfl,hob,h22,he22⟩
     · have hy : (takeS s5 [44]).1 = false := by simpa using hy
       rw [hy,Bool.not_false]
       have hyn : (if (takeS s5 [44]).1 = true then (takeS s5 [44]).2 else nowS (takeS s5 [44]).2) = nowS (takeS s5 [44]).2 := if_neg (by rw [hy]; decide)
       rw [hyn] at hob
       refine GdW.act (decide ((cur (takeS s5 [44]).2).k ≠ 5)) (fun w' => PR w0 w' p f M5 vt (nowS (takeS s5 [44]).2) top ∧ Eff p f M5 M5 w21 w') (fun e => by cases e) (fun _ J hJ => ?_) fun g4 w23 hR23 => ?_
       · refine now_p h22 hg5.ws hN hg5.l fun w23 h23 he23 => ?_
         refine ⟨i64 (cur (takeS s5 [44]).2).k,rfl,?_⟩
         dsimp only
         rw [bin_neq]
         exact hJ w23 ⟨h23,he22.trans he23⟩
       simp only [List.getD_cons_zero,cond_true,pick_t]
       obtain ⟨h23,he23⟩ := hR23
       have hgn := hg5.now
       by_cases h5 : (cur (takeS s5 [44]).2).k ≠ 5
       · rw [decide_eq_true h5]
         simp only [isB_t]
         refine GdW.act (!isS (nowS (takeS s5 [44]).2) [125]) (fun w' => PR w0 w' p f M5 vt (nowS (takeS s5 [44]).2) top ∧ Eff p f M5 M5 w21 w') (fun e => by cases e) (fun _ J hJ => ?_) fun g5 w24 hR24 => ?_
         · refine bsl_str fun b w24 hb hz24 hbb hx24 => ?_
           have h24 := h23.ext hx24
           have L := h23.loc hz24 hb hbb
           refine is_p h24 hgn.ws hN hgn.l ⟨slat_new hbb rfl,fun k hk => by simp only [Value.ownBlock,Option.some.injEq] at hk; subst hk; exact L.2⟩ fun w25 h25 he25 => ?_
           rw [un_not]
           rw [nowS_idem] at h25
           exact hJ w25 ⟨h25,(he23.x hx24).trans he25⟩
         obtain ⟨h24,he24⟩ := hR24
         simp only [List.getD_cons_zero,cond_true,pick_t]
         rw [condW_b]
         refine ⟨fun hn' => ?_,fun hn' => ?_⟩
         · have hn' : isS (nowS (takeS s5 [44]).2) [125] = false := by simpa using hn'
           refine now_p h24 hgn.ws hN hgn.l fun w25 h25 he25 => ?_
           refine ⟨i64 (cur (nowS (takeS s5 [44]).2)).a,rfl,?_⟩
           refine fail_p h25 (ht 50 _ ?_)
           rw [← hob,if_pos ⟨hy,h5,hn'⟩]
         · have hn' : isS (nowS (takeS s5 [44]).2) [125] = true := by simpa using hn'
           rw [if_neg (fun h => by rw [h.2.2] at hn'; cases hn')] at hob
           exact ⟨_,.inr rfl,hob,h24,he24⟩
       · rw [decide_eq_false h5]
         simp only [isB_t,GdW_f]
         intro g5
         rw [pick_f,condW_false]
         rw [if_neg (fun h => h5 h.2.1)] at hob
         exact ⟨_,.inr rfl,hob,h23,he23⟩
   rintro _ g4 w22 ⟨s6,es6,hob6,h22,he22⟩
   have hg6 : Gd N s6 dl ∧ (takeS s5 [44]).2.i ≤ s6.i ∧ s6.toks = (takeS s5 [44]).2.toks := by
     rcases es6 with rfl | rfl
     · exact ⟨hg5,Nat.le_refl _,rfl⟩
     · exact ⟨hg5.now,now_i _,(now_go hg5.ws).toks⟩
   obtain ⟨hg6,hi6,et6⟩ := hg6
   have et6 := congrArg List.length et6
   refine lines_p h22 hg6.ws hN hg6.l fun w23 h23 he23 => ?_
   have lg := lines_go hg6.ws
   have lgt := congrArg List.length lg.1.toks
   have he223 := he22.trans he23
   have hz22 := he223.chg.size
   have i1 := tg.1.le
   have i2 := ng.1.le
   have i3 := tg5.1.le
   have i4 := lg.1.le
   have hg23 := hg6.lines
   have hlt23 := hg23.ws.lt
   refine ⟨⟨rfl,linesS s6,M5,av ++ [x],ks ++ [k],va',vk',n,h23,hg23,he21.trans he223,L5.eff he223,L4.eff he223,?_,?_,dd2,by omega,hob6,by omega,?_,by simp [hks],by omega⟩,?_⟩
   · rw [List.length_append,List.length_cons,List.length_nil,ints_app]
     exact rA.eff he223
   · rw [List.length_append,List.length_cons,List.length_nil,strs_app]
     exact rK.eff he223
   · rw [List.length_append,List.length_cons,List.length_nil]; omega
   · rw [h23.at_,h7.at_]; omega
 · have hyt : (takeS s1 [125]).1 = true := by simpa using hyt
   rw [if_pos hyt] at hob
   refine ld_all L5.1 rfl ?_
   have hE8 : ER w0 w8 p f M1 vt B1 ⟨8,[],av,ks,t.a⟩ va vk := ⟨rA,rK,dd⟩
   refine ret_ex (e := ⟨8,[],av,ks,t.a⟩) h8 L4 rfl hE8 (fun e => by have := rA.new b4 e; omega) (fun e => by have := rK.new b4 e; omega) fun w9 h9 hc9 hE9 => ?_
   exact hK _ _ hob.symm M1 _ _ w9 h9 hg8 (he8.one hc9 (by omega)) (hE9.le (by omega))
end
end Go.Proofs.YtofhaneggcpdaaaGreatDoor
namespace Go.Proofs.YtofhaneggcpdaaaGreatDoor
open Go Go.Eng Go.RowKit Go.Syn Go.Lex
set_option maxRecDepth 100000
theorem win_ok {α : Type} {s : PS} {a : Int} {q : Bool} {f : PS → R α} (hd : s.deep ≠ 24) : within s a q f = (f { s with deep := s.deep + 1,quiet := q }).bind fun x s' => .ok x { s' with deep := s.deep,quiet := s.quiet } := by
 unfold within; rw [if_neg hd]
theorem win_bad {α : Type} {s : PS} {a : Int} {q : Bool} {f : PS → R α} (hd : s.deep = 24) : within s a q f = .err 7 a := by
 unfold within; rw [if_pos hd]
theorem is_now (s : PS) (w : Str) : isS (nowS s) w = isS s w := by unfold isS; rw [cur_now]
section
variable [HX]
variable {w0 w w' w1 : World} {p f b : Nat} {M M' M0 : Lay} {vt : Value} {s : PS} {top : List Nat} {N : Int} {K : Value → World → Prop} {e : Ex} {va vk : Value} {wbn : Nat} {wb : World} {dl : Nat}
theorem Gd.sign {x : Str} (hg : Gd N s (dl + 1)) (hi : isS s x = true) (q : Bool) :
   Gd N { nowS s with deep := (nowS s).deep + 1,quiet := q } dl ∧ nowS { nowS s with deep := (nowS s).deep + 1,quiet := q } = { nowS s with deep := (nowS s).deep + 1,quiet := q } ∧ (cur { nowS s with deep := (nowS s).deep + 1,quiet := q }).k ≠ 0 ∧ Gd N (step1 { nowS s with deep := (nowS s).deep + 1,quiet := q }) dl := by
 have h1 := hg.now.frame q
 obtain ⟨a,b,c⟩ := sign_here hg.ws hi ((nowS s).deep + 1) q
 have h2 := h1.step b
 rw [a] at h2
 exact ⟨h1,a,b,h2⟩
theorem isq_p {x : Str} {KK : Value → World → Prop} (h : PR w0 w p f M vt s top) (hg : Gd N s dl) (hK : ∀ w',PR w0 w' p f M vt (nowS s) top → Eff p f M M w w' → KK (.bool (isS s x)) w') :
   bslW StT 1 [(.string (ofL []))] [(0,1,str x)] w fun t60 w17 => callF Tryz.prog 42 [.pointer (some ⟨p,0,none⟩),t60] w17 KK := by
 refine bsl_str fun b w1 hb hz1 hbb hx1 => ?_
 have L1 := h.loc hz1 hb hbb
 refine is_p (h.ext hx1) hg.ws hg.hN hg.l ⟨slat_new hbb rfl,fun k hk => by simp only [Value.ownBlock,Option.some.injEq] at hk; subst hk; exact L1.2⟩ fun w2 h2 he2 => hK w2 h2 ((Eff.ext hx1).trans he2)
theorem atom_p {E : PS → R Nat} (hS : ScanC w0 f) (hE : ∀ d,dl = d + 1 → EC w0 f 81 E d) (hF : Fine E) : EC w0 f 146 (atomR E) dl := by
 intro w p M vt s top N K h hg hK ht
 refine W146_ok ?_
 unfold W146
 have hN := hg.hN
 have hat := hg.at0
 refine box_one rfl fun b1 w1 hb1 hz1 hbb1 hx1 => ?_
 have h1 := h.ext hx1
 have L1 := h.loc hz1 hb1 hbb1
 refine L1.ld rfl ?_
 refine now_p h1 hg.ws hN hg.l fun w2 h2 he2 => ?_
 have L1 := L1.eff he2
 have he2 := (Eff.ext hx1).trans he2
 have lt1 := L1.lt
 refine alloc_new fun b3 w3 hb3 hz3 hbb3 hx3 => ?_
 have h3 := h2.ext hx3
 have L3 := h2.loc hz3 hb3 hbb3
 have L1 := L1.ext hx3
 refine st_agg_at (l := tokc (cur s)) L3.1 rfl rfl rfl fun w4 hz4 hbb4 hc4 => ?_
 have L3 : Loc w0 w4 p f M vt b3 TkT (tokc (cur s)) := ⟨hbb4,L3.2.up (by omega)⟩
 have h4 := h3.one hc4 L3.2
 have L1 := L1.one hc4 (by omega)
 have hw2 := he2.chg.size
 have he4 := (he2.x hx3).one hc4 (by omega)
 refine L3.ldf rfl ?_
 simp only [put_int,put_str,put_nil,List.length_cons,List.length_nil,List.set_cons_zero,List.set_cons_succ,Nat.reduceAdd,Nat.reduceLT,true_and,Nat.zero_lt_succ]
 have lt3 := L3.lt
 refine alloc_new fun b4 w5 hb4 hz5 hbb5 hx5 => ?_
 have h5 := h4.ext hx5
 have L4 := h4.loc hz5 hb4 hbb5
 have L1 := L1.ext hx5
 have L3 := L3.ext hx5
 refine st_agg_at (l := [i64 0,str [],.slice none 0 0,.slice none 0 0,i64 (cur s).a]) L4.1 rfl rfl rfl fun w6 hz6 hbb6 hc6 => ?_
 have L4 : Loc w0 w6 p f M vt b4 ExT [i64 0,str [],.slice none 0 0,.slice none 0 0,i64 (cur s).a] := ⟨hbb6,L4.2.up (by omega)⟩
 have h6 := h5.one hc6 L4.2
 have L1 := L1.one hc6 (by omega)
 have L3 := L3.one hc6 (by omega)
 have he6 := (he4.x hx5).one hc6 (by omega)
 have hw6 := he6.chg.size
 have hgn := hg.now
 have hi1 := wsi hgn.ws hgn.l
 have hb14 : b1 ≠ b4 := by omega
 have hb34 : b3 ≠ b4 := by omega
 have hwb4 : w.heap.size ≤ b4 := by omega
 have hlev := hgn.lev
 have hd24 : (nowS s).deep ≤ 24 := by omega
 refine JoinW.cut (fun _ w' => ∃ M1 s1 e va vk,PR w0 w' p f M1 vt s1 top ∧ Gd N s1 dl ∧ Eff p f M M1 w w' ∧ Loc w0 w' p f M1 vt b1 PpT [.pointer (some ⟨p,0,none⟩)] ∧ Loc w0 w' p f M1 vt b4 ExT (exc e va vk) ∧ ER w0 w' p f M1 vt w.heap.size e va vk ∧ atomR E s = putR s1 e) ?_ ?_
 · unfold atomR at hK ht ⊢
   simp only at hK ht ⊢
   refine L3.ldf rfl ?_
   rw [bin_eql,condW_dec]
   refine ⟨fun hk => ?_,fun hk => ?_⟩
   · -- a number
     have hk0 : (cur s).k ≠ 0 := by rw [hk]; decide
     refine L1.ld rfl ?_
     refine h6.go hi1 fun w7 h7 he7 hz7 => ?_
     have L1 := L1.eff he7
     have L3 := (L3.eff he7).drew
     have L4 := (L4.eff he7).drew
     have h7 := h7.drew
     have he7 := (he6.trans he7).x (ext_drew w7)
     rw [fld_ptr,add_mk,Nat.zero_add]
     refine L3.ld rfl ?_
     rw [fld_ptr,add_mk,Nat.zero_add]
     refine L4.st rfl (by simp) fun w8 L4 hc8 hz8 => ?_
     have L3 := L3.one hc8 hb34
     refine ⟨L3.ld rfl rfl,?_⟩
     rw [fld_ptr,add_mk,Nat.zero_add]
     refine L4.st rfl (by simp) fun w9 L4 hc9 hz9 => ?_
     have h9 := (h7.one hc8 L4.2).one hc9 L4.2
     refine ⟨M,_,⟨4,(cur s).t,[],[],(cur s).a⟩,.slice none 0 0,.slice none 0 0,h9,hg.step hk0,(he7.one hc8 hwb4).one hc9 hwb4,(L1.drew.one hc8 hb14).one hc9 hb14,L4,ER.leaf rfl rfl,by rw [if_pos hk]⟩
   rw [if_neg hk] at hK ht ⊢
   refine L3.ldf rfl ?_
   rw [bin_eql,condW_dec]
   refine ⟨fun hk3 => ?_,fun hk3 => ?_⟩
   · -- a text
     rw [if_pos hk3] at hK ht
     have hk0 : (cur s).k ≠ 0 := by rw [hk3]; decide
     refine L1.ld rfl ?_
     refine h6.go hi1 fun w7 h7 he7 hz7 => ?_
     have L1 := L1.eff he7
     have L3 := L3.eff he7
     have he7 := he6.trans he7
     refine L1.ld rfl ?_
     refine ld_all L3.1 rfl ?_
     have htx := hg.tx hk3
     have hcp := cur_pos hg.ws
     have hph := (phi_go hk0).1
     have hwt : wt { cur s with k := 3 } = wt (tokI (nowS s)) := by
       have e3 : (tokI (nowS s)).k = 3 := hk3
       unfold wt
       simp only [e3]
       rfl
     refine text_p hS hE hF h7 (hg.step hk0) htx.1 htx.2 ⟨hcp.1,hcp.2.1⟩ (hcp.2.2.2.1 hk3) (by rw [hwt]; have := hg.phi; omega) (fun x s' ex M' w8 h8 he8 => ?_) fun c a' ex => ht c a' ex
     exact hK x s' ex M' w8 h8 (he7.trans he8)
   rw [if_neg hk3] at hK ht ⊢
   refine L3.ldf rfl ?_
   rw [bin_eql]
   simp only [isB_t]
   refine GdW.look (decide ((cur s).t ≠ kFor)) (fun _ J hJ => ?_) fun g => ?_
   · refine L3.ldf rfl ?_
     rw [bin_sne]
     exact hJ
   simp only [List.getD_cons_zero]
   rw [pick_gd_and,condW_b]
   refine ⟨fun hcc => ?_,fun hcc => ?_⟩
   · -- a name,or a call
     have hc : (cur s).k = 1 ∧ (cur s).t ≠ kFor := by simpa using hcc
     rw [if_pos hc] at hK ht ⊢
     have hk0 : (cur s).k ≠ 0 := by rw [hc.1]; decide
     have hgs := hg.step hk0
     refine L1.ld rfl ?_
     refine h6.go hi1 fun w7 h7 he7 hz7 => ?_
     have L1 := L1.eff he7
     have L3 := L3.eff he7
     have L4 := L4.eff he7
     have he7 := he6.trans he7
     refine L1.ld rfl ?_
     refine isq_p h7 hgs fun w8 h8 he8 => ?_
     have L1 := L1.eff he8
     have L3 := L3.eff he8
     have L4 := L4.eff he8
     have he8 := he7.trans he8
     rw [un_not,condW_b]
     refine ⟨fun hn => ?_,fun hy => ?_⟩
     · have hn : isS (step1 (nowS s)) [40] = false := by simpa using hn
       rw [if_neg (by rw [hn]; decide)]
       refine L3.ldf rfl ?_
       refine named_p ?_
       rw [fld_ptr,add_mk,Nat.zero_add]
       refine L4.st rfl (by simp) fun w9 L4 hc9 hz9 => ?_
       have h9 := h8.one hc9 L4.2
       have L1 := L1.one hc9 hb14
       have L3 := L3.one hc9 hb34
       have he9 := he8.one hc9 hwb4
       refine L4.ldf rfl ?_
       rw [bin_eql,condW_dec]
       refine ⟨fun h9k => ?_,fun h9k => ?_⟩
       · refine L3.ldf rfl ?_
         rw [fld_ptr,add_mk,Nat.zero_add]
         refine L4.st rfl (by simp) fun w10 L4 hc10 hz10 => ?_
         refine ⟨M,_,⟨namedK (cur s).t,(cur s).t,[],[],(cur s).a⟩,.slice none 0 0,.slice none 0 0,h9.one hc10 L4.2,hgs.now,he9.one hc10 hwb4,L1.one hc10 hb14,L4,ER.leaf rfl rfl,by rw [if_pos h9k]⟩
       · refine ⟨M,_,⟨namedK (cur s).t,[],[],[],(cur s).a⟩,.slice none 0 0,.slice none 0 0,h9,hgs.now,he9,L1,L4,ER.leaf rfl rfl,by rw [if_neg h9k]⟩
     · have hy : isS (step1 (nowS s)) [40] = true := by simpa using hy
       rw [if_pos hy] at hK ht ⊢
       have L1 := L1.drew
       have L3 := L3.drew
       have L4 := L4.drew
       have h8 := h8.drew
       have he8 := he8.x (ext_drew w8)
       rw [fld_ptr,add_mk,Nat.zero_add]
       refine L3.ld rfl ?_
       rw [fld_ptr,add_mk,Nat.zero_add]
       refine L4.st rfl (by simp) fun w9 L4 hc9 hz9 => ?_
       have h9 := h8.one hc9 L4.2
       have L1 := L1.one hc9 hb14
       have L3 := L3.one hc9 hb34
       have he9 := he8.one hc9 hwb4
       refine ⟨L3.ld rfl rfl,?_⟩
       rw [fld_ptr,add_mk,Nat.zero_add]
       refine L4.st rfl (by simp) fun w10 L4 hc10 hz10 => ?_
       have h10 := (h9.one hc10 L4.2).drew
       have L1 := (L1.one hc10 hb14).drew
       have L4 := L4.drew
       have he10 := (he9.one hc10 hwb4).x (ext_drew w10)
       simp only [List.set_cons_zero,List.set_cons_succ] at L4
       refine L1.ld rfl ?_
       refine L1.ld rfl ?_
       have hgq := hgs.now
       refine now_p h10 hgq.ws hN hgq.l fun w11 h11 he11 => ?_
       rw [nowS_idem] at h11
       rw [cur_now]
       have L1 := L1.eff he11
       have L4 := L4.eff he11
       have he11 := he10.trans he11
       refine ⟨L1.ld rfl rfl,i64 (cur (step1 (nowS s))).a,rfl,?_⟩
       have hql := hgq.lev
       refine within_p h11 (by omega) (fun hd => ht 7 _ (by rw [win_bad hd]; rfl)) fun hd w12 h12 he12 => ?_
       obtain ⟨d,rfl⟩ : ∃ d,dl = d + 1 := ⟨dl - 1,by omega⟩
       rw [win_ok hd] at ht ⊢
       obtain ⟨q1,q2,q3,q4⟩ := hgs.sign hy true
       have L1 := L1.eff he12
       have L4 := L4.eff he12
       have he12 := he11.trans he12
       refine callV_cap' (caps := [.pointer (some ⟨b1,0,none⟩),.pointer (some ⟨b4,0,none⟩)]) ?_
       refine W152_ok ?_
       unfold W152
       refine L1.ld rfl ?_
       refine h12.go (wsi q1.ws q1.l) fun w13 h13 he13 hz13 => ?_
       have L1 := L1.eff he13
       have L4 := L4.eff he13
       have he13 := he12.trans he13
       refine L1.ld rfl ?_
       have lt4' := L4.lt
       refine args_p (hE d rfl) hF h13 q4 (fun l s' el M' v w14 h14 hg14 he14 hr14 => ?_) fun c a' el => ht c a' (by rw [el]; rfl)
       have L1 := L1.eff he14
       have L4 := L4.eff he14
       have hw13 := he13.chg.size
       obtain ⟨vp,vc,ev,_⟩ := hr14.own.sl.shape
       have nv4 : v.ownBlock ≠ some b4 := fun e => by have := hr14.new b4 e; omega
       rw [fld_ptr,add_mk,Nat.zero_add]
       refine L4.st (by rw [ev]; rfl) (by simp) fun w15 L4 hc15 hz15 => ?_
       have h15 := h14.one hc15 L4.2
       have L1 := L1.one hc15 hb14
       have hr15 := hr14.one hc15 nv4
       have he15 := (he13.trans he14).one hc15 hwb4
       have hg14l := hg14.lev
       refine ⟨M',s',h15,by omega,fun w16 h16 he16 => ?_⟩
       refine ⟨M',_,⟨12,(cur s).t,l,[],(cur s).a⟩,v,.slice none 0 0,h16,hgs.now.back hg14,he15.trans he16,L1.eff he16,L4.eff he16,(ER.noK rfl (hr15.le (by omega))).eff he16,by rw [el]; rfl⟩
   · -- brackets
     have hc : ¬ ((cur s).k = 1 ∧ (cur s).t ≠ kFor) := by simpa using hcc
     rw [if_neg hc] at hK ht ⊢
     simp only [is_now] at hK ht ⊢
     have ret5 : ∀ {w7 w8 : World} {M' : Lay} {s' : PS} {e : Ex} {va vk : Value},PR w0 w7 p f M' vt s' top → Loc w0 w7 p f M' vt b1 PpT [.pointer (some ⟨p,0,none⟩)] → Loc w0 w7 p f M' vt b4 ExT [i64 0,str [],.slice none 0 0,.slice none 0 0,i64 (cur s).a] → ER w0 w7 p f M' vt w8.heap.size e va vk → b4 < w8.heap.size → w.heap.size ≤ w8.heap.size → ∀ {KW : World → Prop},
         (∀ w9,PR w0 w9 p f M' vt s' top → Chg (One b4) w7 w9 → Loc w0 w9 p f M' vt b1 PpT [.pointer (some ⟨p,0,none⟩)] → Loc w0 w9 p f M' vt b4 ExT (exc e va vk) → ER w0 w9 p f M' vt w.heap.size e va vk → KW w9) → stW 5 (.pointer (some ⟨b4,0,none⟩)) (.agg (exc e va vk).toArray) w7 KW := fun {w7 w8 M' s' e va vk} h7 L1 L4 hE7 hb hw {KW} hKW => by
       refine st_agg_at (l := exc e va vk) L4.1 rfl rfl (exc_one hE7) fun w9 hz9 hb9 hc9 => ?_
       exact hKW w9 (h7.one hc9 L4.2) hc9 (L1.one hc9 hb14) ⟨hb9,L4.2.up (by omega)⟩ ((hE7.one hc9 (fun e => by have := hE7.rA.new b4 e; omega) (fun e => by have := hE7.rK.new b4 e; omega)).le hw)
     refine L1.ld rfl ?_
     refine isq_p h6 hgn fun w7 h7 he7 => ?_
     rw [nowS_idem] at h7
     have L1 := L1.eff he7
     have L3 := L3.eff he7
     have L4 := L4.eff he7
     have he7 := he6.trans he7
     rw [is_now,condW_b]
     refine ⟨fun hi => ?_,fun hi => ?_⟩
     · rw [if_pos hi] at hK ht
       have lt1 := L1.lt
       have hw7 := he7.chg.size
       refine alloc_new fun b5 w8 hb5 hz8 hbb8 hx8 => ?_
       have h8 := h7.ext hx8
       have L5 := h7.loc hz8 hb5 hbb8
       refine L5.st rfl (by simp) fun w9 L5 hc9 hz9 => ?_
       have h9 := h8.one hc9 L5.2
       have L1 := (L1.ext hx8).one hc9 (by omega)
       have L3 := (L3.ext hx8).one hc9 (by have := L3.lt; omega)
       have he9 := (he7.x hx8).one hc9 (by omega)
       refine L1.ld rfl ?_
       refine L3.ldf rfl ?_
       refine within_p h9 hd24 (fun hd => ht 7 _ (by rw [win_bad hd])) fun hd w10 h10 he10 => ?_
       obtain ⟨d,rfl⟩ : ∃ d,dl = d + 1 := ⟨dl - 1,by omega⟩
       rw [win_ok hd] at ht hK
       obtain ⟨q1,q2,q3,q4⟩ := hg.sign hi true
       have L1 := L1.eff he10
       have L5 := L5.eff he10
       have he10 := he9.trans he10
       refine callV_cap' (caps := [.pointer (some ⟨b1,0,none⟩),.pointer (some ⟨b5,0,none⟩)]) ?_
       refine W154_ok ?_
       unfold W154
       refine L1.ld rfl ?_
       refine h10.go (wsi q1.ws q1.l) fun w11 h11 he11 hz11 => ?_
       have L1 := L1.eff he11
       have L5 := L5.eff he11
       have he11 := he10.trans he11
       refine L1.ld rfl ?_
       refine hE d rfl w11 p M vt _ top N _ h11 q4 (fun x s' ex M' w12 h12 he12 => ?_) fun c a' ex => ht c a' (by rw [ex]; rfl)
       obtain ⟨g12,_⟩ := q4.e hF ex
       rw [ex] at hK ht
       simp only [R.bind] at hK ht
       have L1 := L1.eff he12
       have L5 := L5.eff he12
       have he12 := he11.trans he12
       refine L5.st rfl (by simp) fun w13 L5 hc13 hz13 => ?_
       have h13 := h12.one hc13 L5.2
       have L1 := L1.one hc13 (by omega)
       have he13 := he12.one hc13 (by omega)
       refine L1.ld rfl ?_
       refine want_p h13 g12.ws hN g12.l (fun s3 e3 w14 h14 he14 => ?_) fun c a' e3 => ht c a' (by rw [e3])
       rw [e3] at hK
       simp only at hK
       obtain ⟨g14,_⟩ := g12.want e3
       have g14l := g14.lev
       refine ⟨M',s3,h14,by omega,fun w15 h15 he15 => ?_⟩
       refine ((L5.eff he14).eff he15).ld rfl ?_
       exact hK x _ rfl M' w15 h15 ((he13.trans he14).trans he15)
     rw [if_neg (by rw [hi]; decide)] at hK ht ⊢
     refine L1.ld rfl ?_
     refine isq_p h7 hgn fun w8 h8 he8 => ?_
     rw [nowS_idem] at h8
     have L1 := L1.eff he8
     have L3 := L3.eff he8
     have L4 := L4.eff he8
     have he8 := he7.trans he8
     rw [is_now,condW_b]
     refine ⟨fun hi => ?_,fun hi => ?_⟩
     · rw [if_pos hi] at hK ht ⊢
       refine L1.ld rfl ?_
       refine L3.ldf rfl ?_
       refine within_p h8 hd24 (fun hd => ht 7 _ (by rw [win_bad hd]; rfl)) fun hd w10 h10 he10 => ?_
       obtain ⟨d,rfl⟩ : ∃ d,dl = d + 1 := ⟨dl - 1,by omega⟩
       rw [win_ok hd] at ht ⊢
       obtain ⟨q1,q2,q3,q4⟩ := hg.sign hi true
       have L1 := L1.eff he10
       have L3 := L3.eff he10
       have L4 := L4.eff he10
       have he10 := he8.trans he10
       refine callV_cap' (caps := [.pointer (some ⟨b1,0,none⟩),.pointer (some ⟨b3,0,none⟩),.pointer (some ⟨b4,0,none⟩)]) ?_
       refine W155_ok ?_
       unfold W155
       refine L1.ld rfl ?_
       refine ld_all L3.1 rfl ?_
       have lt4' := L4.lt
       refine list_p (hE d rfl) hF h10 q1 q3 q2 (fun e s' el M' va vk w12 h12 g12 he12 hE12 => ?_) fun c a' el => ht c a' (by rw [el]; rfl)
       refine ret5 h12 (L1.eff he12) (L4.eff he12) hE12 lt4' he10.chg.size fun w13 h13 hc13 L1 L4 hE13 => ?_
       have g12l := g12.lev
       refine ⟨M',s',h13,by omega,fun w14 h14 he14 => ?_⟩
       exact ⟨M',_,e,va,vk,h14,hgn.back g12,((he10.trans he12).one hc13 hwb4).trans he14,L1.eff he14,L4.eff he14,hE13.eff he14,by rw [el]; rfl⟩
     rw [if_neg (by rw [hi]; decide)] at hK ht ⊢
     refine L1.ld rfl ?_
     refine isq_p h8 hgn fun w9 h9 he9 => ?_
     rw [nowS_idem] at h9
     have L1 := L1.eff he9
     have L3 := L3.eff he9
     have L4 := L4.eff he9
     have he9 := he8.trans he9
     rw [is_now,condW_b]
     refine ⟨fun hi => ?_,fun hi => ?_⟩
     · rw [if_pos hi] at hK ht ⊢
       refine L1.ld rfl ?_
       refine L3.ldf rfl ?_
       refine within_p h9 hd24 (fun hd => ht 7 _ (by rw [win_bad hd]; rfl)) fun hd w10 h10 he10 => ?_
       obtain ⟨d,rfl⟩ : ∃ d,dl = d + 1 := ⟨dl - 1,by omega⟩
       rw [win_ok hd] at ht ⊢
       obtain ⟨q1,q2,q3,q4⟩ := hg.sign hi false
       have L1 := L1.eff he10
       have L3 := L3.eff he10
       have L4 := L4.eff he10
       have he10 := he9.trans he10
       refine callV_cap' (caps := [.pointer (some ⟨b1,0,none⟩),.pointer (some ⟨b3,0,none⟩),.pointer (some ⟨b4,0,none⟩)]) ?_
       refine W157_ok ?_
       unfold W157
       refine L1.ld rfl ?_
       refine ld_all L3.1 rfl ?_
       have lt4' := L4.lt
       refine object_p (hE d rfl) hF h10 q1 q3 q2 (fun e s' el M' va vk w12 h12 g12 he12 hE12 => ?_) fun c a' el => ht c a' (by rw [el]; rfl)
       refine ret5 h12 (L1.eff he12) (L4.eff he12) hE12 lt4' he10.chg.size fun w13 h13 hc13 L1 L4 hE13 => ?_
       have g12l := g12.lev
       refine ⟨M',s',h13,by omega,fun w14 h14 he14 => ?_⟩
       exact ⟨M',_,e,va,vk,h14,hgn.back g12,((he10.trans he12).one hc13 hwb4).trans he14,L1.eff he14,L4.eff he14,hE13.eff he14,by rw [el]; rfl⟩
     · rw [if_neg (by rw [hi]; decide)] at ht
       refine L3.ldf rfl ?_
       exact fail_p h9 (ht _ _ rfl)
 · rintro _ g w7 ⟨M1,s1,e,va,vk,h7,hg7,he7,L1,L4,hE7,ea⟩
   rw [ea] at hK
   refine L1.ld rfl ?_
   refine ld_all L4.1 rfl ?_
   refine put_e h7 he7 hE7 hg7 fun M' w8 h8 he8 _ => ?_
   exact hK _ _ rfl M' w8 h8 he8
end
end Go.Proofs.YtofhaneggcpdaaaGreatDoor
namespace Go.Proofs.YtofhaneggcpdaaaGreatDoor
open Go Go.Eng Go.RowKit Go.Syn Go.Lex
set_option maxRecDepth 100000
section
variable [HX]
variable {w0 w w' w1 : World} {p f b : Nat} {M M' M0 : Lay} {vt : Value} {s : PS} {top : List Nat} {N : Int} {K : Value → World → Prop} {e : Ex} {va vk : Value} {wbn : Nat} {wb : World} {dl : Nat}
theorem PR.row_new {l : List Nat} (h : PR w0 w p f M vt s top) {r : Nat} (hr : r = w.heap.size) (hz : w'.heap.size = w.heap.size + 1) (hb : w'.heap[r]? = some (.cells (ints l).toArray IntT (0,0))) (hl : l.length ≤ 1000000) :
   Ro w0 w' p f M vt w.heap.size IntT 1 (.slice (some ⟨r,0,none⟩) l.length l.length) l.length (ints l) :=
 ⟨own_of hb (by have := h.base; omega) (ints_len l) hl,fun k hk => by simp only [Value.ownBlock,Option.some.injEq] at hk; subst hk; exact h.off_new (by omega) (by omega),fun k hk => by simp only [Value.ownBlock,Option.some.injEq] at hk; omega⟩
theorem post_p {E : PS → R Nat} (hS : ScanC w0 f) (hE : ∀ d,dl = d + 1 → EC w0 f 81 E d) (hF : Fine E) : EC w0 f 142 (postR E) dl := by
 intro w p M vt s top N K h hg hK ht
 refine W142_ok ?_
 unfold W142
 have hN := hg.hN
 refine box_one rfl fun b1 w1 hb1 hz1 hbb1 hx1 => ?_
 have h1 := h.ext hx1
 have L1 := h.loc hz1 hb1 hbb1
 refine L1.ld rfl ?_
 unfold postR at hK ht
 refine atom_p hS hE hF w1 p M vt s top N _ h1 hg (fun x s1 ex M1 w2 h2 he2 => ?_) fun c a' ex => ht c a' (by rw [ex]; rfl)
 rw [ex] at hK ht
 simp only [R.bind] at hK ht
 have hA : Fine (atomR E) := ⟨fun N => atom_sat (hF.ok N),phi_atom hF.z⟩
 obtain ⟨hg1,hi1⟩ := hg.e hA ex
 have etl := (hA.ok N) s hg.ws
 rw [ex] at etl
 have etl := congrArg List.length etl.1.1.toks
 have L1 := L1.eff he2
 have he2 := (Eff.ext hx1).trans he2
 generalize hR : postF E (s.toks.length + 1) s1 x = R0 at hK ht
 refine LoopW.go (fun st w' => ∃ s1 M1 x n,st = [i64 ((x : Nat) : Int)] ∧ PR w0 w' p f M1 vt s1 top ∧ Gd N s1 dl ∧ Eff p f M M1 w w' ∧ Loc w0 w' p f M1 vt b1 PpT [.pointer (some ⟨p,0,none⟩)] ∧ postF E n s1 x = R0 ∧ s1.toks.length < n + s1.i ∧ s1.toks.length = s.toks.length) (fun _ w' => s.toks.length - psAt w' p)
   ⟨s1,M1,x,s.toks.length + 1,rfl,h2,hg1,he2,L1,hR,by have := hg1.ws.lt; omega,etl⟩ ?_
 clear he2 L1 h2 ex hg1 hi1 etl hR
 rintro st g w2 ⟨s2,M2,y,n,rfl,h2,hg2,he2,L1,hpf,hn,htl⟩
 simp only [List.getD_cons_zero]
 have hlt2 := hg2.ws.lt
 have hat := hg2.at0
 obtain ⟨n,rfl⟩ : ∃ m,n = m + 1 := ⟨n - 1,by omega⟩
 simp only [postF] at hpf
 refine L1.ld rfl ?_
 refine now_p h2 hg2.ws hN hg2.l fun w3 h3 he3 => ?_
 have L1 := L1.eff he3
 have he3 := he2.trans he3
 have hgn := hg2.now
 have lt1 := L1.lt
 have hw3 := he3.chg.size
 refine alloc_new fun b4 w4 hb4 hz4 hbb4 hx4 => ?_
 have h4 := h3.ext hx4
 have L4 := h3.loc hz4 hb4 hbb4
 have L1 := L1.ext hx4
 refine st_agg_at (l := tokc (cur s2)) L4.1 rfl rfl rfl fun w5 hz5 hbb5 hc5 => ?_
 have L4 : Loc w0 w5 p f M2 vt b4 TkT (tokc (cur s2)) := ⟨hbb5,L4.2.up (by omega)⟩
 have h5 := h4.one hc5 L4.2
 have L1 := L1.one hc5 (by omega)
 have he5 := (he3.x hx4).one hc5 (by omega)
 have hwb1 : b1 = w.heap.size := hb1
 -- the expression is put,and on
 have fin : ∀ {w6 : World} {M6 : Lay} {s6 : PS} {e : Ex} {va : Value},PR w0 w6 p f M6 vt s6 top → Gd N s6 dl → Eff p f M M6 w w6 → Loc w0 w6 p f M6 vt b1 PpT [.pointer (some ⟨p,0,none⟩)] → Ro w0 w6 p f M6 vt w1.heap.size IntT 1 va e.args.length (ints e.args) → e.keys = [] → s2.i < s6.i → Syn.phi s6 + 1 ≤ Syn.phi s2 → s6.toks.length = s.toks.length → ((putR s6 e).bind fun y s3 => postF E n s3 y) = R0 →
     callF Tryz.prog 107 [.pointer (some ⟨p,0,none⟩),.agg (exc e va (.slice none 0 0)).toArray] w6 fun t24 w12 => (∃ s1 M1 x n,[t24] = [i64 ((x : Nat) : Int)] ∧ PR w0 w12 p f M1 vt s1 top ∧ Gd N s1 dl ∧ Eff p f M M1 w w12 ∧ Loc w0 w12 p f M1 vt b1 PpT [.pointer (some ⟨p,0,none⟩)] ∧ postF E n s1 x = R0 ∧ s1.toks.length < n + s1.i ∧ s1.toks.length = s.toks.length) ∧ s.toks.length - psAt w12 p < s.toks.length - psAt w2 p := fun {w6 M6 s6 e va} h6 hg6 he6 L1 hr hk hi hph htl6 hp6 => by
   refine put_e h6 he6 (ER.noK hk (hr.le (by omega))) hg6 fun M' w7 h7 he7 hl7 => ?_
   have hlt6 := hg6.ws.lt
   refine ⟨⟨_,M',_,n,rfl,h7,?_,he7,hl7 _ _ _ L1 (fun e => by have := hr.new b1 e; omega) (by simp [Value.ownBlock]),hp6,by show s6.toks.length < n + s6.i; omega,htl6⟩,?_⟩
   · exact hg6.put (by have := hg2.phi; omega)
   · rw [h7.at_,h2.at_]
     show s.toks.length - s6.i < _
     omega
 have hn1 := now_go hg2.ws
 have hn1t := congrArg List.length hn1.toks
 refine L1.ld rfl ?_
 refine take_p h5 hgn.ws hN hgn.l fun w6 h6 he6 => ?_
 have L1 := L1.eff he6
 have L4 := L4.eff he6
 have he6 := he5.trans he6
 have tg := take_go hgn.ws [46]
 have tgt := congrArg List.length tg.1.toks
 have hg6 := hgn.take [46]
 have tp := phi_take (nowS s2) [46]
 have np := phi_now s2
 rw [condW_b]
 refine ⟨fun hy => ?_,fun hn' => ?_⟩
 · -- an attribute
   rw [if_pos hy] at hpf
   have tp := tp.2 hy
   have ti := tg.2.1 hy
   have L1 := L1.drew
   have L4 := L4.drew
   have h6 := h6.drew
   have he6 := he6.x (ext_drew w6)
   have ld1 : ∀ {w' : World} {M' : Lay},Loc w0 w' p f M' vt b1 PpT [.pointer (some ⟨p,0,none⟩)] → ldW false 1 (.pointer (some ⟨b1,0,none⟩)) w' fun x => x = .pointer (some ⟨p,0,none⟩) := fun L => L.ld rfl rfl
   have ld4 : ∀ {w' : World} {M' : Lay},Loc w0 w' p f M' vt b4 TkT (tokc (cur s2)) → ldW false 1 (.pointer (some ⟨b4,2,none⟩)) w' fun x => x = i64 (cur s2).a := fun L => L.ld rfl rfl
   refine L1.ld rfl ?_
   refine L1.ld rfl ?_
   rw [fld_ptr,add_mk,Nat.zero_add]
   refine L4.ld rfl ?_
   have hw6 := he6.chg.size
   have hz1' : w1.heap.size ≤ w6.drew.heap.size := by have := he6.chg.size; have := L1.lt; omega
   have kd : ∀ {w' : World} {KK : Value → World → Prop},PR w0 w' p f M2 vt (takeS (nowS s2) [46]).2 top → (∀ u s7,kindR (takeS (nowS s2) [46]).2 1 = .ok u s7 → ∀ w'',PR w0 w'' p f M2 vt s7 top → Eff p f M2 M2 w' w'' → KK (.agg (tokc u).toArray) w'') → callF Tryz.prog 39 [.pointer (some ⟨p,0,none⟩),.int .i64 1] w' KK := fun {w' KK} h hKK =>
     kind_p h hg6.ws hN hg6.l hKK fun c a' eu => ht c a' (by rw [← hpf,eu]; rfl)
   have done : ∀ {u : Tok} {s7 : PS},kindR (takeS (nowS s2) [46]).2 1 = .ok u s7 → Gd N s7 dl ∧ s2.i < s7.i ∧ Syn.phi s7 + 1 ≤ Syn.phi s2 ∧ s7.toks.length = s.toks.length ∧ ((putR s7 ⟨10,u.t,[y],[],(cur s2).a⟩).bind fun y s3 => postF E n s3 y) = R0 := fun {u s7} eu => by
     have hk := hg6.kind (by decide) eu
     have hks := kind_sat hg6.ws 1 (by decide)
     have hkp := phi_kind (takeS (nowS s2) [46]).2 1
     rw [eu] at hks hkp hpf
     have hkt := congrArg List.length hks.1.1.toks
     have hkp := hkp.1
     have h1 := hn1.le
     exact ⟨hk.1,by have := hk.2.1; omega,by omega,by omega,hpf⟩
   refine ⟨?_,?_,?_,?_,?_,?_⟩
   · refine kd h6 fun u s7 eu w7 h7 he7 => ?_
     have L1 := L1.eff he7
     have L4 := L4.eff he7
     have he7' := he6.trans he7
     refine ⟨ld4 L4,ld1 L1,str u.t,rfl,ld4 L4,ld1 L1,?_⟩
     refine bsl_int1 fun r w8 hr hz8 hrb hx8 => ?_
     refine ⟨ld4 (L4.ext hx8),ld1 (L1.ext hx8),?_⟩
     simp only [put_int,put_str,put_slice,put_nil,List.length_cons,List.length_nil,List.set_cons_zero,List.set_cons_succ,Nat.reduceAdd,Nat.reduceLT,true_and,Nat.zero_lt_succ]
     obtain ⟨d1,d2,d3,d4,d5⟩ := done eu
     exact fin (e := ⟨10,u.t,[y],[],(cur s2).a⟩) (h7.ext hx8) d1 (he7'.x hx8) (L1.ext hx8) ((h7.row_new (l := [y]) hr hz8 hrb (by simp)).le (by have := he7.chg.size; omega)) rfl d2 d3 d4 d5
   · exact ld4 L4
   · exact ld1 L1
   · exact ld1 L1
   · refine kd h6 fun u s7 eu w7 h7 he7 => ?_
     have L1 := L1.eff he7
     have L4 := L4.eff he7
     have he7' := he6.trans he7
     refine ⟨ld4 L4,ld1 L1,str u.t,rfl,?_⟩
     refine bsl_int1 fun r w8 hr hz8 hrb hx8 => ?_
     refine ⟨ld4 (L4.ext hx8),ld1 (L1.ext hx8),?_⟩
     simp only [put_int,put_str,put_slice,put_nil,List.length_cons,List.length_nil,List.set_cons_zero,List.set_cons_succ,Nat.reduceAdd,Nat.reduceLT,true_and,Nat.zero_lt_succ]
     obtain ⟨d1,d2,d3,d4,d5⟩ := done eu
     exact fin (e := ⟨10,u.t,[y],[],(cur s2).a⟩) (h7.ext hx8) d1 (he7'.x hx8) (L1.ext hx8) ((h7.row_new (l := [y]) hr hz8 hrb (by simp)).le (by have := he7.chg.size; omega)) rfl d2 d3 d4 d5
   · refine bsl_int1 fun r w8 hr hz8 hrb hx8 => ?_
     have L1 := L1.ext hx8
     have L4 := L4.ext hx8
     have rw8 := h6.row_new (l := [y]) hr hz8 hrb (by simp)
     refine ⟨ld4 L4,ld1 L1,ld1 L1,?_⟩
     refine kd (h6.ext hx8) fun u s7 eu w7 h7 he7 => ?_
     have L1 := L1.eff he7
     have L4 := L4.eff he7
     refine ⟨ld4 L4,ld1 L1,str u.t,rfl,?_⟩
     simp only [put_int,put_str,put_slice,put_nil,List.length_cons,List.length_nil,List.set_cons_zero,List.set_cons_succ,Nat.reduceAdd,Nat.reduceLT,true_and,Nat.zero_lt_succ]
     obtain ⟨d1,d2,d3,d4,d5⟩ := done eu
     exact fin (e := ⟨10,u.t,[y],[],(cur s2).a⟩) h7 d1 ((he6.x hx8).trans he7) L1 ((rw8.eff he7).le (by omega)) rfl d2 d3 d4 d5
 · have hn' : (takeS (nowS s2) [46]).1 = false := by simpa using hn'
   rw [if_neg (by rw [hn']; decide)] at hpf
   have e6 : (takeS (nowS s2) [46]).2 = nowS s2 := by
     unfold takeS at hn' ⊢
     split
     · rename_i hi; rw [if_pos hi] at hn'; cases hn'
     · exact nowS_idem s2
   rw [e6] at h6
   refine L1.ld rfl ?_
   refine isq_p h6 hgn fun w7 h7 he7 => ?_
   rw [nowS_idem] at h7
   have L1 := L1.eff he7
   have L4 := L4.eff he7
   have he7 := he6.trans he7
   simp only [is_now] at hpf ⊢
   rw [condW_b]
   refine ⟨fun hi => ?_,fun hi => ?_⟩
   · rw [if_pos hi] at hpf
     have hw7 := he7.chg.size
     have lt1 := L1.lt
     have lt4 := L4.lt
     refine alloc_new fun b5 w8 hb5 hz8 hbb8 hx8 => ?_
     have h8 := h7.ext hx8
     have L5 := h7.loc hz8 hb5 hbb8
     have L1 := L1.ext hx8
     have L4 := L4.ext hx8
     refine alloc_new fun b6 w9 hb6 hz9 hbb9 hx9 => ?_
     have h9 := h8.ext hx9
     have L6 := h8.loc hz9 hb6 hbb9
     have L1 := L1.ext hx9
     have L4 := L4.ext hx9
     have L5 := L5.ext hx9
     refine L5.st rfl (by simp) fun w10 L5 hc10 hz10 => ?_
     have h10 := h9.one hc10 L5.2
     have L1 := L1.one hc10 (by omega)
     have L4 := L4.one hc10 (by omega)
     have L6 := L6.one hc10 (by omega)
     refine L6.st rfl (by simp) fun w11 L6 hc11 hz11 => ?_
     have h11 := h10.one hc11 L6.2
     have L1 := L1.one hc11 (by omega)
     have L4 := L4.one hc11 (by omega)
     have L5 := L5.one hc11 (by omega)
     have he11 := (((he7.x hx8).x hx9).one hc10 (by omega)).one hc11 (by omega)
     refine L1.ld rfl ?_
     refine L4.ldf rfl ?_
     have hlev := hgn.lev
     refine within_p h11 (by omega) (fun hd => ht 7 _ (by rw [← hpf,win_bad hd]; rfl)) fun hd w12 h12 he12 => ?_
     obtain ⟨d,rfl⟩ : ∃ d,dl = d + 1 := ⟨dl - 1,by omega⟩
     rw [win_ok hd] at hpf
     obtain ⟨q1,q2,q3,q4⟩ := hg2.sign hi true
     have L1 := L1.eff he12
     have L4 := L4.eff he12
     have L5 := L5.eff he12
     have L6 := L6.eff he12
     have he12 := he11.trans he12
     refine callV_cap' (caps := [.pointer (some ⟨b1,0,none⟩),.pointer (some ⟨b6,0,none⟩),.pointer (some ⟨b5,0,none⟩)]) ?_
     refine W147_ok ?_
     unfold W147
     refine L1.ld rfl ?_
     refine h12.go (wsi q1.ws q1.l) fun w13 h13 he13 hz13 => ?_
     have L1 := L1.eff he13
     have L4 := L4.eff he13
     have L5 := L5.eff he13
     have L6 := L6.eff he13
     have he13 := he12.trans he13
     generalize hq0 : ({ nowS s2 with deep := (nowS s2).deep + 1,quiet := true } : PS) = q0 at *
     have hq0' : ∀ x : PS,x = (⟨(nowS s2).toks,(nowS s2).i,(nowS s2).off,(nowS s2).deep + 1,true,(nowS s2).ex,(nowS s2).bl⟩ : PS) → x = q0 := fun x hx => hx.trans hq0
     have q0p : Syn.phi q0 = Syn.phi (nowS s2) := by rw [← hq0]; rfl
     have q0i : q0.i = (nowS s2).i := by rw [← hq0]
     have q0t : q0.toks = (nowS s2).toks := by rw [← hq0]
     have st0 := step_go q1.ws q3
     rw [q2] at st0
     have sp0 := (phi_go q3).2
     rw [q2] at sp0
     have q4l := q4.lev
     have n1le := hn1.le
     have tg5 := take_go q4.ws [42]
     have tp5 := phi_take (step1 q0) [42]
     have g5 := q4.take [42]
     have tg5t := congrArg List.length tg5.1.toks
     have st0t := congrArg List.length st0.1.toks
     have q0tl := congrArg List.length q0t
     -- behind the closing bracket
     refine JoinW.cut (fun _ w' => ∃ M6 o s6,(((if (takeS (step1 q0) [42]).1 = true then .ok none (takeS (step1 q0) [42]).2 else (E (takeS (step1 q0) [42]).2).bind fun y q1 => .ok (some y) q1) : R (Option Nat)) = .ok o s6) ∧ PR w0 w' p f M6 vt s6 top ∧ Gd N s6 d ∧ Eff p f M M6 w w' ∧ Loc w0 w' p f M6 vt b1 PpT [.pointer (some ⟨p,0,none⟩)] ∧ Loc w0 w' p f M6 vt b4 TkT (tokc (cur s2)) ∧ Loc w0 w' p f M6 vt b6 4 [.bool o.isNone] ∧ Loc w0 w' p f M6 vt b5 IntT [i64 ((o.getD 0 : Nat) : Int)] ∧ s6.i ≥ (step1 q0).i ∧ Syn.phi s6 ≤ Syn.phi (step1 q0) ∧ s6.toks.length = s.toks.length) ?_ ?_
     · refine L1.ld rfl ?_
       refine take_p h13 q4.ws hN q4.l fun w14 h14 he14 => ?_
       have L1 := L1.eff he14
       have L4 := L4.eff he14
       have L5 := L5.eff he14
       have L6 := L6.eff he14
       have he14 := he13.trans he14
       refine L6.st rfl (by simp) fun w15 L6 hc15 hz15 => ?_
       have h15 := h14.one hc15 L6.2
       have L1 := L1.one hc15 (by omega)
       have L4 := L4.one hc15 (by omega)
       have L5 := L5.one hc15 (by omega)
       have he15 := he14.one hc15 (by omega)
       refine L6.ld rfl ?_
       rw [un_not,condW_b]
       refine ⟨fun hns => ?_,fun hsp => ?_⟩
       · have hns : (takeS (step1 q0) [42]).1 = false := by simpa using hns
         rw [hns] at L6
         refine L1.ld rfl ?_
         refine hE d rfl w15 p M2 vt _ top N _ h15 g5 (fun z s6 ez M6 w16 h16 he16 => ?_) fun c a' ez => ht c a' ?_
         · obtain ⟨g6,i6⟩ := g5.e hF ez
           have ep := hF.z (takeS (step1 q0) [42]).2
           have eo := hF.ok N _ g5.ws
           rw [ez] at ep eo
           have eot := congrArg List.length eo.1.1.toks
           have ep : Syn.phi s6 ≤ Syn.phi (takeS (step1 q0) [42]).2 := ep
           have L1 := L1.eff he16
           have L4 := L4.eff he16
           have L5 := L5.eff he16
           have L6 := L6.eff he16
           refine L5.st rfl (by simp) fun w17 L5 hc17 hz17 => ?_
           refine ⟨M6,some z,s6,?_,h16.one hc17 L5.2,g6,(he15.trans he16).one hc17 (by omega),L1.one hc17 (by omega),L4.one hc17 (by omega),L6.one hc17 (by omega),L5,by have := tg5.1.le; omega,by have := tp5.1; omega,by omega⟩
           rw [if_neg (by rw [hns]; decide),ez]; rfl
         · rw [← hpf]
           rw [if_neg (by rw [hns]; decide),ez]; rfl
       · have hsp : (takeS (step1 q0) [42]).1 = true := by simpa using hsp
         rw [hsp] at L6
         exact ⟨M2,none,_,by rw [if_pos hsp],h15,g5,he15,L1,L4,L6,L5,tg5.1.le,tp5.1,by omega⟩
     rintro _ g2 w14 ⟨M6,o,s6,eo,h14,g6,he14,L1,L4,L6,L5,i6,p6,t6⟩
     have hpf2 : ((wantR s6 [93]).bind fun _ q2 => .ok o q2) = (if (takeS (step1 q0) [42]).1 = true then (wantR (takeS (step1 q0) [42]).2 [93]).bind fun _ q2 => .ok none q2 else (E (takeS (step1 q0) [42]).2).bind fun y q1 => (wantR q1 [93]).bind fun _ q2 => .ok (some y) q2) := by
       by_cases hsp : (takeS (step1 q0) [42]).1 = true
       · rw [if_pos hsp] at eo ⊢
         injection eo with e1 e2
         subst e1 e2
         rfl
       · rw [if_neg hsp] at eo ⊢
         cases hez : E (takeS (step1 q0) [42]).2 with
         | err c a => rw [hez] at eo; cases eo
         | ok z s7 =>
           rw [hez] at eo
           simp only [R.bind] at eo
           injection eo with e1 e2
           subst e1 e2
           rfl
     rw [← hpf2] at hpf
     refine L1.ld rfl ?_
     refine want_p h14 g6.ws hN g6.l (fun s7 e7 w15 h15 he15 => ?_) fun c a' e7 => ht c a' (by rw [← hpf,e7]; rfl)
     rw [e7] at hpf
     simp only [R.bind] at hpf
     obtain ⟨g7,i7,_⟩ := g6.want e7
     have w7 := phi_want s6 [93]
     have w7s := want_sat g6.ws [93]
     rw [e7] at w7 w7s
     have w7 : Syn.phi s7 + 1 ≤ Syn.phi s6 := w7
     have w7t := congrArg List.length w7s.1.1.toks
     have g7l := g7.lev
     have L1 := L1.eff he15
     have L4 := L4.eff he15
     have L5 := L5.eff he15
     have L6 := L6.eff he15
     have he15 := he14.trans he15
     refine ⟨M6,s7,h15,by omega,fun w16 h16 he16 => ?_⟩
     have L1 := L1.eff he16
     have L4 := L4.eff he16
     have L5 := L5.eff he16
     have L6 := L6.eff he16
     have he16 := he15.trans he16
     have g8 : Gd N { s7 with deep := (nowS s2).deep,quiet := (nowS s2).quiet } (d + 1) := hgn.back g7
     have st1i : (step1 q0).i = (nowS s2).i + 1 := by show q0.i + 1 = _; rw [q0i]
     refine L6.ld rfl ?_
     rw [un_not,condW_b]
     cases o with
     | some z =>
       refine ⟨fun _ => ?_,fun e => by cases e⟩
       simp only at hpf
       refine L1.ld rfl ?_
       refine L5.ld rfl ?_
       have hz1' : w1.heap.size ≤ w16.heap.size := by have := L1.lt; omega
       refine bsl_int2 fun r w17 hr hz17 hrb hx17 => ?_
       refine (L4.ext hx17).ldf rfl ?_
       simp only [put_int,put_str,put_slice,put_nil,List.length_cons,List.length_nil,List.set_cons_zero,List.set_cons_succ,Nat.reduceAdd,Nat.reduceLT,true_and,Nat.zero_lt_succ]
       refine fin (e := ⟨11,[],[y,z],[],(cur s2).a⟩) (h16.ext hx17) g8 (he16.x hx17) (L1.ext hx17) ((h16.row_new (l := [y,z]) hr hz17 hrb (by simp)).le hz1') rfl ?_ ?_ ?_ hpf
       · show s2.i < s7.i; omega
       · show Syn.phi s7 + 1 ≤ _; omega
       · show s7.toks.length = _; omega
     | none =>
       refine ⟨fun e => (by cases e),fun _ => ?_⟩
       simp only at hpf
       refine L1.ld rfl ?_
       refine want_p h16 g8.ws hN g8.l (fun s9 e9 w17 h17 he17 => ?_) fun c a' e9 => ht c a' (by rw [← hpf,e9])
       rw [e9] at hpf
       simp only [R.bind] at hpf
       obtain ⟨g9,i9,_⟩ := g8.want e9
       generalize hs8 : ({ s7 with deep := (nowS s2).deep,quiet := (nowS s2).quiet } : PS) = s8 at *
       have s8p : Syn.phi s8 = Syn.phi s7 := by rw [← hs8]; rfl
       have s8i : s8.i = s7.i := by rw [← hs8]
       have s8t : s8.toks = s7.toks := by rw [← hs8]
       have s8t := congrArg List.length s8t
       have w9 := phi_want s8 [46]
       have w9s := want_sat g8.ws [46]
       rw [e9] at w9 w9s
       have w9 : Syn.phi s9 + 1 ≤ Syn.phi s8 := w9
       have w9t := congrArg List.length w9s.1.1.toks
       have L1 := (L1.eff he17).drew
       have L4 := (L4.eff he17).drew
       have h17 := h17.drew
       have he17' := (he16.trans he17).x (ext_drew w17)
       have hz1' : w1.heap.size ≤ w17.drew.heap.size := by have := L1.lt; omega
       have ld1 : ∀ {w' : World} {M' : Lay},Loc w0 w' p f M' vt b1 PpT [.pointer (some ⟨p,0,none⟩)] → ldW false 1 (.pointer (some ⟨b1,0,none⟩)) w' fun x => x = .pointer (some ⟨p,0,none⟩) := fun L => L.ld rfl rfl
       have ld4 : ∀ {w' : World} {M' : Lay},Loc w0 w' p f M' vt b4 TkT (tokc (cur s2)) → ldW false 1 (.pointer (some ⟨b4,2,none⟩)) w' fun x => x = i64 (cur s2).a := fun L => L.ld rfl rfl
       refine L1.ld rfl ?_
       refine L1.ld rfl ?_
       rw [fld_ptr,add_mk,Nat.zero_add]
       refine L4.ld rfl ?_
       have kd : ∀ {w' : World} {KK : Value → World → Prop},PR w0 w' p f M6 vt s9 top → (∀ u s7,kindR s9 1 = .ok u s7 → ∀ w'',PR w0 w'' p f M6 vt s7 top → Eff p f M6 M6 w' w'' → KK (.agg (tokc u).toArray) w'') → callF Tryz.prog 39 [.pointer (some ⟨p,0,none⟩),.int .i64 1] w' KK := fun {w' KK} h hKK =>
         kind_p h g9.ws hN g9.l hKK fun c a' eu => ht c a' (by rw [← hpf,eu])
       have done : ∀ {u : Tok} {sa : PS},kindR s9 1 = .ok u sa → Gd N sa (d + 1) ∧ s2.i < sa.i ∧ Syn.phi sa + 1 ≤ Syn.phi s2 ∧ sa.toks.length = s.toks.length ∧ ((putR sa ⟨30,u.t,[y],[],(cur s2).a⟩).bind fun y s3 => postF E n s3 y) = R0 := fun {u sa} eu => by
         have hk := g9.kind (by decide) eu
         have hks := kind_sat g9.ws 1 (by decide)
         have hkp := phi_kind s9 1
         rw [eu] at hks hkp hpf
         have hkt := congrArg List.length hks.1.1.toks
         have hkp := hkp.1
         exact ⟨hk.1,by have := hk.2.1; omega,by omega,by omega,hpf⟩
       refine ⟨?_,?_,?_,?_,?_,?_⟩
       · refine kd h17 fun u sa eu wa ha hea => ?_
         have L1 := L1.eff hea
         have L4 := L4.eff hea
         refine ⟨ld4 L4,ld1 L1,str u.t,rfl,ld4 L4,ld1 L1,?_⟩
         refine bsl_int1 fun r wb hr hzb hrb hxb => ?_
         refine ⟨ld4 (L4.ext hxb),ld1 (L1.ext hxb),?_⟩
         simp only [put_int,put_str,put_slice,put_nil,List.length_cons,List.length_nil,List.set_cons_zero,List.set_cons_succ,Nat.reduceAdd,Nat.reduceLT,true_and,Nat.zero_lt_succ]
         obtain ⟨d1,d2,d3,d4,d5⟩ := done eu
         exact fin (e := ⟨30,u.t,[y],[],(cur s2).a⟩) (ha.ext hxb) d1 ((he17'.trans hea).x hxb) (L1.ext hxb) ((ha.row_new (l := [y]) hr hzb hrb (by simp)).le (by have := hea.chg.size; omega)) rfl d2 d3 d4 d5
       · exact ld4 L4
       · exact ld1 L1
       · exact ld1 L1
       · refine kd h17 fun u sa eu wa ha hea => ?_
         have L1 := L1.eff hea
         have L4 := L4.eff hea
         refine ⟨ld4 L4,ld1 L1,str u.t,rfl,?_⟩
         refine bsl_int1 fun r wb hr hzb hrb hxb => ?_
         refine ⟨ld4 (L4.ext hxb),ld1 (L1.ext hxb),?_⟩
         simp only [put_int,put_str,put_slice,put_nil,List.length_cons,List.length_nil,List.set_cons_zero,List.set_cons_succ,Nat.reduceAdd,Nat.reduceLT,true_and,Nat.zero_lt_succ]
         obtain ⟨d1,d2,d3,d4,d5⟩ := done eu
         exact fin (e := ⟨30,u.t,[y],[],(cur s2).a⟩) (ha.ext hxb) d1 ((he17'.trans hea).x hxb) (L1.ext hxb) ((ha.row_new (l := [y]) hr hzb hrb (by simp)).le (by have := hea.chg.size; omega)) rfl d2 d3 d4 d5
       · refine bsl_int1 fun r wb hr hzb hrb hxb => ?_
         have L1 := L1.ext hxb
         have L4 := L4.ext hxb
         have rwb := h17.row_new (l := [y]) hr hzb hrb (by simp)
         refine ⟨ld4 L4,ld1 L1,ld1 L1,?_⟩
         refine kd (h17.ext hxb) fun u sa eu wa ha hea => ?_
         have L1 := L1.eff hea
         have L4 := L4.eff hea
         refine ⟨ld4 L4,ld1 L1,str u.t,rfl,?_⟩
         simp only [put_int,put_str,put_slice,put_nil,List.length_cons,List.length_nil,List.set_cons_zero,List.set_cons_succ,Nat.reduceAdd,Nat.reduceLT,true_and,Nat.zero_lt_succ]
         obtain ⟨d1,d2,d3,d4,d5⟩ := done eu
         exact fin (e := ⟨30,u.t,[y],[],(cur s2).a⟩) ha d1 ((he17'.x hxb).trans hea) L1 ((rwb.eff hea).le (by omega)) rfl d2 d3 d4 d5
   · have hi : isS s2 [91] = false := by simpa using hi
     rw [if_neg (by rw [hi]; decide)] at hpf
     exact hK y _ hpf.symm M2 w7 h7 he7
end
end Go.Proofs.YtofhaneggcpdaaaGreatDoor
namespace Go.Proofs.YtofhaneggcpdaaaGreatDoor
open Go Go.Eng Go.RowKit Go.Syn Go.Lex
set_option maxRecDepth 100000
section
variable [HX]
variable {w0 w w' w1 : World} {p f b : Nat} {M M' M0 : Lay} {vt : Value} {s : PS} {top : List Nat} {N : Int} {K : Value → World → Prop} {e : Ex} {va vk : Value} {wbn : Nat} {wb : World} {dl : Nat}
theorem sign_p {E S : PS → R Nat} (hS : ScanC w0 f) (hE : ∀ d,dl = d + 1 → EC w0 f 81 E d) (hG : ∀ d,dl = d + 1 → EC w0 f 131 S d) (hF : Fine E) (hFS : Fine S) : EC w0 f 131 (signR E S) dl := by
 intro w p M vt s top N K h hg hK ht
 refine W131_ok ?_
 unfold W131
 have hN := hg.hN
 refine box_one rfl fun b1 w1 hb1 hz1 hbb1 hx1 => ?_
 have h1 := h.ext hx1
 have L1 := h.loc hz1 hb1 hbb1
 refine L1.ld rfl ?_
 refine now_p h1 hg.ws hN hg.l fun w2 h2 he2 => ?_
 have L1 := L1.eff he2
 have he2 := (Eff.ext hx1).trans he2
 have lt1 := L1.lt
 have hgn := hg.now
 refine alloc_new fun b3 w3 hb3 hz3 hbb3 hx3 => ?_
 have h3 := h2.ext hx3
 have L3 := h2.loc hz3 hb3 hbb3
 have L1 := L1.ext hx3
 refine st_agg_at (l := tokc (cur s)) L3.1 rfl rfl rfl fun w4 hz4 hbb4 hc4 => ?_
 have L3 : Loc w0 w4 p f M vt b3 TkT (tokc (cur s)) := ⟨hbb4,L3.2.up (by omega)⟩
 have h4 := h3.one hc4 L3.2
 have L1 := L1.one hc4 (by omega)
 have hw2 := he2.chg.size
 have he4 := (he2.x hx3).one hc4 (by omega)
 refine JoinW.cut (fun st w' => ∃ (k : Int) (x : Str),st = [i64 k] ∧ isS s x = true ∧ signR E S s = ((within (nowS s) (cur s).a (nowS s).quiet fun q => S (step1 q)).bind fun x s2 => putR s2 ⟨k,[],[x],[],(cur s).a⟩) ∧ PR w0 w' p f M vt (nowS s) top ∧ Eff p f M M w w' ∧ Loc w0 w' p f M vt b1 PpT [.pointer (some ⟨p,0,none⟩)] ∧ Loc w0 w' p f M vt b3 TkT (tokc (cur s))) ?_ ?_
 · unfold signR at hK ht ⊢
   simp only [is_now] at hK ht ⊢
   refine L1.ld rfl ?_
   refine isq_p h4 hgn fun w5 h5 he5 => ?_
   rw [nowS_idem] at h5
   have L1 := L1.eff he5
   have L3 := L3.eff he5
   have he5 := he4.trans he5
   rw [is_now,condW_b]
   refine ⟨fun hi => ⟨14,[33],rfl,hi,by rw [if_pos hi],h5,he5,L1,L3⟩,fun hi => ?_⟩
   rw [if_neg (by rw [hi]; decide)] at hK ht ⊢
   refine L1.ld rfl ?_
   refine isq_p h5 hgn fun w6 h6 he6 => ?_
   rw [nowS_idem] at h6
   have L1 := L1.eff he6
   have L3 := L3.eff he6
   have he6 := he5.trans he6
   rw [is_now,condW_b]
   refine ⟨fun hi => ⟨13,[45],rfl,hi,by rw [if_pos hi],h6,he6,L1,L3⟩,fun hi => ?_⟩
   rw [if_neg (by rw [hi]; decide)] at hK ht
   refine L1.ld rfl ?_
   exact post_p hS hE hF w6 p M vt _ top N _ h6 hgn (fun x s' ex M' w7 h7 he7 => hK x s' ex M' w7 h7 (he6.trans he7)) ht
 rintro st g w5 ⟨k,x,rfl,hi,es,h5,he5,L1,L3⟩
 rw [es] at hK ht
 simp only [List.getD_cons_zero]
 have hw5 := he5.chg.size
 have lt1 := L1.lt
 have lt3 := L3.lt
 refine alloc_new fun b5 w6 hb5 hz6 hbb6 hx6 => ?_
 have h6 := h5.ext hx6
 have L5 := h5.loc hz6 hb5 hbb6
 have L1 := L1.ext hx6
 have L3 := L3.ext hx6
 refine L5.st rfl (by simp) fun w7 L5 hc7 hz7 => ?_
 have h7 := (h6.one hc7 L5.2).drew
 have L1 := (L1.one hc7 (by omega)).drew
 have L3 := (L3.one hc7 (by omega)).drew
 have L5 := L5.drew
 have he7 := ((he5.x hx6).one hc7 (by omega)).x (ext_drew w7)
 refine L1.ld rfl ?_
 rw [fld_ptr,add_mk,Nat.zero_add]
 refine L3.ld rfl ?_
 refine L1.ld rfl ?_
 refine h7.ld rfl ?_
 have hlev := hgn.lev
 refine within_p h7 (by omega) (fun hd => ht 7 _ (by rw [win_bad hd]; rfl)) fun hd w8 h8 he8 => ?_
 obtain ⟨d,rfl⟩ : ∃ d,dl = d + 1 := ⟨dl - 1,by omega⟩
 rw [win_ok hd] at hK ht
 obtain ⟨q1,q2,q3,q4⟩ := hg.sign hi (nowS s).quiet
 have L1 := L1.eff he8
 have L3 := L3.eff he8
 have L5 := L5.eff he8
 have he8 := he7.trans he8
 refine callV_cap' (caps := [.pointer (some ⟨b1,0,none⟩),.pointer (some ⟨b5,0,none⟩)]) ?_
 refine W141_ok ?_
 unfold W141
 refine L1.ld rfl ?_
 refine h8.go (wsi q1.ws q1.l) fun w9 h9 he9 hz9 => ?_
 have L1 := L1.eff he9
 have L3 := L3.eff he9
 have L5 := L5.eff he9
 have he9 := he8.trans he9
 refine L1.ld rfl ?_
 refine hG d rfl w9 p M vt _ top N _ h9 q4 (fun y s' ey M' w10 h10 he10 => ?_) fun c a' ey => ht c a' (by rw [ey]; rfl)
 obtain ⟨g10,_⟩ := q4.e hFS ey
 have pz := hFS.z (step1 { nowS s with deep := (nowS s).deep + 1,quiet := (nowS s).quiet })
 rw [ey] at hK pz
 have pz : Syn.phi s' ≤ Syn.phi (step1 (⟨(nowS s).toks,(nowS s).i,(nowS s).off,(nowS s).deep + 1,(nowS s).quiet,(nowS s).ex,(nowS s).bl⟩ : PS)) := pz
 have ps := (phi_go q3).2
 rw [q2] at ps
 have pn := phi_now s
 have pe : Syn.phi (⟨(nowS s).toks,(nowS s).i,(nowS s).off,(nowS s).deep + 1,(nowS s).quiet,(nowS s).ex,(nowS s).bl⟩ : PS) = Syn.phi (nowS s) := rfl
 simp only [R.bind] at hK
 have L1 := L1.eff he10
 have L3 := L3.eff he10
 have L5 := L5.eff he10
 have he10 := he9.trans he10
 refine L5.st rfl (by simp) fun w11 L5 hc11 hz11 => ?_
 have h11 := h10.one hc11 L5.2
 have L1 := L1.one hc11 (by omega)
 have L3 := L3.one hc11 (by omega)
 have he11 := he10.one hc11 (by omega)
 have g10l := g10.lev
 refine ⟨M',s',h11,by omega,fun w12 h12 he12 => ?_⟩
 have L1 := L1.eff he12
 have L3 := L3.eff he12
 have L5 := L5.eff he12
 have he12 := he11.trans he12
 refine L1.ld rfl ?_
 refine L5.ld rfl ?_
 refine bsl_int1 fun r w13 hr hz13 hrb hx13 => ?_
 refine (L3.ext hx13).ldf rfl ?_
 simp only [put_int,put_str,put_slice,put_nil,List.length_cons,List.length_nil,List.set_cons_zero,List.set_cons_succ,Nat.reduceAdd,Nat.reduceLT,true_and,Nat.zero_lt_succ]
 have hg12 := hgn.back (q := (nowS s).quiet) g10
 refine put_e (e := ⟨k,[],[y],[],(cur s).a⟩) (h12.ext hx13) (he12.x hx13) (ER.noK rfl ((h12.row_new (l := [y]) hr hz13 hrb (by simp)).le he12.chg.size)) hg12 fun M2 w14 h14 he14 _ => ?_
 exact hK _ _ rfl M2 w14 h14 he14
theorem joined_p {E S : PS → R Nat} (hS : ScanC w0 f) (hE : ∀ d,dl = d + 1 → EC w0 f 81 E d) (hG : ∀ d,dl = d + 1 → EC w0 f 131 S d) (hF : Fine E) (hFS : Fine S) : ∀ (m : Nat),m ≤ 6 → ∀ (w : World) (p : Nat) (M : Lay) (vt : Value) (s : PS) (top : List Nat) (N : Int) (K : Value → World → Prop),PR w0 w p f M vt s top → Gd N s dl →
   (∀ x s',joinU E S m s = .ok x s' → ∀ M' w',PR w0 w' p f M' vt s' top → Eff p f M M' w w' → K (i64 (x : Nat)) w') → (∀ c a,joinU E S m s = .err c a → Thr w0 f c a) → callF Tryz.prog 104 [.pointer (some ⟨p,0,none⟩),i64 ((6 - m : Nat) : Int)] w K
 | 0,_,w,p,M,vt,s,top,N,K,h,hg,hK,ht => by
   refine W104_ok ?_
   unfold W104
   rw [bin_eql,condW_dec]
   refine ⟨fun _ => ?_,fun e => absurd rfl e⟩
   exact sign_p hS hE hG hF hFS w p M vt s top N _ h hg hK ht
 | m + 1,hm,w,p,M,vt,s,top,N,K,h,hg,hK,ht => by
   refine W104_ok ?_
   unfold W104
   have hN := hg.hN
   have hJ : Fine (joinU E S m) := ⟨fun N => joinU_sat (hF.ok N) (hFS.ok N) m,phi_joinU hF.z hFS.z m⟩
   simp only [joinU] at hK ht
   rw [bin_eql,condW_dec]
   refine ⟨fun e => by omega,fun _ => ?_⟩
   have up : ∀ {KK : Value → Prop},KK (i64 ((6 - m : Nat) : Int)) → binW .add (i64 ((6 - (m + 1) : Nat) : Int)) (.int .i64 1) KK := fun h => by
     rw [bin_add,wrap_id (by omega) (by omega),show ((6 - (m + 1) : Nat) : Int) + 1 = ((6 - m : Nat) : Int) by omega]; exact h
   refine up ?_
   refine joined_p hS hE hG hF hFS m (by omega) w p M vt s top N _ h hg (fun x s1 ex M1 w2 h2 he2 => ?_) fun c a' ex => ht c a' (by rw [ex]; rfl)
   rw [ex] at hK ht
   simp only [R.bind] at hK ht
   obtain ⟨hg1,hi1⟩ := hg.e hJ ex
   have etl := (hJ.ok N) s hg.ws
   rw [ex] at etl
   have etl := congrArg List.length etl.1.1.toks
   generalize hR : joinF (joinU E S m) (5 - m) (s.toks.length + 1) s1 x = R0 at hK ht
   refine LoopW.go (fun st w' => ∃ s1 M1 x n,st = [i64 ((x : Nat) : Int)] ∧ PR w0 w' p f M1 vt s1 top ∧ Gd N s1 dl ∧ Eff p f M M1 w w' ∧ joinF (joinU E S m) (5 - m) n s1 x = R0 ∧ s1.toks.length < n + s1.i ∧ s1.toks.length = s.toks.length) (fun _ w' => s.toks.length - psAt w' p)
     ⟨s1,M1,x,s.toks.length + 1,rfl,h2,hg1,he2,hR,by have := hg1.ws.lt; omega,etl⟩ ?_
   clear he2 h2 ex hg1 hi1 etl hR
   rintro st g w2 ⟨s2,M2,y,n,rfl,h2,hg2,he2,hpf,hn,htl⟩
   simp only [List.getD_cons_zero]
   have hlt2 := hg2.ws.lt
   obtain ⟨n,rfl⟩ : ∃ m,n = m + 1 := ⟨n - 1,by omega⟩
   simp only [joinF] at hpf
   refine now_p h2 hg2.ws hN hg2.l fun w3 h3 he3 => ?_
   have he3 := he2.trans he3
   have hw3 := he3.chg.size
   have hgn := hg2.now
   refine alloc_new fun b6 w4 hb6 hz4 hbb4 hx4 => ?_
   have h4 := h3.ext hx4
   have L6 := h3.loc hz4 hb6 hbb4
   refine st_agg_at (l := tokc (cur s2)) L6.1 rfl rfl rfl fun w5 hz5 hbb5 hc5 => ?_
   have L6 : Loc w0 w5 p f M2 vt b6 TkT (tokc (cur s2)) := ⟨hbb5,L6.2.up (by omega)⟩
   have h5 := h4.one hc5 L6.2
   have he5 := (he3.x hx4).one hc5 (by omega)
   refine ld_all L6.1 rfl ?_
   refine level_p (by omega) fun w6 hx6 => ?_
   have h6 := h5.ext hx6
   have L6 := L6.ext hx6
   have he6 := he5.x hx6
   have en : (6 - (m + 1) : Nat) = 5 - m := by omega
   rw [en,bin_eql,condW_dec]
   refine ⟨fun h0 => ?_,fun h0 => ?_⟩
   · rw [if_pos h0] at hpf
     exact hK y _ hpf.symm M2 w6 h6 he6
   · rw [if_neg h0] at hpf
     have hk0 : (cur s2).k ≠ 0 := fun e => h0 (by unfold levelK; rw [e]; rfl)
     have hgs := hg2.step hk0
     have sg := step_go hg2.ws hk0
     have sp := (phi_go hk0).2
     refine h6.go (wsi hgn.ws hgn.l) fun w7 h7 he7 hz7 => ?_
     have L6 := L6.eff he7
     have he7 := he6.trans he7
     have up2 : ∀ {KK : Value → Prop},KK (i64 ((6 - m : Nat) : Int)) → binW .add (i64 ((5 - m : Nat) : Int)) (.int .i64 1) KK := fun h => by
       rw [← en]; exact up h
     refine up2 ?_
     refine joined_p hS hE hG hF hFS m (by omega) w7 p M2 vt _ top N _ h7 hgs (fun z s3 ez M3 w8 h8 he8 => ?_) fun c a' ez => ht c a' (by rw [← hpf,ez]; rfl)
     obtain ⟨g8,i8⟩ := hgs.e hJ ez
     have pz := hJ.z (step1 (nowS s2))
     have oz := hJ.ok N _ hgs.ws
     rw [ez] at hpf pz oz
     have pz : Syn.phi s3 ≤ Syn.phi (step1 (nowS s2)) := pz
     have tz := congrArg List.length oz.1.1.toks
     have tz2 := congrArg List.length sg.1.toks
     simp only [R.bind] at hpf
     have L6 := L6.eff he8
     have he8 := he7.trans he8
     have hw8 := he8.chg.size
     refine bsl_int2 fun r w9 hr hz9 hrb hx9 => ?_
     refine (L6.ext hx9).ldf rfl ?_
     simp only [put_int,put_str,put_slice,put_nil,List.length_cons,List.length_nil,List.set_cons_zero,List.set_cons_succ,Nat.reduceAdd,Nat.reduceLT,true_and,Nat.zero_lt_succ]
     refine put_e (e := ⟨levelK (cur s2) (5 - m),[],[y,z],[],(cur s2).a⟩) (h8.ext hx9) (he8.x hx9) (ER.noK rfl ((h8.row_new (l := [y,z]) hr hz9 hrb (by simp)).le hw8)) g8 fun M4 w10 h10 he10 _ => ?_
     have hlt8 := g8.ws.lt
     have hph := hg2.phi
     refine ⟨⟨_,M4,_,n,rfl,h10,g8.put (by omega),he10,hpf,by show s3.toks.length < n + s3.i; omega,by show s3.toks.length = _; omega⟩,?_⟩
     rw [h10.at_,h2.at_]
     show s.toks.length - s3.i < _
     have := sg.2
     omega
end
end Go.Proofs.YtofhaneggcpdaaaGreatDoor
namespace Go.Proofs.YtofhaneggcpdaaaGreatDoor
open Go Go.Eng Go.RowKit Go.Syn Go.Lex
set_option maxRecDepth 100000
theorem take_now (s : PS) (w : Str) : takeS (nowS s) w = takeS s w := by unfold takeS; rw [is_now,nowS_idem]
section
variable [HX]
variable {w0 w w' w1 : World} {p f b : Nat} {M M' M0 : Lay} {vt : Value} {s : PS} {top : List Nat} {N : Int} {K : Value → World → Prop} {e : Ex} {va vk : Value} {wbn : Nat} {wb : World} {dl : Nat}
theorem expr_p {E S : PS → R Nat} (hS : ScanC w0 f) (hE : ∀ d,dl = d + 1 → EC w0 f 81 E d) (hG : ∀ d,dl = d + 1 → EC w0 f 131 S d) (hF : Fine E) (hFS : Fine S) : EC w0 f 81 (exprR E S) dl := by
 intro w p M vt s top N K h hg hK ht
 refine W81_ok ?_
 unfold W81
 have hN := hg.hN
 have hJ : Fine (joinU E S 6) := ⟨fun N => joinU_sat (hF.ok N) (hFS.ok N) 6,phi_joinU hF.z hFS.z 6⟩
 refine box_one rfl fun b1 w1 hb1 hz1 hbb1 hx1 => ?_
 have h1 := h.ext hx1
 have L1 := h.loc hz1 hb1 hbb1
 refine L1.ld rfl ?_
 unfold exprR at hK ht
 refine joined_p hS hE hG hF hFS 6 (Nat.le_refl _) w1 p M vt s top N _ h1 hg (fun a s1 ea M1 w2 h2 he2 => ?_) fun c a' ea => ht c a' (by rw [ea]; rfl)
 rw [ea] at hK ht
 simp only [R.bind] at hK ht
 obtain ⟨hg1,hi1⟩ := hg.e hJ ea
 have L1 := L1.eff he2
 have he2 := (Eff.ext hx1).trans he2
 refine L1.ld rfl ?_
 refine now_p h2 hg1.ws hN hg1.l fun w3 h3 he3 => ?_
 have L1 := L1.eff he3
 have he3 := he2.trans he3
 have lt1 := L1.lt
 have hw3 := he3.chg.size
 have hgn := hg1.now
 refine alloc_new fun b4 w4 hb4 hz4 hbb4 hx4 => ?_
 have h4 := h3.ext hx4
 have L4 := h3.loc hz4 hb4 hbb4
 have L1 := L1.ext hx4
 refine st_agg_at (l := tokc (cur s1)) L4.1 rfl rfl rfl fun w5 hz5 hbb5 hc5 => ?_
 have L4 : Loc w0 w5 p f M1 vt b4 TkT (tokc (cur s1)) := ⟨hbb5,L4.2.up (by omega)⟩
 have h5 := h4.one hc5 L4.2
 have L1 := L1.one hc5 (by omega)
 have he5 := (he3.x hx4).one hc5 (by omega)
 refine L1.ld rfl ?_
 refine take_p h5 hgn.ws hN hgn.l fun w6 h6 he6 => ?_
 rw [take_now] at h6 ⊢
 have L1 := L1.eff he6
 have L4 := L4.eff he6
 have he6 := he5.trans he6
 rw [un_not,condW_b]
 refine ⟨fun hn => ?_,fun hy => ?_⟩
 · have hn : (takeS s1 [63]).1 = false := by simpa using hn
   rw [if_neg (by rw [hn]; decide)] at hK
   exact hK a _ rfl M1 w6 h6 he6
 have hy : (takeS s1 [63]).1 = true := by simpa using hy
 rw [if_pos hy] at hK ht
 have hgt := hg1.take [63]
 have tp := (phi_take s1 [63]).2 hy
 generalize hs2 : (takeS s1 [63]).2 = s2 at *
 have lt1 := L1.lt
 have lt4 := L4.lt
 have hw6 := he6.chg.size
 refine bsl_int3 fun r w7 hr hz7 hrb hx7 => ?_
 have h7 := h6.ext hx7
 have Lr := h6.loc hz7 hr hrb
 have L1 := L1.ext hx7
 have L4 := L4.ext hx7
 refine alloc_new fun b5 w8 hb5 hz8 hbb8 hx8 => ?_
 have h8 := h7.ext hx8
 have L5 := h7.loc hz8 hb5 hbb8
 have L1 := L1.ext hx8
 have L4 := L4.ext hx8
 have Lr := Lr.ext hx8
 refine L5.st rfl (by simp) fun w9 L5 hc9 hz9 => ?_
 have h9 := (h8.one hc9 L5.2).drew
 have L1 := (L1.one hc9 (by omega)).drew
 have L4 := (L4.one hc9 (by omega)).drew
 have Lr := (Lr.one hc9 (by omega)).drew
 have L5 := L5.drew
 have he9 := (((he6.x hx7).x hx8).one hc9 (by omega)).x (ext_drew w9)
 refine L1.ld rfl ?_
 rw [fld_ptr,add_mk,Nat.zero_add]
 refine L4.ld rfl ?_
 refine L1.ld rfl ?_
 refine h9.ld rfl ?_
 have hlev := hgt.lev
 refine within_p h9 (by omega) (fun hd => ht 7 _ (by rw [win_bad hd])) fun hd w10 h10 he10 => ?_
 obtain ⟨d,rfl⟩ : ∃ d,dl = d + 1 := ⟨dl - 1,by omega⟩
 rw [win_ok hd] at hK ht
 have q1 := hgt.frame s2.quiet
 have L1 := L1.eff he10
 have L4 := L4.eff he10
 have Lr := Lr.eff he10
 have L5 := L5.eff he10
 have he10 := he9.trans he10
 refine callV_cap' (caps := [.pointer (some ⟨b1,0,none⟩),.pointer (some ⟨b5,0,none⟩)]) ?_
 refine W105_ok ?_
 unfold W105
 have L1 := L1.drew
 have L4 := L4.drew
 have Lr := Lr.drew
 have L5 := L5.drew
 have h10 := h10.drew
 have he10 := he10.x (ext_drew w10)
 refine L5.ld rfl ?_
 refine L1.ld rfl ?_
 refine hE d rfl w10.drew p M1 vt _ top N _ h10 q1 (fun x s3 ex M3 w11 h11 he11 => ?_) fun c a' ex => ht c a' (by rw [ex]; rfl)
 obtain ⟨g3,_⟩ := q1.e hF ex
 have px := hF.z { s2 with deep := s2.deep + 1,quiet := s2.quiet }
 rw [ex] at hK ht px
 have px : Syn.phi s3 ≤ Syn.phi s2 := px
 simp only [R.bind] at hK ht
 have L1 := L1.eff he11
 have L4 := L4.eff he11
 have Lr := Lr.eff he11
 have L5 := L5.eff he11
 have he11 := he10.trans he11
 refine ⟨L5.ld rfl rfl,?_⟩
 rw [ixa_slice]
 refine ⟨by omega,by omega,?_⟩
 rw [add_mk,Nat.zero_add]
 refine Lr.st (off := 1) rfl (by simp) fun w12 Lr hc12 hz12 => ?_
 have h12 := h11.one hc12 Lr.2
 have L1 := L1.one hc12 (by omega)
 have L4 := L4.one hc12 (by omega)
 have L5 := L5.one hc12 (by omega)
 have he12 := he11.one hc12 (by omega)
 refine L1.ld rfl ?_
 refine want_p h12 g3.ws hN g3.l (fun s4 e4 w13 h13 he13 => ?_) fun c a' e4 => ht c a' (by rw [e4])
 have pw := phi_want s3 [58]
 rw [e4] at hK ht pw
 have pw : Syn.phi s4 + 1 ≤ Syn.phi s3 := pw
 simp only at hK ht
 obtain ⟨g4,_⟩ := g3.want e4
 have L1 := (L1.eff he13).drew
 have L4 := (L4.eff he13).drew
 have Lr := (Lr.eff he13).drew
 have L5 := (L5.eff he13).drew
 have h13 := h13.drew
 have he13 := (he12.trans he13).x (ext_drew w13)
 refine L5.ld rfl ?_
 refine L1.ld rfl ?_
 refine hE d rfl w13.drew p M3 vt _ top N _ h13 g4 (fun y s5 ey M5 w14 h14 he14 => ?_) fun c a' ey => ht c a' (by rw [ey])
 obtain ⟨g5,_⟩ := g4.e hF ey
 have py := hF.z s4
 rw [ey] at hK py
 have py : Syn.phi s5 ≤ Syn.phi s4 := py
 simp only at hK
 have L1 := L1.eff he14
 have L4 := L4.eff he14
 have Lr := Lr.eff he14
 have L5 := L5.eff he14
 have he14 := he13.trans he14
 refine ⟨L5.ld rfl rfl,?_⟩
 rw [ixa_slice]
 refine ⟨by omega,by omega,?_⟩
 rw [add_mk,Nat.zero_add]
 refine Lr.st (off := 2) rfl (by simp) fun w15 Lr hc15 hz15 => ?_
 have h15 := h14.one hc15 Lr.2
 have L1 := L1.one hc15 (by omega)
 have L4 := L4.one hc15 (by omega)
 have L5 := L5.one hc15 (by omega)
 have he15 := he14.one hc15 (by omega)
 have g5l := g5.lev
 refine ⟨M5,s5,h15,by omega,fun w16 h16 he16 => ?_⟩
 have L1 := L1.eff he16
 have L4 := L4.eff he16
 have Lr := Lr.eff he16
 have L5 := L5.eff he16
 have he16 := he15.trans he16
 refine L1.ld rfl ?_
 refine L5.ld rfl ?_
 refine L4.ldf rfl ?_
 simp only [put_int,put_str,put_slice,put_nil,List.length_cons,List.length_nil,List.set_cons_zero,List.set_cons_succ,Nat.reduceAdd,Nat.reduceLT,true_and,Nat.zero_lt_succ]
 have g16 := hgt.back (q := s2.quiet) g5
 have hR : Ro w0 w16 p f M5 vt w.heap.size IntT 1 (.slice (some ⟨r,0,none⟩) 3 3) 3 (ints [a,x,y]) :=
   ⟨own_of (cs := ints [a,x,y]) Lr.1 Lr.2.1.1 rfl (by omega),fun k hk => by simp only [Value.ownBlock,Option.some.injEq] at hk; subst hk; exact Lr.2,fun k hk => by simp only [Value.ownBlock,Option.some.injEq] at hk; omega⟩
 refine put_e (e := ⟨28,[],[a,x,y],[],(cur s1).a⟩) h16 he16 (ER.noK rfl hR) g16 fun M6 w17 h17 he17 _ => ?_
 exact hK _ _ rfl M6 w17 h17 he17
theorem fine_dead : Fine dead := ⟨dead_ok,dead_z⟩
theorem fine_exprD (d : Nat) : Fine (exprD d).1 ∧ Fine (exprD d).2 := ⟨⟨fun N => (exprD_ok N d).1,(exprD_z d).1⟩,⟨fun N => (exprD_ok N d).2,(exprD_z d).2⟩⟩
theorem exprD_p (hS : ScanC w0 f) : ∀ dl,EC w0 f 81 (exprD dl).1 dl ∧ EC w0 f 131 (exprD dl).2 dl
 | 0 => ⟨expr_p hS (fun d e => by omega) (fun d e => by omega) fine_dead fine_dead,sign_p hS (fun d e => by omega) (fun d e => by omega) fine_dead fine_dead⟩
 | d + 1 => by
   have ih := exprD_p hS d
   have hf := fine_exprD d
   have hE : ∀ d',d + 1 = d' + 1 → EC w0 f 81 (exprD d).1 d' := fun d' e => by
     have e : d' = d := by omega
     subst e; exact ih.1
   have hG : ∀ d',d + 1 = d' + 1 → EC w0 f 131 (exprD d).2 d' := fun d' e => by
     have e : d' = d := by omega
     subst e; exact ih.2
   exact ⟨expr_p hS hE hG hf.1 hf.2,sign_p hS hE hG hf.1 hf.2⟩
end
end Go.Proofs.YtofhaneggcpdaaaGreatDoor
namespace Go.Proofs.YtofhaneggcpdaaaGreatDoor
open Go Go.Eng Go.RowKit Go.Syn Go.Lex
set_option maxRecDepth 100000
section
variable {w0 w w1 w2 : World} {p f : Nat} {M : Lay} {vt : Value} {s : PS} {top : List Nat}
theorem PR.putB (h : PR w0 w p f M vt s top) {wb : World} {M0 : Lay} (he : Eff p f M0 M wb w) {e : Blk} {d : List Value} {v' : Value} (hd : BkR w w0.heap.size e d) (hu : ∀ k ∈ ub d,Off w0 w p f M vt k) (hn : (ub d).Nodup) (hnew : ∀ k ∈ ub d,wb.heap.size ≤ k)
   (hO : Own w1 w0.heap.size BkT 5 v' (s.bl.length + 1) (M.cB ++ d)) (hc1 : Chg (fun k => M.vB.ownBlock = some k) w w1) (hv : ∀ k,v'.ownBlock = some k → M.vB.ownBlock = some k ∨ w.heap.size ≤ k)
   (hc2 : Chg (One f) w1 w2) (hf : w2.heap[f]? = some (.cells [M.vE,v',M.vT].toArray FlT (0,0))) : PR w0 w2 p f { M with vB := v',cB := M.cB ++ d } vt { s with bl := s.bl ++ [e] } top ∧ Eff p f M0 { M with vB := v',cB := M.cB ++ d } wb w2 := by
 have hb := h.base
 have hzb := he.chg.size
 have pB := uses_B M f
 have use : ∀ k,M.vB.ownBlock = some k → k ∈ M.uses f := fun k hk => List.mem_cons_of_mem _ (ub_mem (v := M.vB) (by simp) hk)
 have hnd0 := pB.nodup_iff.1 h.fr.nd
 have hnd := hnd0
 rw [List.nodup_cons,List.nodup_append] at hnd
 obtain ⟨nf,_,nb,nab⟩ := hnd
 have inU : ∀ k ∈ ub ([M.vE,M.vT] ++ (M.cE ++ M.cB)),k ∈ M.uses f := fun k hk => pB.mem_iff.2 (List.mem_cons_of_mem _ (List.mem_append_right _ hk))
 have rest : ∀ k ∈ ub ([M.vE,M.vT] ++ (M.cE ++ M.cB)),M.vB.ownBlock ≠ some k ∧ k ≠ f ∧ k < w.heap.size := fun k hk =>
   ⟨fun e => nab k (ub_one.2 e) k hk rfl,fun e => nf (e ▸ List.mem_append_right _ hk),h.fr.lt k (inU k hk)⟩
 have c12 : Chg (fun k => M.vB.ownBlock = some k ∨ k = f) w w2 := (hc1.mono fun k _ e => .inl e).trans (hc2.mono fun k _ e => .inr e)
 have sub : ∀ v ∈ [M.vE,M.vT] ++ (M.cE ++ M.cB),∀ k,v.ownBlock = some k → ¬ (M.vB.ownBlock = some k ∨ k = f) := fun v hv k hk e => by
   have := rest k (ub_mem hv hk)
   exact e.elim this.1 this.2.1
 have hOf : ∀ k,v'.ownBlock = some k → k ≠ f := fun k hk e => by
   subst e
   rcases hv k hk with e | e
   · exact nf (List.mem_append_left _ (ub_one.2 e))
   · have := at_lt h.fr.hf; omega
 have nE : M.vB.ownBlock ≠ some p := fun e => h.np (use p e)
 have pf : p ≠ f := fun e => h.np (e ▸ List.mem_cons_self)
 have perm := uses_B' M f v' d
 have hN : (f :: (ub [v'] ++ (ub d ++ ub ([M.vE,M.vT] ++ (M.cE ++ M.cB))))).Nodup := nd_grow (n := w.heap.size) (a := ub [M.vB]) hnd0 (fun k hk => h.fr.lt k (pB.mem_iff.2 hk)) (ub_nodup1 _) (fun k hk => (hv k (ub_one.1 hk)).imp (fun e => ub_one.2 e) id) hn fun k hk => ⟨(hu k hk).1.2,fun e => (hu k hk).2.2.1 (pB.mem_iff.2 e)⟩
 have hz := c12.size
 have mem : ∀ k ∈ ({ M with vB := v',cB := M.cB ++ d } : Lay).uses f,k = f ∨ v'.ownBlock = some k ∨ k ∈ ub d ∨ k ∈ ub ([M.vE,M.vT] ++ (M.cE ++ M.cB)) := fun k hk => by
   have hk := perm.mem_iff.1 hk
   rcases List.mem_cons.1 hk with e | e
   · exact .inl e
   rcases List.mem_append.1 e with e | e
   · exact .inr (.inl (ub_one.1 e))
   rcases List.mem_append.1 e with e | e
   · exact .inr (.inr (.inl e))
   · exact .inr (.inr (.inr e))
 have cT : Chg (Tn p f M) w w2 := c12.mono fun k _ e => e.elim (fun e => .inr (.inr (.inr e))) fun e => .inr (.inl e)
 refine ⟨⟨?_,⟨hf,?_,?_,?_,?_,?_,perm.nodup_iff.2 hN,fun k hk => ?_,fun k hk => ?_⟩,?_,?_,fun e => ?_,h.lo,fun k hk => ?_⟩,⟨(he.trans (Eff.of cT)).chg,fun k hk => ?_,he.hE,fun k hk => (hv k hk).elim (he.hB k) fun e => .inr (by omega),he.hT⟩⟩
 · refine h.ch.then c12 fun k hk e => ?_
   rcases e with e | e
   · exact (h.fr.lo k (use k e)).resolve_right (by omega)
   · exact e
 · exact own_at h.fr.oE c12 (sub _ (by simp))
 · rw [List.length_append]
   exact own_at hO hc2 fun k hk e => hOf k hk e
 · exact own_at h.fr.oT c12 (sub _ (by simp))
 · refine h.fr.ee.imp fun x d hd hx => hx.at_ c12 fun k hk => ?_
   obtain ⟨v,hv,hk⟩ := List.mem_filterMap.1 hk
   exact sub v (by simp [hd v hv]) k hk
 · refine RowsR.snoc ?_ (hd.at_ c12 fun k hk e => ?_) (by obtain ⟨vl,va,vk,rfl,_⟩ := hd; rfl)
   · refine h.fr.bb.imp fun x d hd hx => hx.at_ c12 fun k hk => ?_
     obtain ⟨v,hv,hk⟩ := List.mem_filterMap.1 hk
     exact sub v (by simp [hd v hv]) k hk
   · have ho := (hu k hk).2.2.1
     rcases e with e | e
     · exact ho (use k e)
     · exact ho (e ▸ List.mem_cons_self)
 · rcases mem k hk with e | e | e | e
   · rw [e]; exact at_lt hf
   · exact Nat.lt_of_lt_of_le (own_lt hO e).1 hc2.size
   · exact Nat.lt_of_lt_of_le (hu k e).1.2 hz
   · exact Nat.lt_of_lt_of_le (rest k e).2.2 hz
 · rcases mem k hk with e | e | e | e
   · exact .inl e
   · exact .inr (own_lt hO e).2
   · exact .inr (hu k e).1.1
   · exact h.fr.lo k (inU k e)
 · exact c12.at h.ps fun e => e.elim nE pf
 · exact slat_at h.tk c12 fun k hk e => by
     have := (h.nt k hk).1
     rcases e with e | e
     · exact this (use k e)
     · exact this (e ▸ List.mem_cons_self)
 · rcases mem p e with e | e | e | e
   · exact pf e
   · exact (hv p e).elim nE fun e => by have := h.lt; omega
   · exact (hu p e).2.1 rfl
   · exact h.np (inU p e)
 · have ht := h.nt k hk
   refine ⟨fun e => ?_,ht.2.1,Nat.lt_of_lt_of_le ht.2.2 hz⟩
   rcases mem k e with e | e | e | e
   · exact ht.1 (e ▸ List.mem_cons_self)
   · exact (hv k e).elim (fun e => ht.1 (use k e)) fun e => by omega
   · exact (hu k e).2.2.2 hk
   · exact ht.1 (inU k e)
 · rcases mem k hk with e | e | e | e
   · exact he.us k (e ▸ List.mem_cons_self)
   · exact (hv k e).elim (fun e => he.us k (use k e)) fun e => .inr (by omega)
   · exact .inr (hnew k e)
   · exact he.us k (inU k e)
end
structure FineB (F : PS → R Nat) : Prop where
 ok : ∀ N,BOk N F
 z : EZ F
theorem Gd.bk {x : Nat} {s s' : PS} {N : Int} {dl : Nat} {F : PS → R Nat} (h : Gd N s dl) (hF : FineB F) (e : F s = .ok x s') : Gd N s' dl ∧ s.i < s'.i ∧ s'.toks = s.toks := by
 have h1 := hF.ok N s h.ws
 have h2 := hF.z s
 rw [e] at h1 h2
 exact ⟨h.go h1.1.1 h2,h1.1.2,h1.1.1.toks⟩
section
variable [HX]
variable {w0 w w' w1 : World} {p f b : Nat} {M M' M0 : Lay} {vt : Value} {s : PS} {top : List Nat} {N : Int} {K : Value → World → Prop} {e : Ex} {wbn : Nat} {wb : World} {dl : Nat}
structure BL (w0 w : World) (p f : Nat) (M : Lay) (vt : Value) (B1 b4 : Nat) (typ : Str) (a : Int) (vl va vb : Value) (ls : List Str) (av : List Atr) (bs : List Nat) : Prop where
 l4 : Loc w0 w p f M vt b4 BkT [str typ,vl,va,vb,i64 a]
 rL : Ro w0 w p f M vt B1 StT 1 vl ls.length (strs ls)
 rA : Ro w0 w p f M vt B1 AtT 3 va av.length (atrs av)
 rB : Ro w0 w p f M vt B1 IntT 1 vb bs.length (ints bs)
 d1 : ∀ k,vl.ownBlock = some k → va.ownBlock ≠ some k
 d2 : ∀ k,vl.ownBlock = some k → vb.ownBlock ≠ some k
 d3 : ∀ k,va.ownBlock = some k → vb.ownBlock ≠ some k
 lt : b4 < B1 ∧ B1 ≤ w.heap.size
section
variable {B1 b4 : Nat} {typ : Str} {a : Int} {vl va vb : Value} {ls : List Str} {av : List Atr} {bs : List Nat}
theorem BL.eff (h : BL w0 w p f M vt B1 b4 typ a vl va vb ls av bs) (he : Eff p f M M' w w') : BL w0 w' p f M' vt B1 b4 typ a vl va vb ls av bs :=
 ⟨h.l4.eff he,h.rL.eff he,h.rA.eff he,h.rB.eff he,h.d1,h.d2,h.d3,h.lt.1,Nat.le_trans h.lt.2 he.chg.size⟩
theorem BL.ext (h : BL w0 w p f M vt B1 b4 typ a vl va vb ls av bs) (hx : Ext w w') : BL w0 w' p f M vt B1 b4 typ a vl va vb ls av bs := h.eff (Eff.ext hx)
theorem BL.one (h : BL w0 w p f M vt B1 b4 typ a vl va vb ls av bs) (hc : Chg (One b) w w') (hb : b ≠ b4) (hL : vl.ownBlock ≠ some b) (hA : va.ownBlock ≠ some b) (hB : vb.ownBlock ≠ some b) : BL w0 w' p f M vt B1 b4 typ a vl va vb ls av bs :=
 ⟨h.l4.one hc (Ne.symm hb),h.rL.one hc hL,h.rA.one hc hA,h.rB.one hc hB,h.d1,h.d2,h.d3,h.lt.1,Nat.le_trans h.lt.2 hc.size⟩
theorem BL.fresh (h : BL w0 w p f M vt B1 b4 typ a vl va vb ls av bs) {k : Nat} (hk : w.heap.size ≤ k) : k ≠ b4 ∧ vl.ownBlock ≠ some k ∧ va.ownBlock ≠ some k ∧ vb.ownBlock ≠ some k :=
 ⟨fun e => by have := h.l4.lt; omega,fun e => by have := (h.rL.off k e).1.2; omega,fun e => by have := (h.rA.off k e).1.2; omega,fun e => by have := (h.rB.off k e).1.2; omega⟩
theorem BL.no4 (h : BL w0 w p f M vt B1 b4 typ a vl va vb ls av bs) : vl.ownBlock ≠ some b4 ∧ va.ownBlock ≠ some b4 ∧ vb.ownBlock ≠ some b4 :=
 ⟨fun e => by have := h.rL.new _ e; have := h.lt.1; omega,fun e => by have := h.rA.new _ e; have := h.lt.1; omega,fun e => by have := h.rB.new _ e; have := h.lt.1; omega⟩
theorem BL.appL {x : Str} {r : Nat} {ty : TypeId} {KW : World → Prop} (h : BL w0 w p f M vt B1 b4 typ a vl va vb ls av bs) (hp : PR w0 w p f M vt s top) (hr : w.heap[r]? = some (.cells [str x].toArray StT (0,0))) (hn : ls.length ≤ 1000000)
   (hK : ∀ vl' w',BL w0 w' p f M vt B1 b4 typ a vl' va vb (ls ++ [x]) av bs → PR w0 w' p f M vt s top → Chg (fun k => vl.ownBlock = some k ∨ k = b4) w w' → (∀ b T cs,Loc w0 w p f M vt b T cs → b ≠ b4 → vl.ownBlock ≠ some b → Loc w0 w' p f M vt b T cs) → (∀ k,vl'.ownBlock = some k → vl.ownBlock = some k ∨ w.heap.size ≤ k) → KW w') :
   semE Tryz.prog (Builtin.append_ #[33,33] ty #[vl,.slice (some ⟨r,0,none⟩) 1 1]) w fun t62 w36 => fldW 1 (.pointer (some ⟨b4,0,none⟩)) fun t63 => stW 1 t63 t62 w36 KW := by
 refine Ro.app el_st h.rL hp hr rfl (fun u hu => by simp only [List.mem_singleton] at hu; subst hu; rfl) hn (by decide) h.lt.2 fun v' w2 hR2 hc hv hp2 => ?_
 have e1 : (ls ++ [x]).length = ls.length + 1 := by simp
 rw [← e1,show strs ls ++ [str x] = strs (ls ++ [x]) from by simp [strs]] at hR2
 rw [fld_ptr,add_mk,Nat.zero_add]
 obtain ⟨vp,vc,ev,_⟩ := hR2.own.sl.shape
 obtain ⟨n1,n2,n3⟩ := h.no4
 have n1' : v'.ownBlock ≠ some b4 := fun e => by have := hR2.new b4 e; have := h.lt.1; omega
 refine (h.l4.row hc n1).st (by rw [ev]; rfl) (by simp) fun w3 L3 hc3 hz3 => ?_
 have z := hc.size
 refine hK v' w3 ⟨L3,hR2.one hc3 n1',(h.rA.row hc fun k hk e => h.d1 k e hk).one hc3 n2,(h.rB.row hc fun k hk e => h.d2 k e hk).one hc3 n3,fun k hk => ?_,fun k hk => ?_,h.d3,h.lt.1,by have := h.lt.2; omega⟩ (hp2.one hc3 L3.2) ((hc.mono fun k _ e => .inl e).trans (hc3.mono fun k _ e => .inr e)) (fun b T cs hL hb hvb => (hL.row hc hvb).one hc3 hb) hv
 · exact (hv k hk).elim (h.d1 k) fun e e' => by have := (h.rA.off k e').1.2; omega
 · exact (hv k hk).elim (h.d2 k) fun e e' => by have := (h.rB.off k e').1.2; omega
theorem BL.appA {x : Atr} {r : Nat} {ty : TypeId} {KW : World → Prop} (h : BL w0 w p f M vt B1 b4 typ a vl va vb ls av bs) (hp : PR w0 w p f M vt s top) (hr : w.heap[r]? = some (.cells [str x.n,i64 (x.e : Nat),i64 x.a].toArray AtT (0,0))) (hn : av.length ≤ 1000000)
   (hK : ∀ va' w',BL w0 w' p f M vt B1 b4 typ a vl va' vb ls (av ++ [x]) bs → PR w0 w' p f M vt s top → Chg (fun k => va.ownBlock = some k ∨ k = b4) w w' → (∀ b T cs,Loc w0 w p f M vt b T cs → b ≠ b4 → va.ownBlock ≠ some b → Loc w0 w' p f M vt b T cs) → (∀ k,va'.ownBlock = some k → va.ownBlock = some k ∨ w.heap.size ≤ k) → KW w') :
   semE Tryz.prog (Builtin.append_ #[36,36] ty #[va,.slice (some ⟨r,0,none⟩) 1 1]) w fun t62 w36 => nilW (.pointer (some ⟨b4,0,none⟩)) fun t63 => fldW 2 t63 fun t63 => stW 1 t63 t62 w36 KW := by
 refine Ro.app el_at h.rA hp hr rfl (fun u hu => by simp only [List.mem_cons,List.not_mem_nil,or_false] at hu; rcases hu with rfl | rfl | rfl <;> rfl) hn (by decide) h.lt.2 fun v' w2 hR2 hc hv hp2 => ?_
 have e1 : (av ++ [x]).length = av.length + 1 := by simp
 rw [← e1,show atrs av ++ [str x.n,i64 (x.e : Nat),i64 x.a] = atrs (av ++ [x]) from by simp [atrs]] at hR2
 rw [nil_ptr,fld_ptr,add_mk,Nat.zero_add]
 obtain ⟨vp,vc,ev,_⟩ := hR2.own.sl.shape
 obtain ⟨n1,n2,n3⟩ := h.no4
 have n2' : v'.ownBlock ≠ some b4 := fun e => by have := hR2.new b4 e; have := h.lt.1; omega
 refine (h.l4.row hc n2).st (by rw [ev]; rfl) (by simp) fun w3 L3 hc3 hz3 => ?_
 have z := hc.size
 refine hK v' w3 ⟨L3,(h.rL.row hc fun k hk e => h.d1 k hk e).one hc3 n1,hR2.one hc3 n2',(h.rB.row hc fun k hk e => h.d3 k e hk).one hc3 n3,fun k hk e => ?_,h.d2,fun k hk => ?_,h.lt.1,by have := h.lt.2; omega⟩ (hp2.one hc3 L3.2) ((hc.mono fun k _ e => .inl e).trans (hc3.mono fun k _ e => .inr e)) (fun b T cs hL hb hvb => (hL.row hc hvb).one hc3 hb) hv
 · exact (hv k e).elim (fun e => h.d1 k hk e) fun e => by have := (h.rL.off k hk).1.2; omega
 · exact (hv k hk).elim (h.d3 k) fun e e' => by have := (h.rB.off k e').1.2; omega
theorem BL.appB {x : Nat} {r : Nat} {ty : TypeId} {KW : World → Prop} (h : BL w0 w p f M vt B1 b4 typ a vl va vb ls av bs) (hp : PR w0 w p f M vt s top) (hr : w.heap[r]? = some (.cells [i64 (x : Nat)].toArray IntT (0,0))) (hn : bs.length ≤ 1000000)
   (hK : ∀ vb' w',BL w0 w' p f M vt B1 b4 typ a vl va vb' ls av (bs ++ [x]) → PR w0 w' p f M vt s top → Chg (fun k => vb.ownBlock = some k ∨ k = b4) w w' → (∀ b T cs,Loc w0 w p f M vt b T cs → b ≠ b4 → vb.ownBlock ≠ some b → Loc w0 w' p f M vt b T cs) → (∀ k,vb'.ownBlock = some k → vb.ownBlock = some k ∨ w.heap.size ≤ k) → KW w') :
   semE Tryz.prog (Builtin.append_ #[26,26] ty #[vb,.slice (some ⟨r,0,none⟩) 1 1]) w fun t62 w36 => nilW (.pointer (some ⟨b4,0,none⟩)) fun t63 => fldW 3 t63 fun t63 => stW 1 t63 t62 w36 KW := by
 refine Ro.app el_int h.rB hp hr rfl (fun u hu => by simp only [List.mem_singleton] at hu; subst hu; rfl) hn (by decide) h.lt.2 fun v' w2 hR2 hc hv hp2 => ?_
 have e1 : (bs ++ [x]).length = bs.length + 1 := by simp
 rw [← e1,show ints bs ++ [i64 (x : Nat)] = ints (bs ++ [x]) from by simp [ints]] at hR2
 rw [nil_ptr,fld_ptr,add_mk,Nat.zero_add]
 obtain ⟨vp,vc,ev,_⟩ := hR2.own.sl.shape
 obtain ⟨n1,n2,n3⟩ := h.no4
 have n3' : v'.ownBlock ≠ some b4 := fun e => by have := hR2.new b4 e; have := h.lt.1; omega
 refine (h.l4.row hc n3).st (by rw [ev]; rfl) (by simp) fun w3 L3 hc3 hz3 => ?_
 have z := hc.size
 refine hK v' w3 ⟨L3,(h.rL.row hc fun k hk e => h.d2 k hk e).one hc3 n1,(h.rA.row hc fun k hk e => h.d3 k hk e).one hc3 n2,hR2.one hc3 n3',h.d1,fun k hk e => ?_,fun k hk e => ?_,h.lt.1,by have := h.lt.2; omega⟩ (hp2.one hc3 L3.2) ((hc.mono fun k _ e => .inl e).trans (hc3.mono fun k _ e => .inr e)) (fun b T cs hL hb hvb => (hL.row hc hvb).one hc3 hb) hv
 · exact (hv k e).elim (fun e => h.d2 k hk e) fun e => by have := (h.rL.off k hk).1.2; omega
 · exact (hv k e).elim (fun e => h.d3 k hk e) fun e => by have := (h.rA.off k hk).1.2; omega
theorem Gd.etoks {x : Nat} {s' : PS} {F : PS → R Nat} (h : Gd N s dl) (hF : Fine F) (e : F s = .ok x s') : s'.toks = s.toks := by
 have h1 := hF.ok N s h.ws
 rw [e] at h1
 exact h1.1.1.toks
theorem Gd.name_back {t : Tok} {s1 : PS} (hg : Gd N s dl) (e : kindR s 1 = .ok t s1) (hn : (takeS s1 [61]).1 = false) :
   Gd N { (takeS s1 [61]).2 with i := (takeS s1 [61]).2.i - 1 } dl ∧ s.i ≤ (takeS s1 [61]).2.i - 1 ∧ 1 ≤ (takeS s1 [61]).2.i ∧ (takeS s1 [61]).2.toks = s.toks := by
 have hk := hg.kind (by decide) e
 have hks := kind_sat hg.ws 1 (by decide)
 rw [e] at hks
 have e1 : s1 = step1 (nowS s) := by
   unfold kindR at e
   split at e
   · rename_i hk
     injection e with _ e
     rw [← e]
     unfold nextS
     rw [if_pos (by rw [hk]; decide)]
   · cases e
 have t1 := take_go hk.1.ws [61]
 have e2 : (takeS s1 [61]).2 = nowS s1 := by
   unfold takeS at hn ⊢
   split
   · rename_i hi; rw [if_pos hi] at hn; cases hn
   · rfl
 have hi1 := hk.2.1
 have hi2 := t1.1.le
 have hgo : Go1 N s { (takeS s1 [61]).2 with i := (takeS s1 [61]).2.i - 1 } := by
   have g := hks.1.1.trans t1.1
   refine ⟨g.toks,g.off,g.deep,g.quiet,?_,?_,g.exs⟩
   · show s.i ≤ (takeS s1 [61]).2.i - 1
     omega
   · show (takeS s1 [61]).2.i - 1 < (takeS s1 [61]).2.toks.length
     have := g.lt
     omega
 refine ⟨hg.go hgo ?_,by omega,by omega,(t1.1.toks).trans hks.1.1.toks⟩
 have hi : s.i ≤ (nowS s1).i - 1 := by rw [← e2]; omega
 have x1 : (nowS s1).ex = s.ex := (now_ex s1).1.trans (by rw [e1]; exact (now_ex s).1)
 have x2 : (nowS s1).bl = s.bl := (now_ex s1).2.trans (by rw [e1]; exact (now_ex s).2)
 have x3 : (nowS s1).toks = s.toks := by
   have h1 : ∀ s : PS,(nowS s).toks = s.toks := fun s => by unfold nowS; split <;> rfl
   rw [h1,e1]; exact h1 s
 rw [e2]
 unfold Syn.phi
 simp only
 rw [x1,x2,x3]
 have := wts_le s.toks hi
 omega
theorem item_p {E B : PS → R Nat} (hE : EC w0 f 81 E dl) (hB : EC w0 f 21 B dl) (hF : Fine E) (hFB : FineB B) (h : PR w0 w p f M vt s top) (hg : Gd N s dl) (hL : BL w0 w p f M vt B1 b4 typ a vl va vb ls av bs) (hal : av.length ≤ 1000000) (hbl : bs.length ≤ 1000000)
   {M0 : Lay} {wb : World} (he0 : Eff p f M0 M wb w) (hw4 : wb.heap.size ≤ b4) (hwB : wb.heap.size ≤ B1)
   (hK : ∀ x s',itemR E B s av bs = .ok x s' → ∀ M' va' vb' w',PR w0 w' p f M' vt s' top → Gd N s' dl → s.i < s'.i → s'.toks = s.toks → x.1.length ≤ av.length + 1 → x.2.length ≤ bs.length + 1 → Eff p f M0 M' wb w' → BL w0 w' p f M' vt B1 b4 typ a vl va' vb' ls x.1 x.2 →
     (∀ b T cs,Loc w0 w p f M vt b T cs → b ≠ b4 → va.ownBlock ≠ some b → vb.ownBlock ≠ some b → Loc w0 w' p f M' vt b T cs) → (∀ k,va'.ownBlock = some k → va.ownBlock = some k ∨ w.heap.size ≤ k) → (∀ k,vb'.ownBlock = some k → vb.ownBlock = some k ∨ w.heap.size ≤ k) → K (.tuple #[]) w')
   (ht : ∀ c a',itemR E B s av bs = .err c a' → Thr w0 f c a') :
   callF Tryz.prog 46 [.pointer (some ⟨p,0,none⟩),.pointer (some ⟨b4,0,none⟩)] w K := by
 refine W46_ok ?_
 unfold W46
 have hN := hg.hN
 unfold itemR at hK ht
 refine kind_p h hg.ws hN hg.l (fun t s1 et w1 h1 he1 => ?_) fun c a' et => ht c a' (by rw [et]; rfl)
 rw [et] at hK ht
 simp only [R.bind] at hK ht
 have hk := hg.kind (by decide) et
 have hks := kind_sat hg.ws 1 (by decide)
 rw [et] at hks
 have hL1 := hL.eff he1
 refine alloc_new fun b5 w2 hb5 hz2 hbb2 hx2 => ?_
 have h2 := h1.ext hx2
 have L5 := h1.loc hz2 hb5 hbb2
 have fr5 := hL1.fresh (k := b5) (by omega)
 refine st_agg_at (l := tokc t) L5.1 rfl rfl rfl fun w3 hz3 hbb3 hc3 => ?_
 have L5 : Loc w0 w3 p f M vt b5 TkT (tokc t) := ⟨hbb3,L5.2.up (by omega)⟩
 have h3 := h2.one hc3 L5.2
 have hL3 := (hL1.ext hx2).one hc3 fr5.1 fr5.2.1 fr5.2.2.1 fr5.2.2.2
 have hz1 := he1.chg.size
 have he3 : Eff p f M M w w3 := (he1.x hx2).one hc3 (by omega)
 refine take_p h3 hk.1.ws hN hk.1.l fun w4 h4 he4 => ?_
 have L5 := L5.eff he4
 have hL4 := hL3.eff he4
 have he4 := he3.trans he4
 have hgt := hk.1.take [61]
 have tg := take_go hk.1.ws [61]
 have zz := he0.chg.size
 rw [condW_b]
 refine ⟨fun hy => ?_,fun hn => ?_⟩
 · -- an attribute
   rw [if_pos hy] at hK ht
   have L5 := L5.drew
   have hL4 := hL4.ext (ext_drew w4)
   have h4 := h4.drew
   have he4 := he4.x (ext_drew w4)
   rw [nil_ptr,fld_ptr,add_mk,Nat.zero_add]
   refine hL4.l4.ld rfl ?_
   rw [fld_ptr,add_mk,Nat.zero_add]
   refine L5.ld rfl ?_
   rw [fld_ptr,add_mk,Nat.zero_add]
   refine L5.ld rfl ?_
   refine hE w4.drew p M vt _ top N _ h4 hgt (fun x s2 ex M2 w5 h5 he5 => ?_) fun c a' ex => ht c a' (by rw [ex])
   rw [ex] at hK
   simp only at hK
   obtain ⟨g2,i2⟩ := hgt.e hF ex
   have t2 := hgt.etoks hF ex
   have L5 := L5.eff he5
   have hL5 := hL4.eff he5
   have he5 := he4.trans he5
   refine ⟨L5.ld rfl rfl,L5.ld rfl rfl,hL5.l4.ld rfl rfl,?_⟩
   simp only [put_int,put_str,put_nil,List.length_cons,List.length_nil,List.set_cons_zero,List.set_cons_succ,Nat.reduceAdd,Nat.reduceLT,true_and,Nat.zero_lt_succ]
   refine bsl_agg (d := [str t.t,i64 ((x : Nat) : Int),i64 t.a]) rfl rfl fun r w6 hr hz6 hrb hx6 => ?_
   have hL6 := hL5.ext hx6
   have he6 := he5.x hx6
   have hw6 := he6.chg.size
   refine ⟨hL6.l4.ld rfl rfl,?_⟩
   refine hL6.appA (x := ⟨t.t,x,t.a⟩) (h5.ext hx6) hrb hal fun va' w7 hL7 h7 hc7 hl7 hv7 => ?_
   refine hK _ _ rfl M2 va' vb w7 h7 g2 (by have := tg.1.le; have := hk.2.1; omega) (t2.trans (tg.1.toks.trans hks.1.1.toks)) (by simp) (by simp) (((he0.trans he6).then hc7 fun k hk' e => ?_)) hL7 (fun b T cs hl hb hva hvb => hl7 b T cs (hl.eff he6) hb hva) (fun k hk => (hv7 k hk).imp id fun e => by omega) fun k hk => .inl hk
   rcases e with e | e
   · have := hL.rA.new k e; omega
   · omega
 · -- a block
   have hn : (takeS s1 [61]).1 = false := by simpa using hn
   rw [if_neg (by rw [hn]; decide)] at hK ht
   obtain ⟨gb,ib,i1,tb⟩ := hg.name_back et hn
   refine h4.ld rfl ?_
   have hti := hgt.ws.lt
   have htl := hgt.few
   rw [bin_sub,wrap_id (by omega) (by omega),show (((takeS s1 [61]).2.i : Nat) : Int) - 1 = (((takeS s1 [61]).2.i - 1 : Nat) : Int) by omega]
   refine h4.st_i fun w5 h5 he5 hz5 => ?_
   have hL5 := (hL4.eff he5).ext (ext_drew w5)
   have h5 := h5.drew
   have he5 := (he4.trans he5).x (ext_drew w5)
   rw [nil_ptr,fld_ptr,add_mk,Nat.zero_add]
   refine hL5.l4.ld rfl ?_
   refine hB w5.drew p M vt _ top N _ h5 gb (fun x s2 ex M2 w6 h6 he6 => ?_) fun c a' ex => ht c a' (by rw [ex])
   rw [ex] at hK
   simp only at hK
   obtain ⟨g2,i2,t2⟩ := gb.bk hFB ex
   have hL6 := hL5.eff he6
   have he6 := he5.trans he6
   refine ⟨hL6.l4.ld rfl rfl,?_⟩
   refine bsl_int1 fun r w7 hr hz7 hrb hx7 => ?_
   have hL7 := hL6.ext hx7
   have he7 := he6.x hx7
   have hw7 := he7.chg.size
   refine ⟨hL7.l4.ld rfl rfl,?_⟩
   refine hL7.appB (h6.ext hx7) hrb hbl fun vb' w8 hL8 h8 hc8 hl8 hv8 => ?_
   refine hK _ _ rfl M2 va vb' w8 h8 g2 (by have i2 : (takeS s1 [61]).2.i - 1 < s2.i := i2; omega) (t2.trans tb) (by simp) (by simp) ((he0.trans he7).then hc8 fun k hk' e => ?_) hL8 (fun b T cs hl hb hva hvb => hl8 b T cs (hl.eff he7) hb hvb) (fun k hk => .inl hk) fun k hk => (hv8 k hk).imp id fun e => by omega
   rcases e with e | e
   · have := hL.rB.new k e; omega
   · omega
end
end
end Go.Proofs.YtofhaneggcpdaaaGreatDoor
namespace Go.Proofs.YtofhaneggcpdaaaGreatDoor
open Go Go.Eng Go.RowKit Go.Syn Go.Lex
set_option maxRecDepth 100000
section
variable [HX]
variable {w0 w w' w1 : World} {p f : Nat} {M M' M0 : Lay} {vt : Value} {s : PS} {top : List Nat} {N : Int} {K : Value → World → Prop} {e : Ex} {wbn : Nat} {wb : World} {dl : Nat} {B1 b4 : Nat} {typ : Str} {a : Int} {vl va vb : Value} {ls : List Str} {av : List Atr} {bs : List Nat}
theorem nextS_now (s : PS) : nextS (nowS s) = nextS s := by unfold nextS; rw [cur_now,nowS_idem]
theorem Gd.plain {N : Int} {s s' : PS} {t : Tok} {l : Str} (e : plainR s t = .ok l s') : s' = s := by
 unfold plainR at e
 split at e
 · cases e
 · injection e with _ e; exact e.symm
theorem items_p {E B : PS → R Nat} {b1 : Nat} (hE : EC w0 f 81 E dl) (hB : EC w0 f 21 B dl) (hF : Fine E) (hFB : FineB B) (h : PR w0 w p f M vt s top) (hg : Gd N s dl) (hc0 : (cur s).k ≠ 0) (hnow : nowS s = s)
   (hL : BL w0 w p f M vt B1 b4 typ a vl (.slice none 0 0) (.slice none 0 0) ls [] []) (L1 : Loc w0 w p f M vt b1 PpT [.pointer (some ⟨p,0,none⟩)]) (hb1 : b1 < B1 ∧ b1 ≠ b4)
   {M0 : Lay} {wb : World} (he0 : Eff p f M0 M wb w) (hw4 : wb.heap.size ≤ b4) (hwB : wb.heap.size ≤ B1)
   (hK : ∀ x s',itemsF E B (s.toks.length + 1) (linesS (step1 s)) [] [] = .ok x s' → ∀ M' va' vb' w',PR w0 w' p f M' vt s' top → Gd N s' dl → Eff p f M0 M' wb w' → BL w0 w' p f M' vt B1 b4 typ a vl va' vb' ls x.1 x.2 → Loc w0 w' p f M' vt b1 PpT [.pointer (some ⟨p,0,none⟩)] → K (.tuple #[]) w')
   (ht : ∀ c a',itemsF E B (s.toks.length + 1) (linesS (step1 s)) [] [] = .err c a' → Thr w0 f c a') :
   callF Tryz.prog 44 [.pointer (some ⟨b1,0,none⟩),.pointer (some ⟨b4,0,none⟩)] w K := by
 refine W44_ok ?_
 unfold W44
 have hN := hg.hN
 have hg1 : Gd N (step1 s) dl := by have := hg.step hc0; rw [hnow] at this; exact this
 have zz := he0.chg.size
 refine L1.ld rfl ?_
 refine h.go (wsi hg.ws hg.l) fun w1 h1 he1 hz1 => ?_
 have L1 := L1.eff he1
 have hL := hL.eff he1
 have he1 := he0.trans he1
 refine L1.ld rfl ?_
 refine lines_p h1 hg1.ws hN hg1.l fun w2 h2 he2 => ?_
 have L1 := L1.eff he2
 have hL := hL.eff he2
 have he2 := he1.trans he2
 have hg2 := hg1.lines
 have et2 := congrArg List.length (lines_go hg1.ws).1.toks
 generalize hR : itemsF E B (s.toks.length + 1) (linesS (step1 s)) [] [] = R0 at hK ht
 refine LoopW.go (fun st w' => st = [] ∧ ∃ s1 M1 av bs va vb n,PR w0 w' p f M1 vt s1 top ∧ Gd N s1 dl ∧ Eff p f M0 M1 wb w' ∧ Loc w0 w' p f M1 vt b1 PpT [.pointer (some ⟨p,0,none⟩)] ∧ BL w0 w' p f M1 vt B1 b4 typ a vl va vb ls av bs ∧ itemsF E B n s1 av bs = R0 ∧ s1.toks.length < n + s1.i ∧ av.length ≤ s1.i ∧ bs.length ≤ s1.i ∧ s1.toks.length = s.toks.length) (fun _ w' => s.toks.length - psAt w' p)
   ⟨rfl,_,M,[],[],_,_,s.toks.length + 1,h2,hg2,he2,L1,hL,hR,by rw [et2]; show s.toks.length < _; omega,by simp,by simp,by rw [et2]; rfl⟩ ?_
 clear hL L1 h1 h2 he1 he2
 rintro st g w3 ⟨rfl,s1,M1,av,bs,va,vb,n,h3,hg3,he3,L1,hL,hit,hn,hal,hbl,htl⟩
 have hlt3 := hg3.ws.lt
 obtain ⟨n,rfl⟩ : ∃ m,n = m + 1 := ⟨n - 1,by omega⟩
 simp only [itemsF] at hit
 refine L1.ld rfl ?_
 refine take_p h3 hg3.ws hN hg3.l fun w4 h4 he4 => ?_
 have L1 := L1.eff he4
 have hL := hL.eff he4
 have he4 := he3.trans he4
 have hg4 := hg3.take [125]
 have tg := take_go hg3.ws [125]
 have tgt := congrArg List.length tg.1.toks
 rw [un_not,condW_b]
 refine ⟨fun hn' => ?_,fun hy => ?_⟩
 · have hn' : (takeS s1 [125]).1 = false := by simpa using hn'
   rw [if_neg (by rw [hn']; decide)] at hit
   have few := hg3.few
   refine L1.ld rfl ?_
   refine item_p hE hB hF hFB h4 hg4 hL (by omega) (by omega) he4 hw4 hwB (fun x s2 ex M2 va2 vb2 w5 h5 hg5 hi5 ht5 hxa hxb he5 hL5 hl5 hv5 hu5 => ?_) fun c a' ex => ht c a' (by rw [← hit,ex]; rfl)
   rw [ex] at hit
   simp only [R.bind] at hit
   have ht5 := congrArg List.length ht5
   have L1 := hl5 _ _ _ L1 hb1.2 (fun e => by have := hL.rA.new _ e; have := hb1.1; omega) (fun e => by have := hL.rB.new _ e; have := hb1.1; omega)
   have hgn := hg5.now
   have hng := now_go hg5.ws
   have hngt := congrArg List.length hng.toks
   have hngi := hng.le
   refine JoinW.cut (fun _ w' => PR w0 w' p f M2 vt (nowS s2) top ∧ Eff p f M2 M2 w5 w' ∧ itemsF E B n (linesS (nowS s2)) x.1 x.2 = R0) ?_ ?_
   · refine L1.ld rfl ?_
     refine now_p h5 hg5.ws hN hg5.l fun w6 h6 he6 => ?_
     refine ⟨i64 (cur s2).k,rfl,?_⟩
     dsimp only
     rw [bin_neq]
     have L1 := L1.eff he6
     by_cases hk5 : (cur s2).k ≠ 5
     · rw [decide_eq_true hk5]
       simp only [isB_t]
       refine GdW.act (!isS (nowS s2) [125]) (fun w' => PR w0 w' p f M2 vt (nowS s2) top ∧ Eff p f M2 M2 w5 w') (fun e => by cases e) (fun _ J hJ => ?_) fun g5 w7 hR7 => ?_
       · refine L1.ld rfl ?_
         refine isq_p h6 hgn fun w7 h7 he7 => ?_
         rw [un_not]
         rw [nowS_idem] at h7
         exact hJ w7 ⟨h7,he6.trans he7⟩
       obtain ⟨h7,he7⟩ := hR7
       simp only [List.getD_cons_zero,cond_true,pick_t]
       rw [condW_b]
       refine ⟨fun hq => ?_,fun hq => ?_⟩
       · have hq : isS (nowS s2) [125] = false := by simpa using hq
         have L1 : Loc w0 w7 p f M2 vt b1 PpT [.pointer (some ⟨p,0,none⟩)] := (hl5 _ _ _ ‹Loc w0 w4 p f M1 vt b1 PpT [.pointer (some ⟨p,0,none⟩)]› hb1.2 (fun e => by have := hL.rA.new _ e; have := hb1.1; omega) (fun e => by have := hL.rB.new _ e; have := hb1.1; omega)).eff he7
         refine L1.ld rfl ?_
         refine now_p h7 hgn.ws hN hgn.l fun w8 h8 he8 => ?_
         refine ⟨i64 (cur (nowS s2)).a,rfl,?_⟩
         refine fail_p h8 (ht 50 _ ?_)
         rw [← hit,if_pos ⟨hk5,hq⟩]
       · have hq : isS (nowS s2) [125] = true := by simpa using hq
         rw [if_neg (fun h => by rw [h.2] at hq; cases hq)] at hit
         exact ⟨h7,he7,hit⟩
     · rw [decide_eq_false hk5]
       simp only [isB_t,GdW_f]
       intro g5
       rw [pick_f,condW_false]
       rw [if_neg (fun h => hk5 h.1)] at hit
       exact ⟨h6,he6,hit⟩
   rintro _ g4 w6 ⟨h6,he6,hit⟩
   have L1 := L1.eff he6
   refine L1.ld rfl ?_
   refine lines_p h6 hgn.ws hN hgn.l fun w7 h7 he7 => ?_
   have lg := lines_go hgn.ws
   have lgt := congrArg List.length lg.1.toks
   have lgi := lg.1.le
   have tgi := tg.1.le
   have hgl := hgn.lines
   have hltl := hgl.ws.lt
   refine ⟨⟨rfl,linesS (nowS s2),M2,x.1,x.2,va2,vb2,n,h7,hgl,(he5.trans he6).trans he7,L1.eff he7,(hL5.eff he6).eff he7,hit,by omega,by omega,by omega,by omega⟩,?_⟩
   rw [h7.at_,h3.at_]; omega
 · have hy : (takeS s1 [125]).1 = true := by simpa using hy
   rw [if_pos hy] at hit
   exact hK _ _ hit.symm M1 va vb w4 h4 hg4 he4 hL L1
theorem block_p {E B : PS → R Nat} (hE : ∀ d,dl = d + 1 → EC w0 f 81 E d) (hB : ∀ d,dl = d + 1 → EC w0 f 21 B d) (hF : Fine E) (hFB : FineB B) : EC w0 f 21 (blockR E B) dl := by
 intro w p M vt s top N K h hg hK ht
 refine W21_ok ?_
 unfold W21
 have hN := hg.hN
 refine box_one rfl fun b1 w1 hb1 hz1 hbb1 hx1 => ?_
 have h1 := h.ext hx1
 have L1 := h.loc hz1 hb1 hbb1
 unfold blockR at hK ht
 refine L1.ld rfl ?_
 refine kind_p h1 hg.ws hN hg.l (fun t s1 et w2 h2 he2 => ?_) fun c a' et => ht c a' (by rw [et]; rfl)
 rw [et] at hK ht
 simp only [R.bind] at hK ht
 obtain ⟨hg1,hi1,_⟩ := hg.kind (by decide) et
 have hks := kind_sat hg.ws 1 (by decide)
 have hkp := phi_kind s 1
 rw [et] at hks hkp
 have hkp := hkp.2 (by decide)
 have hkt := congrArg List.length hks.1.1.toks
 have L1 := L1.eff he2
 have he2 := (Eff.ext hx1).trans he2
 have lt1 := L1.lt
 have hw2 := he2.chg.size
 refine alloc_new fun b3 w3 hb3 hz3 hbb3 hx3 => ?_
 have h3 := h2.ext hx3
 have L3 := h2.loc hz3 hb3 hbb3
 have L1 := L1.ext hx3
 refine st_agg_at (l := tokc t) L3.1 rfl rfl rfl fun w4 hz4 hbb4 hc4 => ?_
 have L3 : Loc w0 w4 p f M vt b3 TkT (tokc t) := ⟨hbb4,L3.2.up (by omega)⟩
 have h4 := h3.one hc4 L3.2
 have L1 := L1.one hc4 (by omega)
 have he4 := (he2.x hx3).one hc4 (by omega)
 refine L3.ldf rfl ?_
 refine L3.ldf rfl ?_
 simp only [put_int,put_str,put_nil,List.length_cons,List.length_nil,List.set_cons_zero,List.set_cons_succ,Nat.reduceAdd,Nat.reduceLT,true_and,Nat.zero_lt_succ]
 refine alloc_new fun b4 w5 hb4 hz5 hbb5 hx5 => ?_
 have h5 := h4.ext hx5
 have L4 := h4.loc hz5 hb4 hbb5
 have L1 := L1.ext hx5
 refine st_agg_at (l := [str t.t,.slice none 0 0,.slice none 0 0,.slice none 0 0,i64 t.a]) L4.1 rfl rfl rfl fun w6 hz6 hbb6 hc6 => ?_
 have L4 : Loc w0 w6 p f M vt b4 BkT [str t.t,.slice none 0 0,.slice none 0 0,.slice none 0 0,i64 t.a] := ⟨hbb6,L4.2.up (by omega)⟩
 have h6 := h5.one hc6 L4.2
 have L1 := L1.one hc6 (by omega)
 have he6 := (he4.x hx5).one hc6 (by omega)
 have hw6 := he6.chg.size
 obtain ⟨B1,hB1⟩ : ∃ B1,B1 = w6.heap.size := ⟨_,rfl⟩
 have hL : BL w0 w6 p f M vt B1 b4 t.t t.a (.slice none 0 0) (.slice none 0 0) (.slice none 0 0) [] [] [] :=
   ⟨L4,Ro.nil _ _,Ro.nil _ _,Ro.nil _ _,fun k hk => by simp [Value.ownBlock] at hk,fun k hk => by simp [Value.ownBlock] at hk,fun k hk => by simp [Value.ownBlock] at hk,by omega,by omega⟩
 have hb14 : b1 < B1 ∧ b1 ≠ b4 := ⟨by omega,by omega⟩
 have hwB : w.heap.size ≤ B1 := by omega
 have hw4 : w.heap.size ≤ b4 := by omega
 clear L3 L4 h2 h3 h4 h5 he2 he4
 -- the labels
 generalize hR : labelsF (s.toks.length + 1) s1 [] = R0 at hK ht
 refine LoopW.go (fun st w' => st = [] ∧ ∃ s2 M1 ls vl n,PR w0 w' p f M1 vt s2 top ∧ Gd N s2 dl ∧ Eff p f M M1 w w' ∧ Loc w0 w' p f M1 vt b1 PpT [.pointer (some ⟨p,0,none⟩)] ∧ BL w0 w' p f M1 vt B1 b4 t.t t.a vl (.slice none 0 0) (.slice none 0 0) ls [] [] ∧ labelsF n s2 ls = R0 ∧ s2.toks.length < n + s2.i ∧ ls.length ≤ s2.i ∧ s2.toks.length = s.toks.length ∧ Syn.phi s2 + 1 ≤ Syn.phi s) (fun _ w' => s.toks.length - psAt w' p)
   ⟨rfl,s1,M,[],_,s.toks.length + 1,h6,hg1,he6,L1,hL,hR,by have := hg1.ws.lt; omega,by simp,hkt,hkp⟩ ?_
 clear hL L1 h6 he6
 rintro st g w7 ⟨rfl,s2,M1,ls,vl,n,h7,hg7,he7,L1,hL,hla,hn,hll,htl,hph⟩
 have hlt7 := hg7.ws.lt
 obtain ⟨n,rfl⟩ : ∃ m,n = m + 1 := ⟨n - 1,by omega⟩
 simp only [labelsF] at hla
 refine L1.ld rfl ?_
 refine now_p h7 hg7.ws hN hg7.l fun w8 h8 he8 => ?_
 have L1 := L1.eff he8
 have hL := hL.eff he8
 have he8 := he7.trans he8
 have hgn := hg7.now
 refine ⟨i64 (cur s2).k,rfl,?_⟩
 dsimp only
 rw [bin_eql,condW_dec]
 refine ⟨fun hk3 => ?_,fun hk3 => ?_⟩
 · rw [if_pos hk3] at hla
   have htx := hg7.tx hk3
   have L1 := L1.drew
   have hL := hL.ext (ext_drew w8)
   have h8 := h8.drew
   have he8 := he8.x (ext_drew w8)
   rw [fld_ptr,add_mk,Nat.zero_add]
   refine hL.l4.ld rfl ?_
   refine L1.ld rfl ?_
   refine L1.ld rfl ?_
   refine next_p h8 hgn.ws hN hgn.l fun w9 h9 he9 => ?_
   rw [nextS_now] at h9
   rw [cur_now]
   have L1 := L1.eff he9
   have hL := hL.eff he9
   have he9 := he8.trans he9
   refine ⟨L1.ld rfl rfl,hL.l4.ld rfl rfl,?_⟩
   have hgx := hg7.next
   refine plain_p h9 htx.1 (by omega) (fun l s3 el w10 hx10 => ?_) fun c a' el => ht c a' (by rw [← hla,el]; rfl)
   have e3 := Gd.plain (N := N) el
   subst e3
   rw [el] at hla
   simp only [R.bind] at hla
   have L1 := L1.ext hx10
   have hL := hL.ext hx10
   have h10 := h9.ext hx10
   have he10 := he9.x hx10
   refine ⟨hL.l4.ld rfl rfl,?_⟩
   refine bsl_str fun r w11 hr hz11 hrb hx11 => ?_
   have L1 := L1.ext hx11
   have hL := hL.ext hx11
   have he11 := he10.x hx11
   have hw11 := he11.chg.size
   refine ⟨hL.l4.ld rfl rfl,?_⟩
   have few := hg7.few
   refine hL.appL (h10.ext hx11) hrb (by omega) fun vl' w12 hL12 h12 hc12 hl12 hv12 => ?_
   have L1 := hl12 _ _ _ L1 hb14.2 fun e => by have := hL.rL.new _ e; have := hb14.1; omega
   have ng := next_go hg7.ws
   have ngt := congrArg List.length ng.1.toks
   have ngi := ng.2.1 (by rw [hk3]; decide)
   have ngl := hgx.ws.lt
   have nph := (phi_next s2).1
   refine ⟨⟨rfl,nextS s2,M1,ls ++ [l],vl',n,h12,hgx,he11.then hc12 fun k hk e => ?_,L1,hL12,hla,by omega,by rw [List.length_append,List.length_cons,List.length_nil]; omega,by omega,by omega⟩,?_⟩
   · rcases e with e | e
     · have := hL.rL.new k e; omega
     · omega
   · rw [h12.at_,h7.at_]; omega
 · rw [if_neg hk3] at hla
   rw [← hla] at hK ht
   simp only at hK ht
   simp only [is_now,cur_now,nowS_idem] at hK ht
   refine L1.ld rfl ?_
   refine now_p h8 hgn.ws hN hgn.l fun w9 h9 he9 => ?_
   rw [nowS_idem] at h9
   rw [cur_now]
   have L1 := L1.eff he9
   have hL := hL.eff he9
   have he9 := he8.trans he9
   refine alloc_new fun b5 w10 hb5 hz10 hbb10 hx10 => ?_
   have h10 := h9.ext hx10
   have L5 := h9.loc hz10 hb5 hbb10
   have fr := hL.fresh (k := b5) (by omega)
   have lt1 := L1.lt
   have hw9 := he9.chg.size
   refine st_agg_at (l := tokc (cur s2)) L5.1 rfl rfl rfl fun w11 hz11 hbb11 hc11 => ?_
   have L5 : Loc w0 w11 p f M1 vt b5 TkT (tokc (cur s2)) := ⟨hbb11,L5.2.up (by omega)⟩
   have h11 := h10.one hc11 L5.2
   have L1 := (L1.ext hx10).one hc11 (by omega)
   have hL := (hL.ext hx10).one hc11 fr.1 fr.2.1 fr.2.2.1 fr.2.2.2
   have he11 := (he9.x hx10).one hc11 (by omega)
   -- {
   refine JoinW.cut (fun _ w' => PR w0 w' p f M1 vt (nowS s2) top ∧ Eff p f M1 M1 w11 w' ∧ isS s2 [123] = true) ?_ ?_
   · refine L1.ld rfl ?_
     refine isq_p h11 hgn fun w12 h12 he12 => ?_
     rw [nowS_idem] at h12
     rw [is_now,un_not,condW_b]
     refine ⟨fun hi => ?_,fun hi => ⟨h12,he12,by simpa using hi⟩⟩
     have hi : isS s2 [123] = false := by simpa using hi
     refine (L5.eff he12).ldf rfl ?_
     exact fail_p h12 (ht _ _ (by rw [if_pos hi]))
   rintro _ g2 w12 ⟨h12,he12,hi⟩
   rw [if_neg (by rw [hi]; decide)] at hK ht
   have L1 := L1.eff he12
   have L5 := L5.eff he12
   have hL := hL.eff he12
   have he12 := he11.trans he12
   refine L1.ld rfl ?_
   refine L5.ldf rfl ?_
   have hlev := hgn.lev
   refine within_p h12 (by omega) (fun hd => ht 7 _ (by rw [win_bad hd])) fun hd w13 h13 he13 => ?_
   obtain ⟨d,rfl⟩ : ∃ d,dl = d + 1 := ⟨dl - 1,by omega⟩
   rw [win_ok hd] at hK ht
   obtain ⟨q1,q2,q3,q4⟩ := hg7.sign hi false
   have ntl := congrArg List.length (now_go hg7.ws).toks
   refine callV_cap' (caps := [.pointer (some ⟨b1,0,none⟩),.pointer (some ⟨b4,0,none⟩)]) ?_
   have ph2 : Syn.phi (nowS s2) ≤ Syn.phi s2 := phi_now s2
   have efuel : ({ nowS s2 with deep := (nowS s2).deep + 1,quiet := false } : PS).toks.length + 1 = s.toks.length + 1 := by show (nowS s2).toks.length + 1 = _; omega
   have efuel2 : (nowS s2).toks.length + 1 = s.toks.length + 1 := by omega
   refine items_p (hE d rfl) (hB d rfl) hF hFB h13 q1 q3 q2 (hL.eff he13) (L1.eff he13) hb14 (he12.trans he13) hw4 hwB (fun x s3 ex M3 va vb w14 h14 hg14 he14 hL14 L1 => ?_) fun c a' ex => ht c a' ?_
   · rw [efuel] at ex
     rw [ex] at hK
     simp only [R.bind] at hK
     have g14l := hg14.lev
     refine ⟨M3,s3,h14,by omega,fun w15 h15 he15 => ?_⟩
     have L1 := (L1.eff he15).drew
     have hL := (hL14.eff he15).ext (ext_drew w15)
     have h15 := h15.drew
     have he15 := (he14.trans he15).x (ext_drew w15)
     have hg15 : Gd N { s3 with deep := (nowS s2).deep,quiet := (nowS s2).quiet } (d + 1) := hgn.back hg14
     generalize hs4 : ({ s3 with deep := (nowS s2).deep,quiet := (nowS s2).quiet } : PS) = s4 at *
     have s4b : s4.bl = s3.bl := by rw [← hs4]
     have hbl := hg15.ex.2
     have hw15 := he15.chg.size
     have cF : ∀ {w' : World},w'.heap[p]? = some (.cells [vt,i64 (s4.i : Nat),i64 s4.off,.pointer (some ⟨f,0,none⟩),i64 (s4.deep : Nat),.bool s4.quiet].toArray PsT (0,0)) → w'.cell? ((⟨p,0,none⟩ : Addr).add 3) = some (.pointer (some ⟨f,0,none⟩)) := by
       intro w' h
       rw [add_mk,cell_eq,h,cellO_some]; rfl
     have cB : ∀ {w' : World} {u v : Value} {r : List Value},w'.heap[f]? = some (.cells (u :: v :: r).toArray FlT (0,0)) → w'.cell? ((⟨f,0,none⟩ : Addr).add 1) = some v := by
       intro w' u v r h
       rw [add_mk,cell_eq,h,cellO_some]; rfl
     have ld1 : ∀ {w' : World} {M' : Lay},Loc w0 w' p f M' vt b1 PpT [.pointer (some ⟨p,0,none⟩)] → ldW false 1 (.pointer (some ⟨b1,0,none⟩)) w' fun x => x = .pointer (some ⟨p,0,none⟩) := fun L => L.ld rfl rfl
     have use : ∀ k,M3.vB.ownBlock = some k → k ∈ M3.uses f := fun k hk => List.mem_cons_of_mem _ (ub_mem (v := M3.vB) (by simp) hk)
     have nE : ¬ M3.vB.ownBlock = some p := fun e => h15.np (use p e)
     have nF : ¬ M3.vB.ownBlock = some f := fun e => by
       have hnd := (uses_B M3 f).nodup_iff.1 h15.fr.nd
       rw [List.nodup_cons] at hnd
       exact hnd.1 (List.mem_append_left _ (ub_one.2 e))
     have n1 : ¬ M3.vB.ownBlock = some b1 := fun e => L1.2.2.2.1 (use b1 e)
     refine L1.ld rfl ?_
     rw [nil_ptr,fld_ptr,ld_one]
     refine ⟨_,cF h15.ps,?_⟩
     refine L1.ld rfl ?_
     rw [nil_ptr,fld_ptr,ld_one]
     refine ⟨_,cF h15.ps,?_⟩
     rw [nil_ptr,fld_ptr,ld_one]
     refine ⟨_,cB h15.fr.hf,?_⟩
     refine ld_all hL.l4.1 rfl ?_
     refine bsl_agg rfl rfl fun r w16 hr hz16 hrb hx16 => ?_
     have h16 := h15.ext hx16
     have L16 := L1.ext hx16
     refine ⟨by rw [ld_one]; exact ⟨_,cB h16.fr.hf,rfl⟩,by rw [ld_one]; exact ⟨_,cF h16.ps,rfl⟩,ld1 L16,by rw [ld_one]; exact ⟨_,cF h16.ps,rfl⟩,ld1 L16,?_⟩
     have hc0 : Chg (fun k => M3.vB.ownBlock = some k) w15.drew w16 := Chg.of_ext hx16
     obtain ⟨lp,lc,el1,_⟩ := hL.rL.own.sl.shape
     obtain ⟨ap,ac,ea1,_⟩ := hL.rA.own.sl.shape
     obtain ⟨bp,bc,eb1,_⟩ := hL.rB.own.sl.shape
     refine append_own3 el_bk h16.fr.oB (slat_new' (n := 1) (T := BkT) hrb) rfl (fun u hu => by
       simp only [List.mem_cons,List.not_mem_nil,or_false] at hu
       rcases hu with rfl | rfl | rfl | rfl | rfl
       · rfl
       · rw [el1]; rfl
       · rw [ea1]; rfl
       · rw [eb1]; rfl
       · rfl) (by omega) (by omega) h16.base fun v' w17 hO17 hc17 hv17 => ?_
     have hp17 := hc17.at h16.ps nE
     have hf17 := hc17.at h16.fr.hf nF
     refine ⟨by rw [ld_one]; exact ⟨_,cF hp17,rfl⟩,ld1 (M' := M3) ⟨hc17.at L16.1 n1,L16.2.up hc17.size⟩,?_⟩
     rw [nil_ptr,fld_ptr,add_mk,Nat.zero_add]
     obtain ⟨vp,vc,ev,_⟩ := hO17.sl.shape
     refine st_at hf17 (by rw [ev]; rfl) (by simp) fun w18 hz18 hf18 hc18 => ?_
     have L18 : Loc w0 w17 p f M3 vt b1 PpT [.pointer (some ⟨p,0,none⟩)] := ⟨hc17.at L16.1 n1,L16.2.up hc17.size⟩
     have nf1 : b1 ≠ f := fun e => L16.2.2.2.1 (e ▸ List.mem_cons_self)
     have L19 := L18.one hc18 nf1
     have hzx := hx16.size
     have hub : ∀ k,k ∈ ub [str t.t,vl,va,vb,i64 t.a] ↔ vl.ownBlock = some k ∨ va.ownBlock = some k ∨ vb.ownBlock = some k := fun k => by
       rw [show [str t.t,vl,va,vb,i64 t.a] = [str t.t] ++ ([vl] ++ ([va] ++ ([vb] ++ [i64 t.a]))) from rfl]
       simp only [ub_app,List.mem_append,ub_one]
       simp [Value.ownBlock]
     have hnd : (ub [str t.t,vl,va,vb,i64 t.a]).Nodup := by
       rw [show [str t.t,vl,va,vb,i64 t.a] = [str t.t] ++ ([vl] ++ ([va] ++ ([vb] ++ [i64 t.a]))) from rfl]
       simp only [ub_app]
       rw [show ub [str t.t] = [] from rfl,show ub [i64 t.a] = [] from rfl,List.nil_append,List.append_nil]
       refine List.nodup_append.2 ⟨ub_nodup1 _,List.nodup_append.2 ⟨ub_nodup1 _,ub_nodup1 _,fun x hx y hy e => by subst e; exact hL.d3 x (ub_one.1 hx) (ub_one.1 hy)⟩,fun x hx y hy e => ?_⟩
       subst e
       rcases List.mem_append.1 hy with hy | hy
       · exact hL.d1 x (ub_one.1 hx) (ub_one.1 hy)
       · exact hL.d2 x (ub_one.1 hx) (ub_one.1 hy)
     obtain ⟨h20,he20⟩ := h15.putB (w1 := w17) (w2 := w18) (v' := v') he15 (e := ⟨t.t,ls,x.1,x.2,t.a⟩) ⟨vl,va,vb,rfl,hL.rL.own,hL.rA.own,hL.rB.own⟩ (fun k hk => by
       rcases (hub k).1 hk with e | e | e
       · exact hL.rL.off k e
       · exact hL.rA.off k e
       · exact hL.rB.off k e) hnd (fun k hk => by
       rcases (hub k).1 hk with e | e | e
       · have := hL.rL.new k e; omega
       · have := hL.rA.new k e; omega
       · have := hL.rB.new k e; omega) hO17 (hc0.trans hc17) (fun k hk => (hv17 k hk).imp id fun e => by omega) hc18 (by rw [hf18]; simp)
     refine L19.ld rfl ?_
     rw [nil_ptr,fld_ptr,ld_one]
     refine ⟨_,cF h20.ps,?_⟩
     rw [nil_ptr,fld_ptr,ld_one]
     refine ⟨_,cB h20.fr.hf,?_⟩
     dsimp only
     rw [ev,lenl_sl,bin_sub,wrap_id (by omega) (by omega)]
     have e1 : ((s4.bl.length + 1 : Nat) : Int) - 1 = (s4.bl.length : Nat) := by omega
     rw [e1]
     subst hs4
     exact hK _ _ rfl _ w18 h20 he20
   · rw [efuel] at ex
     rw [ex]; rfl
theorem fineB_dead : FineB dead := ⟨dead_bok,dead_z⟩
theorem fine_blockD (d : Nat) : FineB (blockD d) := ⟨fun N => blockD_ok N d,blockD_z d⟩
theorem blockD_p (hS : ScanC w0 f) : ∀ dl,EC w0 f 21 (blockD dl) dl
 | 0 => block_p (fun d e => by omega) (fun d e => by omega) fine_dead fineB_dead
 | d + 1 => by
   have ih := blockD_p hS d
   refine block_p (fun d' e => ?_) (fun d' e => ?_) (fine_exprD d).1 (fine_blockD d)
   · have e : d' = d := by omega
     subst e; exact (exprD_p hS d').1
   · have e : d' = d := by omega
     subst e; exact ih
end
end Go.Proofs.YtofhaneggcpdaaaGreatDoor
namespace Go.Proofs.YtofhaneggcpdaaaGreatDoor
open Go Go.Eng Go.RowKit Go.Syn Go.Lex
set_option maxRecDepth 100000
theorem as_diag (v : Value) (w : World) : (Instr.typeAssert (.iface DT v) 20 DT false).run Tryz.prog w = .ok v w := by kernel_rfl
theorem nil_idle (w : World) (K : Value → Prop) : eqQ Tryz.prog .neq 20 false true .nilIface .nilIface w K ↔ K (.bool false) := by
 have h : (do eqGuard .neq 20 (stand false) (stand true) .nilIface .nilIface; binOp .neq 20 .nilIface .nilIface : Sem Value).run Tryz.prog w = .ok (.bool false) w := by kernel_rfl
 unfold eqQ semQ
 rw [h]
 exact ⟨fun ⟨v,h1,h2⟩ => by cases h1; exact h2,fun h2 => ⟨_,rfl,h2⟩⟩
theorem nil_thrown (v : Value) (w : World) (K : Value → Prop) : eqQ Tryz.prog .neq 20 false true (.iface DT v) .nilIface w K ↔ K (.bool true) := by
 have h : (do eqGuard .neq 20 (stand false) (stand true) (.iface DT v) .nilIface; binOp .neq 20 (.iface DT v) .nilIface : Sem Value).run Tryz.prog w = .ok (.bool true) w := by kernel_rfl
 unfold eqQ semQ
 rw [h]
 exact ⟨fun ⟨v,h1,h2⟩ => by cases h1; exact h2,fun h2 => ⟨_,rfl,h2⟩⟩
theorem rec_idle {a b : Value} {w : World} {K : World → Prop} (hK : K w) : DefC Tryz.prog 18 [a,b] .returning w K := by
 letI := noX
 refine R18_ok .idle ?_
 unfold R18
 rw [nil_idle,condW_false]
 exact hK
theorem rec_thrown {a b d : Nat} {cs : List Value} {v : Value} {Ta Tb : TypeId} {w : World} {K : World → Prop} (ha : w.heap[a]? = some (.cells cs.toArray Ta (0,0))) (hl : cs.length = 3) (hb : w.heap[b]? = some (.cells [v].toArray Tb (0,0))) (hab : a ≠ b)
   (hK : ∀ w',Chg (fun k => k = a ∨ k = b) w w' → w'.heap[a]? = some (.cells [.slice none 0 0,.slice none 0 0,.slice none 0 0].toArray Ta (0,0)) → w'.heap[b]? = some (.cells [.pointer (some ⟨d,0,none⟩)].toArray Tb (0,0)) → K w') :
   DefC Tryz.prog 18 [.pointer (some ⟨a,0,none⟩),.pointer (some ⟨b,0,none⟩)] (.panicking [{ v := .iface DT (.pointer (some ⟨d,0,none⟩)),recovered := false }]) w K := by
 letI := noX
 refine R18_ok (.thrown _) ?_
 unfold R18
 rw [nil_thrown,condW_true,put_nil]
 refine ⟨_,as_diag _ _,?_⟩
 refine st_agg_at (l := [.slice none 0 0,.slice none 0 0,.slice none 0 0]) (w := w.drew) ha rfl hl rfl fun w2 hz2 ha2 hc2 => ?_
 refine ⟨⟨_,as_diag _ _,rfl⟩,?_⟩
 have hb2 := hc2.at (w := w.drew) hb (fun e => hab e.symm)
 refine st_at hb2 rfl (by simp) fun w3 hz3 hb3 hc3 => ?_
 refine hK w3 ?_ (hc3.at ha2 hab) (by rw [hb3]; simp)
 exact ((Chg.drew (Chg.refl _ w)).trans (hc2.mono fun k _ e => .inl e)).trans (hc3.mono fun k _ e => .inr e)
structure FO (w : World) (B : Nat) (M : Lay) (fl : Fl) : Prop where
 oE : Own w B ExT 5 M.vE fl.ex.length M.cE
 oB : Own w B BkT 5 M.vB fl.bl.length M.cB
 oT : Own w B IntT 1 M.vT fl.top.length (ints fl.top)
 ee : RowsR (ExR w B) 5 fl.ex M.cE
 bb : RowsR (BkR w B) 5 fl.bl M.cB
 nd : (ub ([M.vE,M.vB,M.vT] ++ (M.cE ++ M.cB))).Nodup
 lt : ∀ k ∈ ub ([M.vE,M.vB,M.vT] ++ (M.cE ++ M.cB)),k < w.heap.size
 lo : ∀ k ∈ ub ([M.vE,M.vB,M.vT] ++ (M.cE ++ M.cB)),B ≤ k
theorem FR.out {w : World} {B f : Nat} {M : Lay} {ex : List Ex} {bl : List Blk} {top : List Nat} (h : FR w B f M ex bl top) : FO w B M ⟨ex,bl,top⟩ := by
 have hn := h.nd
 unfold Lay.uses at hn
 rw [List.nodup_cons] at hn
 exact ⟨h.oE,h.oB,h.oT,h.ee,h.bb,hn.2,fun k hk => h.lt k (List.mem_cons_of_mem _ hk),fun k hk => (h.lo k (List.mem_cons_of_mem _ hk)).resolve_left fun e => hn.1 (e ▸ hk)⟩
theorem FO.keep {S : Nat → Prop} {w w' : World} {B : Nat} {M : Lay} {fl : Fl} (h : FO w B M fl) (hc : Chg S w w') (hS : ∀ k,B ≤ k → k < w.heap.size → k ∈ ub ([M.vE,M.vB,M.vT] ++ (M.cE ++ M.cB)) → ¬ S k) : FO w' B M fl := by
 have hu : ∀ v ∈ [M.vE,M.vB,M.vT] ++ (M.cE ++ M.cB),∀ k,v.ownBlock = some k → ¬ S k := fun v hv k hk => hS k (h.lo k (ub_mem hv hk)) (h.lt k (ub_mem hv hk)) (ub_mem hv hk)
 refine ⟨own_at h.oE hc (hu _ (by simp)),own_at h.oB hc (hu _ (by simp)),own_at h.oT hc (hu _ (by simp)),?_,?_,h.nd,fun k hk => Nat.lt_of_lt_of_le (h.lt k hk) hc.size,h.lo⟩
 · refine h.ee.imp fun x d hd hx => hx.at_ hc fun k hk => ?_
   obtain ⟨v,hv,hk⟩ := List.mem_filterMap.1 hk
   exact hu v (by simp [hd v hv]) k hk
 · refine h.bb.imp fun x d hd hx => hx.at_ hc fun k hk => ?_
   obtain ⟨v,hv,hk⟩ := List.mem_filterMap.1 hk
   exact hu v (by simp [hd v hv]) k hk
theorem ExR.low {w : World} {B B' : Nat} {e : Ex} {d : List Value} (h : ExR w B e d) (hb : B' ≤ B) : ExR w B' e d := by
 obtain ⟨va,vk,e1,h1,h2⟩ := h
 exact ⟨va,vk,e1,h1.base hb,h2.base hb⟩
theorem BkR.low {w : World} {B B' : Nat} {e : Blk} {d : List Value} (h : BkR w B e d) (hb : B' ≤ B) : BkR w B' e d := by
 obtain ⟨vl,va,vk,e1,h1,h2,h3⟩ := h
 exact ⟨vl,va,vk,e1,h1.base hb,h2.base hb,h3.base hb⟩
theorem FO.low {w : World} {B B' : Nat} {M : Lay} {fl : Fl} (h : FO w B M fl) (hb : B' ≤ B) : FO w B' M fl :=
 ⟨h.oE.base hb,h.oB.base hb,h.oT.base hb,h.ee.imp fun x d _ hx => hx.low hb,h.bb.imp fun x d _ hx => hx.low hb,h.nd,h.lt,fun k hk => Nat.le_trans hb (h.lo k hk)⟩
section
variable {w0 w w1 w2 : World} {p f : Nat} {M : Lay} {vt : Value} {s : PS} {top : List Nat}
theorem uses_T (M : Lay) (f : Nat) : (M.uses f).Perm (f :: (ub [M.vT] ++ ub ([M.vE,M.vB] ++ (M.cE ++ M.cB)))) := by
 rw [List.perm_iff_count]
 intro a
 unfold Lay.uses
 simp only [ub_app,List.count_append,List.count_cons]
 rw [ub_cons M.vE,ub_cons M.vB,ub_cons M.vE [M.vB]]
 simp only [List.count_append]
 omega
theorem PR.putT (h : PR w0 w p f M vt s top) {x : Nat} {v' : Value} (hO : Own w1 w0.heap.size IntT 1 v' (top.length + 1) (ints top ++ [i64 (x : Nat)])) (hc1 : Chg (fun k => M.vT.ownBlock = some k) w w1) (hv : ∀ k,v'.ownBlock = some k → M.vT.ownBlock = some k ∨ w.heap.size ≤ k)
   (hc2 : Chg (One f) w1 w2) (hf : w2.heap[f]? = some (.cells [M.vE,M.vB,v'].toArray FlT (0,0))) : PR w0 w2 p f { M with vT := v' } vt s (top ++ [x]) := by
 have hb := h.base
 have pT := uses_T M f
 have use : ∀ k,M.vT.ownBlock = some k → k ∈ M.uses f := fun k hk => List.mem_cons_of_mem _ (ub_mem (v := M.vT) (by simp) hk)
 have hnd0 := pT.nodup_iff.1 h.fr.nd
 have hnd := hnd0
 rw [List.nodup_cons,List.nodup_append] at hnd
 obtain ⟨nf,_,nb,nab⟩ := hnd
 have inU : ∀ k ∈ ub ([M.vE,M.vB] ++ (M.cE ++ M.cB)),k ∈ M.uses f := fun k hk => pT.mem_iff.2 (List.mem_cons_of_mem _ (List.mem_append_right _ hk))
 have rest : ∀ k ∈ ub ([M.vE,M.vB] ++ (M.cE ++ M.cB)),M.vT.ownBlock ≠ some k ∧ k ≠ f ∧ k < w.heap.size := fun k hk =>
   ⟨fun e => nab k (ub_one.2 e) k hk rfl,fun e => nf (e ▸ List.mem_append_right _ hk),h.fr.lt k (inU k hk)⟩
 have c12 : Chg (fun k => M.vT.ownBlock = some k ∨ k = f) w w2 := (hc1.mono fun k _ e => .inl e).trans (hc2.mono fun k _ e => .inr e)
 have sub : ∀ v ∈ [M.vE,M.vB] ++ (M.cE ++ M.cB),∀ k,v.ownBlock = some k → ¬ (M.vT.ownBlock = some k ∨ k = f) := fun v hv k hk e => by
   have := rest k (ub_mem hv hk)
   exact e.elim this.1 this.2.1
 have hOf : ∀ k,v'.ownBlock = some k → k ≠ f := fun k hk e => by
   subst e
   rcases hv k hk with e | e
   · exact nf (List.mem_append_left _ (ub_one.2 e))
   · have := at_lt h.fr.hf; omega
 have nE : M.vT.ownBlock ≠ some p := fun e => h.np (use p e)
 have pf : p ≠ f := fun e => h.np (e ▸ List.mem_cons_self)
 have perm := uses_T { M with vT := v' } f
 have hN : (f :: (ub [v'] ++ ([] ++ ub ([M.vE,M.vB] ++ (M.cE ++ M.cB))))).Nodup := nd_grow (n := w.heap.size) (a := ub [M.vT]) hnd0 (fun k hk => h.fr.lt k (pT.mem_iff.2 hk)) (ub_nodup1 _) (fun k hk => (hv k (ub_one.1 hk)).imp (fun e => ub_one.2 e) id) List.nodup_nil fun k hk => by cases hk
 have hz := c12.size
 have mem : ∀ k ∈ ({ M with vT := v' } : Lay).uses f,k = f ∨ v'.ownBlock = some k ∨ k ∈ ub ([M.vE,M.vB] ++ (M.cE ++ M.cB)) := fun k hk => by
   have hk := perm.mem_iff.1 hk
   rcases List.mem_cons.1 hk with e | e
   · exact .inl e
   rcases List.mem_append.1 e with e | e
   · exact .inr (.inl (ub_one.1 e))
   · exact .inr (.inr e)
 refine ⟨?_,⟨hf,?_,?_,?_,?_,?_,perm.nodup_iff.2 hN,fun k hk => ?_,fun k hk => ?_⟩,?_,?_,fun e => ?_,h.lo,fun k hk => ?_⟩
 · refine h.ch.then c12 fun k hk e => ?_
   rcases e with e | e
   · exact (h.fr.lo k (use k e)).resolve_right (by omega)
   · exact e
 · exact own_at h.fr.oE c12 (sub _ (by simp))
 · exact own_at h.fr.oB c12 (sub _ (by simp))
 · rw [List.length_append,List.length_cons,List.length_nil,ints_app]
   exact own_at hO hc2 fun k hk e => hOf k hk e
 · refine h.fr.ee.imp fun x d hd hx => hx.at_ c12 fun k hk => ?_
   obtain ⟨v,hv,hk⟩ := List.mem_filterMap.1 hk
   exact sub v (by simp [hd v hv]) k hk
 · refine h.fr.bb.imp fun x d hd hx => hx.at_ c12 fun k hk => ?_
   obtain ⟨v,hv,hk⟩ := List.mem_filterMap.1 hk
   exact sub v (by simp [hd v hv]) k hk
 · rcases mem k hk with e | e | e
   · rw [e]; exact at_lt hf
   · exact Nat.lt_of_lt_of_le (own_lt hO e).1 hc2.size
   · exact Nat.lt_of_lt_of_le (rest k e).2.2 hz
 · rcases mem k hk with e | e | e
   · exact .inl e
   · exact .inr (own_lt hO e).2
   · exact h.fr.lo k (inU k e)
 · exact c12.at h.ps fun e => e.elim nE pf
 · exact slat_at h.tk c12 fun k hk e => by
     have := (h.nt k hk).1
     rcases e with e | e
     · exact this (use k e)
     · exact this (e ▸ List.mem_cons_self)
 · rcases mem p e with e | e | e
   · exact pf e
   · exact (hv p e).elim nE fun e => by have := h.lt; omega
   · exact h.np (inU p e)
 · have ht := h.nt k hk
   refine ⟨fun e => ?_,ht.2.1,Nat.lt_of_lt_of_le ht.2.2 hz⟩
   rcases mem k e with e | e | e
   · exact ht.1 (e ▸ List.mem_cons_self)
   · exact (hv k e).elim (fun e => ht.1 (use k e)) fun e => by omega
   · exact ht.1 (inU k e)
end
def TabI (w : World) : Prop := ∃ m,w.cell? ⟨0,0,none⟩ = some (.int .i64 m)
section
variable [HX]
def ScanP : Prop := ∀ (w : World) (K : Value → World → Prop) (s : Str),TabI w → s.length ≤ 1000000 →
 (∀ l,scanM s = .ok l → ∀ v w',Ext w w' → SlAt w' TkT v l.length (toks l) → (∀ k,v.ownBlock = some k → w.heap.size ≤ k ∧ k < w'.heap.size) → K (.tuple #[v,.pointer none]) w') →
 (∀ c a,scanM s = .bad c a → ∀ d w',Ext w w' → w.heap.size ≤ d → w'.heap[d]? = some (.cells [i64 c,str [],i64 a].toArray 48 (0,0)) → K (.tuple #[.slice none 0 0,.pointer (some ⟨d,0,none⟩)]) w') →
 callF Tryz.prog 17 [str s] w K
end
theorem TabI.chg {w w' : World} {f : Nat} {cs : List Value} (h : TabI w) (hc : Chg (Of f) w w') (hf : w.heap[f]? = some (.cells cs.toArray FlT (0,0))) (h0 : ∀ m,cs[0]? ≠ some (.int .i64 m)) : TabI w' := by
 obtain ⟨m,h⟩ := h
 refine ⟨m,?_⟩
 rw [cell_eq] at h ⊢
 cases hx : w.heap[0]? with
 | none => rw [hx] at h; cases h
 | some o =>
   rw [hc.at hx ?_]
   · rw [hx] at h; exact h
   · intro e
     have e : 0 = f := e
     subst e
     rw [hf,cellO_some] at h
     exact h0 m (by simpa using h)
theorem parse_p [HX] (hS : ∀ [HX],ScanP) {t : Str} {w : World} {K : Value → World → Prop} (hT : TabI w) (hl : t.length ≤ 1000000)
   (hok : ∀ fl,parseM t = .ok fl → ∀ M w',Ext w w' → FO w' w.heap.size M fl → (fl.ex.length ≤ 100000 ∧ fl.bl.length ≤ 100000 ∧ fl.top.length ≤ 100000) → K (.tuple #[.agg [M.vE,M.vB,M.vT].toArray,.pointer none]) w')
   (hbad : ∀ c a,parseM t = .bad c a → ∀ d w',Ext w w' → w.heap.size ≤ d → w'.heap[d]? = some (.cells [i64 c,str [],i64 a].toArray 48 (0,0)) → K (.tuple #[.agg [.slice none 0 0,.slice none 0 0,.slice none 0 0].toArray,.pointer (some ⟨d,0,none⟩)]) w') :
   callF Tryz.prog 9 [str t] w K := by
 refine W9_ok ?_
 unfold W9
 refine alloc_new fun f w1 hf hz1 hbb1 hx1 => ?_
 refine alloc_new fun bd w2 hbd hz2 hbb2 hx2 => ?_
 have hx02 := hx1.trans hx2
 have hf2 := hx2.at hbb1 id
 have hT2 : TabI w2 := by
   obtain ⟨m,h⟩ := hT
   refine ⟨m,?_⟩
   rw [cell_eq] at h ⊢
   cases hx : w.heap[0]? with
   | none => rw [hx] at h; cases h
   | some o => rw [hx02.at hx id]; rw [hx] at h; exact h
 unfold parseM at hok hbad
 refine hS w2 _ t hT2 hl (fun l hsc v w3 hx3 hv hvn => ?_) (fun c a hsc d w3 hx3 hd hdb => ?_)
 · rw [ext_tuple]
   refine ⟨v,rfl,?_⟩
   rw [ext_tuple]
   refine ⟨.pointer none,rfl,?_⟩
   have hbd3 := hx3.at hbb2 id
   have hf3 := hx3.at hf2 id
   refine st_at hbd3 rfl (by simp) fun w4 hz4 hbb4 hc4 => ?_
   have hbb4 : w4.heap[bd]? = some (.cells [.pointer none].toArray 29 (0,0)) := by rw [hbb4]; simp
   have hf4 := hc4.at hf3 (by omega)
   refine ⟨.pointer none,by rw [cell_eq,hbb4]; rfl,?_⟩
   show condW (.bool false) _ _
   rw [condW_false]
   have hx4 : Ext w w4 := (hx02.trans hx3).new (hc4.mono fun k _ e => e) (by omega)
   have hlt4 := at_lt hf4
   -- behind the deferral
   have hT4 : TabI w4 := by
     obtain ⟨m,h⟩ := hT
     refine ⟨m,?_⟩
     rw [cell_eq] at h ⊢
     cases hx : w.heap[0]? with
     | none => rw [hx] at h; cases h
     | some o => rw [hx4.at hx id]; rw [hx] at h; exact h
   have hv4 : SlAt w4 TkT v l.length (toks l) := slat_at hv hc4 fun k hk e => by have := (hvn k hk).1; have e : k = bd := e; omega
   letI inst : HX := ⟨fun ch x10 => DefC Tryz.prog 18 [.pointer (some ⟨f,0,none⟩),.pointer (some ⟨bd,0,none⟩)] (.panicking ch) x10 fun w10 =>
       ldW true 3 (.pointer (some ⟨f,0,none⟩)) w10 fun r11 =>
       ldW false 1 (.pointer (some ⟨bd,0,none⟩)) w10 fun r12 =>
       K (.tuple #[r11,r12]) w10⟩
   have hSC : ScanC w4 f := fun w' KK s hc hsl h1 h2 => hS w' KK s (hT4.chg hc hf4 (by simp)) hsl h1 h2
   have hThr : ∀ c a,(∀ d w',Ext w w' → w.heap.size ≤ d → w'.heap[d]? = some (.cells [i64 c,str [],i64 a].toArray 48 (0,0)) → K (.tuple #[.agg [.slice none 0 0,.slice none 0 0,.slice none 0 0].toArray,.pointer (some ⟨d,0,none⟩)]) w') → Thr w4 f c a := by
     intro c a hb d w' cs hc hd hcs hcf hdb
     have hzc := hx4.size
     refine rec_thrown hcf hcs (hc.at hbb4 (by show ¬ bd = f; omega)) (by omega) fun w5 hc5 ha5 hb5 => ?_
     refine ld_all ha5 rfl ?_
     refine ⟨_,by rw [cell_eq,hb5]; rfl,?_⟩
     have hd' : w4.heap.size ≤ d := hd
     have hzx3 := hx3.size
     refine hb d w5 ?_ (by omega) (hc5.at hdb (by show ¬ (d = f ∨ d = bd); omega))
     refine (hx4.then hc fun k hk e => ?_).then hc5 fun k hk e => ?_
     · have e : k = f := e; omega
     · omega
   obtain ⟨q,cap,ev,_⟩ := hv.shape
   subst ev
   simp only [put_slice,put_int,put_ptr,put_nil,List.length_cons,List.length_nil,List.set_cons_zero,List.set_cons_succ,Nat.reduceAdd,Nat.reduceLT,true_and,Nat.zero_lt_succ]
   refine box_new (z := [.slice q l.length cap,i64 0,i64 0,.pointer (some ⟨f,0,none⟩),i64 0,.bool false]) fun p w5 hp hz5 hpb hx5 => ?_
   have hzx3 := hx3.size
   have hf5 := hx5.at hf4 id
   have hbd5 := hx5.at hbb4 id
   let M0 : Lay := ⟨.slice none 0 0,.slice none 0 0,.slice none 0 0,[],[]⟩
   have huse : M0.uses f = [f] := rfl
   have hPR : PR w4 w5 p f M0 (.slice q l.length cap) ⟨l,0,0,0,false,[],[]⟩ [] :=
     ⟨Chg.of_ext hx5,⟨hf5,⟨by simp [M0],.inl ⟨rfl,rfl⟩⟩,⟨by simp [M0],.inl ⟨rfl,rfl⟩⟩,⟨by simp [ints],.inl ⟨rfl,rfl⟩⟩,RowsR.nil _ _,RowsR.nil _ _,by rw [huse]; simp,by rw [huse]; intro k hk; simp only [List.mem_singleton] at hk; omega,by rw [huse]; intro k hk; simp only [List.mem_singleton] at hk; exact .inl hk⟩,
       hpb,hv4.ext hx5,by rw [huse]; simp only [List.mem_singleton]; omega,by omega,fun k hk => by
         have hb := hvn k hk
         rw [huse]
         simp only [List.mem_singleton]
         omega⟩
   have htg := scan_tg (N := (t.length : Nat)) (off := 0) hsc (Int.le_refl _) (by omega)
   have hfew := scan_few hsc
   have hwt := scan_wt hsc
   have hg0 : Gd (t.length : Nat) ⟨l,0,0,0,false,[],[]⟩ 24 := ⟨⟨htg,List.length_pos_iff.2 htg.ne,by omega⟩,by omega,hfew.1,scan_ts hsc,by unfold Syn.phi; simp only [List.length_nil,List.drop_zero]; omega,rfl⟩
   rw [hsc] at hok hbad
   simp only at hok hbad
   have hN := hg0.hN
   refine lines_p hPR hg0.ws hN hg0.l fun w6 h6 he6 => ?_
   have hg1 := hg0.lines
   have et1 := congrArg List.length (lines_go hg0.ws).1.toks
   generalize hR : topF (l.length + 1) (linesS ⟨l,0,0,0,false,[],[]⟩) [] = R0 at hok hbad
   have hbdk : ∀ {w' : World},Chg (Of f) w4 w' → w'.heap[bd]? = some (.cells [.pointer none].toArray 29 (0,0)) := fun hc => hc.at hbb4 (by show ¬ bd = f; omega)
   refine LoopW.go (fun st w' => st = [] ∧ ∃ s1 M1 top n,PR w4 w' p f M1 (.slice q l.length cap) s1 top ∧ Gd (t.length : Nat) s1 24 ∧ topF n s1 top = R0 ∧ s1.toks.length < n + s1.i ∧ top.length ≤ s1.i ∧ s1.toks.length = l.length) (fun _ w' => l.length - psAt w' p)
     ⟨rfl,_,M0,[],l.length + 1,h6,hg1,hR,by rw [et1]; show l.length < _; omega,by simp,by rw [et1]⟩ ?_
   rintro st g w7 ⟨rfl,s1,M1,top,n,h7,hg7,htop,hn,htl,htk⟩
   have hlt7 := hg7.ws.lt
   obtain ⟨n,rfl⟩ : ∃ m,n = m + 1 := ⟨n - 1,by omega⟩
   simp only [topF] at htop
   have hgn := hg7.now
   have ng := now_go hg7.ws
   have ngt := congrArg List.length ng.toks
   have ngi := ng.le
   refine now_p h7 hg7.ws hN hg7.l fun w8 h8 he8 => ?_
   refine ⟨i64 (cur s1).k,rfl,?_⟩
   dsimp only
   rw [bin_neq,condW_dec]
   refine ⟨fun hk0 => ?_,fun hk0 => ?_⟩
   · have hk0 : (cur s1).k ≠ 0 := hk0
     rw [if_neg hk0] at htop
     have h8 := h8.drew
     rw [fld_ptr,ld_one]
     refine ⟨M1.vT,by rw [add_mk,cell_eq,h8.fr.hf,cellO_some]; rfl,?_⟩
     refine blockD_p hSC 24 w8.drew p M1 _ _ top _ _ h8 hgn (fun x s2 ex M2 w9 h9 he9 => ?_) fun c a' ex => hThr c a' (hbad c a' (by rw [← htop,ex]; rfl))
     rw [ex] at htop
     simp only [R.bind] at htop
     obtain ⟨hg9,hi9,ht9⟩ := hgn.bk (fine_blockD 24) ex
     have ht9 := congrArg List.length ht9
     have eT := he9.hT
     have ldT : ∀ {w' : World},w'.heap[f]? = some (.cells [M2.vE,M2.vB,M2.vT].toArray FlT (0,0)) → ldW false 1 (.pointer (some ((⟨f,0,none⟩ : Addr).add 2))) w' fun x => x = M1.vT := fun h => by
       rw [ld_one]; exact ⟨M2.vT,by rw [add_mk,cell_eq,h,cellO_some]; rfl,eT⟩
     refine ⟨ldT h9.fr.hf,?_⟩
     refine bsl_int1 fun r w10 hr hz10 hrb hx10 => ?_
     have h10 := h9.ext hx10
     refine ⟨ldT h10.fr.hf,?_⟩
     have few := hg7.few
     have hzx := hx10.size
     have nF : ¬ M2.vT.ownBlock = some f := fun e => by
       have hnd := (uses_T M2 f).nodup_iff.1 h10.fr.nd
       rw [List.nodup_cons] at hnd
       exact hnd.1 (List.mem_append_left _ (ub_one.2 e))
     rw [← eT]
     refine append_own3 el_int h10.fr.oT (slat_new' (n := 1) (T := IntT) hrb) rfl (fun u hu => by simp only [List.mem_singleton] at hu; subst hu; rfl) (by omega) (by omega) h10.base fun v' w11 hO11 hc11 hv11 => ?_
     have hf11 := hc11.at h10.fr.hf nF
     rw [fld_ptr,add_mk,Nat.zero_add]
     obtain ⟨vp,vc,ev,_⟩ := hO11.sl.shape
     refine st_at hf11 (by rw [ev]; rfl) (by simp) fun w12 hz12 hf12 hc12 => ?_
     have h12 := h10.putT (w1 := w11) (w2 := w12) (x := x) hO11 hc11 hv11 hc12 (by rw [hf12]; simp)
     have hg10 := hg9.now
     have ng9 := now_go hg9.ws
     have ng9t := congrArg List.length ng9.toks
     have ng9i := ng9.le
     refine JoinW.cut (fun _ w' => PR w4 w' p f { M2 with vT := v' } (.slice q l.length cap) (nowS s2) (top ++ [x]) ∧ topF n (linesS (nowS s2)) (top ++ [x]) = R0) ?_ ?_
     · refine now_p h12 hg9.ws hN hg9.l fun w13 h13 he13 => ?_
       refine ⟨i64 (cur s2).k,rfl,?_⟩
       dsimp only
       rw [bin_neq]
       simp only [isB_t,bin_neq,GdW_pure]
       intro g2
       simp only [List.getD_cons_zero]
       rw [pick_gd_and,condW_b]
       refine ⟨fun hb => ?_,fun hb => ?_⟩
       · have hb : (cur s2).k ≠ 5 ∧ (cur s2).k ≠ 0 := by simpa using hb
         rw [if_pos hb] at htop
         refine now_p h13 hg10.ws hN hg10.l fun w14 h14 he14 => ?_
         refine ⟨i64 (cur (nowS s2)).a,rfl,?_⟩
         exact fail_p h14 (hThr 50 _ (hbad 50 _ (by rw [← htop])))
       · have hb : ¬ ((cur s2).k ≠ 5 ∧ (cur s2).k ≠ 0) := by simpa using hb
         rw [if_neg hb] at htop
         exact ⟨h13,htop⟩
     rintro _ g2 w13 ⟨h13,htop⟩
     refine lines_p h13 hg10.ws hN hg10.l fun w14 h14 he14 => ?_
     have lg := lines_go hg10.ws
     have lgt := congrArg List.length lg.1.toks
     have lgi := lg.1.le
     have hgl := hg10.lines
     have hltl := hgl.ws.lt
     refine ⟨⟨rfl,linesS (nowS s2),_,top ++ [x],n,h14,hgl,htop,by omega,by rw [List.length_append,List.length_cons,List.length_nil]; omega,by omega⟩,?_⟩
     rw [h14.at_,h7.at_]; omega
   · have hk0 : (cur s1).k = 0 := by
       by_cases h : (cur s1).k = 0
       · exact h
       · exact absurd h hk0
     rw [if_pos hk0] at htop
     refine ld_all h8.fr.hf rfl ?_
     obtain ⟨ep,ec,e1,_⟩ := h8.fr.oE.sl.shape
     obtain ⟨bp,bc,e2,_⟩ := h8.fr.oB.sl.shape
     obtain ⟨tp,tc,e3,_⟩ := h8.fr.oT.sl.shape
     refine st_agg_at (l := [M1.vE,M1.vB,M1.vT]) h8.fr.hf rfl rfl (by rw [e1,e2,e3]; rfl) fun w9 hz9 hf9 hc9 => ?_
     have hc49 : Chg (Of f) w4 w9 := h8.ch.trans (hc9.mono fun k _ e => e)
     refine st_at (hbdk hc49) rfl (by simp) fun w10 hz10 hbd10 hc10 => ?_
     have hf10 := hc10.at hf9 (by omega)
     refine rec_idle ?_
     refine ld_all hf10 rfl ?_
     refine ⟨.pointer none,by rw [cell_eq,hbd10]; rfl,?_⟩
     have hFO := h8.fr.out
     have hFO := hFO.keep hc9 fun k hk hlt hu e => by have e : k = f := e; omega
     have hFO := hFO.keep hc10 fun k hk hlt hu e => by have e : k = bd := e; omega
     have hzc := hx4.size
     rw [← htop] at hok
     have few := hg7.few
     refine hok _ rfl M1 w10 ?_ (hFO.low hzc) ⟨hgn.ex.1,hgn.ex.2,by show top.length ≤ _; omega⟩
     refine (hx4.then hc49 fun k hk e => ?_).then hc10 fun k hk e => ?_
     · have e : k = f := e; omega
     · have e : k = bd := e; omega
 · rw [ext_tuple]
   refine ⟨.slice none 0 0,rfl,?_⟩
   rw [ext_tuple]
   refine ⟨.pointer (some ⟨d,0,none⟩),rfl,?_⟩
   have hbd3 := hx3.at hbb2 id
   have hf3 := hx3.at hf2 id
   refine st_at hbd3 rfl (by simp) fun w4 hz4 hbb4 hc4 => ?_
   have hbb4 : w4.heap[bd]? = some (.cells [.pointer (some ⟨d,0,none⟩)].toArray 29 (0,0)) := by rw [hbb4]; simp
   have hf4 := hc4.at hf3 (by omega)
   refine ⟨.pointer (some ⟨d,0,none⟩),by rw [cell_eq,hbb4]; rfl,?_⟩
   show condW (.bool true) _ _
   rw [condW_true,put_nil]
   refine ⟨.pointer (some ⟨d,0,none⟩),by rw [cell_eq,heap_drew,hbb4]; rfl,?_⟩
   refine st_agg_at (w := w4.drew) (l := [.slice none 0 0,.slice none 0 0,.slice none 0 0]) hf4 rfl rfl rfl fun w5 hz5 hf5 hc5 => ?_
   have hbb5 := hc5.at (w := w4.drew) hbb4 (by omega)
   refine ⟨⟨.pointer (some ⟨d,0,none⟩),by rw [cell_eq,hbb5]; rfl,rfl⟩,?_⟩
   refine st_at hbb5 rfl (by simp) fun w6 hz6 hbb6 hc6 => ?_
   have hf6 := hc6.at hf5 (by omega)
   refine ld_all hf6 rfl ?_
   refine ⟨.pointer (some ⟨d,0,none⟩),by rw [cell_eq,hbb6]; rfl,?_⟩
   have hx3' := hx02.trans hx3
   have hd4 := hc4.at hdb (by omega)
   have hd5 := hc5.at (w := w4.drew) hd4 (by omega)
   refine hbad c a (by rw [hsc]) d w6 ?_ (by omega) (hc6.at hd5 (by omega))
   exact (((hx3'.new hc4 (by omega)).trans (ext_drew w4)).new hc5 (by omega)).new hc6 (by omega)
end Go.Proofs.YtofhaneggcpdaaaGreatDoor
namespace Go.Proofs.YtofhaneggcpdaaaGreatDoor
open Go Go.Eng Go.RowKit Go.Syn Go.Lex
set_option maxRecDepth 100000
abbrev cv (c : UInt8) : Value := .int .u8 (c.toNat : Nat)
theorem le_nat (a c : UInt8) : decide (((a.toNat : Nat) : Int) ≤ ((c.toNat : Nat) : Int)) = decide (a ≤ c) := by
 rw [decide_eq_decide,UInt8.le_iff_toNat_le]; omega
theorem eq_nat (a c : UInt8) : decide (((c.toNat : Nat) : Int) = ((a.toNat : Nat) : Int)) = (c == a) := by
 rw [Bool.eq_iff_iff,decide_eq_true_iff,beq_iff_eq,← UInt8.toNat_inj]; omega
section
variable [HX]
theorem letter_p {c : UInt8} {w : World} {K : Value → World → Prop} (hK : K (.bool (isLetter c)) w) : callF Tryz.prog 71 [cv c] w K := by
 refine W71_ok ?_
 unfold W71
 have e1 : decide ((97 : Int) ≤ ((c.toNat : Nat) : Int)) = decide (97 ≤ c) := le_nat 97 c
 have e2 : decide (((c.toNat : Nat) : Int) ≤ 122) = decide (c ≤ 122) := le_nat c 122
 have e3 : decide ((65 : Int) ≤ ((c.toNat : Nat) : Int)) = decide (65 ≤ c) := le_nat 65 c
 have e4 : decide (((c.toNat : Nat) : Int) ≤ 90) = decide (c ≤ 90) := le_nat c 90
 have e5 : decide (((c.toNat : Nat) : Int) = 95) = (c == 95) := eq_nat 95 c
 simp only [bin_geq,bin_leq,bin_eql,e1,e2,e3,e4,e5]
 unfold isLetter at hK
 generalize decide (97 ≤ c) = a at *
 generalize decide (c ≤ 122) = b at *
 generalize decide (65 ≤ c) = d at *
 generalize decide (c ≤ 90) = e at *
 generalize (c == 95) = g at *
 cases a <;> cases b <;> cases d <;> cases e <;> cases g <;>
   (simp only [isB_t,isB_f,isB_u,GdW_f,GdW_pure,cond_true,cond_false,pick_t,pick_f,List.getD_cons_zero,Bool.not_true,Bool.not_false]; intros; exact hK)
theorem digit_p {c : UInt8} {w : World} {K : Value → World → Prop} (hK : K (.bool (isDigit c)) w) : callF Tryz.prog 73 [cv c] w K := by
 refine W73_ok ?_
 unfold W73
 have e1 : decide ((48 : Int) ≤ ((c.toNat : Nat) : Int)) = decide (48 ≤ c) := le_nat 48 c
 have e2 : decide (((c.toNat : Nat) : Int) ≤ 57) = decide (c ≤ 57) := le_nat c 57
 simp only [bin_geq,bin_leq,e1,e2]
 unfold isDigit at hK
 generalize decide (48 ≤ c) = a at *
 generalize decide (c ≤ 57) = b at *
 cases a <;> cases b <;>
   (simp only [isB_t,isB_f,isB_u,GdW_f,GdW_pure,cond_true,cond_false,pick_t,pick_f,List.getD_cons_zero,Bool.not_true,Bool.not_false]; intros; exact hK)
theorem callV_fn' {P : Program} {g : FuncId} {args : List Value} {w : World} {K : Value → World → Prop} (h : callF P g args w K) : callV P (.func (.func g) #[] #[]) args w K := callV_cap' (caps := []) (by rw [List.append_nil]; exact h)
theorem name1_p {c : UInt8} {w : World} {K : Value → World → Prop} (hK : K (.bool (isName c)) w) : callF Tryz.prog 72 [cv c] w K := by
 refine W72_ok ?_
 unfold W72
 refine letter_p ?_
 have e5 : decide (((c.toNat : Nat) : Int) = 45) = (c == 45) := eq_nat 45 c
 unfold isName at hK
 simp only [isB_f,bin_eql,e5]
 refine GdW.look (isDigit c) (fun _ J hJ => digit_p hJ) fun g => ?_
 simp only [List.getD_cons_zero]
 rw [pick_gd_or]
 simp only [isB_f,GdW_pure,List.getD_cons_zero]
 intro g2
 rw [pick_gd_or]
 exact hK
theorem name2_p {c : UInt8} {w : World} {K : Value → World → Prop} (hK : K (.bool (isName c)) w) : callF Tryz.prog 99 [cv c] w K := by
 refine W99_ok ?_
 unfold W99
 refine letter_p ?_
 have e5 : decide (((c.toNat : Nat) : Int) = 45) = (c == 45) := eq_nat 45 c
 unfold isName at hK
 simp only [isB_f,bin_eql,e5]
 refine GdW.look (isDigit c) (fun _ J hJ => digit_p hJ) fun g => ?_
 simp only [List.getD_cons_zero]
 rw [pick_gd_or]
 simp only [isB_f,GdW_pure,List.getD_cons_zero]
 intro g2
 rw [pick_gd_or]
 exact hK
theorem line1_p {c : UInt8} {w : World} {K : Value → World → Prop} (hK : K (.bool (c != 10)) w) : callF Tryz.prog 69 [cv c] w K := by
 refine W69_ok ?_
 unfold W69
 rw [bin_neq]
 have e : decide (((c.toNat : Nat) : Int) ≠ 10) = (c != 10) := by
   have e5 : decide (((c.toNat : Nat) : Int) = 10) = (c == 10) := eq_nat 10 c
   rw [bne,← e5,decide_not]
 rw [e]
 exact hK
theorem run_p {q : UInt8 → Bool} {fv : Value} {s : Str} {w : World} {K : Value → World → Prop} (hl : s.length ≤ 1000000) (hq : ∀ c {w : World} {K : Value → World → Prop},K (.bool (q c)) w → callV Tryz.prog fv [cv c] w K) (hK : K (i64 (runM q s : Nat)) w) : callF Tryz.prog 68 [str s,fv] w K := by
 refine W68_ok ?_
 unfold W68
 rw [lens_str]
 refine LoopW.go (fun st w' => ∃ i : Nat,st = [i64 (i : Nat)] ∧ i ≤ s.length ∧ w' = w ∧ i + runM q (s.drop i) = runM q s) (fun st _ => match st with | [.int _ i] => s.length - i.toNat | _ => 0) ⟨0,rfl,by omega,rfl,by simp⟩ ?_
 rintro st g w' ⟨i,rfl,hi,rfl,hr⟩
 simp only [List.getD_cons_zero]
 rw [bin_lss,condW_dec]
 refine ⟨fun hlt => ?_,fun hge => ?_⟩
 · have hlt : i < s.length := by omega
   rw [drop_len hlt] at hr
   simp only [runM] at hr
   refine ixs_i hlt ?_
   refine hq _ ?_
   rw [un_not,condW_b]
   refine ⟨fun hn => ?_,fun hy => ?_⟩
   · rw [if_neg (by simpa using hn),Nat.add_zero] at hr
     rw [hr]; exact hK
   · rw [if_pos (by simpa using hy)] at hr
     rw [bin_add,upi (by omega)]
     refine ⟨⟨i + 1,rfl,by omega,rfl,by omega⟩,?_⟩
     simp only [Int.toNat_natCast]; omega
 · obtain rfl : i = s.length := by omega
   rw [List.drop_length] at hr
   simp only [runM,Nat.add_zero] at hr
   rw [lens_str,hr]; exact hK
theorem indexb_p {l : Str} {c : UInt8} {w : World} {K : Value → World → Prop} (hK : K (i64 (Lib.indexByte l c)) w) : callF Tryz.prog 67 [str l,cv c] w K := by
 refine of_calls (args := #[str l,cv c]) Tryz.call67 ((Tryz.strings_IndexByte (ofL l) (c.toNat : Nat) w).mono ?_)
 rintro e w' ⟨rfl,rfl⟩
 refine ⟨_,rfl,?_⟩
 rw [ofL_data]
 simpa using hK
theorem index2_p {s : Str} {w : World} {K : Value → World → Prop} (hT : TabI w) (hl : s.length ≤ 1000000) (hK : K (i64 (Lib.index s [42,47])) w) : callF Tryz.prog 70 [str s,str [42,47]] w K := by
 obtain ⟨m,hm⟩ := hT
 refine of_calls (args := #[str s,str [42,47]]) Tryz.call70 ((Tryz.strings_Index (ofL s) (ofL [42,47]) m w (by rw [ofL_size]; omega) hm).mono ?_)
 rintro e w' ⟨rfl,rfl⟩
 rw [ofL_data,ofL_data]
 exact ⟨_,rfl,hK⟩
end
end Go.Proofs.YtofhaneggcpdaaaGreatDoor
