/- One plain sentence: weakest preconditions, contracts and plain laws that the claim rests on, text behind text. Conditions: those that each states. -/
import Derived.Test.YtnoepcndjljolaaGreatDoorMY5
import Derived.Test.YtnoepcndjljolaaGreatDoorMY2
import Derived.Test.YtnoepcndjljolaaGreatDoorMY1
import Derived.Deep.Slices
import Derived.DataReads
import Derived.ChangeArms
import Derived.Test.YtnoepcndjljolaaGreatDoorMY3
import Derived.OpenShut
import Derived.Test.YtnoepcndjljolaaGreatDoorRows
import Derived.Below
import Derived.RowKit
import Derived.ChangeMaps5
import Derived.MakeChecks
import Derived.Lib.LaidU8T
import Derived.Lib.LaidTab
import Derived.Test.YtnoepcndjljolaaGreatDoorMY4
set_option linter.all false
set_option linter.unusedSimpArgs false
set_option linter.unusedVariables false
set_option linter.unusedSectionVars false
namespace Go.Proofs.YtnoepcndjljolaaGreatDoor
open Go Go.Eng Go.RowKit
set_option maxRecDepth 100000
theorem u8_same (c d:UInt8):decide (((c.toNat:Nat):Int) = ((d.toNat:Nat):Int)) = decide (c = d):=decide_eq_decide.2 ⟨fun h=>UInt8.toNat_inj.1 (by omega),fun h=>by rw [h]⟩
theorem u8_any (n:Int):∃ k:Nat,k < 256 ∧ IntKind.u8.wrap n = (k:Int) ∧ (0 ≤ n → n < 256 → (k:Int) = n):=by
 have e:IntKind.u8.wrap n = n % 256:=by simp [IntKind.wrap,IntKind.bits,IntKind.signed]
 exact ⟨(n % 256).toNat,by omega,by rw [e]; omega,by omega⟩
theorem i64_any (n:Int):-9223372036854775808 ≤ IntKind.i64.wrap n ∧ IntKind.i64.wrap n ≤ 9223372036854775807:=by
 have e1:(2:Int) ^ 64 = 18446744073709551616:=by decide
 have e2:(2:Int) ^ (64 - 1) = 9223372036854775808:=by decide
 simp only [IntKind.wrap,IntKind.bits,IntKind.signed,Bool.true_and,e1,e2]
 by_cases h:n % 18446744073709551616 ≥ 9223372036854775808
 · rw [if_pos (by simpa using h)]; omega
 · rw [if_neg (by simpa using h)]; omega
theorem ix_b {s:Str} {i:Nat} {c:UInt8} {K:Value → Prop} (h:s[i]? = some c) (hk:K (.int .u8 (c.toNat:Nat))):ixsW (str s) (i64 (i:Nat)) K:=by
 rw [ixs_str]
 exact ⟨by omega,c,by simpa using h,hk⟩
section
variable [HX]
theorem byte_str {n:Int} {w:World} {K:Value → World → Prop} (hK:∀ c w',Ext w w' → (n = (c.toNat:Nat) ∨ ¬ (0 ≤ n ∧ n < 256)) → K (str [c]) w') :
   cvtW .u8 (i64 n) fun t37=>bslW U8 1 [(.int .u8 0)] [(0,1,t37)] w fun t38 w9=>semQ Tryz.prog (convert 27 9 t38) w9 fun t39=>K t39 w9:=by
 rw [cvt_int]
 obtain ⟨k,hk,e,_⟩:=u8_any n
 rw [e]
 refine row_u8 fun t w4 ht hx4=>?_
 have hb:Byt w4 U8 t [UInt8.ofNat k]:=by
   have e1:u8s [UInt8.ofNat k] = [.int .u8 ((k:Nat):Int)]:=by
     simp only [u8s,List.map_cons,List.map_nil,UInt8.toNat_ofNat']
     rw [Nat.mod_eq_of_lt (by omega)]
   unfold Byt
   rw [e1]; exact ht
 rw [conv_bytes (l:=[UInt8.ofNat k]) (e:=U8) (by kernel_rfl) (by kernel_rfl) (by kernel_rfl) hb]
 refine hK _ w4 hx4 ?_
 by_cases h:0 ≤ n ∧ n < 256
 · left
   have e2:IntKind.u8.wrap n = n % 256:=by simp [IntKind.wrap,IntKind.bits,IntKind.signed]
   rw [UInt8.toNat_ofNat',Nat.mod_eq_of_lt (by omega)]
   omega
 · exact .inr h
theorem belowN_ref {s:Str} {w:World} {K:Value → World → Prop} (h:s ≠ []) (hK:K (.bool (Num.neg s)) w):callF Tryz.prog 155 [str s] w K:=by
 refine W155_ok ?_
 unfold W155
 cases s with
 | nil=>exact absurd rfl h
 | cons c r=>
   refine ix_b (i:=0) (c:=c) rfl ?_
   rw [bin_eql]
   have e:decide (((c.toNat:Nat):Int) = 45) = Num.neg (c :: r):=by
     unfold Num.neg
     have:=u8_same c 45
     rw [show ((45:UInt8).toNat:Int) = 45 from rfl] at this
     rw [this,List.head?_cons]
     by_cases h:c = 45
     · subst h; rfl
     · simp [h]
   rw [e]
   exact hK
theorem sizeN_ref {s:Str} {w:World} {K:Value → World → Prop} (h:s ≠ []) (hK:K (str (Num.dig s)) w):callF Tryz.prog 235 [str s] w K:=by
 refine W235_ok ?_
 unfold W235
 refine belowN_ref h ?_
 cases s with
 | nil=>exact absurd rfl h
 | cons c r=>
   rw [condW_b]
   refine ⟨fun e=>?_,fun e=>?_⟩
   · have ec:c = 45:=by unfold Num.neg at e; simpa using e
     rw [sls_str,bd_none,bd_some]
     refine ⟨by omega,by rw [List.length_cons]; omega,?_⟩
     rw [List.take_length]
     have e2:Num.dig (c :: r) = r:=by simp [Num.dig,ec]
     rw [e2] at hK
     exact hK
   · have ec:¬ c = 45:=by unfold Num.neg at e; simpa using e
     have e2:Num.dig (c :: r) = c :: r:=by simp [Num.dig,ec]
     rw [e2] at hK
     exact hK
def sgM (b:Bool) (s:Str):Str:=if b = true ∧ s ≠ [48] then 45 :: s else s
theorem sg_ref {b:Bool} {s:Str} {w:World} {K:Value → World → Prop} (hl:s.length ≤ 1000000) (hK:K (str (sgM b s)) w):callF Tryz.prog 157 [.bool b,str s] w K:=by
 refine W157_ok ?_
 unfold W157
 unfold sgM at hK
 cases b with
 | false=>
   refine GdW.f fun g=>?_
   show condW (.bool false) _ _
   rw [condW_false]
   rw [if_neg (by simp)] at hK
   exact hK
 | true=>
   refine GdW.look (decide (s ≠ [48])) (fun _ J hJ=>?_) fun g=>?_
   · rw [bin_sne]; exact hJ
   show condW (.bool (decide (s ≠ [48]))) _ _
   rw [condW_dec]
   refine ⟨fun e=>?_,fun e=>?_⟩
   · rw [if_pos ⟨rfl,e⟩] at hK
     rw [bin_sadd]
     exact ⟨by rw [imax]; simp only [List.length_cons,List.length_nil]; omega,hK⟩
   · rw [if_neg (fun h=>e h.2)] at hK
     exact hK
theorem lessN_ref {a b:Str} {w:World} {K:Value → World → Prop} (hK:∀ r,(a.length < b.length → r = true) → K (.bool r) w):callF Tryz.prog 236 [str a,str b] w K:=by
 refine W236_ok ?_
 unfold W236
 simp only [lens_str]
 rw [bin_neq,condW_dec]
 refine ⟨fun e=>?_,fun e=>?_⟩
 · rw [bin_lss]
   exact hK _ fun h=>decide_eq_true (by omega)
 · rw [bin_slt]
   exact hK _ fun h=>by omega
theorem digitN_ref {s:Str} {i:Nat} {w:World} {K:Value → World → Prop} (hl:s.length ≤ 1000000) (hi:i ≤ 1000000) (hK:∀ d:Nat,d < 256 → (s.length ≤ i → d = 0) → K (i64 (d:Nat)) w):callF Tryz.prog 253 [str s,i64 (i:Nat)] w K:=by
 refine W253_ok ?_
 unfold W253
 simp only [lens_str]
 rw [bin_geq,condW_dec]
 refine ⟨fun h=>hK 0 (by omega) fun _=>rfl,fun h=>?_⟩
 rw [bin_sub,wrap_id (by omega) (by omega),bin_sub,wrap_id (by omega) (by omega),show (s.length:Int) - 1 - (i:Int) = ((s.length - 1 - i:Nat):Int) by omega]
 obtain ⟨c,hc⟩:∃ c,s[s.length - 1 - i]? = some c:=⟨_,List.getElem?_eq_getElem (by omega)⟩
 refine ix_b hc ?_
 rw [bin_sub,cvt_int]
 obtain ⟨k,hk,e,_⟩:=u8_any (((c.toNat:Nat):Int) - 48)
 rw [e,wrap_id (by omega) (by omega)]
 exact hK k hk fun h=>by omega
theorem bareN_ref {s:Str} {w:World} {K:Value → World → Prop} (h:s ≠ []) (hl:s.length ≤ 1000000) (hK:∀ z t,s = z ++ t → t ≠ [] → K (str t) w):callF Tryz.prog 254 [str s] w K:=by
 refine W254_ok ?_
 unfold W254
 refine LoopW.go (fun st w'=>∃ z t,st = [str t] ∧ s = z ++ t ∧ t ≠ [] ∧ w' = w) (fun st _=>match st with | [.string b]=>b.size | _=>0) ⟨[],s,rfl,rfl,h,rfl⟩ ?_
 rintro st g w2 ⟨z,t,rfl,hs,ht,rfl⟩
 simp only [List.getD_cons_zero]
 have hlt:t.length ≤ s.length:=by rw [hs]; simp
 cases t with
 | nil=>exact absurd rfl ht
 | cons c r=>
   simp only [lens_str]
   rw [bin_gtr]
   simp only [isB_t]
   refine GdW.look (decide (c = 48)) (fun _ J hJ=>?_) fun g=>?_
   · refine ix_b (i:=0) (c:=c) rfl ?_
     rw [bin_eql]
     have:=u8_same c 48
     rw [show ((48:UInt8).toNat:Int) = 48 from rfl] at this
     rw [this]
     exact hJ
   simp only [List.getD_cons_zero]
   rw [pick_gd_and,condW_b]
   refine ⟨fun e=>?_,fun e=>?_⟩
   · simp only [Bool.and_eq_true,decide_eq_true_eq,List.length_cons] at e
     rw [sls_str,bd_none,bd_some]
     refine ⟨by omega,by rw [List.length_cons]; omega,?_⟩
     rw [List.take_length]
     refine ⟨⟨z ++ [c],r,rfl,by rw [hs]; simp,fun e2=>by rw [e2] at e; simp at e,trivial⟩,?_⟩
     show (ofL ((c :: r).drop 1)).size < (ofL (c :: r)).size
     rw [ofL_size,ofL_size]; simp
   · exact hK z (c :: r) hs ht
theorem plusN_ref {a b:Str} {w:World} {K:Value → World → Prop} (ha:a ≠ []) (la:a.length ≤ 100000) (lb:b.length ≤ 100000) (hK:∀ t w',Ext w w' → t ≠ [] → t.length ≤ 200000 → Num.neg t = false → K (str t) w'):callF Tryz.prog 234 [str a,str b] w K:=by
 refine W234_ok ?_
 unfold W234
 have ha0:0 < a.length:=List.length_pos_iff.2 ha
 refine LoopW.go (fun st w'=>∃ (out:Str) (c i:Nat),st = [str out,i64 (c:Nat),i64 (i:Nat)] ∧ out.length = i ∧ c ≤ 60 ∧ i + c ≤ max a.length b.length + 60 ∧ (∀ x ∈ out,x ≠ 45) ∧ Ext w w')
   (fun st _=>match st with | [_,.int _ c,.int _ i]=>100 * (max a.length b.length - i.toNat) + c.toNat | _=>0) ⟨[],0,0,rfl,rfl,by omega,by omega,by simp,Chg.refl _ _⟩ ?_
 rintro st g w2 ⟨out,c,i,rfl,ho,hc,hic,hno,hx⟩
 simp only [List.getD_cons_zero,List.getD_cons_succ,lens_str]
 rw [bin_lss]
 simp only [isB_f]
 refine GdW.look (decide ((i:Int) < (b.length:Int))) (fun _ J hJ=>by rw [bin_lss]; exact hJ) fun g=>?_
 simp only [List.getD_cons_zero]
 rw [pick_gd_or]
 simp only [isB_f]
 refine GdW.look (decide ((0:Int) < (c:Int))) (fun _ J hJ=>by rw [bin_gtr]; exact hJ) fun g=>?_
 simp only [List.getD_cons_zero]
 rw [pick_gd_or,condW_b]
 refine ⟨fun e=>?_,fun e=>?_⟩
 · refine digitN_ref (by omega) (by omega) fun d1 h1 z1=>?_
   refine digitN_ref (by omega) (by omega) fun d2 h2 z2=>?_
   rw [bin_add,wrap_id (by omega) (by omega),bin_add,wrap_id (by omega) (by omega),show (d1:Int) + (d2:Int) + (c:Int) = ((d1 + d2 + c:Nat):Int) by omega,bin_rem]
   refine ⟨by decide,?_⟩
   have er:((d1 + d2 + c:Nat):Int).tmod 10 = (((d1 + d2 + c) % 10:Nat):Int):=(Int.ofNat_tmod _ 10).symm
   have eq:((d1 + d2 + c:Nat):Int).tdiv 10 = (((d1 + d2 + c) / 10:Nat):Int):=(Int.ofNat_tdiv _ 10).symm
   rw [er,bin_add,wrap_id (by omega) (by omega)]
   refine byte_str fun x w4 hx4 hxc=>?_
   rw [bin_sadd]
   refine ⟨by rw [imax]; simp only [List.length_cons,List.length_nil]; omega,?_⟩
   rw [bin_quo]
   refine ⟨by decide,?_⟩
   rw [eq,wrap_id (by omega) (by omega),bin_add,up1 (by omega)]
   have hx45:x ≠ 45:=by
     rintro rfl
     rcases hxc with h | h
     · rw [show ((45:UInt8).toNat:Int) = 45 from rfl] at h; omega
     · omega
   simp only [Bool.or_eq_true,decide_eq_true_eq] at e
   refine ⟨⟨[x] ++ out,_,i + 1,rfl,by simp [ho],by omega,?_,?_,hx.trans hx4⟩,?_⟩
   · omega
   · intro y hy
     simp only [List.cons_append,List.nil_append,List.mem_cons] at hy
     rcases hy with rfl | hy
     · exact hx45
     · exact hno y hy
   · show 100 * (max a.length b.length - ((i + 1:Nat):Int).toNat) + (((d1 + d2 + c) / 10:Nat):Int).toNat < 100 * (max a.length b.length - ((i:Nat):Int).toNat) + ((c:Nat):Int).toNat
     simp only [Int.toNat_natCast]
     omega
 · simp only [Bool.or_eq_false_iff,decide_eq_false_iff_not] at e
   refine bareN_ref (fun h=>by rw [h] at ho; simp at ho; omega) (by omega) fun z t hs ht=>?_
   refine hK t w2 hx ht ?_ ?_
   · have:t.length ≤ out.length:=by rw [hs]; simp
     omega
   · cases t with
     | nil=>exact absurd rfl ht
     | cons y r=>
       have:=hno y (by rw [hs]; simp)
       unfold Num.neg
       simp [this]
theorem minusN_ref {a b:Str} {w:World} {K:Value → World → Prop} (ha:a ≠ []) (la:a.length ≤ 100000) (lb:b.length ≤ 100000) (hK:∀ t w',Ext w w' → t ≠ [] → t.length ≤ 200000 → K (str t) w'):callF Tryz.prog 237 [str a,str b] w K:=by
 refine W237_ok ?_
 unfold W237
 have ha0:0 < a.length:=List.length_pos_iff.2 ha
 refine LoopW.go (fun st w'=>∃ (out:Str) (c i:Nat),st = [str out,i64 (c:Nat),i64 (i:Nat)] ∧ out.length = i ∧ c ≤ 1 ∧ i ≤ a.length ∧ Ext w w')
   (fun st _=>match st with | [_,_,.int _ i]=>a.length - i.toNat | _=>0) ⟨[],0,0,rfl,rfl,by omega,by omega,Chg.refl _ _⟩ ?_
 rintro st g w2 ⟨out,c,i,rfl,ho,hc,hi,hx⟩
 simp only [List.getD_cons_zero,List.getD_cons_succ,lens_str]
 rw [bin_lss,condW_dec]
 refine ⟨fun e=>?_,fun e=>?_⟩
 · refine digitN_ref (by omega) (by omega) fun d1 h1 z1=>?_
   refine digitN_ref (by omega) (by omega) fun d2 h2 z2=>?_
   rw [bin_sub,wrap_id (by omega) (by omega),bin_sub,wrap_id (by omega) (by omega)]
   refine JoinW.cut (fun st w'=>∃ (c':Nat) (d:Int),st = [i64 (c':Nat),i64 d] ∧ c' ≤ 1 ∧ -300 ≤ d ∧ d ≤ 300 ∧ w' = w2) ?_ ?_
   · rw [bin_lss,condW_dec]
     refine ⟨fun h=>?_,fun h=>?_⟩
     · rw [bin_add,wrap_id (by omega) (by omega)]
       exact ⟨1,_,rfl,by omega,by omega,by omega,rfl⟩
     · exact ⟨0,_,rfl,by omega,by omega,by omega,rfl⟩
   rintro st g w3 ⟨c',d,rfl,hc',hd1,hd2,rfl⟩
   simp only [List.getD_cons_zero,List.getD_cons_succ]
   rw [bin_add,wrap_id (by omega) (by omega)]
   refine byte_str fun x w4 hx4 _=>?_
   rw [bin_sadd]
   refine ⟨by rw [imax]; simp only [List.length_cons,List.length_nil]; omega,?_⟩
   rw [bin_add,up1 (by omega)]
   refine ⟨⟨[x] ++ out,c',i + 1,rfl,by simp [ho],hc',by omega,hx.trans hx4⟩,?_⟩
   show a.length - ((i + 1:Nat):Int).toNat < a.length - ((i:Nat):Int).toNat
   simp only [Int.toNat_natCast]
   omega
 · refine bareN_ref (fun h=>by rw [h] at ho; simp at ho; omega) (by omega) fun z t hs ht=>?_
   refine hK t w2 hx ht ?_
   have:t.length ≤ out.length:=by rw [hs]; simp
   omega
theorem dig_le (s:Str):(Num.dig s).length ≤ s.length:=by
 cases s with
 | nil=>simp [Num.dig]
 | cons c r=>simp only [Num.dig]; split <;> simp
theorem dig_ne {s:Str} (h:Num.dig s ≠ []):s ≠ []:=by rintro rfl; exact h rfl
theorem turnedN_ref {s:Str} {w:World} {K:Value → World → Prop} (h:s ≠ []) (hl:s.length ≤ 1000) (hK:K (str (sgM (!Num.neg s) (Num.dig s))) w):callF Tryz.prog 206 [str s] w K:=by
 refine W206_ok ?_
 unfold W206
 refine belowN_ref h ?_
 rw [un_not]
 refine sizeN_ref h ?_
 have:=dig_le s
 exact sg_ref (by omega) hK
theorem sg_neg {b:Bool} {t:Str} (ht:t ≠ []):sgM b t ≠ [] ∧ (b = true → Num.neg (sgM b t) = true ∨ sgM b t = [48]) ∧ (b = false → sgM b t = t):=by
 unfold sgM
 refine ⟨by split <;> simp [ht],fun e=>?_,fun e=>by rw [if_neg (by simp [e])]⟩
 by_cases h:t = [48]
 · exact .inr (by rw [if_neg (by simp [h]),h])
 · exact .inl (by rw [if_pos ⟨e,h⟩]; rfl)
theorem sumN_ref {a b:Str} {w:World} {K:Value → World → Prop} (ha:Num.dig a ≠ []) (hb:Num.dig b ≠ []) (la:a.length ≤ 1000) (lb:b.length ≤ 1000)
   (hK:∀ t w',Ext w w' → t ≠ [] → (Num.neg a = false → Num.neg b = false → Num.neg t = false) → (Num.neg a = false → Num.neg b = true → (Num.dig a).length < (Num.dig b).length → Num.neg t = true ∨ t = [48]) → K (str t) w'):callF Tryz.prog 205 [str a,str b] w K:=by
 have na:=dig_ne ha
 have nb:=dig_ne hb
 have da:=dig_le a
 have db:=dig_le b
 refine W205_ok ?_
 unfold W205
 refine belowN_ref na ?_
 refine belowN_ref nb ?_
 rw [eq_bb,condW_b]
 refine ⟨fun e=>?_,fun e=>?_⟩
 · refine belowN_ref na ?_
   refine sizeN_ref na ?_
   refine sizeN_ref nb ?_
   refine plusN_ref ha (by omega) (by omega) fun t w' hx ht htl hn=>?_
   refine sg_ref (by omega) ?_
   obtain ⟨s1,s2,s3⟩:=sg_neg (b:=Num.neg a) ht
   have e:Num.neg a = Num.neg b:=by simpa using e
   refine hK _ w' hx s1 (fun h1 h2=>by rw [s3 h1]; exact hn) fun h1 h2=>by rw [h1,h2] at e; cases e
 · have e:Num.neg a ≠ Num.neg b:=by simpa using e
   refine sizeN_ref na ?_
   refine sizeN_ref nb ?_
   refine lessN_ref fun r hr=>?_
   rw [condW_b]
   refine ⟨fun er=>?_,fun er=>?_⟩
   · refine belowN_ref nb ?_
     refine sizeN_ref nb ?_
     refine sizeN_ref na ?_
     refine minusN_ref hb (by omega) (by omega) fun t w' hx ht htl=>?_
     refine sg_ref (by omega) ?_
     obtain ⟨s1,s2,s3⟩:=sg_neg (b:=Num.neg b) ht
     exact hK _ w' hx s1 (fun h1 h2=>absurd (h1.trans h2.symm) e) fun h1 h2 _=>s2 h2
   · refine belowN_ref na ?_
     refine sizeN_ref na ?_
     refine sizeN_ref nb ?_
     refine minusN_ref ha (by omega) (by omega) fun t w' hx ht htl=>?_
     refine sg_ref (by omega) ?_
     obtain ⟨s1,s2,s3⟩:=sg_neg (b:=Num.neg a) ht
     refine hK _ w' hx s1 (fun h1 h2=>absurd (h1.trans h2.symm) e) fun h1 h2 h3=>?_
     rw [hr h3] at er
     cases er
theorem orderN_ref {a b tb:Str} {w:World} {K:Value → World → Prop} (htb:sgM (!Num.neg b) (Num.dig b) = tb) (nb:b ≠ []) (ha:Num.dig a ≠ []) (hb:Num.dig tb ≠ []) (la:a.length ≤ 1000) (lb:b.length ≤ 1000) (ltb:tb.length ≤ 1000)
   (hK:∀ c w',Ext w w' → (Num.neg a = false → Num.neg tb = false → 0 ≤ c) → (Num.neg a = false → Num.neg tb = true → (Num.dig a).length < (Num.dig tb).length → c ≤ 0) → K (i64 c) w'):callF Tryz.prog 154 [str a,str b] w K:=by
 refine W154_ok ?_
 unfold W154
 refine turnedN_ref nb lb ?_
 rw [htb]
 refine sumN_ref ha hb la ltb fun t w' hx ht h1 h2=>?_
 rw [bin_seq,condW_dec]
 refine ⟨fun e=>hK 0 w' hx (fun _ _=>by omega) fun _ _ _=>by omega,fun e=>?_⟩
 refine belowN_ref ht ?_
 rw [condW_b]
 refine ⟨fun en=>hK (-1) w' hx (fun g1 g2=>?_) fun _ _ _=>by omega,fun en=>hK 1 w' hx (fun _ _=>by omega) fun g1 g2 g3=>?_⟩
 · rw [h1 g1 g2] at en; cases en
 · rcases h2 g1 g2 g3 with h | h
   · rw [h] at en; cases en
   · exact absurd h e
theorem dec_itoa:∀ (n u:Nat),u < n → Num.dec (Lib.decDigits u) = u:=by
 intro n
 induction n with
 | zero=>intro u h; omega
 | succ n ih=>
   intro u h
   have hv:∀ k,k < 10 → Num.dval (UInt8.ofNat (48 + k)) = k:=fun k hk=>by
     unfold Num.dval
     rw [UInt8.toNat_ofNat',Nat.mod_eq_of_lt (by omega)]; omega
   rw [Lib.decDigits]
   split
   · rename_i h10
     show 0 * 10 + Num.dval (UInt8.ofNat (48 + u)) = u
     rw [hv u h10]; omega
   · rw [Num.dec_app,ih (u / 10) (by omega)]
     have:Num.dec [UInt8.ofNat (48 + u % 10)] = u % 10:=by
       show 0 * 10 + Num.dval (UInt8.ofNat (48 + u % 10)) = u % 10
       rw [hv (u % 10) (by omega)]; omega
     rw [this]
     simp only [List.length_singleton,Nat.pow_one]
     omega
theorem intN_ref {s:Str} {w:World} {K:Value → World → Prop} (hl:s.length ≤ 9223372036854775807) (hK:∀ n ok w',Ext w w' → -9223372036854775808 ≤ n → n ≤ 9223372036854775807 → (∀ m:Int,0 ≤ m → m ≤ 1000000000 → s = Lib.itoa m → n = m ∧ ok = true) → K (.tuple #[i64 n,.bool ok]) w') :
   callF Tryz.prog 94 [str s] w K:=by
 refine W94_ok ?_
 unfold W94
 refine good01_ref hl fun w1 hx1=>?_
 rw [un_not]
 have canon:∀ m:Int,0 ≤ m → m ≤ 1000000000 → s = Lib.itoa m → Num.goodN s = true ∧ Num.neg s = false ∧ Num.dig s = s ∧ s.length ≤ 10 ∧ s.all Num.isDig = true ∧ (Num.dec s:Int) = m:=fun m h0 h1 hs=>by
   obtain ⟨g1,g2,g3⟩:=itoa_good h0 h1
   rw [hs]
   rw [itoa_pos h0] at *
   obtain ⟨a1,a2,_⟩:=decD_all _ m.toNat (Nat.lt_succ_self _)
   refine ⟨g1,?_,?_,g2,a1,?_⟩
   · unfold Num.neg
     cases hh:(Lib.decDigits m.toNat).head? with
     | none=>rfl
     | some c=>rw [hh] at g3; simpa using g3
   · cases hd:Lib.decDigits m.toNat with
     | nil=>rfl
     | cons c r=>
       rw [hd] at g3
       have:c ≠ 45:=by simpa using g3
       simp [Num.dig,this]
   · rw [dec_itoa _ m.toNat (Nat.lt_succ_self _)]; omega
 have good:Num.goodN s = true → Num.dig s ≠ [] ∧ s.length ≤ 1000:=fun h=>by
   unfold Num.goodN at h
   simp only [Bool.and_eq_true,decide_eq_true_eq] at h
   refine ⟨fun e=>by rw [e] at h; simp at h,?_⟩
   cases s with
   | nil=>simp
   | cons c r=>
     have:=h.1.1.2
     simp only [Num.dig] at this
     split at this
     · rw [List.length_cons]; omega
     · omega
 have stepG:∀ {c:Bool} {w1:World} {A:(List Value → World → Prop) → Prop} {B:List Value → Fr → World → Prop},Ext w w1 → (c = true → ∀ J:List Value → World → Prop,(∀ e w',Ext w w' → (∀ m:Int,0 ≤ m → m ≤ 1000000000 → s = Lib.itoa m → e = false) → J [.bool e] w') → A J) →
     (∀ g e w',Ext w w' → (c = true → ∀ m:Int,0 ≤ m → m ≤ 1000000000 → s = Lib.itoa m → e = false) → B [bif c then .bool e else undef] g w') → GdW c [undef] w1 A B:=fun {c w1 A B} hx h1 h2=>by
   refine ⟨fun st w'=>∃ e:Bool,st = [bif c then .bool e else undef] ∧ Ext w w' ∧ (c = true → ∀ m:Int,0 ≤ m → m ≤ 1000000000 → s = Lib.itoa m → e = false),fun hc=>h1 hc _ fun e w' hx' he=>⟨e,by rw [hc]; rfl,hx',fun _=>he⟩,fun hc=>⟨false,by rw [hc]; rfl,hx,fun e=>by rw [hc] at e; cases e⟩,?_⟩
   rintro st g w' ⟨e,rfl,hx',he⟩
   exact h2 g e w' hx' he
 simp only [isB_f]
 refine stepG hx1 (fun hc J hJ=>?_) fun g e1 w4 hx4 he1=>?_
 · obtain ⟨d0,d1⟩:=good (by simpa using hc)
   refine orderN_ref (tb:=45 :: [57,50,50,51,51,55,50,48,51,54,56,53,52,55,55,53,56,48,55]) (by decide) (by simp) d0 (by decide) d1 (by decide) (by decide) fun c w3 hx3 h1 h2=>?_
   rw [bin_gtr]
   refine hJ _ w3 (hx1.trans hx3) fun m m0 m1 hs=>?_
   obtain ⟨_,q1,q2,q3,_⟩:=canon m m0 m1 hs
   have:=h2 q1 rfl (by rw [q2]; show s.length < 19; omega)
   exact decide_eq_false (by omega)
 simp only [List.getD_cons_zero]
 rw [pick_gd_or]
 simp only [isB_f]
 refine stepG hx4 (fun hc J hJ=>?_) fun g e2 w7 hx7 he2=>?_
 · simp only [Bool.not_eq_true',Bool.or_eq_false_iff,Bool.not_eq_false'] at hc
   obtain ⟨d0,d1⟩:=good hc.1
   refine orderN_ref (tb:=[57,50,50,51,51,55,50,48,51,54,56,53,52,55,55,53,56,48,56]) (by decide) (by simp) d0 (by decide) d1 (by decide) (by decide) fun c w3 hx3 h1 h2=>?_
   rw [bin_lss]
   refine hJ _ w3 (hx4.trans hx3) fun m m0 m1 hs=>?_
   obtain ⟨_,q1,q2,q3,_⟩:=canon m m0 m1 hs
   have:=h1 q1 rfl
   exact decide_eq_false (by omega)
 simp only [List.getD_cons_zero]
 rw [pick_gd_or,condW_b]
 refine ⟨fun e=>hK 0 false w7 hx7 (by omega) (by omega) fun m m0 m1 hs=>?_,fun e=>?_⟩
 · obtain ⟨q0,_⟩:=canon m m0 m1 hs
   have f1:=he1 (by rw [q0]; rfl) m m0 m1 hs
   have f2:=he2 (by rw [q0,f1]; rfl) m m0 m1 hs
   rw [q0,f1,f2] at e
   cases e
 refine LoopW.go (fun st w'=>∃ (n:Int) (i:Nat),st = [i64 n,i64 (i:Nat)] ∧ i ≤ s.length ∧ -9223372036854775808 ≤ n ∧ n ≤ 9223372036854775807 ∧ (∀ m:Int,0 ≤ m → m ≤ 1000000000 → s = Lib.itoa m → n = (Num.dec (s.take i):Nat)) ∧ w' = w7)
   (fun st _=>match st with | [_,.int _ i]=>s.length - i.toNat | _=>0) ⟨0,0,rfl,by omega,by omega,by omega,fun _ _ _ _=>by simp [Num.dec],rfl⟩ ?_
 rintro st g w9 ⟨n,i,rfl,hi,hn1,hn2,hc,rfl⟩
 simp only [List.getD_cons_zero,List.getD_cons_succ,lens_str]
 rw [bin_lss,condW_dec]
 refine ⟨fun hlt=>?_,fun hge=>?_⟩
 · have hlt:i < s.length:=by omega
   obtain ⟨c,hcc⟩:∃ c,s[i]? = some c:=⟨_,List.getElem?_eq_getElem hlt⟩
   have etk:s.take (i + 1) = s.take i ++ [c]:=by rw [List.take_add_one,hcc]; rfl
   have cdig:∀ m:Int,0 ≤ m → m ≤ 1000000000 → s = Lib.itoa m → 48 ≤ c.toNat ∧ c.toNat ≤ 57 ∧ Num.dec (s.take i) < 10 ^ 10:=fun m m0 m1 hs=>by
     obtain ⟨_,_,_,q3,q4,_⟩:=canon m m0 m1 hs
     have h1:=List.all_eq_true.1 q4 c (List.mem_of_getElem? hcc)
     simp only [Num.isDig,Bool.and_eq_true,decide_eq_true_eq] at h1
     have h2:(s.take i).all Num.isDig = true:=List.all_eq_true.2 fun x hx=>List.all_eq_true.1 q4 x (List.mem_of_mem_take hx)
     have h3:=Num.dec_lt h2
     have h4:(s.take i).length ≤ 10:=by rw [List.length_take]; omega
     exact ⟨h1.1,h1.2,Nat.lt_of_lt_of_le h3 (Nat.pow_le_pow_right (by omega) h4)⟩
   refine JoinW.cut (fun st w'=>∃ n':Int,st = [i64 n'] ∧ -9223372036854775808 ≤ n' ∧ n' ≤ 9223372036854775807 ∧ (∀ m:Int,0 ≤ m → m ≤ 1000000000 → s = Lib.itoa m → n' = (Num.dec (s.take (i + 1)):Nat)) ∧ w' = w9) ?_ ?_
   · refine ix_b hcc ?_
     rw [bin_eql,condW_dec]
     refine ⟨fun e45=>⟨n,rfl,hn1,hn2,fun m m0 m1 hs=>?_,rfl⟩,fun e45=>?_⟩
     · have:=cdig m m0 m1 hs
       omega
     · refine ix_b hcc ?_
       obtain ⟨k,hk,ek,fk⟩:=u8_any (((c.toNat:Nat):Int) - 48)
       rw [bin_sub,ek,cvt_int,wrap_id (by omega) (by omega)]
       refine JoinW.cut (fun st w'=>∃ d:Int,st = [i64 d] ∧ (Num.neg s = false → d = (k:Int)) ∧ w' = w9) ?_ ?_
       · refine belowN_ref (fun h=>by rw [h] at hlt; simp at hlt) ?_
         rw [condW_b]
         refine ⟨fun en=>?_,fun en=>⟨_,rfl,fun _=>rfl,rfl⟩⟩
         rw [un_neg]
         exact ⟨_,rfl,(fun h=>by rw [h] at en; cases en),rfl⟩
       rintro st g w13 ⟨d,rfl,hd,rfl⟩
       simp only [List.getD_cons_zero]
       rw [bin_mul,bin_add]
       obtain ⟨r1,r2⟩:=i64_any (IntKind.i64.wrap (10 * n) + d)
       refine ⟨_,rfl,r1,r2,fun m m0 m1 hs=>?_,trivial⟩
       have hq:=canon m m0 m1 hs
       have h1:=hc m m0 m1 hs
       obtain ⟨h2,h3,h4⟩:=cdig m m0 m1 hs
       have h5:=hd hq.2.1
       have h6:=fk (by omega) (by omega)
       rw [etk,Num.dec_app]
       have h7:Num.dec [c] = c.toNat - 48:=by simp [Num.dec,Num.dval]
       rw [h7]
       simp only [List.length_singleton,Nat.pow_one]
       generalize Num.dec (s.take i) = D at *
       rw [wrap_id (n:=10 * n) (by omega) (by omega),wrap_id (by omega) (by omega)]
       omega
   rintro st g w14 ⟨n',rfl,h1,h2,h3,rfl⟩
   simp only [List.getD_cons_zero]
   rw [bin_add,up1 (by omega)]
   refine ⟨⟨n',i + 1,rfl,by omega,h1,h2,h3,trivial⟩,?_⟩
   show s.length - ((i + 1:Nat):Int).toNat < s.length - ((i:Nat):Int).toNat
   simp only [Int.toNat_natCast]
   omega
 · obtain rfl:i = s.length:=by omega
   refine hK n true w9 hx7 hn1 hn2 fun m m0 m1 hs=>⟨?_,rfl⟩
   rw [hc m m0 m1 hs,List.take_length]
   exact (canon m m0 m1 hs).2.2.2.2.2
end
end Go.Proofs.YtnoepcndjljolaaGreatDoor
namespace Go.Proofs.YtnoepcndjljolaaGreatDoor
open Go Go.Eng Go.RowKit
set_option maxRecDepth 100000
theorem first_P {P:UInt8 → Prop} {c c':UInt8} {l l' r r':Str} (h:l ++ c :: r = l' ++ c' :: r') (h1:∀ x ∈ l,¬ P x) (h2:∀ x ∈ l',¬ P x) (hc:P c) (hc':P c'):l = l' ∧ c = c' ∧ r = r':=by
 induction l generalizing l' with
 | nil=>
   cases l' with
   | nil=>simpa using h
   | cons x l'=>
     simp only [List.nil_append,List.cons_append,List.cons.injEq] at h
     exact absurd (by rw [← h.1]; exact hc) (h2 x (by simp))
 | cons x l ih=>
   cases l' with
   | nil=>
     simp only [List.nil_append,List.cons_append,List.cons.injEq] at h
     exact absurd (by rw [h.1]; exact hc') (h1 x (by simp))
   | cons y l'=>
     simp only [List.cons_append,List.cons.injEq] at h
     obtain ⟨e1,e2,e3⟩:=ih h.2 (fun z hz=>h1 z (by simp [hz])) fun z hz=>h2 z (by simp [hz])
     exact ⟨by rw [h.1,e1],e2,e3⟩
abbrev asT (a:AV):Str:=if a.aside then [126] else []
abbrev tailA (a:AV):Str:=a.typ ++ 46 :: (a.nm ++ (brA a ++ asT a))
theorem show_tail (a:AV):showA a = a.mods.flatMap (fun m=>m ++ [47]) ++ tailA a:=by
 unfold showA headA
 simp
theorem br_head {a:AV} (hg:goodAd a = true):brA a ++ asT a = [] ∨ ∃ c r,brA a ++ asT a = c :: r ∧ (c = 91 ∨ c = 126):=by
 rcases (good_out hg).2.2.2.2 with ⟨_,_,_,hb⟩ | ⟨_,_,_,_,hb⟩ | ⟨_,_,_,_,_,hb⟩
 · rw [hb]
   unfold asT
   cases a.aside with
   | false=>exact .inl rfl
   | true=>exact .inr ⟨126,[],rfl,.inr rfl⟩
 · rw [hb]; exact .inr ⟨91,_,rfl,.inl rfl⟩
 · rw [hb]; exact .inr ⟨91,_,rfl,.inl rfl⟩
theorem mods_end {a:AV} (hg:goodAd a = true) {l r:Str} (h47:(47:UInt8) ∉ l) (h91:(91:UInt8) ∉ l):tailA a ≠ l ++ 47 :: r:=by
 intro h
 obtain ⟨_,h2,h3,_,_⟩:=good_out hg
 have hx:∀ x ∈ a.typ ++ 46 :: a.nm,x ≠ 47 ∧ x ≠ 91 ∧ x ≠ 126:=fun x hx=>by
   simp only [List.mem_append,List.mem_cons] at hx
   rcases hx with hx | rfl | hx
   · have:=nm_not ((name_out h2).2.2 x hx); exact ⟨this.2.1,this.2.2.1,this.2.2.2.2⟩
   · decide
   · have:=nm_not ((name_out h3).2.2 x hx); exact ⟨this.2.1,this.2.2.1,this.2.2.2.2⟩
 have e:tailA a = (a.typ ++ 46 :: a.nm) ++ (brA a ++ asT a):=by simp [tailA]
 rw [e] at h
 rcases (good_out hg).2.2.2.2 with ⟨_,_,_,hb⟩ | ⟨_,_,_,_,hb⟩ | ⟨_,_,_,_,_,hb⟩
 · rw [hb,List.nil_append] at h
   have:(47:UInt8) ∈ (a.typ ++ 46 :: a.nm) ++ asT a:=by rw [h]; simp
   rcases List.mem_append.1 this with h4 | h4
   · exact (hx 47 h4).1 rfl
   · unfold asT at h4
     split at h4 <;> simp at h4
 · rw [hb,List.cons_append] at h
   obtain ⟨_,e2,_⟩:=first_P (P:=fun x=>x = 47 ∨ x = 91) h (fun x hm e=>by have:=hx x hm; rcases e with e | e <;> simp_all) (fun x hm e=>by rcases e with rfl | rfl; exact h47 hm; exact h91 hm) (.inr rfl) (.inl rfl)
   exact absurd e2 (by decide)
 · rw [hb,List.cons_append] at h
   obtain ⟨_,e2,_⟩:=first_P (P:=fun x=>x = 47 ∨ x = 91) h (fun x hm e=>by have:=hx x hm; rcases e with e | e <;> simp_all) (fun x hm e=>by rcases e with rfl | rfl; exact h47 hm; exact h91 hm) (.inr rfl) (.inl rfl)
   exact absurd e2 (by decide)
theorem br_last {a:AV} (hg:goodAd a = true) (l:Str):brA a ≠ l ++ [126]:=by
 intro h
 have hl:(brA a).getLast? = some 126:=by rw [h]; simp
 rcases (good_out hg).2.2.2.2 with ⟨_,_,_,hb⟩ | ⟨_,_,_,_,hb⟩ | ⟨_,_,_,_,_,hb⟩
 · rw [hb] at hl; cases hl
 · rw [hb] at hl; simp [List.getLast?_cons] at hl
 · rw [hb] at hl; simp [List.getLast?_cons] at hl
structure PA (w:World) (p B:Nat) (a:AV) (sv:Value):Prop where
 hb:w.heap[p]? = some (.cells (acs a sv).toArray RaT (0,0))
 own:Own w B ST 1 sv a.mods.length (a.mods.map str)
 fits:AFits a
 lt:p < B
 le:B ≤ w.heap.size
theorem PA.acb {w:World} {p B:Nat} {a:AV} {sv:Value} (h:PA w p B a sv):AcB RaT w p a sv:=⟨h.hb,⟨ST,h.own.sl⟩,h.fits⟩
theorem PA.ext {w w':World} {p B:Nat} {a:AV} {sv:Value} (h:PA w p B a sv) (hx:Ext w w'):PA w' p B a sv:=⟨hx.at h.hb id,h.own.ext hx,h.fits,h.lt,Nat.le_trans h.le hx.size⟩
theorem PA.st {w:World} {p B off:Nat} {a a':AV} {sv v:Value} {K:World → Prop} (h:PA w p B a sv) (h1:one1 v = true) (ho:off < 7) (he:(acs a sv).set off v = acs a' sv) (hm:a'.mods = a.mods) (hf:AFits a') (hK:∀ w',PA w' p B a' sv → Chg (Cr p) w w' → w'.heap.size = w.heap.size → K w') :
   fldW off (.pointer (some ⟨p,0,none⟩)) fun t=>stW 1 t v w K:=by
 rw [fld_ptr,add_mk,Nat.zero_add]
 refine st_at h.hb h1 (by simpa using ho) fun w' hz hb hc=>?_
 refine hK w' ⟨?_,?_,hf,h.lt,by rw [hz]; exact h.le⟩ hc hz
 · rw [hb,← he]; simp
 · rw [hm]
   exact h.own.chg hc fun k hk e=>by have:=hk.1; have:=h.lt; have e:k = p:=e; omega
section
variable [HX]
theorem upto_ref {s:Str} {x y:UInt8} {w:World} {K:Value → World → Prop} (hl:s.length ≤ 1000000) (h1:∀ l c r,s = l ++ c :: r → (c = x ∨ c = y) → x ∉ l → y ∉ l → K (str l) w) (h2:x ∉ s → y ∉ s → K (str s) w) :
   callF Tryz.prog 92 [str s,.int .u8 (x.toNat:Nat),.int .u8 (y.toNat:Nat)] w K:=by
 refine W92_ok ?_
 unfold W92
 refine loop_up s.length (fun i w'=>w' = w ∧ x ∉ s.take i ∧ y ∉ s.take i) ⟨rfl,by simp,by simp⟩ ?_ ?_
 · rintro i w2 g2 L hi ⟨rfl,hx,hy⟩ hL
   obtain ⟨c,hc⟩:∃ c,s[i]? = some c:=⟨_,List.getElem?_eq_getElem hi⟩
   simp only [List.getD_cons_zero]
   rw [lens_str,bin_lss,decide_eq_true (by omega),condW_true]
   refine ix_b hc ?_
   rw [bin_eql,u8_same]
   simp only [isB_f]
   refine GdW.look (decide (c = y)) (fun _ J hJ=>?_) fun g=>?_
   · refine ix_b hc ?_
     rw [bin_eql,u8_same]
     exact hJ
   simp only [List.getD_cons_zero]
   rw [pick_gd_or,condW_b]
   refine ⟨fun e=>?_,fun e=>?_⟩
   · rw [sls_str,bd_some]
     refine ⟨by omega,by omega,?_⟩
     rw [bd_none,Int.toNat_natCast,List.drop_zero]
     refine h1 _ c (s.drop (i + 1)) ?_ (by simpa using e) hx hy
     have e:=Option.some.inj ((List.getElem?_eq_getElem hi).symm.trans hc)
     rw [← e,← List.drop_eq_getElem_cons hi,List.take_append_drop]
   · simp only [Bool.or_eq_false_iff,decide_eq_false_iff_not] at e
     rw [bin_add,up1 (by omega)]
     refine hL w2 ⟨rfl,?_,?_⟩
     · rw [List.take_add_one,hc]
       simp only [Option.toList_some,List.mem_append,List.mem_singleton]
       rintro (h | h)
       · exact hx h
       · exact e.1 h.symm
     · rw [List.take_add_one,hc]
       simp only [Option.toList_some,List.mem_append,List.mem_singleton]
       rintro (h | h)
       · exact hy h
       · exact e.2 h.symm
 · rintro w2 g2 L ⟨rfl,hx,hy⟩
   rw [List.take_length] at hx hy
   simp only [List.getD_cons_zero]
   rw [lens_str,bin_lss,decide_eq_false (by omega),condW_false]
   exact h2 hx hy
end
end Go.Proofs.YtnoepcndjljolaaGreatDoor
namespace Go.Proofs.YtnoepcndjljolaaGreatDoor
open Go Go.Eng Go.RowKit
set_option maxRecDepth 100000
theorem zero_fits2 {ms:List Str} {t n k:Str} {kd nm:Int} {asd:Bool} (h1:ms.length ≤ 5) (h2:∀ m ∈ ms,m.length ≤ 1000000) (ht:t.length ≤ 1000000) (hn:n.length ≤ 1000000) (hk:k.length ≤ 9223372036854775807) (hd:-10 ≤ kd ∧ kd ≤ 10) (hm:-9223372036854775808 ≤ nm ∧ nm ≤ 9223372036854775807):AFits ⟨ms,t,n,kd,nm,k,asd⟩:=
 ⟨by show ms.length ≤ _; omega,by show t.length ≤ _; omega,by show n.length ≤ _; omega,hk,⟨by show _ ≤ kd; omega,by show kd ≤ _; omega⟩,hm,fun m hm=>by have:=h2 m hm; omega⟩
section
variable [HX]
theorem parse22_s {s:Str} {w:World} {K:Value → World → Prop} (hl:s.length ≤ 400000)
   (hok:∀ a,goodAd a = true → showA a = s → ∀ sv w',Ext w w' → AFits a → SlAt w' ST sv a.mods.length (a.mods.map str) → K (.tuple #[.agg (acs a sv).toArray,.bool true]) w')
   (hno:(∀ a,goodAd a = true → showA a ≠ s) → ∀ cs w',Ext w w' → ARep w' AV.zero cs → K (.tuple #[.agg cs.toArray,.bool false]) w') :
   callF Tryz.prog 43 [str s] w K:=by
 refine W43_ok ?_
 unfold W43
 refine alloc_new fun b2 w1 hb2 hz1 hbb2 hx1=>?_
 rw [put_nil]
 refine alloc_new fun p w3 hp hz3 hbp hx3=>?_
 refine st_agg_at (l:=za) hbp rfl rfl rfl fun w4 hz4 hbp4 hc4=>?_
 have hx04:Ext w w4:=(hx1.trans hx3).new hc4 (by omega)
 have hbb4:=hc4.at (hx3.at hbb2 id) fun e=>by have e:b2 = p:=e; omega
 have hb2p:b2 < p:=by omega
 have hwb2:w.heap.size ≤ b2:=by omega
 have hP4:PA w4 p (p + 1) ⟨[],[],[],0,0,[],false⟩ (.slice none 0 0):=⟨hbp4,⟨rfl,.inl ⟨rfl,rfl⟩⟩,zero_fits,by omega,by omega⟩
 have fail:∀ {w':World},w'.heap[b2]? = some (.cells za.toArray RaT (0,0)) → Ext w w' → (∀ a,goodAd a = true → showA a ≠ s) →
     putW [(.slice none 0 0),(.string (ofL [])),(.string (ofL [])),(.int .i64 0),(.int .i64 0),(.string (ofL [])),(.bool false)] [] fun c12=>stW 7 (.pointer (some ⟨b2,0,none⟩)) (.agg c12.toArray) w' fun w13=>ldW true 7 (.pointer (some ⟨b2,0,none⟩)) w13 fun r14=>K (.tuple #[r14,(.bool false)]) w13:=fun {w'} hb hx hn=>by
   rw [put_nil]
   refine st_agg_at (l:=za) hb rfl rfl rfl fun w13 hz13 hb13 hc13=>?_
   refine ld_all hb13 rfl ?_
   exact hno hn _ w13 (hx.new hc13 (by omega)) (zero_rep w13)
 refine LoopW.go (fun st w'=>∃ (rest:Str) (ms:List Str) (sv:Value),st = [str rest] ∧ PA w' p (p + 1) ⟨ms,[],[],0,0,[],false⟩ sv ∧ Ext w w' ∧ w'.heap[b2]? = some (.cells za.toArray RaT (0,0)) ∧ ms.length ≤ 4 ∧ rest.length ≤ s.length ∧ (∀ m ∈ ms,m.length ≤ s.length) ∧
     (∀ b,goodAd b = true → showA b = s → ∃ more,b.mods = ms ++ more ∧ rest = more.flatMap (fun m=>m ++ [47]) ++ tailA b))
   (fun st _=>match st with | [.string b]=>b.size | _=>0) ⟨s,[],_,rfl,hP4,hx04,hbb4,by simp,Nat.le_refl _,by simp,fun b hg hb=>⟨b.mods,rfl,by rw [← hb,show_tail]⟩⟩ ?_
 rintro st g w6 ⟨rest,ms,sv,rfl,hP,hx6,hbb6,hms,hrl,hml,hQ⟩
 simp only [List.getD_cons_zero]
 refine callF_mono (K:=fun v w'=>w' = w6 ∧ ∃ u,v = str u ∧ ((∃ c r,rest = u ++ c :: r ∧ (c = 47 ∨ c = 91) ∧ (47:UInt8) ∉ u ∧ (91:UInt8) ∉ u) ∨ (u = rest ∧ (47:UInt8) ∉ rest ∧ (91:UInt8) ∉ rest)))
   (upto_ref (x:=47) (y:=91) (by omega) (fun l c r h hc h1 h2=>⟨rfl,l,rfl,.inl ⟨c,r,h,hc,h1,h2⟩⟩) (fun h1 h2=>⟨rfl,rest,rfl,.inr ⟨rfl,h1,h2⟩⟩)) ?_
 rintro v7 w7 ⟨rfl,u,rfl,hu⟩
 have hul:u.length ≤ rest.length:=by
   rcases hu with ⟨c,r,hr,_⟩ | ⟨rfl,_⟩
   · rw [hr]; simp
   · exact Nat.le_refl _
 simp only [lens_str]
 rw [bin_eql]
 simp only [isB_f]
 refine GdW.look (decide ((rest.drop u.length).head? = some 91)) (fun hc J hJ=>?_) fun g=>?_
 · rcases hu with ⟨c,r,hr,hc',h1,h2⟩ | ⟨rfl,_,_⟩
   · refine ix_b (i:=u.length) (c:=c) (by rw [hr]; simp) ?_
     rw [bin_eql]
     have h3:=u8_same c 91
     rw [show ((91:UInt8).toNat:Int) = 91 from rfl] at h3
     rw [h3]
     have e:decide ((rest.drop u.length).head? = some 91) = decide (c = 91):=by rw [hr,List.drop_left]; simp
     rw [← e]; exact hJ
   · simp at hc
 simp only [List.getD_cons_zero]
 rw [pick_gd_or,condW_b]
 refine ⟨fun e=>?_,fun e=>?_⟩
 · -- no module is left
   have hbrk:∀ b,goodAd b = true → showA b = s → b.mods = ms ∧ rest = tailA b:=fun b hg hb=>by
     obtain ⟨more,q1,q2⟩:=hQ b hg hb
     cases more with
     | nil=>exact ⟨by simpa using q1,by simpa using q2⟩
     | cons m more=>
       exfalso
       have hm:nameM m = true:=(good_out hg).2.2.2.1 m (by rw [q1]; simp)
       have hmx:∀ x ∈ m,¬ (x = 47 ∨ x = 91):=fun x hx=>by
         have:=nm_not ((name_out hm).2.2 x hx)
         rintro (h | h)
         · exact this.2.1 h
         · exact this.2.2.1 h
       have q3:rest = m ++ 47 :: (more.flatMap (fun m=>m ++ [47]) ++ tailA b):=by rw [q2]; simp
       rcases hu with ⟨c,r,hr,hc',h1,h2⟩ | ⟨rfl,h1,_⟩
       · have h9:=first_P (P:=fun x=>x = 47 ∨ x = 91) (hr.symm.trans q3) (fun x hx e=>by
           rcases e with rfl | rfl
           · exact h1 hx
           · exact h2 hx) hmx hc' (.inl rfl)
         obtain ⟨_,rfl,_⟩:=h9
         rw [hr,List.drop_left,decide_eq_false (by rw [List.length_append,List.length_cons]; omega),List.head?_cons] at e
         simp at e
       · exact h1 (by rw [q3]; simp)
   refine callF_mono (K:=fun v w'=>w' = w7 ∧ ∃ T,v = str T ∧ ((∃ R,rest = T ++ 46 :: R ∧ (46:UInt8) ∉ T) ∨ (T = rest ∧ (46:UInt8) ∉ rest)))
     (upto_ref (x:=46) (y:=46) (by omega) (fun l c r h hc h1 h2=>⟨rfl,l,rfl,.inl ⟨r,by rw [h]; rcases hc with rfl | rfl <;> rfl,h1⟩⟩) (fun h1 h2=>⟨rfl,rest,rfl,.inr ⟨rfl,h1⟩⟩)) ?_
   rintro v10 w10 ⟨rfl,T,rfl,hT⟩
   have hTl:T.length ≤ rest.length:=by
     rcases hT with ⟨R,hr,_⟩ | ⟨rfl,_⟩
     · rw [hr]; simp
     · exact Nat.le_refl _
   refine hP.st (a':=⟨ms,T,[],0,0,[],false⟩) rfl (by omega) rfl rfl (zero_fits2 (by omega) (fun m hm=>by have:=hml m hm; omega) (by omega) (by simp) (by simp) (by omega) (by omega)) fun w11 hP11 hc11 hz11=>?_
   have hx11:Ext w w11:=hx6.new hc11 (by omega)
   have hbb11:=hc11.at hbb6 fun e=>by have e:b2 = p:=e; omega
   refine hP11.acb.ld (v:=str T) rfl ?_
   rw [lens_str,sls_str,bd_none,bd_some]
   refine ⟨by omega,by omega,?_⟩
   rw [List.take_length,Int.toNat_natCast]
   rcases hT with ⟨R,hr,h46⟩ | ⟨rfl,h46⟩
   rotate_left
   · have e2:T.drop T.length = []:=by simp
     rw [e2,lens_str,bin_eql,show decide (((([]:Str).length:Nat):Int) = 0) = true from rfl,condW_true]
     refine fail hbb11 hx11 fun b hg hb=>?_
     exact h46 (by rw [(hbrk b hg hb).2]; simp [tailA])
   have e2:rest.drop T.length = 46 :: R:=by rw [hr,List.drop_left]
   rw [e2,lens_str,bin_eql,decide_eq_false (by rw [List.length_cons]; omega),condW_false]
   rw [sls_str,bd_none,bd_some]
   refine ⟨by omega,by rw [List.length_cons]; omega,?_⟩
   rw [List.take_length,show (46 :: R).drop (1:Int).toNat = R from rfl]
   have hRl:T.length + (R.length + 1) = rest.length:=by rw [hr]; simp
   refine callF_mono (K:=fun v w'=>w' = w11 ∧ ∃ N,v = str N ∧ ((∃ c R2,R = N ++ c :: R2 ∧ (c = 91 ∨ c = 126) ∧ (91:UInt8) ∉ N ∧ (126:UInt8) ∉ N) ∨ (N = R ∧ (91:UInt8) ∉ R ∧ (126:UInt8) ∉ R)))
     (upto_ref (x:=91) (y:=126) (by omega) (fun l c r h hc h1 h2=>⟨rfl,l,rfl,.inl ⟨c,r,h,hc,h1,h2⟩⟩) (fun h1 h2=>⟨rfl,R,rfl,.inr ⟨rfl,h1,h2⟩⟩)) ?_
   rintro v15 w15 ⟨rfl,N,rfl,hN⟩
   have hNl:N.length ≤ R.length:=by
     rcases hN with ⟨c,r,hr,_⟩ | ⟨rfl,_⟩
     · rw [hr]; simp
     · exact Nat.le_refl _
   have hbr:∀ b,goodAd b = true → showA b = s → b.mods = ms ∧ b.typ = T ∧ b.nm = N ∧ R.drop N.length = brA b ++ asT b:=fun b hg hb=>by
     obtain ⟨q1,q2⟩:=hbrk b hg hb
     obtain ⟨q3,q4⟩:=first_one (hr.symm.trans q2) h46 (typ_not hg)
     have hnx:∀ x ∈ b.nm,¬ (x = 91 ∨ x = 126):=fun x hx=>by
       have:=nm_not ((name_out (good_out hg).2.2.1).2.2 x hx)
       rintro (h | h)
       · exact this.2.2.1 h
       · exact this.2.2.2.2 h
     have main:b.nm = N ∧ R.drop N.length = brA b ++ asT b:=by
       rcases br_head hg with hX | ⟨c',r',hX,hc'⟩
       · rw [hX,List.append_nil] at q4
         rcases hN with ⟨c,R2,h1,h2,_⟩ | ⟨rfl,_⟩
         · exact absurd h2 (hnx c (by rw [← q4,h1]; simp))
         · rw [hX]; exact ⟨q4.symm,by simp⟩
       · rw [hX] at q4 ⊢
         rcases hN with ⟨c,R2,h1,h2,h3,h4⟩ | ⟨rfl,h3,h4⟩
         · obtain ⟨e1,e2,e3⟩:=first_P (P:=fun x=>x = 91 ∨ x = 126) (h1.symm.trans q4) (fun x hx e=>by
             rcases e with rfl | rfl
             · exact h3 hx
             · exact h4 hx) hnx h2 hc'
           refine ⟨e1.symm,?_⟩
           rw [h1,List.drop_left,e2,e3]
         · exfalso
           have:c' ∈ N:=by rw [q4]; simp
           rcases hc' with rfl | rfl
           · exact h3 this
           · exact h4 this
     exact ⟨q1,q3.symm,main.1,main.2⟩
   refine hP11.st (a':=⟨ms,T,N,0,0,[],false⟩) rfl (by omega) rfl rfl (zero_fits2 (by omega) (fun m hm=>by have:=hml m hm; omega) (by omega) (by omega) (by simp) (by omega) (by omega)) fun w16 hP16 hc16 hz16=>?_
   have hx16:Ext w w16:=hx11.new hc16 (by omega)
   have hbb16:=hc16.at hbb11 fun e=>by have e:b2 = p:=e; omega
   refine hP16.acb.ld (v:=str N) rfl ?_
   rw [lens_str,bin_add,wrap_id (by omega) (by omega),show (1:Int) + (N.length:Int) = ((N.length + 1:Nat):Int) by omega,sls_str,bd_none,bd_some]
   refine ⟨by omega,by rw [List.length_cons]; omega,?_⟩
   rw [List.take_length,Int.toNat_natCast,List.drop_succ_cons]
   have hr3l:(R.drop N.length).length ≤ s.length:=by rw [List.length_drop]; omega
   generalize R.drop N.length = r3 at *
   refine JoinW.cut (fun st w'=>∃ (r4:Str) (asd:Bool),st = [str r4] ∧ PA w' p (p + 1) ⟨ms,T,N,0,0,[],asd⟩ sv ∧ Ext w w' ∧ w'.heap[b2]? = some (.cells za.toArray RaT (0,0)) ∧ r4.length ≤ s.length ∧
     (∀ b,goodAd b = true → showA b = s → b.mods = ms ∧ b.typ = T ∧ b.nm = N ∧ b.aside = asd ∧ r4 = brA b)) ?_ ?_
   · simp only [lens_str]
     rw [bin_gtr]
     simp only [isB_t]
     refine GdW.look (decide (r3.getLast? = some 126)) (fun hc J hJ=>?_) fun g=>?_
     · rw [decide_eq_true_iff] at hc
       rw [bin_sub,wrap_id (by omega) (by omega),show (r3.length:Int) - 1 = ((r3.length - 1:Nat):Int) by omega]
       obtain ⟨c,hcc⟩:∃ c,r3[r3.length - 1]? = some c:=⟨_,List.getElem?_eq_getElem (by omega)⟩
       refine ix_b hcc ?_
       rw [bin_eql]
       have h3:=u8_same c 126
       rw [show ((126:UInt8).toNat:Int) = 126 from rfl] at h3
       rw [h3]
       have e:decide (r3.getLast? = some 126) = decide (c = 126):=by rw [List.getLast?_eq_getElem?,hcc]; simp
       rw [← e]; exact hJ
     simp only [List.getD_cons_zero]
     rw [pick_gd_and,condW_b]
     refine ⟨fun e=>?_,fun e=>?_⟩
     · simp only [Bool.and_eq_true,decide_eq_true_eq] at e
       obtain ⟨l,hl3⟩:∃ l,r3 = l ++ [126]:=by
         have:=List.getLast?_eq_some_iff.1 e.2
         exact this
       refine hP16.st (a':=⟨ms,T,N,0,0,[],true⟩) rfl (by omega) rfl rfl (zero_fits2 (by omega) (fun m hm=>by have:=hml m hm; omega) (by omega) (by omega) (by simp) (by omega) (by omega)) fun w20 hP20 hc20 hz20=>?_
       rw [bin_sub,wrap_id (by omega) (by omega),show (r3.length:Int) - 1 = ((r3.length - 1:Nat):Int) by omega,sls_str,bd_some]
       refine ⟨by omega,by omega,?_⟩
       rw [bd_none,Int.toNat_natCast,List.drop_zero]
       have e4:r3.take (r3.length - 1) = l:=by rw [hl3]; simp
       rw [e4]
       refine ⟨l,true,rfl,hP20,hx16.new hc20 (by omega),hc20.at hbb16 fun e=>by have e:b2 = p:=e; omega,?_,fun b hg hb=>?_⟩
       · rw [hl3,List.length_append] at hr3l; omega
       · obtain ⟨q1,q2,q3,q4⟩:=hbr b hg hb
         rw [hl3] at q4
         cases ha:b.aside with
         | true=>
           rw [asT,ha,if_pos rfl] at q4
           exact ⟨q1,q2,q3,rfl,(List.append_inj' q4 rfl).1⟩
         | false=>
           rw [asT,ha,if_neg (by simp),List.append_nil] at q4
           exact absurd q4.symm (br_last hg l)
     · refine ⟨r3,false,rfl,hP16,hx16,hbb16,hr3l,fun b hg hb=>?_⟩
       obtain ⟨q1,q2,q3,q4⟩:=hbr b hg hb
       cases ha:b.aside with
       | true=>
         rw [asT,ha,if_pos rfl] at q4
         rw [q4,decide_eq_true (by first | (simp; done) | (simp; omega)),decide_eq_true (by simp)] at e
         cases e
       | false=>
         rw [asT,ha,if_neg (by simp),List.append_nil] at q4
         exact ⟨q1,q2,q3,rfl,q4⟩
   rintro st g w21 ⟨r4,asd,rfl,hP21,hx21,hbb21,hr4l,hQ4⟩
   simp only [List.getD_cons_zero]
   refine JoinW.cut (fun st w'=>∃ a5:AV,st = [] ∧ PA w' p (p + 1) a5 sv ∧ Ext w w' ∧ w'.heap[b2]? = some (.cells za.toArray RaT (0,0)) ∧ a5.key.length ≤ 4611686018427387904 ∧ (∀ b,goodAd b = true → showA b = s → b = a5)) ?_ ?_
   · simp only [lens_str]
     rw [bin_gtr]
     simp only [isB_t]
     refine GdW.look (decide (r4.head? = some 91)) (fun hc J hJ=>?_) fun g=>?_
     · rw [decide_eq_true_iff] at hc
       obtain ⟨c,hcc⟩:∃ c,r4[0]? = some c:=⟨_,List.getElem?_eq_getElem (by omega)⟩
       refine ix_b (i:=0) hcc ?_
       rw [bin_eql]
       have h3:=u8_same c 91
       rw [show ((91:UInt8).toNat:Int) = 91 from rfl] at h3
       rw [h3]
       have e:decide (r4.head? = some 91) = decide (c = 91):=by rw [List.head?_eq_getElem?,hcc]; simp
       rw [← e]; exact hJ
     simp only [List.getD_cons_zero]
     rw [pick_gd_and]
     simp only [isB_t]
     refine GdW.look (decide (r4.getLast? = some 93)) (fun hc J hJ=>?_) fun g=>?_
     · simp only [Bool.and_eq_true,decide_eq_true_eq] at hc
       rw [bin_sub,wrap_id (by omega) (by omega),show (r4.length:Int) - 1 = ((r4.length - 1:Nat):Int) by omega]
       obtain ⟨c,hcc⟩:∃ c,r4[r4.length - 1]? = some c:=⟨_,List.getElem?_eq_getElem (by omega)⟩
       refine ix_b hcc ?_
       rw [bin_eql]
       have h3:=u8_same c 93
       rw [show ((93:UInt8).toNat:Int) = 93 from rfl] at h3
       rw [h3]
       have e:decide (r4.getLast? = some 93) = decide (c = 93):=by rw [List.getLast?_eq_getElem?,hcc]; simp
       rw [← e]; exact hJ
     simp only [List.getD_cons_zero]
     rw [pick_gd_and,condW_b]
     refine ⟨fun e=>?_,fun e=>?_⟩
     · simp only [Bool.and_eq_true,decide_eq_true_eq] at e
       obtain ⟨⟨e1,e2⟩,e3⟩:=e
       rw [bin_sub,wrap_id (by omega) (by omega),show (r4.length:Int) - 1 = ((r4.length - 1:Nat):Int) by omega,sls_str,bd_some]
       refine ⟨by omega,by omega,?_⟩
       rw [bd_some]
       refine ⟨by omega,by rw [Int.toNat_natCast]; omega,?_⟩
       rw [Int.toNat_natCast]
       -- what stands within the brackets
       have hin:∀ X:Str,r4 = 91 :: (X ++ [93]) → (r4.take (r4.length - 1)).drop (1:Int).toNat = X:=fun X h=>by
         rw [h]
         show (List.take ((X ++ [93]).length) (91 :: (X ++ [93]))).drop 1 = X
         rw [List.length_append,List.length_singleton,List.take_succ_cons,List.drop_succ_cons,List.drop_zero,List.take_left]
       generalize (r4.take (r4.length - 1)).drop (1:Int).toNat = X at *
       have hkind:∀ b,goodAd b = true → showA b = s → (b.kind = 1 ∧ 0 ≤ b.num ∧ b.num ≤ 1000000000 ∧ b.key = [] ∧ X = Lib.itoa b.num) ∨ (b.kind = 2 ∧ b.num = 0 ∧ utfM b.key = true ∧ b.key.length ≤ 16384 ∧ (quoteM b.key).length ≤ 65536 ∧ X = quoteM b.key):=fun b hg hb=>by
         obtain ⟨_,_,_,_,q⟩:=hQ4 b hg hb
         rcases (good_out hg).2.2.2.2 with ⟨_,_,_,h⟩ | ⟨h1,h2,h3,h4,h⟩ | ⟨h1,h2,h3,h4,h5,h⟩
         · rw [q,h] at e1; simp at e1
         · exact .inl ⟨h1,h2,h3,h4,hin _ (q.trans h)⟩
         · exact .inr ⟨h1,h2,h3,h4,h5,hin _ (q.trans h)⟩
       have hdec:∀ b,goodAd b = true → showA b = s → ∃ v j c,decM En X = .ok v j c ∧ ((v.k = 3 ∧ v.t = X ∧ b.kind = 1 ∧ 0 ≤ b.num ∧ b.num ≤ 1000000000 ∧ b.key = [] ∧ X = Lib.itoa b.num) ∨ (v.k = 4 ∧ v.t = b.key ∧ b.kind = 2 ∧ b.num = 0)):=fun b hg hb=>by
         rcases hkind b hg hb with ⟨h1,h2,h3,h4,h5⟩ | ⟨h1,h2,h3,h4,h5,h6⟩
         · obtain ⟨j,c,hd⟩:=dec_num (E:=En) h2 h3
           exact ⟨.mk 3 false (Lib.itoa b.num) [] [],j,c,by rw [h5]; exact hd,.inl ⟨rfl,h5.symm,h1,h2,h3,h4,h5⟩⟩
         · obtain ⟨j,c,hd⟩:=dec_key (E:=En) h3 h4 h5
           exact ⟨.mk 4 false b.key [] [],j,c,by rw [h6]; exact hd,.inr ⟨rfl,rfl,h1,h2⟩⟩
       refine decode_ref (fun v j c hv cs w27 hx27 hr27=>?_) (fun er k hv her cs w27 hx27 hr27=>?_)
       · simp only [ext_tuple]
         refine ⟨_,rfl,_,rfl,_,rfl,?_⟩
         refine keep_val hr27 fun q w29 xv kv hB29 hx29=>?_
         have hx2129:=hx27.trans hx29
         have hP29:=hP21.ext hx2129
         have hbb29:=hx2129.at hbb21 id
         have hx029:=hx21.trans hx2129
         have hqlt:=at_lt hB29.hb
         have hplt:=at_lt hP29.hb
         have hpq:q ≠ p:=by
           rintro rfl
           have h1:=hP29.hb
           rw [hB29.hb] at h1
           simp only [Option.some.injEq,Obj.cells.injEq] at h1
           exact absurd h1.2.1 (by decide)
         have ldv:∀ {off:Nat} {x:Value} {w':World} {K:Value → Prop},w'.heap[q]? = w29.heap[q]? → [i64 v.k,.bool v.b,str v.t,xv,kv][off]? = some x → K x → fldW off (.pointer (some ⟨q,0,none⟩)) fun t=>ldW false 1 t w' K:=fun {off x w' K} hq hv hk=>by
           rw [fld_ptr,ld_one]
           refine ⟨x,?_,hk⟩
           rw [add_mk,cell_eq,hq,hB29.hb,cellO_some,Nat.zero_add]
           simpa using hv
         have hvb:∀ b,goodAd b = true → showA b = s → (v.k = 3 ∧ v.t = X ∧ b.kind = 1 ∧ 0 ≤ b.num ∧ b.num ≤ 1000000000 ∧ b.key = [] ∧ X = Lib.itoa b.num) ∨ (v.k = 4 ∧ v.t = b.key ∧ b.kind = 2 ∧ b.num = 0):=fun b hg hb=>by
           obtain ⟨v',j',c',h1,h2⟩:=hdec b hg hb
           rw [hv] at h1
           cases h1
           exact h2
         rw [bin_neq,show decide ((0:Int) ≠ 0) = false from rfl]
         simp only [isB_f,Bool.not_false]
         refine GdW.look (decide (v.k ≠ 3)) (fun _ J hJ=>?_) fun g=>?_
         · refine ldv rfl rfl ?_
           rw [bin_neq]
           exact hJ
         simp only [cond_true,List.getD_cons_zero,isB_t]
         refine GdW.look (decide (v.k ≠ 4)) (fun _ J hJ=>?_) fun g=>?_
         · refine ldv rfl rfl ?_
           rw [bin_neq]
           exact hJ
         simp only [List.getD_cons_zero]
         refine GdW.look (decide (v.k ≠ 3) && decide (v.k ≠ 4)) (fun _ J hJ=>?_) fun g=>?_
         · rw [pick_gd_and]
           exact hJ
         simp only [cond_true,List.getD_cons_zero]
         rw [pick_f,condW_b]
         refine ⟨fun e=>?_,fun e=>?_⟩
         · refine fail hbb29 hx029 fun b hg hb=>?_
           simp only [Bool.and_eq_true,decide_eq_true_eq] at e
           rcases hvb b hg hb with h | h
           · exact e.1 h.1
           · exact e.2 h.1
         have hk34:v.k = 3 ∨ v.k = 4:=by
           by_cases h3:v.k = 3
           · exact .inl h3
           · right
             rw [decide_eq_true h3,Bool.true_and] at e
             exact Decidable.not_not.1 (of_decide_eq_false e)
         refine ldv rfl rfl ?_
         rw [bin_sub,wrap_id (by omega) (by omega)]
         refine hP29.st (a':=⟨ms,T,N,v.k - 2,0,[],asd⟩) rfl (by omega) rfl rfl (zero_fits2 (by omega) (fun m hm=>by have:=hml m hm; omega) (by omega) (by omega) (by simp) (by omega) (by omega)) fun w39 hP39 hc39 hz39=>?_
         have hx039:Ext w w39:=hx029.new hc39 (by omega)
         have hbb39:=hc39.at hbb29 fun e=>by have e:b2 = p:=e; omega
         have hq39:w39.heap[q]? = w29.heap[q]?:=by
           rw [hB29.hb]
           exact hc39.at hB29.hb fun e=>hpq e
         refine hP39.acb.ld rfl ?_
         rw [bin_eql,condW_dec]
         refine ⟨fun k1=>?_,fun k1=>?_⟩
         · have k3:v.k = 3:=by
             have h:v.k - 2 = 1:=k1
             omega
           refine ldv hq39 rfl ?_
           refine intN_ref hB29.fits.2.2.1 fun n ok w40 hx40 hn1 hn2 hnum=>?_
           simp only [ext_tuple]
           refine ⟨_,rfl,_,rfl,?_⟩
           have hbb40:=hx40.at hbb39 id
           have hx040:=hx039.trans hx40
           rw [un_not,condW_b]
           refine ⟨fun e=>?_,fun e=>?_⟩
           · refine fail hbb40 hx040 fun b hg hb=>?_
             rcases hvb b hg hb with ⟨_,h2,_,h4,h5,_,h7⟩ | h
             · have:=(hnum b.num h4 h5 (h2.trans h7)).2
               rw [this] at e; cases e
             · rw [h.1] at k3; exact absurd k3 (by decide)
           · refine (hP39.ext hx40).st (a':=⟨ms,T,N,v.k - 2,n,[],asd⟩) rfl (by omega) rfl rfl (zero_fits2 (by omega) (fun m hm=>by have:=hml m hm; omega) (by omega) (by omega) (by simp) (by omega) (by omega)) fun w44 hP44 hc44 hz44=>?_
             refine ⟨_,trivial,hP44,hx040.new hc44 (by omega),hc44.at hbb40 (fun e=>by have e:b2 = p:=e; omega),by simp,fun b hg hb=>?_⟩
             obtain ⟨q1,q2,q3,q4,_⟩:=hQ4 b hg hb
             rcases hvb b hg hb with ⟨_,h2,h3,h4,h5,h6,h7⟩ | h
             · have h8:=(hnum b.num h4 h5 (h2.trans h7)).1
               cases b
               simp only [AV.mk.injEq] at q1 q2 q3 q4 h3 h6 h8 ⊢
               exact ⟨q1,q2,q3,by omega,h8.symm,h6,q4⟩
             · rw [h.1] at k3; exact absurd k3 (by decide)
         · have k4:v.k = 4:=by
             have h:¬ v.k - 2 = 1:=k1
             omega
           refine ldv hq39 rfl ?_
           have htl:v.t.length ≤ 16384:=by
             have h1:=(dec_back hv).1.1
             cases v with
             | mk k b t xs ks=>
               have k4:k = 4:=k4
               subst k4
               unfold plainM headOk at h1
               simp only [Bool.and_eq_true] at h1
               have h2:=h1.1.1.1.2
               show t.length ≤ 16384
               simpa using h2
           refine hP39.st (a':=⟨ms,T,N,v.k - 2,0,v.t,asd⟩) rfl (by omega) rfl rfl (zero_fits2 (by omega) (fun m hm=>by have:=hml m hm; omega) (by omega) (by omega) (by omega) (by omega) (by omega)) fun w45 hP45 hc45 hz45=>?_
           refine ⟨_,trivial,hP45,hx039.new hc45 (by omega),hc45.at hbb39 (fun e=>by have e:b2 = p:=e; omega),by show v.t.length ≤ _; omega,fun b hg hb=>?_⟩
           obtain ⟨q1,q2,q3,q4,_⟩:=hQ4 b hg hb
           rcases hvb b hg hb with h | ⟨h1,h2,h3,h4⟩
           · rw [h.1] at k4; exact absurd k4 (by decide)
           · cases b
             simp only [AV.mk.injEq] at q1 q2 q3 q4 h2 h3 h4 ⊢
             exact ⟨q1,q2,q3,by omega,h4,h2.symm,q4⟩
       · simp only [ext_tuple]
         refine ⟨_,rfl,_,rfl,_,rfl,?_⟩
         refine keep_val hr27 fun q w29 xv kv hB29 hx29=>?_
         have hx2129:=hx27.trans hx29
         rw [bin_neq,decide_eq_true her]
         simp only [isB_f,Bool.not_true]
         refine GdW.f fun g=>?_
         simp only [List.getD_cons_zero,isB_u]
         refine GdW.f fun g=>?_
         refine GdW.f fun g=>?_
         simp only [List.getD_cons_zero]
         rw [pick_t,condW_true]
         refine fail (hx2129.at hbb21 id) (hx21.trans hx2129) fun b hg hb=>?_
         obtain ⟨v',j',c',h1,_⟩:=hdec b hg hb
         rw [hv] at h1
         cases h1
     · refine ⟨_,trivial,hP21,hx21,hbb21,by simp,fun b hg hb=>?_⟩
       obtain ⟨q1,q2,q3,q4,q5⟩:=hQ4 b hg hb
       have no:∀ X:Str,r4 = 91 :: (X ++ [93]) → False:=fun X h=>by
         rw [h,decide_eq_true (by first | (simp; done) | (simp; omega)),decide_eq_true (by simp),decide_eq_true (by simp [List.getLast?_cons])] at e
         cases e
       rcases (good_out hg).2.2.2.2 with ⟨h1,h2,h3,h⟩ | ⟨h1,h2,h3,h4,h⟩ | ⟨h1,h2,h3,h4,h5,h⟩
       · cases b
         simp only [AV.mk.injEq] at q1 q2 q3 q4 h1 h2 h3 ⊢
         exact ⟨q1,q2,q3,h1,h2,h3,q4⟩
       · exact (no _ (q5.trans h)).elim
       · exact (no _ (q5.trans h)).elim
   rintro st g w46 ⟨a5,rfl,hP46,hx46,hbb46,hk5,hone⟩
   refine hP46.acb.all ?_
   refine good22_ref hP46.acb.rep hk5 fun w47 hx47=>?_
   have hP47:=hP46.ext hx47
   have hx047:=hx46.trans hx47
   have hbb47:=hx47.at hbb46 id
   cases hga:goodAd a5 with
   | false=>
     rw [un_not,Bool.not_false]
     simp only [isB_f,Bool.not_true]
     refine GdW.f fun g=>?_
     simp only [List.getD_cons_zero]
     rw [pick_t,condW_true]
     refine fail hbb47 hx047 fun b hg hb=>?_
     rw [hone b hg hb,hga] at hg
     cases hg
   | true=>
     rw [un_not,Bool.not_true]
     simp only [isB_f,Bool.not_false]
     refine GdW.act (decide (showA a5 ≠ s)) (fun w'=>Ext w47 w') (fun e=>by cases e) (fun _ J hJ=>?_) fun g w50 hx50=>?_
     · refine hP47.acb.all ?_
       refine show22_ref hga hP47.acb.rep fun w49 hx49=>?_
       rw [bin_sne]
       exact hJ w49 hx49
     simp only [cond_true,List.getD_cons_zero]
     rw [pick_f,condW_dec]
     have hP50:=hP47.ext hx50
     have hx050:=hx047.trans hx50
     have hbb50:=hx50.at hbb47 id
     refine ⟨fun hne=>?_,fun he=>?_⟩
     · refine fail hbb50 hx050 fun b hg hb=>?_
       rw [hone b hg hb] at hb
       exact hne hb
     · have he:showA a5 = s:=Decidable.not_not.1 he
       refine hP50.acb.all ?_
       refine st_agg_at hbb50 rfl rfl hP50.acb.rep.one fun w54 hz54 hb54 hc54=>?_
       refine ld_all hb54 rfl ?_
       refine hok a5 hga he _ w54 (hx050.new hc54 (by omega)) hP50.fits ?_
       exact (hP50.own.chg hc54 fun k hk e=>by have:=hk.1; have e:k = b2:=e; omega).sl
 · -- one module more
   obtain ⟨r,hr,h47,h91⟩:∃ r,rest = u ++ 47 :: r ∧ (47:UInt8) ∉ u ∧ (91:UInt8) ∉ u:=by
     rcases hu with ⟨c,r,hr,hc',h1,h2⟩ | ⟨rfl,_,_⟩
     · rcases hc' with rfl | rfl
       · exact ⟨r,hr,h1,h2⟩
       · rw [hr,List.drop_left] at e
         simp at e
     · simp at e
   have hQ':∀ b,goodAd b = true → showA b = s → ∃ more,b.mods = (ms ++ [u]) ++ more ∧ r = more.flatMap (fun m=>m ++ [47]) ++ tailA b:=fun b hg hb=>by
     obtain ⟨more,q1,q2⟩:=hQ b hg hb
     cases more with
     | nil=>
       rw [List.flatMap_nil,List.nil_append] at q2
       exact absurd (q2.symm.trans hr) (mods_end hg h47 h91)
     | cons m more=>
       have hm:nameM m = true:=(good_out hg).2.2.2.1 m (by rw [q1]; simp)
       have h47m:(47:UInt8) ∉ m:=fun hx=>(nm_not ((name_out hm).2.2 47 hx)).2.1 rfl
       have q3:rest = m ++ 47 :: (more.flatMap (fun m=>m ++ [47]) ++ tailA b):=by rw [q2]; simp
       obtain ⟨rfl,q5⟩:=first_one (hr.symm.trans q3) h47 h47m
       exact ⟨more,by rw [q1]; simp,q5⟩
   have hrr:rest.length = u.length + (r.length + 1):=by rw [hr]; simp
   refine hP.acb.ld rfl ?_
   refine row_s fun t w56 ht hx56=>?_
   have hP56:=hP.ext hx56
   refine append_own3 elem_s (n:=ms.length) (xs:=ms.map str) hP56.own ht (m:=1) rfl (fun u hu=>by simp only [List.mem_singleton] at hu; subst hu; rfl) (by omega) (by omega) hP56.le fun v' w57 hO57 hc57 _=>?_
   have hno57:∀ k,k < p + 1 → ¬ (sv.ownBlock = some k):=fun k hk e=>by have:=(own_in hP56.own e).1; omega
   have hb57:=hc57.at hP56.hb (hno57 p (by omega))
   have hbb57:=hc57.at (hx56.at hbb6 id) (hno57 b2 (by omega))
   have hx57:Ext w w57:=(hx6.trans hx56).then hc57 fun k hk=>hno57 k (by omega)
   obtain ⟨pp,cap,hv',hcap⟩:=hO57.sl.shape
   rw [fld_ptr,add_mk,Nat.zero_add]
   refine st_at hb57 (by rw [hv']; rfl) (by simp) fun w58 hz58 hb58 hc58=>?_
   have hP58:PA w58 p (p + 1) ⟨ms ++ [u],[],[],0,0,[],false⟩ v':=by
     refine ⟨by rw [hb58]; simp,?_,zero_fits2 (by rw [List.length_append,List.length_singleton]; omega) (fun m hm=>?_) (by simp) (by simp) (by simp) (by omega) (by omega),by omega,by have:=hP56.le; have:=hc57.size; omega⟩
     · have:=hO57.chg hc58 fun k hk e=>by have:=hk.1; have e:k = p:=e; omega
       simpa using this
     · rcases List.mem_append.1 hm with h | h
       · have:=hml m h; omega
       · simp only [List.mem_singleton] at h; subst h; omega
   have hbb58:=hc58.at hbb57 fun e=>by have e:b2 = p:=e; omega
   have hx58:Ext w w58:=hx57.new hc58 (by omega)
   rw [bin_add,up1 (by omega),sls_str,bd_none,bd_some]
   refine ⟨by omega,by omega,?_⟩
   rw [List.take_length,Int.toNat_natCast]
   have er:rest.drop (u.length + 1) = r:=by rw [hr,← List.drop_drop,List.drop_left]; rfl
   rw [er]
   refine hP58.acb.ld rfl ?_
   rw [hv',lenl_sl,bin_gtr,condW_dec]
   refine ⟨fun h5=>?_,fun h5=>?_⟩
   · refine fail hbb58 hx58 fun b hg hb=>?_
     obtain ⟨more,q1,_⟩:=hQ' b hg hb
     have:=(good_out hg).1
     rw [q1,List.length_append,List.length_append,List.length_singleton] at this
     omega
   · refine ⟨⟨r,ms ++ [u],v',rfl,hP58,hx58,hbb58,by rw [List.length_append,List.length_singleton]; omega,by omega,fun m hm=>?_,hQ'⟩,?_⟩
     · rcases List.mem_append.1 hm with h | h
       · exact hml m h
       · simp only [List.mem_singleton] at h; subst h; omega
     · show (ofL r).size < (ofL rest).size
       rw [ofL_size,ofL_size]; omega
end
end Go.Proofs.YtnoepcndjljolaaGreatDoor
namespace Go.Proofs.YtnoepcndjljolaaGreatDoor
open Go Go.Eng
set_option maxRecDepth 100000
variable [HX]
def plan20:Plan:={ js:=[(72,⟨[11,66],[11,12],66⟩),(58,⟨[8],[8],16⟩),(48,⟨[8,9],[8,9],31⟩),(37,⟨[8,9,30],[8,9,10],30⟩),(8,⟨[4,15],[2,3,4,5,6,7,8,9,10],15⟩)],ds:=[(50,⟨[0,1,2,3,4,5,6,7,9,10],[[],[0],[0,1],[0,1,2],[0,1,2],[0,1,2],[0,1,2,4,5],[0,1,2,4,5,6],[0,1,2,3,4,5,6,7],[0,1,2,3,4,5,6,7,8],[0,1,2,3,4,5,6,7,8,9]]⟩)] }
def W20 (v0:Value) (w:World) (K:Value → World → Prop):Prop:=
 lenlW v0 fun t14=>
 LoopW [(.slice none 0 0),(.int .i64 0)] w fun s1 _ w2 L1=>
 binW .lss (s1.getD 1 undef) t14 fun t16=>
 condW t16 (
 ixaW none 1 v0 (s1.getD 1 undef) fun t21=>
 ldW false 1 t21 w2 fun t22=>
 callF Tryz.prog 43 [t22] w2 fun t23 w3=>
 extW 0 t23 fun t24=>
 extW 1 t23 fun t25=>
 allocW 84 [(.slice none 0 0),(.string (ofL [])),(.string (ofL [])),(.int .i64 0),(.int .i64 0),(.string (ofL [])),(.bool false)] w3 fun t6 w4=>
 stW 7 t6 t24 w4 fun w5=>
 unW .not t25 fun t27=>
 condW t27 (
 K (.tuple #[(.slice none 0 0),(.bool false)]) w5) (
 lenlW (s1.getD 0 undef) fun t29=>
 LoopW [(.slice none 0 0),(.bool false),(.int .i64 0)] w5 fun s6 _ w7 L6=>
 binW .lss (s6.getD 2 undef) t29 fun t31=>
 condW t31 (
 JoinW (fun J8=>
 unW .not (s6.getD 1 undef) fun t34=>
 GqW (isB t34 true) (fun k9=>ldW true 7 t6 w7.drew k9) fun t36=>
 GqW (isB t34 true) (fun k10=>k10 (s1.getD 0 undef)) fun t37=>
 GqW (isB t34 true) (fun k11=>k11 (s6.getD 2 undef)) fun t38=>
 GqW (isB t34 true) (fun k12=>ixaW none 7 t37 t38 k12) fun t39=>
 GqW (isB t34 true) (fun k13=>ldW true 7 t39 w7.drew k13) fun t40=>
 GeW (isB t34 true) w7.drew (fun k14=>callF Tryz.prog 44 [t36,t40] w7.drew k14) fun t41 w15=>
 GqW (isB t34 true) (fun k16=>binW .lss t41 (.int .i64 0) k16) fun t42=>
 pickW t34 t42 (.bool false) fun t43=>
 condW t43 (
 ldW true 7 t6 w15 fun t45=>
 bslW 84 1 [(.slice none 0 0),(.string (ofL [])),(.string (ofL [])),(.int .i64 0),(.int .i64 0),(.string (ofL [])),(.bool false)] [(0,7,t45)] w15 fun t46 w17=>
 semE Tryz.prog (Builtin.append_ #[83,83] 83 #[(s6.getD 0 undef),t46]) w17 fun t47 w18=>
 J8 [t47,(.bool true)] w18) (
 J8 [(s6.getD 0 undef),(s6.getD 1 undef)] w15))
 fun s8 _ w19=>
 ixaW none 7 (s1.getD 0 undef) (s6.getD 2 undef) fun t51=>
 ldW true 7 t51 w19 fun t52=>
 bslW 84 1 [(.slice none 0 0),(.string (ofL [])),(.string (ofL [])),(.int .i64 0),(.int .i64 0),(.string (ofL [])),(.bool false)] [(0,7,t52)] w19 fun t53 w20=>
 semE Tryz.prog (Builtin.append_ #[83,83] 83 #[(s8.getD 0 undef),t53]) w20 fun t54 w21=>
 binW .add (s6.getD 2 undef) (.int .i64 1) fun t55=>
 L6 [t54,(s8.getD 1 undef),t55] w21) (
 JoinW (fun J22=>
 unW .not (s6.getD 1 undef) fun t57=>
 condW t57 (
 ldW true 7 t6 w7 fun t59=>
 bslW 84 1 [(.slice none 0 0),(.string (ofL [])),(.string (ofL [])),(.int .i64 0),(.int .i64 0),(.string (ofL [])),(.bool false)] [(0,7,t59)] w7 fun t60 w23=>
 semE Tryz.prog (Builtin.append_ #[83,83] 83 #[(s6.getD 0 undef),t60]) w23 fun t61 w24=>
 J22 [t61] w24) (
 J22 [(s6.getD 0 undef)] w7))
 fun s22 _ w25=>
 binW .add (s1.getD 1 undef) (.int .i64 1) fun t63=>
 L1 [(s22.getD 0 undef),t63] w25))) (
 lenlW (s1.getD 0 undef) fun t65=>
 LoopW [(.slice none 0 0),(.int .i64 0)] w2 fun s26 _ w27 L26=>
 binW .lss (s26.getD 1 undef) t65 fun t67=>
 condW t67 (
 ixaW none 7 (s1.getD 0 undef) (s26.getD 1 undef) fun t72=>
 ldW true 7 t72 w27 fun t73=>
 callF Tryz.prog 45 [t73] w27 fun t74 w28=>
 bslW 9 1 [(.string (ofL []))] [(0,1,t74)] w28 fun t75 w29=>
 semE Tryz.prog (Builtin.append_ #[38,38] 38 #[(s26.getD 0 undef),t75]) w29 fun t76 w30=>
 binW .add (s26.getD 1 undef) (.int .i64 1) fun t77=>
 L26 [t76,t77] w30) (
 K (.tuple #[(s26.getD 0 undef),(.bool true)]) w27))
theorem W20_ok {v0:Value} {w:World} {K:Value → World → Prop} (h:W20 v0 w K):callF Tryz.prog 20 [v0] w K:=
 tie _ 20 Tryz.f20 plan20 _ w K 1 _ rfl mixed Tryz.func20 (by kernel_rfl) (by kernel_rfl) Tryz.call20 h
def plan5:Plan:={ js:=[(56005,⟨[60],[],58⟩),(52005,⟨[53],[],51⟩),(14,⟨[19],[2,3],19⟩),(4004,⟨[14],[],12⟩)],ds:=[] }
def W5 (v0:Value) (w:World) (K:Value → World → Prop):Prop:=
 callF Tryz.prog 18 [] w fun t9 w1=>
 unW .not t9 fun t10=>
 GdW (isB t10 false) [undef] w1 (fun J2=>
 lenlW v0 fun t13=>
 binW .gtr t13 (.int .i64 40) fun t14=>
 J2 [t14] w1)
 fun s2 _ w3=>
 pickW t10 (.bool true) (s2.getD 0 undef) fun t15=>
 condW t15 (
 callF Tryz.prog 18 [] w3 fun t16 w4=>
 K t16 w4) (
 lenlW v0 fun t18=>
 LoopW [(.int .i64 0)] w3 fun s5 _ w6 L5=>
 binW .lss (s5.getD 0 undef) t18 fun t20=>
 condW t20 (
 ixaW none 1 v0 (s5.getD 0 undef) fun t24=>
 ldW false 1 t24 w6 fun t25=>
 lensW t25 fun t26=>
 binW .gtr t26 (.int .i64 1000) fun t27=>
 condW t27 (
 K (.bool true) w6) (
 binW .add (s5.getD 0 undef) (.int .i64 1) fun t28=>
 L5 [t28] w6)) (
 bslW 9 0 [] [] w6 fun t29 w7=>
 semE Tryz.prog (Builtin.append_ #[38,38] 38 #[t29,v0]) w7 fun t31 w8=>
 callF Tryz.prog 19 [t31] w8 fun t34 w9=>
 extW 0 t34 fun t35=>
 extW 1 t34 fun t36=>
 callF Tryz.prog 20 [v0] w9 fun t39 w10=>
 extW 0 t39 fun t40=>
 extW 1 t39 fun t41=>
 callF Tryz.prog 21 [t31,v0] w10 fun t44 w11=>
 unW .not t44 fun t45=>
 condW t45 (
 K (.bool false) w11) (
 unW .not t41 fun t47=>
 condW t47 (
 binW .eql t36 (.int .i64 6) fun t49=>
 GdW (isB t49 true) [undef] w11 (fun J12=>
 lenlW t35 fun t52=>
 binW .eql t52 (.int .i64 0) fun t53=>
 J12 [t53] w11)
 fun s12 _ w13=>
 pickW t49 (s12.getD 0 undef) (.bool false) fun t54=>
 K t54 w13) (
 binW .eql t36 (.int .i64 0) fun t56=>
 GdW (isB t56 true) [undef] w11 (fun J14=>
 callF Tryz.prog 21 [t35,t40] w11 fun t60 w15=>
 J14 [t60] w15)
 fun s14 _ w16=>
 pickW t56 (s14.getD 0 undef) (.bool false) fun t61=>
 K t61 w16))))
theorem W5_ok {v0:Value} {w:World} {K:Value → World → Prop} (h:W5 v0 w K):callF Tryz.prog 5 [v0] w K:=
 tie _ 5 Tryz.f5 plan5 _ w K 1 _ rfl mixed Tryz.func5 (by kernel_rfl) (by kernel_rfl) Tryz.call5 h
end Go.Proofs.YtnoepcndjljolaaGreatDoor
namespace Go.Proofs.YtnoepcndjljolaaGreatDoor
open Go Go.Eng Go.RowKit
set_option maxRecDepth 100000
theorem elem_ra:ElemT Tryz.prog 83 RaT 7 96:=⟨by kernel_rfl,by kernel_rfl,by decide⟩
theorem row_ra {w:World} {cs:List Value} {K:Value → World → Prop} (hc:cs.length = 7) (hK:∀ t w',SlAt w' RaT t 1 cs → Ext w w' → K t w'):bslW RaT 1 [(.slice none 0 0),(.string (ofL [])),(.string (ofL [])),(.int .i64 0),(.int .i64 0),(.string (ofL [])),(.bool false)] [(0,7,.agg cs.toArray)] w K:=by
 unfold bslW
 have hp:∀ K:List Value → Prop,K cs → putW za [(0,7,.agg cs.toArray)] K:=by
   intro K hK
   refine ⟨by simp [Value.cells,hc],by simp,?_⟩
   have:List.take 0 za ++ ((Value.agg cs.toArray).cells.toList ++ List.drop (0 + 7) za) = cs:=by simp [Value.cells]
   rw [this]
   exact hK
 refine hp _ ?_
 exact hK _ _ (own_new (w:=w) (base:=w.heap.size) (e:=RaT) (size:=7) (n:=1) (cs:=cs) (Nat.le_refl _) (by omega) (by omega)).sl (by repeat (first | assumption | exact Chg.refl _ _ | refine Chg.drew ?_ | refine Chg.alloc ?_ _ | refine Chg.set ?_ (by first | exact .inl rfl | exact .inr (by omega) | exact .inr (by simp only [size_set,size_alloc,size_drew]; omega) | (left; simp; done)) _ | exact Chg.of_ext (by assumption)))
def AEH (w:World) (x:AE):Prop:=AFits x.1 ∧ ∃ T,T ≠ RaT ∧ SlAt w T x.2 x.1.mods.length (x.1.mods.map str)
theorem AEH.rep {w:World} {x:AE} (h:AEH w x):ARep w x.1 (acs x.1 x.2):=let ⟨h1,T,_,h2⟩:=h; ⟨x.2,T,rfl,h2,h1⟩
theorem AEH.ext {w w':World} {x:AE} (h:AEH w x) (hx:Ext w w'):AEH w' x:=let ⟨h1,T,h3,h2⟩:=h; ⟨h1,T,h3,h2.ext hx⟩
theorem AEH.all {w:World} {x:AE} (h:AEH w x):(acs x.1 x.2).all one1 = true:=h.rep.one
theorem AEH.grown {w w':World} {B n:Nat} {v:Value} {xs:List Value} {x:AE} (h:AEH w x) (hO:Own w B RaT 7 v n xs) (hc:Chg (fun k=>v.ownBlock = some k) w w'):AEH w' x:=by
 obtain ⟨h1,T,h3,h2⟩:=h
 refine ⟨h1,T,h3,h2.chg hc fun k c' fr' hk e=>?_⟩
 obtain ⟨_,_,c,hb⟩:=own_in hO hk
 rw [hb] at e
 simp only [Option.some.injEq,Obj.cells.injEq] at e
 exact h3 e.2.1.symm
section
variable [HX]
theorem rowa_at {w:World} {B:Nat} {v:Value} {L:List AE} {i:Nat} {x:AE} (hO:Own w B RaT 7 v L.length (flatA L)) (hi:L[i]? = some x) :
   ∃ p,(∀ K:Value → Prop,K p → ixaW none 7 v (i64 (i:Nat)) K) ∧ ∀ (w':World) (K:Value → Prop),w'.heap = w.heap → K (.agg (acs x.1 x.2).toArray) → ldW true 7 p w' K:=by
 obtain ⟨hlt,_⟩:=List.getElem?_eq_some_iff.1 hi
 obtain ⟨blk,cap,X,rfl,_,hb⟩:=own_cells hO (by omega)
 refine ⟨.pointer (some ((⟨blk,0,none⟩:Addr).add ((i:Int).toNat * 7))),fun K hK=>?_,fun w' K hw hK=>?_⟩
 · rw [ixa_slice]
   exact ⟨by omega,by omega,hK⟩
 · have hsp:L = L.take i ++ x :: L.drop (i + 1):=by
     have e:=Option.some.inj ((List.getElem?_eq_getElem hlt).symm.trans hi)
     rw [← e,← List.drop_eq_getElem_cons hlt,List.take_append_drop]
   rw [hsp] at hb
   rw [Int.toNat_natCast]
   exact row_ld (by rw [hw]; exact hb) (by rw [List.length_take]; omega) hK
theorem rowa_app {w0 w:World} {B:Nat} {v:Value} {L:List AE} {x:AE} {K:Value → World → Prop} (hO:Own w B RaT 7 v L.length (flatA L)) (hL:∀ y ∈ L,AEH w y) (hx:AEH w x) (h0:Ext w0 w) (hB:w0.heap.size ≤ B) (hBw:B ≤ w.heap.size) (hl:L.length ≤ 100000)
   (hK:∀ v' w',Own w' B RaT 7 v' (L ++ [x]).length (flatA (L ++ [x])) → (∀ y ∈ L ++ [x],AEH w' y) → Ext w0 w' → (∀ y,AEH w y → AEH w' y) → (∀ k,k < B → k < w.heap.size → w'.heap[k]? = w.heap[k]?) → w.heap.size ≤ w'.heap.size → K v' w') :
   bslW RaT 1 [(.slice none 0 0),(.string (ofL [])),(.string (ofL [])),(.int .i64 0),(.int .i64 0),(.string (ofL [])),(.bool false)] [(0,7,.agg (acs x.1 x.2).toArray)] w fun t w1=>semE Tryz.prog (Builtin.append_ #[83,83] 83 #[v,t]) w1 K:=by
 refine row_ra rfl fun t w1 ht hx1=>?_
 have hO1:=hO.ext hx1
 have s1:=hx1.size
 refine append_own3 elem_ra hO1 ht (m:=1) rfl (fun u hu=>List.all_eq_true.1 hx.all u hu) (by omega) (by omega) (by omega) fun v' w2 hO2 hc2 _=>?_
 have e1:flatA (L ++ [x]) = flatA L ++ acs x.1 x.2:=by rw [flatA_app]; simp [flatA]
 have hno:∀ k,v.ownBlock = some k → B ≤ k:=fun k hk=>(own_in hO hk).1
 refine hK v' w2 (by rw [e1,List.length_append,List.length_singleton]; exact hO2) (fun y hy=>?_) ((h0.trans hx1).then hc2 fun k hk e=>by have:=hno k e; omega) (fun y hy=>(hy.ext hx1).grown hO1 hc2) (fun k hk hlt=>?_) (by have:=hc2.size; omega)
 · rcases List.mem_append.1 hy with hy | hy
   · exact ((hL y hy).ext hx1).grown hO1 hc2
   · rw [List.mem_singleton.1 hy]; exact (hx.ext hx1).grown hO1 hc2
 · rw [hc2.heap k (by omega) fun e=>by have:=hno k e; omega,hx1.heap k hlt id]
theorem sort22_ref {l:List Str} {sv:Value} {T:TypeId} {w:World} {K:Value → World → Prop} (hn:l.length ≤ 1000) (hl:∀ s ∈ l,s.length ≤ 400000) (hs:SlAt w T sv l.length (l.map str))
   (hok:∀ az:List AV,(∀ a ∈ az,goodAd a = true) → az.map showA = l → ∀ v w',Ext w w' → SlAt w' ST v az.length ((sortA az).map fun a=>str (showA a)) → K (.tuple #[v,.bool true]) w')
   (hno:(∃ s ∈ l,∀ a,goodAd a = true → showA a ≠ s) → ∀ w',Ext w w' → K (.tuple #[.slice none 0 0,.bool false]) w') :
   callF Tryz.prog 20 [sv] w K:=by
 refine W20_ok ?_
 unfold W20
 rw [lenl_at hs]
 refine LoopW.go (fun st w'=>∃ (az:List AV) (L:List AE) (v:Value),st = [v,i64 (az.length:Nat)] ∧ az.length ≤ l.length ∧ az.map showA = l.take az.length ∧ (∀ a ∈ az,goodAd a = true) ∧ L.map (·.1) = sortA az ∧ (∀ x ∈ L,AEH w' x) ∧ Own w' w.heap.size RaT 7 v L.length (flatA L) ∧ Ext w w') (fun st _=>match st with | [_,.int _ i]=>l.length - i.toNat | _=>0)
   ⟨[],[],_,rfl,Nat.zero_le _,rfl,(fun x hx=>by cases hx),rfl,(fun x hx=>by cases hx),⟨rfl,.inl ⟨rfl,rfl⟩⟩,Chg.refl _ _⟩ ?_
 rintro st g w2 ⟨az,L,v,rfl,hazn,hazm,hazg,hLm,hL2,hO2,hx2⟩
 have hLlen:L.length = az.length:=by rw [← (sortA_perm az).length_eq,← hLm,List.length_map]
 have s2:=hx2.size
 simp only [List.getD_cons_zero,List.getD_cons_succ]
 rw [bin_lss,condW_dec]
 refine ⟨fun hlt=>?_,fun hge=>?_⟩
 · have hlt:az.length < l.length:=by omega
   obtain ⟨s,hsi⟩:∃ s,l[az.length]? = some s:=⟨_,List.getElem?_eq_getElem hlt⟩
   have hsm:=List.mem_of_getElem? hsi
   refine ixa_ld (hs.ext hx2) (by simp) (x:=str s) (by simp [hsi]) ?_
   refine parse22_s (hl s hsm) (fun a hga ha sv5 w3 hx3 hf3 hs3=>?_) (fun hn cs w3 hx3 hr3=>?_)
   rotate_left
   · simp only [ext_tuple]
     refine ⟨_,rfl,_,rfl,?_⟩
     refine keep_a hr3 fun p w5 sv5 hA5 hx5 hp5=>?_
     rw [un_not,Bool.not_false,condW_true]
     exact hno ⟨s,hsm,hn⟩ w5 (hx2.trans (hx3.trans hx5))
   simp only [ext_tuple]
   refine ⟨_,rfl,_,rfl,?_⟩
   have hone3:(acs a sv5).all one1 = true:=by obtain ⟨q,c,rfl,_⟩:=hs3.shape; rfl
   refine alloc_new fun p w4 hp hz4 hbp hx4=>?_
   refine st_agg_at hbp rfl rfl hone3 fun w5 hz5 hb5 hc5=>?_
   have hx35:Ext w3 w5:=hx4.new hc5 (by omega)
   have hA5:AcB RaT w5 p a sv5:=⟨hb5,⟨ST,hs3.ext hx35⟩,hf3⟩
   have hH5:AEH w5 (a,sv5):=⟨hf3,ST,by decide,hs3.ext hx35⟩
   have hx25:=hx3.trans hx35
   have hx5:=hx2.trans hx25
   have s25:=hx25.size
   have hplt:=at_lt hb5
   have hO5:=hO2.ext hx25
   have hL5:∀ x ∈ L,AEH w5 x:=fun x hx=>(hL2 x hx).ext hx25
   have hvlt:∀ k,v.ownBlock = some k → k < w5.heap.size:=fun k hk=>(own_in hO5 hk).2.1
   rw [un_not,Bool.not_true,condW_false]
   have hvl:∃ q c,v = .slice q L.length c:=by obtain ⟨q,c,e,_⟩:=hO2.sl.shape; exact ⟨q,c,e⟩
   have hlen:∀ K:Value → Prop,lenlW v K ↔ K (i64 (L.length:Nat)):=fun K=>by obtain ⟨q,c,e⟩:=hvl; rw [e,lenl_sl]
   rw [hlen]
   refine LoopW.go (fun st w'=>∃ (N:List AE) (nv:Value) (done:Bool) (k:Nat),st = [nv,.bool done,i64 (k:Nat)] ∧ k ≤ L.length ∧ Own w' w5.heap.size RaT 7 nv N.length (flatA N) ∧ (∀ x ∈ N,AEH w' x) ∧ Ext w5 w' ∧ N.length ≤ k + 1 ∧
       ((done = true ∧ N.map (·.1) = insA a ((L.take k).map (·.1)) ∧ ∃ b ∈ (L.take k).map (·.1),cmpA a b < 0) ∨ (done = false ∧ N.map (·.1) = (L.take k).map (·.1) ∧ ∀ b ∈ (L.take k).map (·.1),¬ cmpA a b < 0))) (fun st _=>match st with | [_,_,.int _ i]=>L.length - i.toNat | _=>0)
     ⟨[],_,false,0,rfl,Nat.zero_le _,⟨rfl,.inl ⟨rfl,rfl⟩⟩,(fun x hx=>by cases hx),Chg.refl _ _,by simp,.inr ⟨rfl,rfl,fun b hb=>by simp at hb⟩⟩ ?_
   rintro st g w7 ⟨N,nv,done,k,rfl,hk,hO7,hN7,hx7,hNk,hd⟩
   have s7:=hx7.size
   have hA7:=hA5.ext hx7
   have hH7:=hH5.ext hx7
   have hOv7:=hO5.ext hx7
   simp only [List.getD_cons_zero,List.getD_cons_succ]
   rw [bin_lss,condW_dec]
   refine ⟨fun hlt=>?_,fun hge=>?_⟩
   · have hlt:k < L.length:=by omega
     obtain ⟨y,hy⟩:∃ y,L[k]? = some y:=⟨_,List.getElem?_eq_getElem hlt⟩
     have hy5:=hL5 y (List.mem_of_getElem? hy)
     have htk:L.take (k + 1) = L.take k ++ [y]:=by rw [List.take_add_one,hy]; rfl
     have hxd:Ext w7 w7.drew:=Chg.drew (Chg.refl (fun _=>False) w7)
     refine JoinW.cut (fun st w'=>∃ (N1:List AE) (nv1:Value) (d1:Bool),st = [nv1,.bool d1] ∧ Own w' w5.heap.size RaT 7 nv1 N1.length (flatA N1) ∧ (∀ x ∈ N1,AEH w' x) ∧ Ext w5 w' ∧ N1.length ≤ k + 1 ∧
       ((d1 = true ∧ N1.map (·.1) ++ [y.1] = insA a ((L.take (k + 1)).map (·.1)) ∧ ∃ b ∈ (L.take (k + 1)).map (·.1),cmpA a b < 0) ∨ (d1 = false ∧ N1.map (·.1) = (L.take k).map (·.1) ∧ ∀ b ∈ (L.take (k + 1)).map (·.1),¬ cmpA a b < 0))) ?_ ?_
     · rw [un_not]
       rcases hd with ⟨rfl,hm,hex⟩ | ⟨rfl,hm,hall⟩
       · rw [Bool.not_true]
         simp only [isB_t,GqW_f]
         refine ⟨(fun e=>by cases e),fun _=>?_⟩
         show pickW (.bool false) undef (.bool false) _
         rw [pick_f,condW_false]
         refine ⟨N,nv,true,rfl,hO7.ext hxd,fun x hx=>(hN7 x hx).ext hxd,hx7.trans hxd,by
           have:N.length = k + 1:=by
             have h1:=congrArg List.length hm
             rw [(insA_perm _ _).length_eq] at h1
             simp only [List.length_map,List.length_cons,List.length_take] at h1
             omega
           omega,.inl ⟨rfl,?_,?_⟩⟩
         · rw [hm,htk,List.map_append]
           exact (insA_done hex [y.1]).symm
         · obtain ⟨b,hb,hlt⟩:=hex
           exact ⟨b,by rw [htk,List.map_append]; exact List.mem_append.2 (.inl hb),hlt⟩
       · rw [Bool.not_false]
         obtain ⟨q,hq1,hq2⟩:=rowa_at hOv7 hy
         simp only [isB_t,GqW_t]
         refine ⟨_,hA7.drew.all rfl,_,rfl,_,rfl,q,hq1 _ rfl,_,hq2 w7.drew _ rfl rfl,⟨fun _=>?_,fun e=>by cases e⟩⟩
         refine acmp_ref (hA7.drew).rep ((hy5.ext hx7).ext hxd).rep fun w15 hx15=>?_
         refine ⟨.bool (decide (cmpA a y.1 < 0)),by rw [bin_lss],?_⟩
         have hx715:=hxd.trans hx15
         rw [pick_t,condW_dec]
         refine ⟨fun hlt=>?_,fun hge=>?_⟩
         · refine (hA7.ext hx715).all ?_
           refine rowa_app (w0:=w5) (hO7.ext hx715) (fun x hx=>(hN7 x hx).ext hx715) (x:=(a,sv5)) (hH7.ext hx715) (hx7.trans hx715) (Nat.le_refl _) (by have:=hx715.size; omega) (by omega) fun v' w18 hO18 hN18 hx18 _ _ _=>?_
           have hNl:N.length = k:=by
             have h1:=congrArg List.length hm
             simp only [List.length_map,List.length_take] at h1
             omega
           refine ⟨N ++ [(a,sv5)],v',true,rfl,hO18,hN18,hx18,by simp; omega,.inl ⟨rfl,?_,y.1,by rw [htk]; simp,hlt⟩⟩
           rw [List.map_append,hm,htk,List.map_append]
           simp only [List.map_cons,List.map_nil]
           rw [insA_hit hlt hall]
           simp
         · have hNl:N.length = k:=by
             have h1:=congrArg List.length hm
             simp only [List.length_map,List.length_take] at h1
             omega
           refine ⟨N,nv,false,rfl,hO7.ext hx715,fun x hx=>(hN7 x hx).ext hx715,hx7.trans hx715,by omega,.inr ⟨rfl,hm,fun b hb=>?_⟩⟩
           rw [htk,List.map_append] at hb
           rcases List.mem_append.1 hb with hb | hb
           · exact hall b hb
           · simp only [List.map_cons,List.map_nil,List.mem_singleton] at hb
             rw [hb]; exact hge
     rintro st g w19 ⟨N1,nv1,d1,rfl,hO19,hN19,hx19,hN1k,hd1⟩
     simp only [List.getD_cons_zero,List.getD_cons_succ]
     have hOv19:=hO5.ext hx19
     obtain ⟨q,hq1,hq2⟩:=rowa_at hOv19 hy
     refine hq1 _ ?_
     refine hq2 w19 _ rfl ?_
     refine rowa_app (w0:=w5) hO19 hN19 (x:=y) (hy5.ext hx19) hx19 (Nat.le_refl _) hx19.size (by omega) fun v' w21 hO21 hN21 hx21 _ _ _=>?_
     rw [bin_add,up1 (by omega)]
     refine ⟨⟨N1 ++ [y],v',d1,k + 1,rfl,by omega,hO21,hN21,hx21,by simp; omega,?_⟩,?_⟩
     · rcases hd1 with ⟨rfl,h1,h2⟩ | ⟨rfl,h1,h2⟩
       · exact .inl ⟨rfl,by rw [List.map_append]; exact h1,h2⟩
       · refine .inr ⟨rfl,?_,h2⟩
         rw [List.map_append,h1,htk,List.map_append]
     · simp only [Int.toNat_natCast]; omega
   · have hkl:k = L.length:=by omega
     subst hkl
     rw [List.take_length] at hd
     have hfin:∀ (N2:List AE) (v2:Value) (w':World),Own w' w5.heap.size RaT 7 v2 N2.length (flatA N2) → (∀ x ∈ N2,AEH w' x) → Ext w5 w' → N2.map (·.1) = insA a (L.map (·.1)) → (∃ (az':List AV) (L':List AE) (v':Value),[v2,i64 ((az.length + 1:Nat):Int)] = [v',i64 (az'.length:Nat)] ∧ az'.length ≤ l.length ∧ az'.map showA = l.take az'.length ∧ (∀ a ∈ az',goodAd a = true) ∧ L'.map (·.1) = sortA az' ∧ (∀ x ∈ L',AEH w' x) ∧ Own w' w.heap.size RaT 7 v' L'.length (flatA L') ∧ Ext w w'):=fun N2 v2 w' hO hN hx hm=>by
       refine ⟨az ++ [a],N2,v2,by simp,by simp; omega,?_,fun b hb=>?_,?_,hN,hO.base (by omega),hx5.trans hx⟩
       · rw [List.map_append,hazm,List.length_append,List.length_singleton,List.take_add_one,hsi,← ha]; rfl
       · rcases List.mem_append.1 hb with hb | hb
         · exact hazg b hb
         · rw [List.mem_singleton.1 hb]; exact hga
       · rw [hm,hLm]
         unfold sortA
         rw [List.foldl_append]
         rfl
     refine JoinW.cut (fun st w'=>∃ (N2:List AE) (v2:Value),st = [v2] ∧ Own w' w5.heap.size RaT 7 v2 N2.length (flatA N2) ∧ (∀ x ∈ N2,AEH w' x) ∧ Ext w5 w' ∧ N2.map (·.1) = insA a (L.map (·.1))) ?_ ?_
     · rw [un_not]
       rcases hd with ⟨rfl,hm,hex⟩ | ⟨rfl,hm,hall⟩
       · rw [Bool.not_true,condW_false]
         exact ⟨N,nv,rfl,hO7,hN7,hx7,hm⟩
       · rw [Bool.not_false,condW_true]
         refine hA7.all ?_
         refine rowa_app (w0:=w5) hO7 hN7 (x:=(a,sv5)) hH7 hx7 (Nat.le_refl _) hx7.size (by omega) fun v' w24 hO24 hN24 hx24 _ _ _=>?_
         refine ⟨N ++ [(a,sv5)],v',rfl,hO24,hN24,hx24,?_⟩
         rw [List.map_append,hm,insA_not hall]
         rfl
     rintro st g w25 ⟨N2,v2,rfl,h1,h2,h3,h4⟩
     simp only [List.getD_cons_zero]
     rw [bin_add,up1 (by omega)]
     refine ⟨hfin N2 v2 w25 h1 h2 h3 h4,?_⟩
     simp only [Int.toNat_natCast]; omega
 · have hal:az.length = l.length:=by omega
   rw [hal,List.take_length] at hazm
   have hlen:∀ K:Value → Prop,lenlW v K ↔ K (i64 (L.length:Nat)):=fun K=>by obtain ⟨q,c,e,_⟩:=hO2.sl.shape; rw [e,lenl_sl]
   rw [hlen]
   have hgL:∀ x ∈ L,goodAd x.1 = true:=fun x hx=>by
     have h1:x.1 ∈ L.map (·.1):=List.mem_map.2 ⟨x,hx,rfl⟩
     rw [hLm] at h1
     exact hazg _ ((sortA_perm az).mem_iff.1 h1)
   refine LoopW.go (fun st w'=>∃ (i:Nat) (u:Value),st = [u,i64 (i:Nat)] ∧ i ≤ L.length ∧ Own w' w2.heap.size ST 1 u i ((L.take i).map fun x=>str (showA x.1)) ∧ Ext w2 w') (fun st _=>match st with | [_,.int _ i]=>L.length - i.toNat | _=>0)
     ⟨0,_,rfl,Nat.zero_le _,⟨rfl,.inl ⟨rfl,rfl⟩⟩,Chg.refl _ _⟩ ?_
   rintro st g w27 ⟨i,u,rfl,hi,hO27,hx27⟩
   simp only [List.getD_cons_zero,List.getD_cons_succ]
   rw [bin_lss,condW_dec]
   refine ⟨fun hlt=>?_,fun hge=>?_⟩
   · have hlt:i < L.length:=by omega
     obtain ⟨x,hx⟩:∃ x,L[i]? = some x:=⟨_,List.getElem?_eq_getElem hlt⟩
     have hxm:=List.mem_of_getElem? hx
     obtain ⟨q,hq1,hq2⟩:=rowa_at (hO2.ext hx27) hx
     refine hq1 _ ?_
     refine hq2 w27 _ rfl ?_
     refine show22_ref (hgL x hxm) ((hL2 x hxm).ext hx27).rep fun w28 hx28=>?_
     refine row_s fun t w29 ht hx29=>?_
     have hx2729:=hx28.trans hx29
     have hO29:=hO27.ext hx2729
     have s27:=hx27.size
     have s29:=hx2729.size
     refine append_own3 elem_s hO29 ht (m:=1) rfl (fun u hu=>by simp only [List.mem_singleton] at hu; subst hu; rfl) (by omega) (by omega) (by omega) fun v' w30 hO30 hc30 _=>?_
     rw [bin_add,up1 (by omega)]
     refine ⟨⟨i + 1,v',rfl,by omega,?_,(hx27.trans hx2729).then hc30 fun k hk e=>by have:=(own_in hO29 e).1; omega⟩,?_⟩
     · rw [List.take_add_one,hx]
       simpa using hO30
     · simp only [Int.toNat_natCast]; omega
   · have hie:i = L.length:=by omega
     subst hie
     rw [List.take_length] at hO27
     refine hok az hazg hazm u w27 (hx2.trans hx27) ?_
     have e:(sortA az).map (fun a=>str (showA a)) = L.map fun x=>str (showA x.1):=by rw [← hLm,List.map_map]; rfl
     rw [e,← hLlen]
     exact hO27.sl
end
end Go.Proofs.YtnoepcndjljolaaGreatDoor
namespace Go.Proofs.YtnoepcndjljolaaGreatDoor
open Go Go.Eng Go.RowKit
set_option maxRecDepth 100000
section
variable [HX]
theorem shows_inj:∀ {az bz:List AV},(∀ a ∈ az,goodAd a = true) → (∀ b ∈ bz,goodAd b = true) → az.map showA = bz.map showA → az = bz
 | [],[],_,_,_=>rfl
 | [],b :: bz,_,_,h=>by simp at h
 | a :: az,[],_,_,h=>by simp at h
 | a :: az,b :: bz,ha,hb,h=>by
   simp only [List.map_cons,List.cons.injEq] at h
   rw [shows_inj (fun x hx=>ha x (by simp [hx])) (fun x hx=>hb x (by simp [hx])) h.2]
   have:a = b:=by
     have:=ha a (by simp)
     have:=hb b (by simp)
     exact show_inj (by assumption) (by assumption) h.1
   rw [this]
theorem asorts_true {T:TypeId} {lv:Value} {l:List Str} {w:World} {K:Value → World → Prop} (hT:TabA w) (h:SlAt w T lv l.length (l.map str) ∧ l.length ≤ 9223372036854775807) (hK:∀ w',Ext w w' → K (.bool true) w') :
   callF Tryz.prog 5 [lv] w K:=by
 obtain ⟨hs,_⟩:=h
 refine W5_ok ?_
 unfold W5
 refine awake_a hT fun w1 hx1=>?_
 have hs1:=hs.ext hx1
 rw [un_not,Bool.not_true]
 refine GdW.look (decide ((40:Int) < (l.length:Int))) (fun _ J hJ=>by rw [lenl_at hs1,bin_gtr]; exact hJ) fun g=>?_
 simp only [List.getD_cons_zero,isB_f]
 rw [pick_gd_or,condW_b]
 refine ⟨fun _=>awake_a (hT.ext hx1) fun w2 hx2=>hK w2 (hx1.trans hx2),fun e=>?_⟩
 have hn:l.length ≤ 40:=by
   rw [Bool.false_or,decide_eq_false_iff_not] at e
   omega
 rw [lenl_at hs1]
 refine loop_up l.length (fun i w'=>w' = w1 ∧ ∀ s ∈ l.take i,s.length ≤ 1000) ⟨rfl,by simp⟩ ?_ ?_
 · rintro i w6 g L hi ⟨rfl,hall⟩ hL
   obtain ⟨s,hsi⟩:∃ s,l[i]? = some s:=⟨_,List.getElem?_eq_getElem hi⟩
   simp only [List.getD_cons_zero]
   rw [bin_lss,decide_eq_true (by omega),condW_true]
   refine text_ld hs1 hsi ?_
   rw [lens_str,bin_gtr,condW_dec]
   refine ⟨fun _=>hK w6 hx1,fun hle=>?_⟩
   rw [bin_add,up1 (by omega)]
   refine hL w6 ⟨rfl,fun s' hs'=>?_⟩
   rw [List.take_add_one,hsi] at hs'
   rcases List.mem_append.1 hs' with h | h
   · exact hall s' h
   · simp only [Option.toList_some,List.mem_singleton] at h
     subst h; omega
 rintro w6 g L ⟨rfl,hall⟩
 rw [List.take_length] at hall
 simp only [List.getD_cons_zero]
 rw [bin_lss,decide_eq_false (by omega),condW_false]
 refine row_0 fun t w7 hO7 hx7=>?_
 refine app_ss (w0:=w6) (l:=[]) hO7 (hs1.ext hx7) hx7.size (Nat.le_refl _) hx7 (by simp; omega) fun iv w8 hO8 hx8 hc8=>?_
 rw [List.nil_append] at hO8
 have hin:=hO8.sl
 have hx08:=hx1.trans hx8
 have hs8:=hs1.ext hx8
 have hlen:∀ s ∈ l,s.length ≤ 400000:=fun s hs=>by have:=hall s hs; omega
 have self:∀ {w':World} {u v:Value} {T1 T2:TypeId} {m:List Str} {K:Value → World → Prop},SlAt w' T1 u m.length (m.map str) → SlAt w' T2 v m.length (m.map str) → m.length ≤ 1000 → (∀ w'',Ext w' w'' → K (.bool true) w'') → callF Tryz.prog 21 [u,v] w' K:=fun {w' u v T1 T2 m K} h1 h2 hm hk=>
   texts_ref h1 h2 (by omega) fun w'' hx=>by
     have:=hk w'' hx
     rw [decide_eq_true rfl]
     exact this
 refine asort_all (hT.ext hx08) (by omega) hlen hin (fun az hg hm v w9 hx9 hv9=>?_) (fun hbad w9 hx9=>?_)
 · simp only [ext_tuple]
   refine ⟨_,rfl,_,rfl,?_⟩
   refine sort22_ref (by omega) hlen (hs8.ext hx9) (fun bz hg2 hm2 u w10 hx10 hu10=>?_) (fun hbad=>?_)
   · obtain rfl:bz = az:=shows_inj hg2 hg (hm2.trans hm.symm)
     simp only [ext_tuple]
     refine ⟨_,rfl,_,rfl,?_⟩
     have hx810:=hx9.trans hx10
     refine self (hin.ext hx810) (hs8.ext hx810) (by omega) fun w11 hx11=>?_
     rw [un_not,Bool.not_true,condW_false,un_not,Bool.not_true,condW_false,bin_eql,decide_eq_true rfl]
     refine GdW.act true (fun w'=>Ext w11 w') (fun e=>by cases e) (fun _ J hJ=>?_) fun g w16 hx16=>?_
     · have hl:bz.length = ((sortA bz).map showA).length:=by rw [List.length_map,(sortA_perm bz).length_eq]
       have hmm:(sortA bz).map (fun a=>str (showA a)) = ((sortA bz).map showA).map str:=by rw [List.map_map]; rfl
       rw [hmm,hl] at hv9 hu10
       refine self ((hv9.ext hx10).ext hx11) (hu10.ext hx11) (by rw [← hl]; have:=congrArg List.length hm; rw [List.length_map] at this; omega) fun w15 hx15=>hJ w15 hx15
     simp only [List.getD_cons_zero,isB_t]
     rw [pick_gd_and]
     exact hK w16 (hx08.trans (hx810.trans (hx11.trans hx16)))
   · obtain ⟨s,hs,hno⟩:=hbad
     rw [← hm] at hs
     obtain ⟨a,ha,rfl⟩:=List.mem_map.1 hs
     exact absurd rfl (hno a (hg a ha))
 · simp only [ext_tuple]
   refine ⟨_,rfl,_,rfl,?_⟩
   refine sort22_ref (by omega) hlen (hs8.ext hx9) (fun bz hg2 hm2=>?_) (fun _ w10 hx10=>?_)
   · obtain ⟨s,hs,hno⟩:=hbad
     rw [← hm2] at hs
     obtain ⟨a,ha,rfl⟩:=List.mem_map.1 hs
     exact absurd rfl (hno a (hg2 a ha))
   · simp only [ext_tuple]
     refine ⟨_,rfl,_,rfl,?_⟩
     have hx810:=hx9.trans hx10
     refine self (hin.ext hx810) (hs8.ext hx810) (by omega) fun w11 hx11=>?_
     rw [un_not,Bool.not_true,condW_false,un_not,Bool.not_false,condW_true,bin_eql,decide_eq_true rfl]
     refine GdW.look true (fun _ J hJ=>by rw [lenl_sl,bin_eql,show decide (((0:Nat):Int) = 0) = true from rfl]; exact hJ) fun g=>?_
     simp only [List.getD_cons_zero,isB_t]
     rw [pick_gd_and]
     exact hK w11 (hx08.trans (hx810.trans hx11))
end
end Go.Proofs.YtnoepcndjljolaaGreatDoor
namespace Go.Eng
open Go Go.Deep
theorem flat_get {k:Nat}:∀ (L:List (List Value)) (i r:Nat) (y:List Value),(∀ z ∈ L,z.length = k) → r < k → L[i]? = some y → L.flatten[i * k + r]? = y[r]?
 | [],i,_,_,_,_,h=>by simp at h
 | z :: L,0,r,y,hl,hr,h=>by
   simp only [List.getElem?_cons_zero,Option.some.injEq] at h
   subst h
   simp only [List.flatten_cons,Nat.zero_mul,Nat.zero_add]
   rw [List.getElem?_append_left (by rw [hl z List.mem_cons_self]; exact hr)]
 | z :: L,i + 1,r,y,hl,hr,h=>by
   simp only [List.getElem?_cons_succ] at h
   have:=flat_get L i r y (fun u hu=>hl u (List.mem_cons_of_mem _ hu)) hr h
   rw [← this]
   simp only [List.flatten_cons]
   have hz:=hl z List.mem_cons_self
   rw [List.getElem?_append_right (by rw [hz,Nat.add_mul]; omega)]
   congr 1
   rw [hz,Nat.add_mul]
   omega
theorem flat_len {k:Nat}:∀ (L:List (List Value)),(∀ z ∈ L,z.length = k) → L.flatten.length = L.length * k
 | [],_=>by simp
 | z :: L,hl=>by
   rw [List.flatten_cons,List.length_append,flat_len L fun u hu=>hl u (List.mem_cons_of_mem _ hu),hl z List.mem_cons_self,List.length_cons,Nat.add_mul]
   omega
section
variable {H:Type} {enc:TypeId × Value → H} {P:Program} {w:World} {base:Nat} {spare:Nat → Bool} {held:Bool}
theorem open_rows {t e:TypeId} {k fuel:Nat} {v:Value} {d:DataW H} {ps:List MemPlace} (ht:P.underlying t = some (.slice e)) (hk:P.cellsOf e = k) (hk0:0 < k) (h:DataW.trod enc P w base spare held fuel t [v] = some (d,ps)) :
   ∃ p n c T m,∃ (f:Nat → List Value) (D:Nat → DataW H) (Pl:Nat → List MemPlace),v = .slice p n c ∧ SlAt w T (.slice p n c) n ((List.range n).map f).flatten ∧
     (∀ i,i < n → (f i).length = k ∧ DataW.trod enc P w base spare held m e (f i) = some (D i,Pl i)) ∧ ((n = 0 ∧ d = .nil) ∨ ∃ rest,d = .slice ((List.range n).map D) rest):=by
 rcases open_slice ht h with ⟨hc,hx⟩ | ⟨a,len,cap,m,n,D,Pl,hc,_,hl,hm,hme,hx,hel⟩
 · cases hc
   cases hx
   refine ⟨none,0,0,0,0,fun _=>[],fun _=>.nil,fun _=>[],rfl,?_,fun i hi=>by omega,.inl ⟨rfl,rfl⟩⟩
   simpa using SlAt.nil w 0
 · cases hc
   cases hx
   have hlm:len ≤ m:=by rw [hme]; split <;> omega
   obtain ⟨f,hf⟩:=choose_lt (n:=len) fun i hi=>hel i (by omega)
   have hfl:∀ i,i < len → (f i).length = k:=fun i hi=>by rw [(World.cells?_some (hf i hi).1).2.1,hk]
   have hall:∀ z ∈ (List.range len).map f,z.length = k:=by
     intro z hz
     obtain ⟨i,hi,rfl⟩:=List.mem_map.1 hz
     exact hfl i (List.mem_range.1 hi)
   have hcell:∀ i r,i < len → r < k → w.cell? (a.add (i * k + r)) = (f i)[r]?:=by
     intro i r hi hr
     have:=(World.cells?_some (hf i hi).1).2.2 r (by omega)
     rw [add_add,hk] at this
     exact this
   by_cases h0:len = 0
   · subst h0
     refine ⟨some a,0,cap,0,n,f,D,Pl,rfl,⟨some a,cap,rfl,Nat.zero_le _,(by intro e; cases e),(by simp)⟩,fun i hi=>by omega,.inr ⟨_,rfl⟩⟩
   have h00:=hcell 0 0 (by omega) hk0
   have hf0:=hfl 0 (by omega)
   rw [List.getElem?_eq_getElem (by omega)] at h00
   obtain ⟨c,T,fr,hb,hsp⟩:∃ c T fr,w.heap[a.block]? = some (.cells c T fr) ∧ a.spot = none:=by
     unfold World.cell? at h00
     have e1:(a.add (0 * k + 0)).block = a.block:=by unfold Addr.add; split <;> rfl
     have e2:(a.add (0 * k + 0)) = a:=by unfold Addr.add; simp
     rw [e2] at h00
     split at h00
     · rename_i c T fr hb
       refine ⟨c,T,fr,hb,?_⟩
       cases hs:a.spot with
       | none=>rfl
       | some _=>simp [hs] at h00
     · cases h00
   obtain ⟨b,off,sp⟩:=a
   simp only at hsp hb
   subst hsp
   refine ⟨some ⟨b,off,none⟩,len,cap,T,n,f,D,Pl,rfl,⟨_,_,rfl,hl,(by intro e; cases e),fun _=>⟨b,off,c,fr,rfl,hb,fun j hj=>?_⟩⟩,fun i hi=>⟨hfl i hi,(hf i hi).2⟩,.inr ⟨_,rfl⟩⟩
   rw [flat_len _ hall,List.length_map,List.length_range] at hj
   have hi:j / k < len:=by rw [Nat.div_lt_iff_lt_mul hk0]; exact hj
   have hr:j % k < k:=Nat.mod_lt _ hk0
   have hjj:j / k * k + j % k = j:=by rw [Nat.mul_comm]; exact Nat.div_add_mod j k
   have h1:=hcell (j / k) (j % k) hi hr
   rw [hjj,add_mk,cell_eq,hb,cellO_some] at h1
   have h2:=flat_get ((List.range len).map f) (j / k) (j % k) (f (j / k)) hall hr (by simp [hi])
   rw [hjj] at h2
   rw [h1,h2]
end
end Go.Eng
namespace Go.Proofs.YtnoepcndjljolaaGreatDoor
open Go Go.Eng Go.Num Go.Deep
set_option maxRecDepth 100000
instance:Inhabited JV:=⟨JV.null⟩
section
variable {H:Type} {enc:TypeId × Value → H} {w:World} {base:Nat} {spare:Nat → Bool} {held:Bool}
theorem open_len {P:Program} {t e:TypeId} {fuel:Nat} {p:Option Addr} {n c:Nat} {x:DataW H × List MemPlace} (ht:P.underlying t = some (.slice e)) (h:DataW.trod enc P w base spare held fuel t [.slice p n c] = some x):n ≤ 9223372036854775807:=by
 rcases Deep.open_slice ht h with ⟨hc,_⟩ | ⟨a,len,cap,m,n',D,Pl,hc,_,hl,hm,_⟩
 · cases hc; omega
 · cases hc; unfold maxLen at hm; omega
theorem open_texts {P:Program} {t e:TypeId} {fuel:Nat} {v:Value} {d:DataW H} {ps:List MemPlace} (ht:P.underlying t = some (.slice e)) (he:P.underlying e = some .string) (hk:P.cellsOf e = 1) (h:DataW.trod enc P w base spare held fuel t [v] = some (d,ps)) :
   ∃ (T:TypeId) (l:List Str),SlAt w T v l.length (l.map str) ∧ l.length ≤ 9223372036854775807 ∧ ∀ s ∈ l,s.length ≤ 9223372036854775807:=by
 obtain ⟨p,n,c,T,m,f,D,Pl,rfl,hs,hf,hd⟩:=open_rows ht hk (by omega) h
 have hn:=open_len ht h
 have hex:∀ i,i < n → ∃ b:Str,f i = [str b] ∧ b.length ≤ 9223372036854775807:=by
   intro i hi
   obtain ⟨s,hx,_,hw⟩:=DataW.trod_string he (hf i hi).2
   refine ⟨s.data.toList,by rw [hx]; simp [ofL],?_⟩
   unfold maxLen at hw
   simpa using hw
 obtain ⟨g,hg⟩:=choose_lt hex
 have hfl:((List.range n).map f).flatten = ((List.range n).map g).map str:=by
   have:(List.range n).map f = (List.range n).map fun i=>[str (g i)]:=List.map_congr_left fun i hi=>(hg i (List.mem_range.1 hi)).1
   rw [this]
   simp only [List.map_map]
   generalize List.range n = L
   induction L with
   | nil=>rfl
   | cons a L ih=>simp only [List.map_cons,List.flatten_cons,ih,Function.comp_apply]; rfl
 rw [hfl] at hs
 refine ⟨T,(List.range n).map g,by simpa using hs,by simpa using hn,fun s hs=>?_⟩
 obtain ⟨i,hi,rfl⟩:=List.mem_map.1 hs
 exact (hg i (List.mem_range.1 hi)).2
end
end Go.Proofs.YtnoepcndjljolaaGreatDoor
namespace Go.Proofs.YtnoepcndjljolaaGreatDoor
open Go.RowKit Go.Eng
set_option maxRecDepth 100000
theorem tab_reads {P:Program} {w:World} {name:String} {k:IntKind} {zs:List Int} {g:Nat} {t e:TypeId} {n:Nat} (hg:P.globalNamed name = some g) (hty:(P.globals[g]?).map (·.type) = some t) (ht:P.underlying t = some (.array n e)) (he:P.underlying e = some (.int k)) (hce:P.cellsOf e = 1) (hct:P.cellsOf t = n)
   (h:Lib.VarReads P w name (Lib.tabData k zs)):Lib.TabIs P w name k zs:=by
 obtain ⟨g',t',cs,fuel,p,hg',ht',hvar,hd⟩:=h
 obtain rfl:=Option.some.inj (hg.symm.trans hg')
 obtain rfl:=Option.some.inj (hty.symm.trans ht')
 unfold Lib.TabIs
 rw [hvar,← Lib.cells_of_tab ht he hce hct hd]
def bruTab:List Int:=[0,1,56,2,57,49,28,3,61,58,42,50,38,29,17,4,62,47,59,36,45,43,51,22,53,39,33,30,24,18,12,5,63,55,48,27,60,41,37,16,46,35,44,21,52,32,23,11,54,26,40,15,34,20,31,10,25,14,19,9,13,8,7,6]
theorem tabs_of {w:World} (hL:laidMetH Tryz.prog Rows.addrSortsRow.laid w):Tabs w:=by
 have h:laidMet Tryz.prog Rows.addrSortsRow.laid w:=by
   rw [Go.MakeChecks.laidMetH_plain _ _ _ (by kernel_rfl)] at hL
   exact hL
 have r:∀ n d,(n,d) ∈ Rows.addrSortsRow.laid → Lib.VarReads Tryz.prog w n d:=fun n d hm=>Lib.laidMet.reads h hm
 have r1:Lib.VarReads Tryz.prog w "math/bits.deBruijn64tab" (Lib.tabData .u8 bruTab):=r _ _ (.tail _ (.head _))
 have r2:Lib.VarReads Tryz.prog w "internal/strconv.uint64pow10" (Lib.tabData .u64 Lib.pow10Tab):=r _ _ (.tail _ (.tail _ (.head _)))
 have r3:Lib.VarReads Tryz.prog w "unicode/utf8.acceptRanges" Lib.acceptData:=r _ _ (.tail _ (.tail _ (.tail _ (.head _))))
 have r4:Lib.VarReads Tryz.prog w "unicode/utf8.first" Lib.firstData:=r _ _ (.tail _ (.tail _ (.tail _ (.tail _ (.tail _ (.tail _ (.head _)))))))
 refine ⟨?_,?_,?_⟩
 · exact Go.Proofs.utf8Tabs_of_readsT (Go.Proofs.U8Types.of196 Tryz.laysValid) ⟨by kernel_rfl,by kernel_rfl,by kernel_rfl,by kernel_rfl,by kernel_rfl,by kernel_rfl,by kernel_rfl⟩ r4 r3
 · have:=tab_reads (g:=7) (t:=261) (e:=U8) (n:=64) (by kernel_rfl) (by kernel_rfl) (by kernel_rfl) (by kernel_rfl) (by kernel_rfl) (by kernel_rfl) r1
   exact Lib.TabIs.cell this (by kernel_rfl) 15 (by decide)
 · exact tab_reads (g:=5) (t:=250) (e:=U64) (n:=20) (by kernel_rfl) (by kernel_rfl) (by kernel_rfl) (by kernel_rfl) (by kernel_rfl) (by kernel_rfl) r2
section
variable {H:Type} {enc:TypeId × Value → H} {w:World} {base:Nat} {spare:Nat → Bool} {held:Bool}
end
end Go.Proofs.YtnoepcndjljolaaGreatDoor
namespace Go.Proofs.YtnoepcndjljolaaGreatDoor
open Go.RowKit Go.Eng
set_option maxRecDepth 100000
theorem trod_iface {P:Program} {w:World} {fuel:Nat} {t:TypeId} {cs:List Value} {s:String} {x:DataW Unit} {p:List MemPlace} {m:Array TypeId} (ht:∃ m,P.underlying t = some (.interface m)) (h:DataW.trod (fun _=>()) P w 0 (fun _=>true) false fuel t cs = some (.iface s x,p)):∃ u v,cs = [.iface u v]:=by
 obtain ⟨m,ht⟩:=ht
 cases fuel with
 | zero=>cases h
 | succ fuel=>
   unfold DataW.trod at h
   rw [ht] at h
   match cs,h with
   | [],h=>cases h
   | [v],h=>
     cases v with
     | iface u v=>exact ⟨u,v,rfl⟩
     | _=>cases h
   | a :: b :: r,h=>simp at h
theorem tabe_of {w:World} {x:DataW Unit} {s:String} (h:Lib.VarReads Tryz.prog w "strconv.ErrSyntax" (.iface s x)):TabE w:=by
 obtain ⟨g',t',cs,fuel,p,hg',ht',hvar,hd⟩:=h
 have hg:Tryz.prog.globalNamed "strconv.ErrSyntax" = some 2:=by kernel_rfl
 have hty:(Tryz.prog.globals[2]?).map (·.type) = some 103:=by kernel_rfl
 obtain rfl:=Option.some.inj (hg.symm.trans hg')
 obtain rfl:=Option.some.inj (hty.symm.trans ht')
 obtain ⟨u,v,hcs⟩:=trod_iface (m:=#[]) ⟨_,Tryz.underlying103⟩ hd
 have:=World.var?_cell hg hvar 0
 refine ⟨u,v,?_⟩
 rw [this]
 have e:cs = #[.iface u v]:=by
   apply Array.ext'
   rw [hcs]
 rw [e]; rfl
theorem tabsj_of {w:World} (hL:laidMetH Tryz.prog Rows.addrSortsRow.laid w):TabJ w:=by
 have h:laidMet Tryz.prog Rows.addrSortsRow.laid w:=by
   rw [Go.MakeChecks.laidMetH_plain _ _ _ (by kernel_rfl)] at hL
   exact hL
 have r:∀ n d,(n,d) ∈ Rows.addrSortsRow.laid → Lib.VarReads Tryz.prog w n d:=fun n d hm=>Lib.laidMet.reads h hm
 have hT:=tabs_of (w:=w) hL
 have r5:Lib.VarReads Tryz.prog w "strconv.ErrSyntax" Rows.laid_strconv_ErrSyntax:=r _ _ (.tail _ (.tail _ (.tail _ (.tail _ (.tail _ (.head _))))))
 exact ⟨hT.utf,hT.bru,tabe_of r5⟩
section
variable {H:Type} {enc:TypeId × Value → H} {w:World} {base:Nat} {spare:Nat → Bool} {held:Bool}
end
end Go.Proofs.YtnoepcndjljolaaGreatDoor
namespace Go.Proofs.YtnoepcndjljolaaGreatDoor
open Go Go.RowKit Go.Eng
set_option maxRecDepth 100000
theorem tabr_of {w:World} {x:DataW Unit} {s:String} (h:Lib.VarReads Tryz.prog w "strconv.ErrRange" (.iface s x)):∃ T v,w.cell? ⟨3,0,none⟩ = some (.iface T v):=by
 obtain ⟨g',t',cs,fuel,p,hg',ht',hvar,hd⟩:=h
 have hg:Tryz.prog.globalNamed "strconv.ErrRange" = some 3:=by kernel_rfl
 have hty:(Tryz.prog.globals[3]?).map (·.type) = some 103:=by kernel_rfl
 obtain rfl:=Option.some.inj (hg.symm.trans hg')
 obtain rfl:=Option.some.inj (hty.symm.trans ht')
 obtain ⟨u,v,hcs⟩:=trod_iface (m:=#[]) ⟨_,Tryz.underlying103⟩ hd
 have:=World.var?_cell hg hvar 0
 refine ⟨u,v,?_⟩
 rw [this]
 have e:cs = #[.iface u v]:=by
   apply Array.ext'
   rw [hcs]
 rw [e]; rfl
theorem taba_of {w:World} (hL:laidMetH Tryz.prog Rows.addrSortsRow.laid w):TabA w:=by
 have h:laidMet Tryz.prog Rows.addrSortsRow.laid w:=by
   rw [Go.MakeChecks.laidMetH_plain _ _ _ (by kernel_rfl)] at hL
   exact hL
 have r:∀ n d,(n,d) ∈ Rows.addrSortsRow.laid → Lib.VarReads Tryz.prog w n d:=fun n d hm=>Lib.laidMet.reads h hm
 have hT:=tabs_of (w:=w) hL
 have hJ:=tabsj_of (w:=w) hL
 have r4:Lib.VarReads Tryz.prog w "strconv.ErrRange" Rows.laid_strconv_ErrRange:=r _ _ (.tail _ (.tail _ (.tail _ (.tail _ (.head _)))))
 exact ⟨hT,hJ.err,tabr_of r4⟩
section
variable {H:Type} {enc:TypeId × Value → H} {w:World} {base:Nat} {spare:Nat → Bool} {held:Bool}
theorem open_strs {v:Value} {d:DataW H} {ps:List MemPlace} {r:Reach} {b0:Nat} (hval:Value.okWide Tryz.prog w r b0 38 v) (h:DataW.Trod enc Tryz.prog w base spare held 38 v d ps):∃ (T:TypeId) (l:List Str),SlAt w T v l.length (l.map str) ∧ l.length ≤ 9223372036854775807:=by
 obtain ⟨fuel,h⟩:=h
 obtain ⟨a,len,cap,rfl⟩:=Go.WideShapes.okWide_slice Tryz.underlying38 hval
 have hone:(Value.slice a len cap).cells.toList = [Value.slice a len cap]:=rfl
 rw [hone] at h
 obtain ⟨T,l,h1,h2,_⟩:=open_texts Tryz.underlying38 Tryz.underlying9 (by kernel_rfl) h
 exact ⟨T,l,h1,h2⟩
end
end Go.Proofs.YtnoepcndjljolaaGreatDoor
