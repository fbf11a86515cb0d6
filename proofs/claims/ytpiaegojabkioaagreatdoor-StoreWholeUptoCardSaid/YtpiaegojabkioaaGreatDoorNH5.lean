/- One plain sentence: weakest preconditions, contracts and plain laws that the claim rests on, text behind text. Conditions: those that each states. -/
import Derived.Test.YtpiaegojabkioaaGreatDoorNH4
import Derived.Test.YtpiaegojabkioaaGreatDoorNH2
import Derived.Test.YtpiaegojabkioaaGreatDoorNH3
import Derived.Lib.ItoaNum
import Derived.Lib.Atoi
import Derived.Lib.AtoiBound
import Derived.Lib.AtoiAll
import Derived.ArgAppend
import Derived.Lib.SlBytesConst
import Derived.Test.YtpiaegojabkioaaGreatDoorNH1
import Derived.Deep.Slices
import Derived.DataReads
import Derived.ChangeArms
import Derived.OpenShut
import Derived.Test.YtpiaegojabkioaaGreatDoorRows
import Derived.Below
import Derived.RowKit
import Derived.ChangeMaps5
import Derived.MakeChecks
import Derived.Lib.LaidU8T
import Derived.Lib.LaidTab
import Derived.JoinedCond
import Derived.Handed
set_option linter.all false
set_option linter.unusedSimpArgs false
set_option linter.unusedVariables false
set_option linter.unusedSectionVars false
namespace Go.Proofs.YtpiaegojabkioaaGreatDoor
open Go Go.Eng Go.RowKit
set_option maxRecDepth 100000
theorem few_cnt (v : JV) : plainM v = true → cntM v ≤ 100000 → fewM v = true := by
 induction v using JV.ind' with
 | h v ih =>
   intro hp hc
   rw [plainM_eq,Bool.and_eq_true,plainL_all,List.all_eq_true] at hp
   obtain ⟨_,_,_,_,_,k6,_,_,k9,_⟩ := headOk_out hp.1
   have hcl : cntM v = 1 + cntL v.xs := by cases v; rfl
   have hlen : ∀ xs : List JV,xs.length ≤ cntL xs := fun xs => by
     induction xs with
     | nil => exact Nat.zero_le _
     | cons x xs ih2 =>
       have := cnt_pos x
       simp only [List.length_cons,cntL]
       omega
   have hmem : ∀ (xs : List JV) x,x ∈ xs → cntM x ≤ cntL xs := fun xs => by
     induction xs with
     | nil => intro x hx; cases hx
     | cons y xs ih2 =>
       intro x hx
       simp only [cntL]
       rcases List.mem_cons.1 hx with rfl | hx
       · omega
       · have := ih2 x hx; omega
   have h1 := hlen v.xs
   rw [fewM_eq,fewL_all]
   have e2 : v.ks.length ≤ 100000 := by
     by_cases hk : v.ks = []
     · rw [hk]; simp
     · have := k9 (k6 hk); omega
   rw [decide_eq_true (by omega : v.xs.length ≤ 100000),decide_eq_true e2]
   simp only [Bool.and_self,Bool.true_and,List.all_eq_true]
   intro x hx
   exact ih x hx (hp.2 x hx) (by have := hmem _ _ hx; omega)
theorem word_pre (s p : Str) (i : Nat) : Lib.hasPrefix (s.drop i) p = wordM s i p := by
 have e : Lib.hasPrefix (s.drop i) p = p.isPrefixOf (s.drop i) := rfl
 rw [e]
 unfold wordM
 by_cases h : (s.drop i).take p.length = p
 · rw [decide_eq_true h,List.isPrefixOf_iff_prefix,List.prefix_iff_eq_take]
   exact h.symm
 · rw [decide_eq_false h]
   cases hb : p.isPrefixOf (s.drop i) with
   | false => rfl
   | true =>
     rw [List.isPrefixOf_iff_prefix,List.prefix_iff_eq_take] at hb
     exact absurd hb.symm h
section
variable [HX]
theorem word_p {s p : Str} {i : Nat} {w : World} {K : Value → World → Prop} (hK : K (.bool (wordM s i p)) w) : callF Tryz.prog 92 [str (s.drop i),str p] w K := by
 refine of_calls (args := #[str (s.drop i),str p]) Tryz.call92 ((Tryz.strings_HasPrefix (ofL (s.drop i)) (ofL p) w).mono ?_)
 rintro e w' ⟨rfl,rfl⟩
 refine ⟨_,rfl,?_⟩
 rw [ofL_data,ofL_data,word_pre]
 exact hK
def VP (n : Nat) : Prop := ∀ {deep i c p : Nat} {s : Str} {w : World} {K : Value → World → Prop},Rdr w p s i c → TabU w → TabE w → i ≤ s.length → s.length ≤ 65536 → c ≤ 2000 → deep ≤ 25 → 2 * (2000 - c) + 1 ≤ n →
 (∀ v j c',valM En s n deep i c = .ok v j c' → ∀ cs w',Rdr w' p s j c' → Chg (Cr p) w w' → VRepP (From w.heap.size) w' v cs → K (.agg cs.toArray) w') → (∀ e j,valM En s n deep i c = .bad e j → Thr w p e j) →
 callF Tryz.prog 65 [.pointer (some ⟨p,0,none⟩),i64 (deep : Nat)] w K
theorem list_p {n deep i c p : Nat} {s : Str} {w : World} {K : Value → World → Prop} (ih : ∀ m,m ≤ n → VP m) (h : Rdr w p s i c) (hT : TabU w) (hE : TabE w) (hi : i < s.length) (hs : s.length ≤ 65536) (hc : c ≤ 2000) (hdeep : deep ≤ 24) (hn : 2 * (2000 - c) + 2 ≤ n)
   (hok : ∀ v j c',(if byteM s (blankM s (i + 1)) = 93 then .ok (.mk 5 false [] [] []) (blankM s (i + 1) + 1) c else listM En s n deep (blankM s (i + 1)) c []) = RR.ok v j c' → ∀ cs w',Rdr w' p s j c' → Chg (Cr p) w w' → VRepP (From w.heap.size) w' v cs → K (.agg cs.toArray) w')
   (hbad : ∀ e j,(if byteM s (blankM s (i + 1)) = 93 then .ok (.mk 5 false [] [] []) (blankM s (i + 1) + 1) c else listM En s n deep (blankM s (i + 1)) c []) = RR.bad e j → Thr w p e j) :
   callF Tryz.prog 97 [.pointer (some ⟨p,0,none⟩),i64 (deep : Nat)] w K := by
 refine W97_ok ?_
 unfold W97
 have hp := h.lt
 refine alloc_new fun a4 w1 ha4 hz1 hb4 hx1 => ?_
 rw [put_int]
 refine ⟨by simp,?_⟩
 rw [put_nil]
 simp only [List.set_cons_zero]
 refine alloc_new fun a5 w2 ha5 hz2 hb5 hx2 => ?_
 refine st_agg_at (l := [i64 5,.bool false,str [],.slice none 0 0,.slice none 0 0]) hb5 rfl rfl rfl fun w3 hz3 hb5 hc3 => ?_
 have hx3 : Ext w w3 := (hx1.trans hx2).new hc3 (by omega)
 have h3 := h.ext hx3
 have hb4 := hc3.at (hx2.at hb4 id) (by omega)
 refine h3.go (k := 1) (by omega) fun w4 h4 hc4 hz4 => ?_
 refine blanks_p h4 (by omega) (by omega) fun w5 h5 hc5 => ?_
 have hc35 := hc4.trans hc5
 have hcw5 := (Chg.of_ext hx3).trans hc35
 have hble : blankM s (i + 1) ≤ s.length := blank_le (by omega)
 have hbge := blank_ge s (i + 1)
 generalize hj0 : blankM s (i + 1) = j0 at *
 have keep5 : ∀ {w' w'' : World} {a : Nat} {o : Obj},Chg (Cr p) w' w'' → w'.heap[a]? = some o → w.heap.size ≤ a → w''.heap[a]? = some o := fun hc hb hle => hc.at hb fun e => by
   have e : _ = p := e
   omega
 -- what is handed back
 have fin : ∀ {w6 : World} {sv : Value} {acc : List JV} {L : List Value} {B j c' : Nat},Rdr w6 p s j c' → Chg (Cr p) w w6 → w6.heap[a4]? = some (.cells [i64 0,.bool false,str [],.slice none 0 0,.slice none 0 0].toArray VT (0,0)) → w6.heap[a5]? = some (.cells [i64 5,.bool false,str [],sv,.slice none 0 0].toArray VT (0,0)) →
     Own w6 B VT 5 sv acc.length L → VRepsP (From B) w6 acc L → a4 < B → w.heap.size ≤ B → acc.length ≤ 2000 → (∀ cs w',Rdr w' p s j c' → Chg (Cr p) w w' → VRepP (From w.heap.size) w' (.mk 5 false [] acc []) cs → K (.agg cs.toArray) w') →
     ldW true 5 (.pointer (some ⟨a5,0,none⟩)) w6 fun t18 => stW 5 (.pointer (some ⟨a4,0,none⟩)) t18 w6 fun w8 => ldW true 5 (.pointer (some ⟨a4,0,none⟩)) w8 fun r9 => K r9 w8 := fun {w6 sv acc L B j c'} h6 hc6 hb4 hb5 hO hR hB hwB hal hk => by
   refine ld_all hb5 rfl ?_
   refine ret_leaf (l := [i64 5,.bool false,str [],sv,.slice none 0 0]) hb4 rfl rfl (obj_one (own_one hO) rfl) fun w7 hc7 => ?_
   refine hk _ w7 (hc7.at h6 fun e => by have e : p = a4 := e; omega) (hc6.then hc7 fun k hk e => by have e : k = a4 := e; omega) ?_
   have hrep : VRepP (From B) w6 (.mk 5 false [] acc []) [i64 5,.bool false,str [],sv,.slice none 0 0] :=
     VRepP.mk (v := .mk 5 false [] acc []) (T1 := VT) (T2 := 0) (L := L) hO.sl hR (SlAt.nil w6 0) ⟨by show acc.length ≤ _; omega,by simp [JV.ks],by simp [JV.t],by simp [JV.ks]⟩ (fun _ q hq => (own_in hO hq).1) (fun e => absurd rfl e)
   exact (VRepP.chg hc7 (fun q hq _ e => by have : B ≤ q := hq; have e : q = a4 := e; omega) hrep).mono fun q _ hq => by have : B ≤ q := hq; show w.heap.size ≤ q; omega
 refine take_p (n := 93) h5 hble (by omega) (fun e w6 h6 hc6 => ?_) (fun e w6 h6 hc6 => ?_)
 · have e : byteM s j0 = 93 := e
   rw [if_pos e] at hok
   rw [condW_true]
   have hc6' := hcw5.trans hc6
   have hc36 := hc35.trans hc6
   refine fin (B := w3.heap.size) (acc := []) (L := []) h6 hc6' (keep5 hc36 hb4 (by omega)) (keep5 hc36 hb5 (by omega)) ⟨by simp,.inl ⟨rfl,rfl⟩⟩ (by simp [VRepsP]) (by omega) (by omega) (by simp) fun cs w' h' hc' hr' => hok _ _ _ rfl cs w' h' hc' hr'
 have e : byteM s j0 ≠ 93 := e
 rw [if_neg e] at hok hbad
 rw [condW_false]
 have hc36 := hc35.trans hc6
 refine LoopW.go (fun st w' => st = [] ∧ ∃ m j c' acc sv L,Rdr w' p s j c' ∧ Chg (Cr p) w w' ∧ w'.heap[a4]? = some (.cells [i64 0,.bool false,str [],.slice none 0 0,.slice none 0 0].toArray VT (0,0)) ∧ w'.heap[a5]? = some (.cells [i64 5,.bool false,str [],sv,.slice none 0 0].toArray VT (0,0)) ∧
     Own w' w3.heap.size VT 5 sv acc.length L ∧ VRepsP (fun q => w3.heap.size ≤ q ∧ sv.ownBlock ≠ some q) w' acc L ∧ m ≤ n ∧ 2 * (2000 - c') + 2 ≤ m ∧ c' ≤ 2000 ∧ acc.length ≤ c' ∧ j ≤ s.length ∧ listM En s m deep j c' acc = listM En s n deep j0 c []) (fun _ w' => s.length + 1 - rdAt w' p)
   ⟨rfl,n,j0,c,[],.slice none 0 0,[],h6,hcw5.trans hc6,keep5 hc36 hb4 (by omega),keep5 hc36 hb5 (by omega),⟨by simp,.inl ⟨rfl,rfl⟩⟩,by simp [VRepsP],Nat.le_refl _,hn,hc,Nat.zero_le _,hble,rfl⟩ ?_
 rintro st g w7 ⟨rfl,m,j,c',acc,sv,L,h7,hc7,hb4,hb5,hO,hR,hmn,hm,hc2,hacc,hj,heq⟩
 obtain ⟨m,rfl⟩ : ∃ m',m = m' + 1 := ⟨m - 1,by omega⟩
 rw [listM] at heq
 rw [← heq] at hok hbad
 have hxd : Ext w7 w7.drew := Chg.drew (Chg.refl (fun _ => False) w7)
 rw [fld_ptr,add_mk,ld_one]
 refine ⟨sv,by rw [cell_eq,heap_drew,hb5]; rfl,?_⟩
 rw [bin_add,up1 (by omega)]
 have h7d := h7.ext hxd
 have hc7d := hc7.then hxd fun _ _ e => e.elim
 refine ih m (by omega) h7d (hT.rd h hc7d) (hE.rd h hc7d) hj hs hc2 (by omega) (by omega) (fun x j1 c1 hv cs w8 h8 hc8 hr8 => ?_) (fun e1 j1 hv => ?_)
 · rw [hv] at hok hbad
   simp only at hok hbad
   have hbk := val_back hj hc2 hv
   have hcp := cnt_pos x
   have hcnt := hbk.cnt
   have hmax := hbk.max
   have hlen := hbk.len
   have hfit := hbk.fits
   have hc78 : Chg (Cr p) w7 w8 := (Chg.of_ext hxd).trans hc8
   have hb48 := keep5 hc78 hb4 (by omega)
   have hb58 := keep5 hc78 hb5 (by omega)
   have s3 : w3.heap.size ≤ w7.heap.size := by have := at_lt hb5; have := hc7.size; omega
   have nown : ∀ q,sv.ownBlock = some q → q ≠ p := fun q hq e => by have := (own_in hO hq).1; omega
   have hO8 := own_chg hO hc78 fun q hq e => nown q hq e
   have hR8 := VRepsP.chg hc78 (fun q hq _ e => by have := hq.1; have e : q = p := e; omega) hR
   have ld8 : ∀ {w' : World},w'.heap[a5]? = some (.cells [i64 5,.bool false,str [],sv,.slice none 0 0].toArray VT (0,0)) → ldW false 1 (.pointer (some ⟨a5,0 + 3,none⟩)) w' fun x => x = sv := fun hb => by
     rw [ld_one]; exact ⟨sv,by rw [cell_eq,hb]; rfl,rfl⟩
   refine ⟨ld8 hb58,?_⟩
   refine row_v hr8.rep.len fun t w9 ht hx9 => ?_
   refine ⟨ld8 (hx9.at hb58 id),?_⟩
   have hO9 := own_chg hO8 hx9 fun _ _ e => e
   have s78 := hc78.size
   have s9 := hx9.size
   have hglt : ∀ k,sv.ownBlock = some k → k < w7.heap.size := fun k hk => (own_in hO hk).2.1
   refine append_own3 elem_v hO9 ht (m := 1) (by rw [hr8.rep.len]) hr8.rep.one (by omega) (by omega) (by omega) fun sv' w10 h10 hc10 hb10 => ?_
   have hb410 := hc10.at (hx9.at hb48 id) fun e => by have := (own_in hO9 e).1; omega
   have hb510 := hc10.at (hx9.at hb58 id) fun e => by have := (own_in hO9 e).1; omega
   rw [fld_ptr,add_mk]
   refine st_at hb510 (own_one h10) (by simp) fun w11 hz11 hb511 hc11 => ?_
   have hb511 : w11.heap[a5]? = some (.cells [i64 5,.bool false,str [],sv',.slice none 0 0].toArray VT (0,0)) := by rw [hb511]; simp
   have hb411 := hc11.at hb410 (by omega)
   have h11r : Rdr w11 p s j1 c1 := hc11.at (hc10.at (h8.ext hx9) fun e => nown _ e rfl) (by omega)
   have sv'lo : ∀ q,sv'.ownBlock = some q → w3.heap.size ≤ q := fun q hq => (own_in h10 hq).1
   have h11 := own_chg h10 hc11 fun q hq e => by have := sv'lo q hq; omega
   have s10 := hc10.size
   have s11 := hc11.size
   have hc711 : Chg (Cr p) w w11 := by
     have h1 : Chg (Cr p) w w9 := (hc7.trans hc78).then hx9 fun _ _ e => e.elim
     have h2 : Chg (Cr p) w w10 := h1.then hc10 fun q hq e => by have := (own_in hO9 e).1; omega
     exact h2.then hc11 fun q hq e => by omega
   have hall : VRepsP (fun q => w3.heap.size ≤ q ∧ sv.ownBlock ≠ some q) w9 (acc ++ [x]) (L ++ cs) :=
     VRepsP.snoc (VRepsP.chg hx9 (fun _ _ _ e => e) hR8) ((VRepP.chg hx9 (fun _ _ _ e => e) hr8).mono fun q _ hq => ⟨by have : w7.drew.heap.size ≤ q := hq; have e : w7.drew.heap.size = w7.heap.size := rfl; omega,fun e => by have := hglt q e; have : w7.drew.heap.size ≤ q := hq; have e : w7.drew.heap.size = w7.heap.size := rfl; omega⟩)
   have hall2 : VRepsP (fun q => (w3.heap.size ≤ q ∧ sv.ownBlock ≠ some q) ∧ q < w9.heap.size) w9 (acc ++ [x]) (L ++ cs) := hall.mono fun q hlt hq => ⟨hq,hlt⟩
   have hall3 := VRepsP.chg hc11 (fun q hq _ e => by have := hq.1.1; omega) (VRepsP.chg hc10 (fun q hq _ e => hq.1.2 e) hall2)
   have hall4 : VRepsP (fun q => w3.heap.size ≤ q ∧ sv'.ownBlock ≠ some q) w11 (acc ++ [x]) (L ++ cs) := hall3.mono fun q _ hq => ⟨hq.1.1,fun e => by
     rcases hb10 q e with h | h
     · exact hq.1.2 h
     · omega⟩
   have hlenx : (acc ++ [x]).length = acc.length + 1 := by simp
   have h11' : Own w11 w3.heap.size VT 5 sv' (acc ++ [x]).length (L ++ cs) := by rw [hlenx]; exact h11
   refine blanks_p h11r hfit (by omega) fun w12 h12 hc12 => ?_
   have hge1 := blank_ge s j1
   have hle1 := blank_le hfit
   have hidem := blank_idem s j1
   have step : ∀ {w' : World},Chg (Cr p) w11 w' → Chg (Cr p) w w' ∧ w'.heap[a4]? = some (.cells [i64 0,.bool false,str [],.slice none 0 0,.slice none 0 0].toArray VT (0,0)) ∧ w'.heap[a5]? = some (.cells [i64 5,.bool false,str [],sv',.slice none 0 0].toArray VT (0,0)) ∧
       Own w' w3.heap.size VT 5 sv' (acc ++ [x]).length (L ++ cs) ∧ VRepsP (fun q => w3.heap.size ≤ q ∧ sv'.ownBlock ≠ some q) w' (acc ++ [x]) (L ++ cs) := fun {w'} hc' =>
     ⟨hc711.trans hc',keep5 hc' hb411 (by omega),keep5 hc' hb511 (by omega),own_chg h11' hc' fun q hq e => by have := sv'lo q hq; have e : q = p := e; omega,VRepsP.chg hc' (fun q hq _ e => by have := hq.1; have e : q = p := e; omega) hall4⟩
   refine take_p (n := 93) h12 hle1 (by omega) (fun e w13 h13 hc13 => ?_) (fun e w13 h13 hc13 => ?_)
   · have e : byteM s (blankM s j1) = 93 := e
     rw [if_pos e] at hok
     rw [condW_true]
     obtain ⟨q1,q2,q3,q4,q5⟩ := step (hc12.trans hc13)
     exact fin h13 q1 q2 q3 q4 (q5.mono fun q _ hq => hq.1) (by omega) (by omega) (by rw [hlenx]; omega) fun cs w' h' hc' hr' => hok _ _ _ rfl cs w' h' hc' hr'
   · have e : byteM s (blankM s j1) ≠ 93 := e
     rw [if_neg e] at hok hbad
     rw [condW_false]
     refine want_p (n := 44) h13 hle1 (by omega) (fun e2 w14 h14 hc14 => ?_) (fun e2 => ?_)
     · rw [hidem] at e2 h14
       have e2 : byteM s (blankM s j1) = 44 := e2
       rw [hv] at heq
       simp only at heq
       rw [if_neg e,if_pos e2] at heq
       obtain ⟨q1,q2,q3,q4,q5⟩ := step ((hc12.trans hc13).trans hc14)
       have hlt44 := byte_lt (s := s) (i := blankM s j1) (by omega)
       refine ⟨⟨rfl,m,blankM s j1 + 1,c1,acc ++ [x],sv',L ++ cs,h14,q1,q2,q3,q4,q5,by omega,by omega,by omega,by rw [hlenx]; omega,by omega,heq⟩,?_⟩
       rw [h14.at_,h7.at_]; omega
     · rw [hidem] at e2 ⊢
       have e2 : byteM s (blankM s j1) ≠ 44 := e2
       rw [if_neg e2] at hbad
       exact (hbad _ _ rfl).from (step (hc12.trans hc13)).1
 · rw [hv] at hbad
   exact (hbad _ _ rfl).from hc7d
end
end Go.Proofs.YtpiaegojabkioaaGreatDoor
namespace Go.Proofs.YtpiaegojabkioaaGreatDoor
open Go Go.Eng Go.RowKit
set_option maxRecDepth 100000
section
variable [HX]
theorem object_p {n deep i c p : Nat} {s : Str} {w : World} {K : Value → World → Prop} (ih : ∀ m,m ≤ n → VP m) (h : Rdr w p s i c) (hT : TabU w) (hE : TabE w) (hi : i < s.length) (hs : s.length ≤ 65536) (hc : c ≤ 2000) (hdeep : deep ≤ 24) (hn : 2 * (2000 - c) + 2 ≤ n)
   (hok : ∀ v j c',(if byteM s (blankM s (i + 1)) = 125 then .ok (.mk 6 false [] [] []) (blankM s (i + 1) + 1) c else objM En s n deep (blankM s (i + 1)) c (.mk 6 false [] [] [])) = RR.ok v j c' → ∀ cs w',Rdr w' p s j c' → Chg (Cr p) w w' → VRepP (From w.heap.size) w' v cs → K (.agg cs.toArray) w')
   (hbad : ∀ e j,(if byteM s (blankM s (i + 1)) = 125 then .ok (.mk 6 false [] [] []) (blankM s (i + 1) + 1) c else objM En s n deep (blankM s (i + 1)) c (.mk 6 false [] [] [])) = RR.bad e j → Thr w p e j) :
   callF Tryz.prog 98 [.pointer (some ⟨p,0,none⟩),i64 (deep : Nat)] w K := by
 refine W98_ok ?_
 unfold W98
 have hp := h.lt
 refine alloc_new fun a4 w1 ha4 hz1 hb4 hx1 => ?_
 rw [put_int]
 refine ⟨by simp,?_⟩
 rw [put_nil]
 simp only [List.set_cons_zero]
 refine alloc_new fun a5 w2 ha5 hz2 hb5 hx2 => ?_
 refine st_agg_at (l := [i64 6,.bool false,str [],.slice none 0 0,.slice none 0 0]) hb5 rfl rfl rfl fun w3 hz3 hb5 hc3 => ?_
 have hx3 : Ext w w3 := (hx1.trans hx2).new hc3 (by omega)
 have h3 := h.ext hx3
 have hb4 := hc3.at (hx2.at hb4 id) (by omega)
 refine h3.go (k := 1) (by omega) fun w4 h4 hc4 hz4 => ?_
 refine blanks_p h4 (by omega) (by omega) fun w5 h5 hc5 => ?_
 have hc35 := hc4.trans hc5
 have hcw5 := (Chg.of_ext hx3).trans hc35
 have hble : blankM s (i + 1) ≤ s.length := blank_le (by omega)
 have hbge := blank_ge s (i + 1)
 generalize hj0 : blankM s (i + 1) = j0 at *
 have keep5 : ∀ {w' w'' : World} {a : Nat} {o : Obj},Chg (Cr p) w' w'' → w'.heap[a]? = some o → w.heap.size ≤ a → w''.heap[a]? = some o := fun hc hb hle => hc.at hb fun e => by
   have e : _ = p := e
   omega
 have fin : ∀ {w6 : World} {es : List Value} {l : List (Str × JV)} {j c' : Nat},Rdr w6 p s j c' → Chg (Cr p) w w6 → w6.heap[a4]? = some (.cells [i64 0,.bool false,str [],.slice none 0 0,.slice none 0 0].toArray VT (0,0)) → w6.heap[a5]? = some (.cells es.toArray VT (0,0)) →
     VRepP (From w3.heap.size) w6 (mkO l) es → (∀ cs w',Rdr w' p s j c' → Chg (Cr p) w w' → VRepP (From w.heap.size) w' (mkO l) cs → K (.agg cs.toArray) w') →
     ldW true 5 (.pointer (some ⟨a5,0,none⟩)) w6 fun t18 => stW 5 (.pointer (some ⟨a4,0,none⟩)) t18 w6 fun w8 => ldW true 5 (.pointer (some ⟨a4,0,none⟩)) w8 fun r9 => K r9 w8 := fun {w6 es l j c'} h6 hc6 hb4 hb5 hR hk => by
   refine ld_all hb5 hR.rep.len ?_
   refine ret_leaf hb4 rfl hR.rep.len hR.rep.all_one fun w7 hc7 => ?_
   refine hk _ w7 (hc7.at h6 fun e => by have e : p = a4 := e; omega) (hc6.then hc7 fun k hk e => by have e : k = a4 := e; omega) ?_
   exact (VRepP.chg hc7 (fun q hq _ e => by have : w3.heap.size ≤ q := hq; have e : q = a4 := e; omega) hR).mono fun q _ hq => by have : w3.heap.size ≤ q := hq; show w.heap.size ≤ q; omega
 have hemp : ∀ w' : World,VRepP (From w3.heap.size) w' (mkO []) [i64 6,.bool false,str [],.slice none 0 0,.slice none 0 0] := fun w' => leaf_rep (by simp)
 refine take_p (n := 125) h5 hble (by omega) (fun e w6 h6 hc6 => ?_) (fun e w6 h6 hc6 => ?_)
 · have e : byteM s j0 = 125 := e
   rw [if_pos e] at hok
   rw [condW_true]
   have hc36 := hc35.trans hc6
   exact fin (l := []) h6 (hcw5.trans hc6) (keep5 hc36 hb4 (by omega)) (keep5 hc36 hb5 (by omega)) (hemp _) fun cs w' h' hc' hr' => hok _ _ _ rfl cs w' h' hc' hr'
 have e : byteM s j0 ≠ 125 := e
 rw [if_neg e] at hok hbad
 rw [condW_false]
 have hc36 := hc35.trans hc6
 have e0 : (.mk 6 false [] [] [] : JV) = mkO [] := rfl
 rw [e0] at hok hbad
 refine LoopW.go (fun st w' => st = [] ∧ ∃ m j c' l es,Rdr w' p s j c' ∧ Chg (Cr p) w w' ∧ w'.heap[a4]? = some (.cells [i64 0,.bool false,str [],.slice none 0 0,.slice none 0 0].toArray VT (0,0)) ∧ w'.heap[a5]? = some (.cells es.toArray VT (0,0)) ∧
     VRepP (From w3.heap.size) w' (mkO l) es ∧ Rise (l.map (·.1)) ∧ (∀ q ∈ l,ItemP (24 - deep) q) ∧ cntP l ≤ c' ∧ l.length ≤ c' ∧ m ≤ n ∧ 2 * (2000 - c') + 2 ≤ m ∧ c' ≤ 2000 ∧ j ≤ s.length ∧ objM En s m deep j c' (mkO l) = objM En s n deep j0 c (mkO [])) (fun _ w' => s.length + 1 - rdAt w' p)
   ⟨rfl,n,j0,c,[],[i64 6,.bool false,str [],.slice none 0 0,.slice none 0 0],h6,hcw5.trans hc6,keep5 hc36 hb4 (by omega),keep5 hc36 hb5 (by omega),hemp _,List.Pairwise.nil,(fun q hq => by cases hq),Nat.zero_le _,Nat.zero_le _,Nat.le_refl _,hn,hc,hble,rfl⟩ ?_
 rintro st g w7 ⟨rfl,m,j,c',l,es,h7,hc7,hb4,hb5,hR,hrise,hitems,hcl,hll,hmn,hm,hc2,hj,heq⟩
 obtain ⟨m,rfl⟩ : ∃ m',m = m' + 1 := ⟨m - 1,by omega⟩
 rw [objM] at heq
 rw [← heq] at hok hbad
 have hjb := blank_le hj
 have hjg := blank_ge s j
 refine blanks_p h7 hj (by omega) fun w8 h8 hc8 => ?_
 generalize hj8 : blankM s j = j8 at *
 have s7 : w3.heap.size ≤ w7.heap.size := by have := at_lt hb5; have := at_lt hb4; have := hc7.size; omega
 have keepR : ∀ {w' w'' : World},Chg (Cr p) w' w'' → VRepP (From w3.heap.size) w' (mkO l) es → VRepP (From w3.heap.size) w'' (mkO l) es := fun hc hr => VRepP.chg hc (fun q hq _ e => by have : w3.heap.size ≤ q := hq; have e : q = p := e; omega) hr
 have hc78 := hc7.trans hc8
 refine h8.ld rfl ?_
 refine JoinW.cut (fun st w' => ∃ (_ : byteM s j8 = 34),Ext w8 w') ?_ ?_
 · refine peek_p h8 hjb fun w9 hx9 => ?_
   rw [bin_neq,condW_dec]
   have hpk : pkM s j8 = 34 ↔ byteM s j8 = 34 := pk_eq (k := 34) (by omega)
   refine ⟨fun e => ?_,fun e => ?_⟩
   · have e : byteM s j8 ≠ 34 := fun h => e (hpk.2 h)
     rw [if_pos e] at hbad
     refine (h8.ext hx9).ld rfl ?_
     exact fail_p ((hbad _ _ rfl).from (hc78.then hx9 fun _ _ e => e.elim))
   · have e : pkM s j8 = 34 := Classical.byContradiction fun h => e h
     exact ⟨hpk.1 e,hx9⟩
 rintro st g9 w9 ⟨h34,hx9⟩
 rw [if_neg (fun e => e h34)] at hok hbad heq
 have h9 := h8.ext hx9
 have hc79 : Chg (Cr p) w7 w9 := hc8.then hx9 fun _ _ e => e.elim
 have hlt8 := byte_lt (s := s) (i := j8) (by omega)
 refine quoted_p h9 (hT.rd h (hc7.trans hc79)) (hE.rd h (hc7.trans hc79)) hlt8 (by omega) (fun key jq cq hq w10 h10 hc10 => ?_) (fun e1 j1 hq => ?_)
 · rw [hq] at hok hbad heq
   simp only at hok hbad heq
   have hq' := hq
   unfold quotM at hq'
   obtain ⟨a1,a2,a3,a4',a5',a6⟩ := quot_back hq' .nil
   subst a1
   have hc710 := hc79.trans hc10
   have hR10 := keepR hc710 hR
   have hb510 := keep5 hc710 hb5 (by omega)
   have hIO := item_obj hrise hitems
   have hfew : fewM (mkO l) = true := few_cnt _ hIO.plain (by show 1 + cntL (l.map (·.2)) ≤ _; rw [cntL_map]; omega)
   have hg1 := blank_ge s jq
   have hg2 := blank_le a5'
   refine JoinW.cut (fun st w' => ∃ (_ : (getM (mkO l) key).isSome = false),Ext w10 w') ?_ ?_
   · refine ld_all hb510 hR10.rep.len ?_
     refine get_p hR10.rep rfl (by show (l.map (·.1)).length = (l.map (·.2)).length; rw [List.length_map,List.length_map]) hfew hrise fun cs' w11 hx11 hr11 => ?_
     simp only [ext_tuple]
     refine ⟨_,rfl,_,rfl,?_⟩
     refine alloc_new fun a8 w12 ha8 hz12 hb12 hx12 => ?_
     refine st_agg_at hb12 (hr11.len) rfl hr11.all_one fun w13 hz13 hb13 hc13 => ?_
     have hx13 : Ext w10 w13 := (hx11.trans hx12).new hc13 (by have := hx11.size; omega)
     rw [condW_b]
     refine ⟨fun e => ?_,fun e => ⟨e,hx13⟩⟩
     rw [if_pos e] at hbad
     exact fail_p ((hbad _ _ rfl).from ((hc7.trans hc710).then hx13 fun _ _ e => e.elim))
   rintro st g11 w11 ⟨hget,hx11⟩
   rw [if_neg (by rw [hget]; simp)] at hok hbad heq
   have hnk := get_none hget
   have h11 := h10.ext hx11
   have hc711 := hc710.then hx11 fun _ _ e => e.elim
   refine want_p (n := 58) h11 a5' (by omega) (fun e58 w12 h12 hc12 => ?_) (fun e58 => ?_)
   · have e58 : byteM s (blankM s jq) = 58 := e58
     rw [if_neg (fun e => e e58)] at hok hbad heq
     have hlt58 := byte_lt (s := s) (i := blankM s jq) (by omega)
     have hc712 := hc711.trans hc12
     have hxd : Ext w12 w12.drew := Chg.drew (Chg.refl (fun _ => False) w12)
     have hc712d := hc712.then hxd fun _ _ e => e.elim
     have hb512 := keep5 hc712d hb5 (by omega)
     have hR12 := keepR hc712d hR
     refine ld_all hb512 hR12.rep.len ?_
     rw [bin_add,up1 (by omega)]
     have hcw := hc7.trans hc712d
     refine ih m (by omega) (h12.ext hxd) (hT.rd h hcw) (hE.rd h hcw) (by omega) hs hc2 (by omega) (by omega) (fun x j2 c2 hv ds w13 h13 hc13 hr13 => ?_) (fun e1 j2 hv => ?_)
     · rw [hv] at hok hbad heq
       simp only at hok hbad heq
       have hbk := val_back (by omega) hc2 hv
       have hcp := cnt_pos x
       have hcnt := hbk.cnt
       have hmax := hbk.max
       have hlen := hbk.len
       have hfit := hbk.fits
       have hit := hbk.item
       rw [show 25 - (deep + 1) = 24 - deep by omega] at hit
       have hb513 := keep5 hc13 hb512 (by omega)
       have hR13 := keepR hc13 hR12
       have hcw13 := hcw.trans hc13
       refine ⟨ld_all hb513 hR13.rep.len rfl,?_⟩
       have s13 := hcw13.size
       have s713 := (hc712d.trans hc13).size
       refine put_n hR13.rep hr13.rep hfew (few_cnt x hit.plain (by omega)) hrise hnk (by omega) (by omega) fun es' w14 hx14 hr14 => ?_
       have hb514 := hx14.at hb513 id
       refine st_agg_at hb514 hr14.rep.len hR13.rep.len hr14.rep.all_one fun w15 hz15 hb515 hc15 => ?_
       have h15 := hc15.at (h13.ext hx14) (by omega)
       have hr15 : VRepP (From w3.heap.size) w15 (mkO (insP l key x)) es' := (VRepP.chg hc15 (fun q hq _ e => by have : w13.heap.size ≤ q := hq; have := at_lt hb513; omega) hr14).mono fun q _ hq => by have : w13.heap.size ≤ q := hq; show w3.heap.size ≤ q; omega
       have hb415 := hc15.at (hx14.at (keep5 (hc712d.trans hc13) hb4 (by omega)) id) (by omega)
       have hcw15 : Chg (Cr p) w w15 := (hcw13.then hx14 fun _ _ e => e.elim).then hc15 fun q hq e => by omega
       have hr' := rise_ins (x := x) hrise hnk
       have hp' : ∀ q ∈ insP l key x,ItemP (24 - deep) q := fun q hq => by
         rcases (ins_mem q).1 hq with rfl | hq
         · exact ⟨a3,(utf_iff key).2 a2,hit⟩
         · exact hitems q hq
       rw [put_mkO hnk] at hok hbad heq
       refine blanks_p h15 hfit (by omega) fun w16 h16 hc16 => ?_
       have hge1 := blank_ge s j2
       have hle1 := blank_le hfit
       have hidem := blank_idem s j2
       have step : ∀ {w' : World},Chg (Cr p) w15 w' → Chg (Cr p) w w' ∧ w'.heap[a4]? = some (.cells [i64 0,.bool false,str [],.slice none 0 0,.slice none 0 0].toArray VT (0,0)) ∧ w'.heap[a5]? = some (.cells es'.toArray VT (0,0)) ∧ VRepP (From w3.heap.size) w' (mkO (insP l key x)) es' := fun {w'} hc' =>
         ⟨hcw15.trans hc',keep5 hc' hb415 (by omega),keep5 hc' hb515 (by omega),VRepP.chg hc' (fun q hq _ e => by have : w3.heap.size ≤ q := hq; have e : q = p := e; omega) hr15⟩
       refine take_p (n := 125) h16 hle1 (by omega) (fun e w17 h17 hc17 => ?_) (fun e w17 h17 hc17 => ?_)
       · have e : byteM s (blankM s j2) = 125 := e
         rw [if_pos e] at hok
         rw [condW_true]
         obtain ⟨q1,q2,q3,q4⟩ := step (hc16.trans hc17)
         exact fin h17 q1 q2 q3 q4 fun cs w' h' hc' hr' => hok _ _ _ rfl cs w' h' hc' hr'
       · have e : byteM s (blankM s j2) ≠ 125 := e
         rw [if_neg e] at hok hbad heq
         rw [condW_false]
         refine want_p (n := 44) h17 hle1 (by omega) (fun e2 w18 h18 hc18 => ?_) (fun e2 => ?_)
         · rw [hidem] at e2 h18
           have e2 : byteM s (blankM s j2) = 44 := e2
           rw [if_pos e2] at heq
           obtain ⟨q1,q2,q3,q4⟩ := step ((hc16.trans hc17).trans hc18)
           have hlt44 := byte_lt (s := s) (i := blankM s j2) (by omega)
           refine ⟨⟨rfl,m,blankM s j2 + 1,c2,insP l key x,es',h18,q1,q2,q3,q4,hr',hp',by rw [ins_cnt]; omega,by rw [ins_len]; omega,by omega,by omega,hmax,by omega,heq⟩,?_⟩
           rw [h18.at_,h7.at_]; omega
         · rw [hidem] at e2 ⊢
           have e2 : byteM s (blankM s j2) ≠ 44 := e2
           rw [if_neg e2] at hbad
           exact (hbad _ _ rfl).from (step (hc16.trans hc17)).1
     · rw [hv] at hbad
       exact (hbad _ _ rfl).from hcw
   · have e58 : byteM s (blankM s jq) ≠ 58 := e58
     rw [if_pos e58] at hbad
     exact (hbad _ _ rfl).from (hc7.trans hc711)
 · rw [hq] at hbad
   exact (hbad _ _ rfl).from (hc7.trans hc79)
end
end Go.Proofs.YtpiaegojabkioaaGreatDoor
namespace Go.Proofs.YtpiaegojabkioaaGreatDoor
open Go Go.Eng Go.RowKit
set_option maxRecDepth 100000
section
variable [HX]
theorem bool_p {b : Bool} {w : World} {K : Value → World → Prop} (hK : ∀ w',Ext w w' → K (.agg [i64 2,.bool b,str [],.slice none 0 0,.slice none 0 0].toArray) w') : callF Tryz.prog 94 [.bool b] w K := by
 refine W94_ok ?_
 unfold W94
 refine alloc_new fun a w1 ha hz hb hx => ?_
 simp only [put_int,put_bool,put_nil,List.length_cons,List.length_nil,List.set_cons_zero,List.set_cons_succ]
 refine ⟨by omega,by omega,?_⟩
 exact ret_leaf (l := [i64 2,.bool b,str [],.slice none 0 0,.slice none 0 0]) hb rfl rfl rfl fun w2 hc2 => hK w2 (hx.new hc2 (by omega))
theorem null_p {w : World} {K : Value → World → Prop} (hK : ∀ w',Ext w w' → K (.agg [i64 0,.bool false,str [],.slice none 0 0,.slice none 0 0].toArray) w') : callF Tryz.prog 93 [] w K := by
 refine W93_ok ?_
 unfold W93
 refine alloc_new fun a w1 ha hz hb hx => ?_
 rw [put_nil]
 exact ret_leaf (l := [i64 0,.bool false,str [],.slice none 0 0,.slice none 0 0]) hb rfl rfl rfl fun w2 hc2 => hK w2 (hx.new hc2 (by omega))
theorem textv_p {t : Str} {w : World} {K : Value → World → Prop} (hK : ∀ w',Ext w w' → K (.agg [i64 4,.bool false,str t,.slice none 0 0,.slice none 0 0].toArray) w') : callF Tryz.prog 37 [str t] w K := by
 refine W37_ok ?_
 unfold W37
 refine alloc_new fun b w1 hb hz hbb hx => ?_
 simp only [put_int,put_str,put_nil,List.length_cons,List.length_nil,List.set_cons_zero,List.set_cons_succ]
 refine ⟨by omega,by omega,?_⟩
 exact ret_leaf (l := [i64 4,.bool false,str t,.slice none 0 0,.slice none 0 0]) hbb rfl rfl rfl fun w2 hc2 => hK w2 (hx.new hc2 (by omega))
theorem value_p : ∀ n,VP n := by
 intro n
 induction n using Nat.strongRecOn with
 | ind n ihs =>
 intro deep i c p s w K h hT hE hi hs hc hdeep hn hok hbad
 obtain ⟨n,rfl⟩ : ∃ m,n = m + 1 := ⟨n - 1,by omega⟩
 have ih : ∀ m,m ≤ n → VP m := fun m hm => ihs m (by omega)
 refine W65_ok ?_
 unfold W65
 have hp := h.lt
 rw [valM] at hok hbad
 refine alloc_new fun a4 w1 ha4 hz1 hb4 hx1 => ?_
 refine blanks_p (h.ext hx1) hi (by omega) fun w2 h2 hc2 => ?_
 have hj := blank_le hi
 generalize hjj : blankM s i = j at *
 have hcw2 := (Chg.of_ext hx1).trans hc2
 have hpa : p ≠ a4 := by omega
 have hb42 := hc2.at hb4 (fun e => hpa e.symm)
 refine JoinW.cut (fun st w' => w' = w2 ∧ ¬ 24 < deep ∧ ¬ 2000 ≤ c) ?_ ?_
 · rw [bin_gtr,condW_dec]
   refine ⟨fun e => ?_,fun e => ?_⟩
   · rw [if_pos (by omega)] at hbad
     refine h2.ld rfl ?_
     exact fail_p ((hbad _ _ rfl).from hcw2)
   · rw [if_neg (by omega)] at hbad
     refine h2.ld rfl ?_
     rw [bin_eql,condW_dec]
     refine ⟨fun e2 => ?_,fun e2 => ⟨rfl,by omega,by omega⟩⟩
     rw [if_pos (by omega)] at hbad
     refine h2.ld rfl ?_
     exact fail_p ((hbad _ _ rfl).from hcw2)
 rintro st g w3 ⟨rfl,hd,hcnt⟩
 rw [if_neg hd,if_neg hcnt] at hok hbad
 refine h2.ld rfl ?_
 rw [bin_add,up1 (by omega)]
 refine h2.st2 fun w4 h4 hc4 hz4 => ?_
 have hxd : Ext w4 w4.drew := Chg.drew (Chg.refl (fun _ => False) w4)
 have h4d := h4.ext hxd
 refine h4d.ld rfl ?_
 refine h4d.ld rfl ?_
 rw [sls_str,bd_none,bd_some]
 refine ⟨by omega,by omega,?_⟩
 simp only [Int.toNat_natCast,List.take_length]
 refine peek_p h4d hj fun w5 hx5 => ?_
 have h5 := h4d.ext hx5
 have hc5 : Chg (Cr p) w w5 := ((hcw2.trans hc4).then hxd fun _ _ e => e.elim).then hx5 fun _ _ e => e.elim
 have hb45 := hx5.at (hxd.at (hc4.at hb42 (fun e => hpa e.symm)) id) id
 -- what is handed back
 have ret : ∀ {w6 w7 : World} {j' c' : Nat} {v : JV} {cs : List Value},Rdr w6 p s j' c' → Chg (Cr p) w5 w6 → VRepP (From w5.heap.size) w6 v cs → (∀ cs w',Rdr w' p s j' c' → Chg (Cr p) w w' → VRepP (From w.heap.size) w' v cs → K (.agg cs.toArray) w') →
     stW 5 (.pointer (some ⟨a4,0,none⟩)) (.agg cs.toArray) w6 fun w8 => ldW true 5 (.pointer (some ⟨a4,0,none⟩)) w8 fun r9 => K r9 w8 := fun {w6 _ j' c' v cs} h6 hc6 hr hk => by
   refine ret_leaf (hc6.at hb45 (fun e => hpa e.symm)) rfl hr.rep.len hr.rep.all_one fun w7 hc7 => ?_
   have s5 := hc5.size
   have := at_lt hb45
   refine hk _ w7 (hc7.at h6 hpa) ((hc5.trans hc6).then hc7 fun k hk e => by have e : k = a4 := e; omega) ?_
   exact (VRepP.chg hc7 (fun q hq _ e => by have : w5.heap.size ≤ q := hq; have e : q = a4 := e; omega) hr).mono fun q _ hq => by have : w5.heap.size ≤ q := hq; show w.heap.size ≤ q; omega
 have wlen : ∀ {p : Str},wordM s j p = true → j + p.length ≤ s.length := fun {p} hw => by
   unfold wordM at hw
   have := congrArg List.length (of_decide_eq_true hw)
   rw [List.length_take,List.length_drop] at this
   omega
 refine word_p ?_
 rw [condW_b]
 refine ⟨fun e => ?_,fun e => ?_⟩
 · rw [if_pos e] at hok
   have hw := wlen e
   refine h5.go (k := 4) (by omega) fun w6 h6 hc6 hz6 => ?_
   refine null_p fun w7 hx7 => ?_
   exact ret (w7 := w7) (v := JV.null) (h6.ext hx7) (hc6.then hx7 fun _ _ e => e.elim) (leaf_rep (by simp)) fun cs w' h' hc' hr' => hok _ _ _ rfl cs w' h' hc' hr'
 rw [if_neg (by rw [e]; simp)] at hok hbad
 refine word_p ?_
 rw [condW_b]
 refine ⟨fun e => ?_,fun e => ?_⟩
 · rw [if_pos e] at hok
   have hw := wlen e
   refine h5.go (k := 4) (by omega) fun w6 h6 hc6 hz6 => ?_
   refine bool_p fun w7 hx7 => ?_
   exact ret (w7 := w7) (h6.ext hx7) (hc6.then hx7 fun _ _ e => e.elim) (leaf_rep (by simp)) fun cs w' h' hc' hr' => hok _ _ _ rfl cs w' h' hc' hr'
 rw [if_neg (by rw [e]; simp)] at hok hbad
 refine word_p ?_
 rw [condW_b]
 refine ⟨fun e => ?_,fun e => ?_⟩
 · rw [if_pos e] at hok
   have hw := wlen e
   refine h5.go (k := 5) (by omega) fun w6 h6 hc6 hz6 => ?_
   refine bool_p fun w7 hx7 => ?_
   exact ret (w7 := w7) (h6.ext hx7) (hc6.then hx7 fun _ _ e => e.elim) (leaf_rep (by simp)) fun cs w' h' hc' hr' => hok _ _ _ rfl cs w' h' hc' hr'
 rw [if_neg (by rw [e]; simp)] at hok hbad
 have q45 : pkM s j = 45 ↔ byteM s j = 45 := pk_eq (k := 45) (by omega)
 have q34 : pkM s j = 34 ↔ byteM s j = 34 := pk_eq (k := 34) (by omega)
 have q91 : pkM s j = 91 ↔ byteM s j = 91 := pk_eq (k := 91) (by omega)
 have q123 : pkM s j = 123 ↔ byteM s j = 123 := pk_eq (k := 123) (by omega)
 rw [bin_eql]
 simp only [isB_f,isB_t,isB_gd_t,bin_geq,bin_leq,GdW_pure,GdW_nest_and,List.getD_cons_zero,pick_gd_or]
 intros
 rw [pk_dig,condW_b]
 have hthr : ∀ {w' : World} {e : Int} {j' : Nat},Chg (Cr p) w5 w' → Thr w p e j' → Thr w' p e j' := fun hc ht => ht.from (hc5.trans hc)
 refine ⟨fun e => ?_,fun e => ?_⟩
 · have e : byteM s j = 45 ∨ isDig (byteM s j) = true := by
     rw [Bool.or_eq_true,decide_eq_true_iff] at e
     exact e.imp q45.1 id
   rw [if_pos e] at hok hbad
   refine number_p h5 hj (by omega) (fun v j' c' hv cs w6 h6 hc6 hr6 => ?_) (fun e1 j' hv => (hbad _ _ hv).from hc5)
   exact ret (w7 := w6) h6 hc6 hr6 fun cs w' h' hc' hr' => hok _ _ _ hv cs w' h' hc' hr'
 have e : ¬ (byteM s j = 45 ∨ isDig (byteM s j) = true) := by
   rw [Bool.or_eq_false_iff,decide_eq_false_iff_not] at e
   rintro (h | h)
   · exact e.1 (q45.2 h)
   · rw [e.2] at h; cases h
 rw [if_neg e] at hok hbad
 rw [bin_eql,condW_dec]
 refine ⟨fun e => ?_,fun e => ?_⟩
 · have e := q34.1 e
   rw [if_pos e] at hok hbad
   have hlt := byte_lt (s := s) (i := j) (by omega)
   refine quoted_p h5 (hT.rd h hc5) (hE.rd h hc5) hlt (by omega) (fun t j' c' hq w6 h6 hc6 => ?_) (fun e1 j' hq => ?_)
   · rw [hq] at hok
     refine textv_p fun w7 hx7 => ?_
     unfold quotM at hq
     obtain ⟨_,_,a3,_⟩ := quot_back hq .nil
     exact ret (w7 := w7) (h6.ext hx7) (hc6.then hx7 fun _ _ e => e.elim) (leaf_rep (by omega)) fun cs w' h' hc' hr' => hok _ _ _ rfl cs w' h' hc' hr'
   · rw [hq] at hbad
     exact (hbad _ _ rfl).from hc5
 rw [if_neg (fun h => e (q34.2 h))] at hok hbad
 rw [bin_eql,condW_dec]
 refine ⟨fun e => ?_,fun e => ?_⟩
 · have e := q91.1 e
   rw [if_pos e] at hok hbad
   have hlt := byte_lt (s := s) (i := j) (by omega)
   refine list_p ih h5 (hT.rd h hc5) (hE.rd h hc5) hlt hs (by omega) (by omega) (by omega) (fun v j' c' hv cs w6 h6 hc6 hr6 => ?_) (fun e1 j' hv => (hbad _ _ hv).from hc5)
   exact ret (w7 := w6) h6 hc6 hr6 fun cs w' h' hc' hr' => hok _ _ _ hv cs w' h' hc' hr'
 rw [if_neg (fun h => e (q91.2 h))] at hok hbad
 rw [bin_eql,condW_dec]
 refine ⟨fun e => ?_,fun e => ?_⟩
 · have e := q123.1 e
   rw [if_pos e] at hok hbad
   have hlt := byte_lt (s := s) (i := j) (by omega)
   refine object_p ih h5 (hT.rd h hc5) (hE.rd h hc5) hlt hs (by omega) (by omega) (by omega) (fun v j' c' hv cs w6 h6 hc6 hr6 => ?_) (fun e1 j' hv => (hbad _ _ hv).from hc5)
   exact ret (w7 := w6) h6 hc6 hr6 fun cs w' h' hc' hr' => hok _ _ _ hv cs w' h' hc' hr'
 rw [if_neg (fun h => e (q123.2 h))] at hbad
 refine h5.ld rfl ?_
 exact fail_p ((hbad _ _ rfl).from hc5)
end
theorem as_diag (v : Value) (w : World) : (Instr.typeAssert (.iface DT v) 20 DT false).run Tryz.prog w = .ok v w := by kernel_rfl
theorem nil_idle (w : World) (K : Value → Prop) : eqQ Tryz.prog .neq 20 false true .nilIface .nilIface w K ↔ K (.bool false) := by
 have h : (do eqGuard .neq 20 (stand false) (stand true) .nilIface .nilIface; binOp .neq 20 .nilIface .nilIface : Sem Value).run Tryz.prog w = .ok (.bool false) w := by kernel_rfl
 unfold eqQ semQ
 rw [h]
 exact ⟨fun ⟨v,h1,h2⟩ => by cases h1; exact h2,fun h2 => ⟨_,rfl,h2⟩⟩
theorem nil_thrown (v : Value) (w : World) (K : Value → Prop) : eqQ Tryz.prog .neq 20 false true (.iface DT v) .nilIface w K ↔ K (.bool true) := by
 have h : (do eqGuard .neq 20 (stand false) (stand true) (.iface DT v) .nilIface; binOp .neq 20 (.iface DT v) .nilIface : Sem Value).run Tryz.prog w = .ok (.bool true) w := by kernel_rfl
 unfold eqQ semQ
 rw [h]
 exact ⟨fun ⟨v,h1,h2⟩ => by cases h1; exact h2,fun h2 => ⟨_,rfl,h2⟩⟩
theorem rec_idle {a b : Value} {w : World} {K : World → Prop} (hK : K w) : DefC Tryz.prog 63 [a,b] .returning w K := by
 letI := noX
 refine R63_ok .idle ?_
 unfold R63
 rw [nil_idle,condW_false]
 exact hK
abbrev zv5 : List Value := [.int .i64 0,.bool false,.string (ofL []),.slice none 0 0,.slice none 0 0]
theorem rec_thrown {a b d : Nat} {cs ds : List Value} {w : World} {K : World → Prop} (ha : w.heap[a]? = some (.cells cs.toArray VT (0,0))) (hl : cs.length = 5) (hb : w.heap[b]? = some (.cells ds.toArray DT (0,0))) (hd : ds.length = 1) (hab : a ≠ b)
   (hK : ∀ w',Chg (fun k => k = a ∨ k = b) w w' → w'.heap[a]? = some (.cells zv5.toArray VT (0,0)) → w'.heap[b]? = some (.cells [.pointer (some ⟨d,0,none⟩)].toArray DT (0,0)) → K w') :
   DefC Tryz.prog 63 [.pointer (some ⟨a,0,none⟩),.pointer (some ⟨b,0,none⟩)] (.panicking [{ v := .iface DT (.pointer (some ⟨d,0,none⟩)),recovered := false }]) w K := by
 letI := noX
 refine R63_ok (.thrown _) ?_
 unfold R63
 rw [nil_thrown,condW_true,put_nil]
 refine ⟨_,as_diag _ _,?_⟩
 refine st_agg_at (l := zv5) (w := w.drew) ha rfl hl rfl fun w2 hz2 ha2 hc2 => ?_
 refine ⟨⟨_,as_diag _ _,rfl⟩,?_⟩
 have hb2 := hc2.at (w := w.drew) hb (fun e => hab e.symm)
 refine st_at hb2 rfl (by rw [List.size_toArray]; omega) fun w3 hz3 hb3 hc3 => ?_
 refine hK w3 ?_ (hc3.at ha2 hab) (by
   rw [hb3]
   match ds,hd with
   | [x],_ => simp)
 exact ((Chg.drew (Chg.refl _ w)).trans (hc2.mono fun k _ e => .inl e)).trans (hc3.mono fun k _ e => .inr e)
end Go.Proofs.YtpiaegojabkioaaGreatDoor
namespace Go.Proofs.YtpiaegojabkioaaGreatDoor
open Go Go.Eng Go.RowKit
set_option maxRecDepth 100000
abbrev DgT : TypeId := 132
section
variable [HX]
theorem decode_p {s : Str} {w : World} {K : Value → World → Prop} (hT : TabU w) (hE : TabE w) (hs : s.length ≤ 9223372036854775807)
   (hok : ∀ v j c,decM En s = .ok v j c → ∀ cs w',Ext w w' → VRepP (From w.heap.size) w' v cs → K (.tuple #[.agg cs.toArray,.pointer none]) w')
   (hbad : ∀ e i,decM En s = .bad e i → ∀ d w',Ext w w' → w.heap.size ≤ d → w'.heap[d]? = some (.cells [i64 e,str [],i64 (i : Nat)].toArray DgT (0,0)) → K (.tuple #[.agg zv5.toArray,.pointer (some ⟨d,0,none⟩)]) w') :
   callF Tryz.prog 42 [str s] w K := by
 refine W42_ok ?_
 unfold W42
 refine alloc_new fun a w1 ha hz1 hba hx1 => ?_
 refine alloc_new fun b w2 hb hz2 hbb hx2 => ?_
 have hba := hx2.at hba id
 have hx02 := hx1.trans hx2
 letI H : HX := ⟨fun ch x3 => DefC Tryz.prog 63 [.pointer (some ⟨a,0,none⟩),.pointer (some ⟨b,0,none⟩)] (.panicking ch) x3 fun w3 => ldW true 5 (.pointer (some ⟨a,0,none⟩)) w3 fun r4 => ldW false 1 (.pointer (some ⟨b,0,none⟩)) w3 fun r5 => K (.tuple #[r4,r5]) w3⟩
 have hab : a ≠ b := by omega
 unfold decM at hok hbad
 -- what is thrown is handed back
 have thr : ∀ {w3 : World} {p : Nat} {cs ds : List Value} {e : Int} {i : Nat},(∀ d w',Ext w w' → w.heap.size ≤ d → w'.heap[d]? = some (.cells [i64 e,str [],i64 (i : Nat)].toArray DgT (0,0)) → K (.tuple #[.agg zv5.toArray,.pointer (some ⟨d,0,none⟩)]) w') →
     Ext w w3 → w3.heap[a]? = some (.cells cs.toArray VT (0,0)) → cs.length = 5 → w3.heap[b]? = some (.cells ds.toArray DT (0,0)) → ds.length = 1 → w2.heap.size ≤ p → Thr w3 p e i := fun {w3 p cs ds e i} hbad hx h1 h2 h3 h4 hp d w' hd hc hbd => by
   show DefC _ _ _ _ _ _
   have s3 := at_lt h3
   refine rec_thrown (hc.at h1 fun e => by have e : a = p := e; omega) h2 (hc.at h3 fun e => by have e : b = p := e; omega) h4 hab fun w'' hc'' h1'' h3'' => ?_
   refine ld_all h1'' rfl ?_
   rw [ld_one]
   refine ⟨_,by rw [cell_eq,h3'']; rfl,?_⟩
   have hlt := at_lt hbd
   refine hbad d w'' ?_ (by have := hx.size; omega) (hc''.at hbd (by rintro (e | e) <;> omega))
   exact (hx.then hc fun k hk e => by have e : k = p := e; omega).then hc'' fun k hk e => by rcases e with e | e <;> omega
 refine JoinW.cut (fun st w' => w' = w2 ∧ ¬ 65536 < s.length) ?_ ?_
 · rw [lens_str,bin_gtr,condW_dec]
   refine ⟨fun e => ?_,fun e => ⟨rfl,by omega⟩⟩
   rw [if_pos (by omega)] at hbad
   exact fail_p (p := w2.heap.size) (i := 0) (thr (hbad _ _ rfl) hx02 hba rfl hbb rfl (Nat.le_refl _))
 rintro st g w3 ⟨rfl,hlen⟩
 rw [if_neg hlen] at hok hbad
 simp only [put_int,put_str,put_nil,List.length_cons,List.length_nil,List.set_cons_zero,List.set_cons_succ]
 refine ⟨by omega,?_⟩
 refine box_new (z := [str s,i64 0,i64 0]) fun p w4 hp hz4 hb4 hx4 => ?_
 have hx04 := hx02.trans hx4
 have hR : Rdr w4 p s 0 0 := hb4
 have hba4 := hx4.at hba id
 have hbb4 := hx4.at hbb id
 have hT4 := hT.ext hx04
 have hE4 := hE.ext hx04
 refine value_p 5000 (deep := 1) hR hT4 hE4 (Nat.zero_le _) (by omega) (by omega) (by omega) (by omega) (fun v j c hv cs w5 h5 hc5 hr5 => ?_) (fun e i hv => ?_)
 · rw [hv] at hok hbad
   simp only at hok hbad
   have hbk := val_back (Nat.zero_le _) (Nat.zero_le _) hv
   have hba5 := hc5.at hba4 fun e => by have e : a = p := e; omega
   have hbb5 := hc5.at hbb4 fun e => by have e : b = p := e; omega
   refine st_agg_at hba5 hr5.rep.len rfl hr5.rep.all_one fun w6 hz6 hba6 hc6 => ?_
   have hbb6 := hc6.at hbb5 (by omega)
   have h6 := hc6.at h5 (by omega)
   have hr6 : VRepP (From w4.heap.size) w6 v cs := VRepP.chg hc6 (fun q hq _ e => by have : w4.heap.size ≤ q := hq; omega) hr5
   have hx06 : Ext w w6 := (hx04.then hc5 fun k hk e => by have e : k = p := e; omega).then hc6 fun k hk e => by omega
   refine blanks_p h6 hbk.fits (by omega) fun w7 h7 hc7 => ?_
   have hx07 : Ext w w7 := hx06.then hc7 fun k hk e => by have e : k = p := e; omega
   have hba7 := hc7.at hba6 fun e => by have e : a = p := e; omega
   have hbb7 := hc7.at hbb6 fun e => by have e : b = p := e; omega
   refine JoinW.cut (fun st w' => w' = w7 ∧ ¬ blankM s j < s.length) ?_ ?_
   · refine h7.ld rfl ?_
     rw [lens_str,bin_lss,condW_dec]
     refine ⟨fun e => ?_,fun e => ⟨rfl,by omega⟩⟩
     rw [if_pos (by omega)] at hbad
     refine h7.ld rfl ?_
     exact fail_p (p := p) (thr (hbad _ _ rfl) hx07 hba7 hr5.rep.len hbb7 rfl (by omega))
   rintro st g2 w8 ⟨rfl,hend⟩
   rw [if_neg hend] at hok
   refine ld_all hba7 hr5.rep.len ?_
   refine st_agg_at hba7 hr5.rep.len hr5.rep.len hr5.rep.all_one fun w9 hz9 hba9 hc9 => ?_
   have hbb9 := hc9.at hbb7 (by omega)
   refine st_at hbb9 rfl (by simp) fun w10 hz10 hbb10 hc10 => ?_
   have hba10 := hc10.at hba9 hab
   refine rec_idle ?_
   refine ld_all hba10 hr5.rep.len ?_
   rw [ld_one]
   refine ⟨.pointer none,by rw [cell_eq,hbb10]; simp [cellO_some],?_⟩
   have hx10 : Ext w w10 := (hx07.then hc9 fun k hk e => by omega).then hc10 fun k hk e => by omega
   refine hok _ _ _ rfl cs w10 hx10 ?_
   have hr7 : VRepP (From w4.heap.size) w8 v cs := VRepP.chg hc7 (fun q hq _ e => by have : w4.heap.size ≤ q := hq; have e : q = p := e; omega) hr6
   refine VRepP.mono (fun q _ hq => ?_) (VRepP.chg hc10 (fun q hq _ e => ?_) (VRepP.chg hc9 (fun q hq _ e => ?_) hr7))
   · have : w4.heap.size ≤ q := hq
     show w.heap.size ≤ q
     omega
   · have : w4.heap.size ≤ q := hq; omega
   · have : w4.heap.size ≤ q := hq; omega
 · rw [hv] at hbad
   exact thr (hbad _ _ rfl) hx04 hba4 rfl hbb4 rfl (by omega)
end
end Go.Proofs.YtpiaegojabkioaaGreatDoor
namespace Go.Proofs.YtpiaegojabkioaaGreatDoor
open Go Go.Eng Go.RowKit
set_option maxRecDepth 100000
structure TabJ (w : World) : Prop where
 utf : TabU w
 bru : TabB w
 err : TabE w
section
variable [HX]
theorem eqp_nn (n : Bool) (K : Value → Prop) : eqW .ptr n (.pointer none) (.pointer none) K ↔ K (.bool (!n)) := by cases n <;> exact Iff.rfl
theorem eqp_sn (n : Bool) (a : Addr) (K : Value → Prop) : eqW .ptr n (.pointer (some a)) (.pointer none) K ↔ K (.bool n) := Iff.rfl
theorem keep_val {w : World} {v : JV} {cs : List Value} {K : Value → World → Prop} (h : VRep w v cs) (hK : ∀ a w' sv kv,ValB w' a v sv kv → Ext w w' → K (.pointer (some ⟨a,0,none⟩)) w') :
   allocW VT [(.int .i64 0),(.bool false),(.string (ofL [])),(.slice none 0 0),(.slice none 0 0)] w fun t1 w2 => stW 5 t1 (.agg cs.toArray) w2 fun w3 => K t1 w3 := copy_new h hK
end
end Go.Proofs.YtpiaegojabkioaaGreatDoor

namespace Go.Proofs.YtpiaegojabkioaaGreatDoor
open Go Go.Eng Go.RowKit
set_option maxRecDepth 100000
theorem enc_ok {v : JV} (h : (encM 1 20 31 3 v).2 = 0) : Eng.Item 24 v ∧ cntM v ≤ 2000 ∧ (showM v).length ≤ 65536 ∧ encM 1 20 31 3 v = (showM v,0) := by
 unfold encM at h ⊢
 split at h
 · cases h
 split at h
 · cases h
 split at h
 · cases h
 split at h
 · cases h
 rename_i h1 h2 h3 h4
 have hg : goodM v = true := by simpa using h1
 have hg' := hg
 simp only [goodM,Bool.and_eq_true,decide_eq_true_eq] at hg'
 refine ⟨⟨hg'.2,by simpa using h3,by simpa using h2,hg'.1.2⟩,good_cnt hg,by omega,?_⟩
 rw [if_neg h1,if_neg h2,if_neg h3,if_neg h4]
section
variable [HX]
end
end Go.Proofs.YtpiaegojabkioaaGreatDoor

namespace Go.Proofs.YtpiaegojabkioaaGreatDoor
open Go Go.Eng Go.RowKit
set_option maxRecDepth 100000
def okR : RR JV → Bool
 | .ok _ _ _ => true
 | .bad _ _ => false
def DRep (w : World) (d : Value) : RR JV → Prop
 | .ok _ _ _ => d = .pointer none
 | .bad e i => ∃ b,d = .pointer (some ⟨b,0,none⟩) ∧ w.heap[b]? = some (.cells [i64 e,str [],i64 (i : Nat)].toArray DgT (0,0))
section
variable [HX]
theorem DRep.eq {w : World} {d : Value} {r : RR JV} (h : DRep w d r) (n : Bool) (K : Value → Prop) : eqW .ptr n d (.pointer none) K ↔ K (.bool (n ^^ okR r)) := by
 cases r with
 | ok v j c => have h : d = .pointer none := h; rw [h,eqp_nn]; cases n <;> exact Iff.rfl
 | bad e i => obtain ⟨b,rfl,_⟩ := h; rw [eqp_sn]; cases n <;> exact Iff.rfl
end
end Go.Proofs.YtpiaegojabkioaaGreatDoor



namespace Go.Proofs.YtpiaegojabkioaaGreatDoor
open Go Go.Eng Go.RowKit
set_option maxRecDepth 100000
abbrev SS (s : Str) (i c : Nat) (e a : Int) : List Value := [str s,i64 (i : Nat),i64 (c : Nat),i64 e,i64 a]
abbrev zs : List Value := [str [],i64 0,i64 0,i64 0,i64 0]
section
variable [HX]
end
end Go.Proofs.YtpiaegojabkioaaGreatDoor



namespace Go.Proofs.YtpiaegojabkioaaGreatDoor
open Go Go.Eng Go.Num
set_option maxRecDepth 100000
theorem VRepsP.get {G : Nat → Prop} {w : World} : ∀ {xs : List JV} {L : List Value} {i : Nat} {x : JV},VRepsP G w xs L → xs[i]? = some x → ∃ cs,VRepP G w x cs ∧ ∀ j,j < 5 → L[i * 5 + j]? = cs[j]?
 | [],_,_,_,_,h => by simp at h
 | y :: xs,L,0,x,h,hx => by
   simp only [List.getElem?_cons_zero,Option.some.injEq] at hx
   subst hx
   simp only [VRepsP] at h
   obtain ⟨c,r,rfl,hc,hr⟩ := h
   refine ⟨c,hc,fun j hj => ?_⟩
   rw [Nat.zero_mul,Nat.zero_add,List.getElem?_append_left (by rw [hc.rep.len]; exact hj)]
 | y :: xs,L,i + 1,x,h,hx => by
   simp only [List.getElem?_cons_succ] at hx
   simp only [VRepsP] at h
   obtain ⟨c,r,rfl,hc,hr⟩ := h
   obtain ⟨cs,h1,h2⟩ := VRepsP.get hr hx
   refine ⟨cs,h1,fun j hj => ?_⟩
   rw [List.getElem?_append_right (by rw [hc.rep.len]; omega),hc.rep.len,← h2 j hj]
   congr 1; omega
theorem VRepP.out {G : Nat → Prop} {w : World} {v : JV} {cs : List Value} (h : VRepP G w v cs) : ∃ sv kv T1 T2 L,cs = [i64 v.k,.bool v.b,str v.t,sv,kv] ∧ SlAt w T1 sv v.xs.length L ∧ VRepsP G w v.xs L ∧ SlAt w T2 kv v.ks.length (v.ks.map str) ∧ Fits v.xs.length v.ks v.t ∧ (L ≠ [] → inG G sv) ∧ (v.ks.map str ≠ [] → inG G kv) := by
 cases v with
 | mk k b t xs ks => simpa only [VRepP,JV.k,JV.b,JV.t,JV.xs,JV.ks] using h
section
variable [HX]
structure GrowP (GG : Nat → Prop) (w0 w : World) (b base : Nat) (sv0 kv0 sv kv : Value) (xs : List JV) (ks : List Str) : Prop where
 ext : Ext w0 w
 hb : w.heap[b]? = some (.cells [i64 6,.bool false,str [],sv0,kv0].toArray VT (0,0))
 low : w0.heap.size ≤ b
 lt : b < base
 le : base ≤ w.heap.size
 items : ∃ L,Own w base VT 5 sv xs.length L ∧ VRepsP GG w0 xs L
 keys : Own w base ST 1 kv ks.length (ks.map str)
structure OwnVP (GG : Nat → Prop) (w0 w : World) (base : Nat) (v : JV) (sv kv : Value) : Prop where
 items : ∃ L,Own w base VT 5 sv v.xs.length L ∧ VRepsP GG w0 v.xs L
 keys : Own w base ST 1 kv v.ks.length (v.ks.map str)
 fits : Fits v.xs.length v.ks v.t
theorem GrowP.own {GG : Nat → Prop} {w0 w : World} {b base : Nat} {sv kv : Value} {l : List (Str × JV)} (h : GrowP GG w0 w b base sv kv sv kv (l.map (·.2)) (l.map (·.1))) (hl : l.length ≤ 1000000) (hk : ∀ p ∈ l,p.1.length ≤ 9223372036854775807) : OwnVP GG w0 w base (mkO l) sv kv := by
 refine ⟨h.items,h.keys,?_,?_,?_,?_⟩
 · simp only [mkO,JV.xs,List.length_map]; omega
 · simp only [mkO,JV.ks,List.length_map]; omega
 · simp [mkO,JV.t]
 · intro s hs
   simp only [mkO,JV.ks,List.mem_map] at hs
   obtain ⟨p,hp,rfl⟩ := hs
   exact hk p hp
end
end Go.Proofs.YtpiaegojabkioaaGreatDoor
namespace Go.Proofs.YtpiaegojabkioaaGreatDoor
open Go Go.Eng Go.RowKit
set_option maxRecDepth 100000
def OutR (s : Str) (r : RR JV) (w : World) (v : Value) (w' : World) : Prop :=
 Ext w w' ∧ ∃ x cs j c e a,v = .tuple #[.agg (SS s j c e a).toArray,.agg cs.toArray] ∧ VRepP (From w.heap.size) w' x cs ∧ j ≤ s.length ∧ ((e = 0 ∧ a = 0 ∧ r = .ok x j c) ∨ (e ≠ 0 ∧ ∃ k : Nat,a = (k : Int) ∧ r = .bad e k))
theorem OutR.good {s : Str} {r : RR JV} {w w' : World} {x : JV} {cs : List Value} {j c : Nat} (hr : r = .ok x j c) (hx : Ext w w') (h : VRepP (From w.heap.size) w' x cs) (hj : j ≤ s.length) : OutR s r w (.tuple #[.agg (SS s j c 0 0).toArray,.agg cs.toArray]) w' :=
 ⟨hx,x,cs,j,c,0,0,rfl,h,hj,.inl ⟨rfl,rfl,hr⟩⟩
theorem OutR.bad {s : Str} {r : RR JV} {w w' : World} {x : JV} {cs : List Value} {j c k : Nat} {e : Int} (hr : r = .bad e k) (he : e ≠ 0) (hx : Ext w w') (h : VRepP (From w.heap.size) w' x cs) (hj : j ≤ s.length) : OutR s r w (.tuple #[.agg (SS s j c e (k : Nat)).toArray,.agg cs.toArray]) w' :=
 ⟨hx,x,cs,j,c,e,k,rfl,h,hj,.inr ⟨he,k,rfl,hr⟩⟩
section
variable [HX]
end
end Go.Proofs.YtpiaegojabkioaaGreatDoor




namespace Go.Proofs.YtpiaegojabkioaaGreatDoor
open Go Go.Eng Go.Num Go.RowKit
set_option maxRecDepth 100000
abbrev RT : TypeId := 69
abbrev StaT : TypeId := 38
def sameR (a b : RV) : Bool := decide (a.addr = b.addr) && decide (a.typ = b.typ) && decide (a.id = b.id) && sameM a.attrs b.attrs && decide (a.deps = b.deps)
theorem sameR_iff (a b : RV) : sameR a b = true ↔ a = b := by
 unfold sameR
 cases a; cases b
 simp only [Bool.and_eq_true,decide_eq_true_eq,same_iff,RV.mk.injEq]
 constructor
 · rintro ⟨⟨⟨⟨h1,h2⟩,h3⟩,h4⟩,h5⟩; exact ⟨h1,h2,h3,h4,h5⟩
 · rintro ⟨h1,h2,h3,h4,h5⟩; exact ⟨⟨⟨⟨h1,h2⟩,h3⟩,h4⟩,h5⟩
def nm15M (s : Str) : Bool := decide (0 < s.length) && decide (s.length ≤ 16384) && utfM s
structure StB (G : Nat → Prop) (w : World) (p : Nat) (ser : Int) (l : List RV) (sv : Value) : Prop where
 hb : w.heap[p]? = some (.cells [i64 ser,sv].toArray StaT (0,0))
 sl : ∃ T L,SlAt w T sv l.length L ∧ RRepsP G w l L
def StRepP (G : Nat → Prop) (w : World) (ser : Int) (l : List RV) (cs : List Value) : Prop := ∃ sv T L,cs = [i64 ser,sv] ∧ SlAt w T sv l.length L ∧ RRepsP G w l L
theorem StRepP.ext {G : Nat → Prop} {w w' : World} {ser : Int} {l : List RV} {cs : List Value} (h : StRepP G w ser l cs) (hx : Ext w w') : StRepP G w' ser l cs := by
 obtain ⟨sv,T,L,e,h1,h2⟩ := h
 exact ⟨sv,T,L,e,h1.ext hx,h2.ext hx⟩
theorem StB.ext {G : Nat → Prop} {w w' : World} {p : Nat} {ser : Int} {l : List RV} {sv : Value} (h : StB G w p ser l sv) (hx : Ext w w') : StB G w' p ser l sv := ⟨hx.at h.hb id,let ⟨T,L,h1,h2⟩ := h.sl; ⟨T,L,h1.ext hx,h2.ext hx⟩⟩
theorem StB.rep {G : Nat → Prop} {w : World} {p : Nat} {ser : Int} {l : List RV} {sv : Value} (h : StB G w p ser l sv) : StRepP G w ser l [i64 ser,sv] := let ⟨T,L,h1,h2⟩ := h.sl; ⟨sv,T,L,rfl,h1,h2⟩
theorem StB.all {G : Nat → Prop} {w : World} {p : Nat} {ser : Int} {l : List RV} {sv : Value} {K : Value → Prop} (h : StB G w p ser l sv) (hk : K (.agg [i64 ser,sv].toArray)) : ldW true 2 (.pointer (some ⟨p,0,none⟩)) w K := ld_all h.hb rfl hk
theorem StB.ser {G : Nat → Prop} {w : World} {p : Nat} {ser : Int} {l : List RV} {sv : Value} {K : Value → Prop} (h : StB G w p ser l sv) (hk : K (i64 ser)) : ldW false 1 (.pointer (some ((⟨p,0,none⟩ : Addr).add 0))) w K := by
 rw [ld_one]
 exact ⟨i64 ser,by rw [add_mk,cell_eq,h.hb,cellO_some]; rfl,hk⟩
theorem StB.recs {G : Nat → Prop} {w : World} {p : Nat} {ser : Int} {l : List RV} {sv : Value} {K : Value → Prop} (h : StB G w p ser l sv) (hk : K sv) : ldW false 1 (.pointer (some ((⟨p,0,none⟩ : Addr).add 1))) w K := by
 rw [ld_one]
 exact ⟨sv,by rw [add_mk,cell_eq,h.hb,cellO_some]; rfl,hk⟩
theorem StB.len {G : Nat → Prop} {w : World} {p : Nat} {ser : Int} {l : List RV} {sv : Value} (h : StB G w p ser l sv) (K : Value → Prop) : lenlW sv K ↔ K (i64 (l.length : Nat)) := by obtain ⟨T,L,h1,_⟩ := h.sl; exact lenl_at h1 K
theorem box_st {G : Nat → Prop} {w : World} {ser : Int} {l : List RV} {cs : List Value} {K : Value → World → Prop} (h : StRepP G w ser l cs) (hK : ∀ p w' sv,cs = [i64 ser,sv] → StB G w' p ser l sv → Ext w w' → p = w.heap.size → K (.pointer (some ⟨p,0,none⟩)) w') : boxW StaT (.agg cs.toArray) w K := by
 obtain ⟨sv,T,L,rfl,h1,h2⟩ := h
 exact box_new fun p w' hp hz hb hx => hK p w' sv rfl ⟨hb,T,L,h1.ext hx,h2.ext hx⟩ hx hp
section
variable [HX]
theorem rec15_ref {G G' : Nat → Prop} {a b : RV} {cs ds : List Value} {w : World} {K : Value → World → Prop} (h : RRepP G w a cs) (h' : RRepP G' w b ds) (hK : ∀ w',Ext w w' → K (.bool (sameR a b)) w') :
   callF Tryz.prog 31 [.agg cs.toArray,.agg ds.toArray] w K := by
 refine W31_ok ?_
 unfold W31
 refine box_r h fun p w1 vcs dv e1 hA hx1 hp => ?_
 refine box_r (h'.ext hx1) fun q w2 vds ev e2 hB hx2 hq => ?_
 have hA := hA.ext hx2
 simp only [fld_ptr]
 refine hA.ld (off := 0) (v := str a.addr) rfl ?_
 refine hB.ld (off := 0) (v := str b.addr) rfl ?_
 rw [bin_seq]
 simp only [isB_t]
 refine GdW.look (decide (a.typ = b.typ)) (fun _ J hJ => ?_) fun g => ?_
 · refine hA.ld (off := 1) (v := str a.typ) rfl ?_
   refine hB.ld (off := 1) (v := str b.typ) rfl ?_
   rw [bin_seq]; exact hJ
 simp only [List.getD_cons_zero]
 rw [pick_gd_and]
 simp only [isB_t]
 refine GdW.look (decide (a.id = b.id)) (fun _ J hJ => ?_) fun g => ?_
 · refine hA.ld (off := 2) (v := str a.id) rfl ?_
   refine hB.ld (off := 2) (v := str b.id) rfl ?_
   rw [bin_seq]; exact hJ
 simp only [List.getD_cons_zero]
 rw [pick_gd_and]
 simp only [isB_t]
 refine GdW.act (sameM a.attrs b.attrs) (fun w' => Ext w2 w') (fun _ => Chg.refl _ _) (fun _ J hJ => ?_) fun g w9 hx9 => ?_
 · refine hA.attrs ?_
   refine hB.attrs ?_
   exact same_ref _ hA.val.rep hB.val.rep hJ
 simp only [List.getD_cons_zero]
 rw [pick_gd_and]
 simp only [isB_t]
 have hA9 := hA.ext hx9
 have hB9 := hB.ext hx9
 have hd : ∀ (r : RV) (vs : List Value) (d : Value),vs.length = 5 → (rcs r vs d)[8]? = some d := fun r vs d h5 => by
   show (vs ++ [d])[5]? = some d
   rw [List.getElem?_append_right (by omega),h5]
   rfl
 refine GdW.act (decide (a.deps = b.deps)) (fun w' => Ext w9 w') (fun _ => Chg.refl _ _) (fun _ J hJ => ?_) fun g w12 hx12 => ?_
 · refine hA9.ld (hd _ _ _ hA9.val.rep.len) ?_
   refine hB9.ld (hd _ _ _ hB9.val.rep.len) ?_
   obtain ⟨T1,s1⟩ := hA9.sl
   obtain ⟨T2,s2⟩ := hB9.sl
   exact texts_ref s1 s2 hA9.fits.deps hJ
 simp only [List.getD_cons_zero]
 rw [pick_gd_and]
 exact hK w12 (hx1.trans (hx2.trans (hx9.trans hx12)))
theorem few15_p {G : Nat → Prop} {ser : Int} {l : List RV} {cs : List Value} {w : World} {K : Value → World → Prop} (h : StRepP G w ser l cs) (hK : ∀ w',Ext w w' → K (.bool (decide (l.length ≤ 200))) w') : callF Tryz.prog 16 [.agg cs.toArray] w K := by
 refine W16_ok ?_
 unfold W16
 refine box_st h fun p w1 sv e hA hx1 hp => ?_
 simp only [fld_ptr]
 refine hA.recs ?_
 rw [hA.len,bin_leq,decide_eq_decide.2 (show ((l.length : Nat) : Int) ≤ 200 ↔ l.length ≤ 200 by omega)]
 exact hK w1 hx1
end
end Go.Proofs.YtpiaegojabkioaaGreatDoor
namespace Go.Proofs.YtpiaegojabkioaaGreatDoor
open Go Go.Eng Go.Num Go.RowKit
set_option maxRecDepth 100000
abbrev zr : List Value := [.string (ofL []),.string (ofL []),.string (ofL []),.int .i64 0,.bool false,.string (ofL []),.slice none 0 0,.slice none 0 0,.slice none 0 0]
theorem elem_r : ElemT Tryz.prog 36 RT 9 152 := ⟨by kernel_rfl,by kernel_rfl,by decide⟩
section
variable [HX]
theorem row_r {w : World} {cs : List Value} {K : Value → World → Prop} (hc : cs.length = 9) (hK : ∀ t w',SlAt w' RT t 1 cs → Ext w w' → K t w') : bslW RT 1 zr [(0,9,.agg cs.toArray)] w K := by
 unfold bslW
 have hp : ∀ K : List Value → Prop,K cs → putW zr [(0,9,.agg cs.toArray)] K := by
   intro K hK
   refine ⟨by simp [Value.cells,hc],by simp,?_⟩
   have : List.take 0 zr ++ ((Value.agg cs.toArray).cells.toList ++ List.drop (0 + 9) zr) = cs := by simp [Value.cells]
   rw [this]
   exact hK
 refine hp _ ?_
 exact hK _ _ (own_new (w := w) (base := w.heap.size) (e := RT) (size := 9) (n := 1) (cs := cs) (Nat.le_refl _) (by omega) (by omega)).sl (by repeat (first | assumption | exact Chg.refl _ _ | refine Chg.drew ?_ | refine Chg.alloc ?_ _ | refine Chg.set ?_ (by first | exact .inl rfl | exact .inr (by omega) | exact .inr (by simp only [size_set,size_alloc,size_drew]; omega) | (left; simp; done)) _ | exact Chg.of_ext (by assumption)))
theorem rec_at {G : Nat → Prop} {w : World} {T : TypeId} {sv : Value} {l : List RV} {L : List Value} {i : Nat} {x : RV} (h : SlAt w T sv l.length L) (hr : RRepsP G w l L) (hx : l[i]? = some x) :
   ∃ p : Addr,(∀ K : Value → Prop,K (.pointer (some p)) → ixaW none 9 sv (i64 (i : Nat)) K) ∧ (∀ (w' : World) (K : Value → Prop),w'.heap = w.heap → K (str x.addr) → ldW false 1 (.pointer (some (p.add 0))) w' K) ∧
     ∃ cs,RRepP G w x cs ∧ ∀ (w' : World) (K : Value → Prop),w'.heap = w.heap → K (.agg cs.toArray) → ldW true 9 (.pointer (some p)) w' K := by
 obtain ⟨hi,_⟩ := List.getElem?_eq_some_iff.1 hx
 have hlen := hr.len
 obtain ⟨q,cap,rfl,h1,h2,h3⟩ := h
 obtain ⟨b,off,c,fr,rfl,hb,hcs⟩ := h3 (by intro e; rw [e] at hlen; simp at hlen; omega)
 obtain ⟨cs,hc,hg⟩ := hr.get hx
 have hin : ∀ j,j < 9 → c[off + i * 9 + j]? = cs[j]? := fun j hj => by
   rw [← hg j hj,← hcs (i * 9 + j) (by omega)]
   congr 1; omega
 refine ⟨⟨b,off + i * 9,none⟩,fun K hK => ?_,fun w' K hw hK => ?_,cs,hc,fun w' K hw hK => ld_cells (by rw [hw]; exact hb) hc.len hin hK⟩
 · rw [ixa_slice,Int.toNat_natCast,add_mk]
   exact ⟨by omega,by omega,hK⟩
 · have hds : cs[0]? = some (str x.addr) := by obtain ⟨vcs,dv,T,rfl,_⟩ := hc; rfl
   rw [ld_one]
   exact ⟨_,by rw [add_mk,cell_eq,hw,hb,cellO_some,← hds,← hin 0 (by omega)],hK⟩
theorem same15_ref {G G' : Nat → Prop} {s1 s2 : Int} {l m : List RV} {cs ds : List Value} {w : World} {K : Value → World → Prop} (h : StRepP G w s1 l cs) (h' : StRepP G' w s2 m ds) (hl : l.length ≤ 9223372036854775807) (hK : ∀ b w',(b = true ↔ s1 = s2 ∧ l = m) → Ext w w' → K (.bool b) w') :
   callF Tryz.prog 18 [.agg cs.toArray,.agg ds.toArray] w K := by
 refine W18_ok ?_
 unfold W18
 refine box_st h fun p w1 sv e1 hA hx1 hp => ?_
 refine box_st (h'.ext hx1) fun q w2 tv e2 hB hx2 hq => ?_
 have hA := hA.ext hx2
 have hx02 := hx1.trans hx2
 simp only [fld_ptr]
 refine hA.ser ?_
 refine hB.ser ?_
 rw [bin_neq]
 simp only [isB_f]
 refine GdW.look (decide (((l.length : Nat) : Int) ≠ ((m.length : Nat) : Int))) (fun _ J hJ => ?_) fun g => ?_
 · refine hA.recs ?_
   rw [hA.len]
   refine hB.recs ?_
   rw [hB.len,bin_neq]
   exact hJ
 simp only [List.getD_cons_zero]
 rw [pick_gd_or,condW_b]
 refine ⟨fun e => ?_,fun e => ?_⟩
 · refine hK false w2 ⟨(fun e => by cases e),fun ⟨e1,e2⟩ => ?_⟩ hx02
   have d1 : decide (s1 ≠ s2) = false := by rw [e1]; simp
   have d2 : decide (((l.length : Nat) : Int) ≠ ((m.length : Nat) : Int)) = false := by rw [e2]; simp
   rw [d1,d2] at e
   cases e
 simp only [Bool.or_eq_false_iff,decide_eq_false_iff_not,Decidable.not_not] at e
 obtain ⟨es,el⟩ := e
 have el : l.length = m.length := by omega
 refine hA.recs ?_
 rw [hA.len]
 refine loop_up l.length (fun i w' => Ext w2 w' ∧ l.take i = m.take i) ⟨Chg.refl _ _,rfl⟩ ?_ ?_
 · rintro i w6 g L hi ⟨hx6,ht⟩ hL
   have hxd : Ext w6 w6.drew := Chg.drew (Chg.refl (fun _ => False) w6)
   have hA6 := (hA.ext hx6).ext hxd
   have hB6 := (hB.ext hx6).ext hxd
   obtain ⟨a,ha⟩ : ∃ a,l[i]? = some a := ⟨_,List.getElem?_eq_getElem hi⟩
   obtain ⟨b,hb⟩ : ∃ b,m[i]? = some b := ⟨_,List.getElem?_eq_getElem (by omega)⟩
   simp only [List.getD_cons_zero]
   rw [bin_lss,decide_eq_true (by omega),condW_true]
   refine hA6.recs ?_
   obtain ⟨T1,L1,s1,r1⟩ := hA6.sl
   obtain ⟨T2,L2,s2,r2⟩ := hB6.sl
   refine rec_ld s1 r1 ha fun as1 h1 => ?_
   refine hB6.recs ?_
   refine rec_ld s2 r2 hb fun bs1 h2 => ?_
   refine rec15_ref h1 h2 fun w7 hx7 => ?_
   have hx27 := hx6.trans (hxd.trans hx7)
   rw [un_not,condW_b]
   refine ⟨fun e => ?_,fun e => ?_⟩
   · refine hK false w7 ⟨(fun e => by cases e),fun ⟨_,e2⟩ => ?_⟩ (hx02.trans hx27)
     subst e2
     rw [ha] at hb
     cases hb
     rw [(sameR_iff a a).2 rfl] at e
     cases e
   · rw [bin_add,up1 (by omega)]
     refine hL w7 ⟨hx27,?_⟩
     have hab : a = b := (sameR_iff a b).1 (by simpa using e)
     rw [List.take_add_one,List.take_add_one,ht,ha,hb,hab]
 rintro w6 g L ⟨hx6,ht⟩
 simp only [List.getD_cons_zero]
 rw [bin_lss,decide_eq_false (by omega),condW_false]
 refine hK true w6 ⟨fun _ => ⟨es,?_⟩,fun _ => rfl⟩ (hx02.trans hx6)
 rw [List.take_length,el,List.take_length] at ht
 exact ht
end
end Go.Proofs.YtpiaegojabkioaaGreatDoor

namespace Go.Eng
open Go
structure AV where
 mods : List Str
 typ : Str
 nm : Str
 kind : Int
 num : Int
 key : Str
 aside : Bool
end Go.Eng


namespace Go.Proofs.YtpiaegojabkioaaGreatDoor
open Go Go.Eng Go.RowKit
set_option maxRecDepth 100000
section
variable [HX]
theorem dec_len : ∀ (k u : Nat),u < 10 ^ k → (Lib.decDigits u).length ≤ k + 1 := by
 intro k
 induction k with
 | zero => intro u h; rw [Lib.decDigits,dif_pos (by omega)]; simp
 | succ k ih =>
   intro u h
   rw [Lib.decDigits]
   split
   · simp
   · have := ih (u / 10) (by rw [Nat.pow_succ] at h; omega)
     rw [List.length_append,List.length_singleton]; omega
theorem ext_grow (w : World) (k : Nat) (os : Array Obj) : Ext w (Sort.grow (w.drewN k) os) :=
 ⟨rfl,rfl,rfl,by show w.heap.size ≤ (w.heap ++ os).size; simp,fun j hj _ => by show (w.heap ++ os)[j]? = _; rw [Array.getElem?_append_left hj]⟩
theorem itoa_p {n : Int} {w : World} {K : Value → World → Prop} (hT : Tabs w) (h1 : -9223372036854775808 ≤ n) (h2 : n ≤ 9223372036854775807) (hK : ∀ w',Ext w w' → K (str (Lib.itoa n)) w') : callF Tryz.prog 90 [i64 n] w K := by
 refine of_calls (args := #[i64 n]) Tryz.call90 ((Tryz.strconv_Itoa n h1 h2 w hT.pow).mono ?_)
 rintro e w' ⟨rfl,k,os,rfl⟩
 exact ⟨_,rfl,hK _ (ext_grow w k os)⟩
theorem itoa_len {n : Int} (h1 : -9223372036854775808 ≤ n) (h2 : n ≤ 9223372036854775807) : (Lib.itoa n).length ≤ 30 := by
 unfold Lib.itoa
 split
 · have := dec_len 19 n.natAbs (by omega)
   simp only [List.length_cons]; omega
 · have := dec_len 19 n.toNat (by omega)
   omega
theorem var_ext {P : Program} {w w' : World} {name : String} {c : Array Value} (hx : Ext w w') (h : w.var? P name = some c) : w'.var? P name = some c := by
 unfold World.var? at h ⊢
 cases hg : P.globalNamed name with
 | none => rw [hg] at h; cases h
 | some g =>
   rw [hg] at h
   simp only [Option.bind_some] at h ⊢
   cases hb : w.heap[g]? with
   | none => rw [hb] at h; cases h
   | some o => rw [hx.at hb id]; rw [hb] at h; exact h
theorem Tabs.ext {w w' : World} (h : Tabs w) (hx : Ext w w') : Tabs w' := ⟨h.utf.ext hx,cell_ext hx h.bru,var_ext hx h.pow⟩
section
variable {s f : Str} {c a : Int} {d : Nat}
end
end
end Go.Proofs.YtpiaegojabkioaaGreatDoor






namespace Go.Proofs.YtpiaegojabkioaaGreatDoor
open Go Go.Eng Go.RowKit
set_option maxRecDepth 100000
structure AFits (a : AV) : Prop where
 mods : a.mods.length ≤ 9223372036854775807
 typ : a.typ.length ≤ 9223372036854775807
 nm : a.nm.length ≤ 9223372036854775807
 key : a.key.length ≤ 9223372036854775807
 kind : -9223372036854775808 ≤ a.kind ∧ a.kind ≤ 9223372036854775807
 num : -9223372036854775808 ≤ a.num ∧ a.num ≤ 9223372036854775807
 each : ∀ m ∈ a.mods,m.length ≤ 9223372036854775807
abbrev acs (a : AV) (sv : Value) : List Value := [sv,str a.typ,str a.nm,i64 a.kind,i64 a.num,str a.key,.bool a.aside]
structure AcB (T0 : TypeId) (w : World) (p : Nat) (a : AV) (sv : Value) : Prop where
 hb : w.heap[p]? = some (.cells (acs a sv).toArray T0 (0,0))
 sl : ∃ T,SlAt w T sv a.mods.length (a.mods.map str)
 fits : AFits a
section
variable [HX]
end
end Go.Proofs.YtpiaegojabkioaaGreatDoor

namespace Go.Proofs.YtpiaegojabkioaaGreatDoor
open Go Go.Eng Go.RowKit
set_option maxRecDepth 100000
theorem AcB.st {T0 : TypeId} {w : World} {p off : Nat} {a a' : AV} {sv sv' v : Value} {K : World → Prop} (h : AcB T0 w p a sv) (h1 : one1 v = true) (ho : off < 7) (he : (acs a sv).set off v = acs a' sv') (hf : AFits a') (hs : ∃ T,∀ w',Chg (Cr p) w w' → SlAt w' T sv' a'.mods.length (a'.mods.map str)) (hK : ∀ w',AcB T0 w' p a' sv' → Chg (Cr p) w w' → w'.heap.size = w.heap.size → K w') :
   fldW off (.pointer (some ⟨p,0,none⟩)) fun t => stW 1 t v w K := by
 rw [fld_ptr,add_mk,Nat.zero_add]
 refine st_at h.hb h1 (by simpa using ho) fun w' hz hb hc => ?_
 obtain ⟨T,hs⟩ := hs
 refine hK w' ⟨?_,⟨T,hs w' hc⟩,hf⟩ hc hz
 rw [hb,← he]; simp
section
variable [HX]
structure TabA (w : World) : Prop where
 tabs : Tabs w
 err : TabE w
 rng : ∃ T v,w.cell? ⟨3,0,none⟩ = some (.iface T v)
theorem TabA.ext {w w' : World} (h : TabA w) (hx : Ext w w') : TabA w' := ⟨h.tabs.ext hx,h.err.ext hx,let ⟨T,v,h1⟩ := h.rng; ⟨T,v,cell_ext hx h1⟩⟩
theorem TabA.j {w : World} (h : TabA w) : TabJ w := ⟨h.tabs.utf,h.tabs.bru,h.err⟩
end
end Go.Proofs.YtpiaegojabkioaaGreatDoor

namespace Go.Proofs.YtpiaegojabkioaaGreatDoor
open Go Go.Eng Go.RowKit
set_option maxRecDepth 100000
section
variable [HX]
theorem equals_p {a b : List Str} {x y : Value} {T1 T2 : TypeId} {w : World} {K : Value → World → Prop} (h1 : SlAt w T1 x a.length (a.map str)) (h2 : SlAt w T2 y b.length (b.map str)) (ha : a.length ≤ 9223372036854775807)
   (hK : ∀ w',Ext w w' → K (.bool (decide (a = b))) w') : callF Tryz.prog 67 [x,y] w K := by
 refine W67_ok ?_
 unfold W67
 rw [lenl_at h1,lenl_at h2,bin_neq,condW_dec]
 refine ⟨fun hne => ?_,fun he => ?_⟩
 · have := hK w (Chg.refl _ _)
   rw [decide_eq_false (fun e => hne (by rw [e]))] at this
   exact this
 have he : a.length = b.length := by
   have : ¬ ((a.length : Int) ≠ (b.length : Int)) := he
   omega
 rw [lenl_at h1]
 refine loop_up a.length (fun i w' => Ext w w' ∧ a.take i = b.take i) ⟨Chg.refl _ _,rfl⟩ ?_ ?_
 · rintro i w2 g L hi ⟨hx2,ht⟩ hL
   have hxd : Ext w2 w2.drew := Chg.drew (Chg.refl (fun _ => False) w2)
   obtain ⟨u,hu⟩ : ∃ u,a[i]? = some u := ⟨_,List.getElem?_eq_getElem hi⟩
   obtain ⟨v,hv⟩ : ∃ v,b[i]? = some v := ⟨_,List.getElem?_eq_getElem (by omega)⟩
   simp only [List.getD_cons_zero]
   rw [bin_lss,decide_eq_true (by omega),condW_true]
   refine text_ld (h1.ext (hx2.trans hxd)) hu ?_
   refine text_ld (h2.ext (hx2.trans hxd)) hv ?_
   rw [bin_sne,condW_dec]
   refine ⟨fun hne => ?_,fun heq => ?_⟩
   · have := hK _ (hx2.trans hxd)
     rw [decide_eq_false (fun e => hne (by rw [e,hv] at hu; exact (Option.some.inj hu).symm))] at this
     exact this
   · have heq : u = v := Decidable.not_not.1 heq
     rw [bin_add,up1 (by omega)]
     refine hL _ ⟨hx2.trans hxd,?_⟩
     rw [List.take_add_one,List.take_add_one,ht,hu,hv,heq]
 · rintro w2 g L ⟨hx2,ht⟩
   simp only [List.getD_cons_zero]
   rw [bin_lss,decide_eq_false (by omega),condW_false]
   have := hK w2 hx2
   rw [List.take_length,he,List.take_length] at ht
   rw [decide_eq_true ht] at this
   exact this
end
end Go.Proofs.YtpiaegojabkioaaGreatDoor





namespace Go.Proofs.YtpiaegojabkioaaGreatDoor
open Go Go.Eng Go.Num Go.RowKit
set_option maxRecDepth 100000
def attrsM (v : JV) : Bool := decide (v.k = 6) && goodM v && knownM v && decide ((encM 1 20 31 3 v).2 ≠ 31)
def prevOk (prev : Option Str) (d : Str) : Bool := match prev with | none => true | some p => Op.bytesLess p d
def depOk (prev : Option Str) : List Str → Bool
 | [] => true
 | d :: ds => nm15M d && prevOk prev d && depOk (some d) ds
def recOk1 (r : RV) : Bool := nm15M r.addr && nm15M r.typ && nm15M r.id && attrsM r.attrs && depOk none r.deps
def recsOk (prev : Option Str) : List RV → Bool
 | [] => true
 | r :: l => prevOk prev r.addr && recOk1 r && recsOk (some r.addr) l
def goodS (ser : Int) (l : List RV) : Bool := decide (0 ≤ ser) && decide (ser ≤ 1099511627776) && recsOk none l
def prevAt (l : List Str) : Nat → Option Str
 | 0 => none
 | i + 1 => l[i]?
theorem depOk_step {l : List Str} {i : Nat} {d : Str} (h : l[i]? = some d) : depOk (prevAt l i) (l.drop i) = (nm15M d && prevOk (prevAt l i) d && depOk (prevAt l (i + 1)) (l.drop (i + 1))) := by
 obtain ⟨hi,e⟩ := List.getElem?_eq_some_iff.1 h
 rw [List.drop_eq_getElem_cons hi,e]
 simp only [depOk,prevAt,h]
theorem recsOk_step {l : List RV} {i : Nat} {r : RV} (h : l[i]? = some r) : recsOk (prevAt (l.map RV.addr) i) (l.drop i) = (prevOk (prevAt (l.map RV.addr) i) r.addr && recOk1 r && recsOk (prevAt (l.map RV.addr) (i + 1)) (l.drop (i + 1))) := by
 obtain ⟨hi,e⟩ := List.getElem?_eq_some_iff.1 h
 rw [List.drop_eq_getElem_cons hi,e]
 simp only [recsOk,prevAt,List.getElem?_map,h,Option.map_some]
section
variable [HX]
theorem keep_r {G : Nat → Prop} {w : World} {r : RV} {cs : List Value} {K : Value → World → Prop} (h : RRepP G w r cs) (hK : ∀ p w' vcs dv,cs = rcs r vcs dv → RcB G RT w' p r vcs dv → Ext w w' → w.heap.size ≤ p → K (.pointer (some ⟨p,0,none⟩)) w') :
   allocW RT zr w fun t1 w2 => stW 9 t1 (.agg cs.toArray) w2 fun w3 => K t1 w3 := by
 obtain ⟨vcs,dv,T,e,h1,h2,h3,h4⟩ := id h
 refine alloc_new fun p w1 hp hz hb hx => ?_
 refine st_agg_at hb h.len rfl h.all_one fun w2 hz2 hb2 hc2 => ?_
 have hx2 : Ext w w2 := hx.new hc2 (by omega)
 exact hK p w2 vcs dv e ⟨by rw [← e]; exact hb2,VRepP.chg hx2 (fun _ _ _ e => e) h1,⟨T,h2.ext hx2⟩,h3,h4⟩ hx2 (by omega)
end
end Go.Proofs.YtpiaegojabkioaaGreatDoor
namespace Go.Proofs.YtpiaegojabkioaaGreatDoor
open Go Go.Eng Go.Num Go.RowKit
set_option maxRecDepth 100000
section
variable [HX]
theorem vobject_p {l : List (Str × JV)} {kv xv : Value} {T : TypeId} {w : World} {K : Value → World → Prop} (hk : SlAt w T kv (l.map (·.1)).length ((l.map (·.1)).map str)) (hx : ItemsAt w xv (l.map (·.2))) (hn : l.length ≤ 1000) (hr : Rise (l.map (·.1)))
   (hkl : ∀ p ∈ l,p.1.length ≤ 9223372036854775807) (hf : ∀ p ∈ l,fewW p.2 = true) (hK : ∀ cs w',Ext w w' → VRepP (From w.heap.size) w' (mkO l) cs → K (.tuple #[.agg cs.toArray,i64 0]) w') :
   callF Tryz.prog 57 [kv,xv] w K := by
 refine W57_ok ?_
 unfold W57
 have hkn : (l.map (·.1)).length = l.length := List.length_map _
 have hxn : (l.map (·.2)).length = l.length := List.length_map _
 refine alloc_new fun q w1 hq hz1 hbq hx1 => ?_
 rw [(lenl_at hk _),hx.len,bin_neq,decide_eq_false (by rw [hkn,hxn]; simp),condW_false]
 simp only [put_int,put_nil,List.length_cons,List.length_nil,List.set_cons_zero]
 refine ⟨by omega,?_⟩
 refine alloc_new fun p w6 hp hz6 hbp hx6 => ?_
 refine st_agg_at (l := [i64 6,.bool false,str [],.slice none 0 0,.slice none 0 0]) hbp rfl rfl rfl fun w7 hz7 hbp7 hc7 => ?_
 have s1 := hx1.size
 have s6 := hx6.size
 have hx07 : Ext w w7 := (hx1.trans hx6).new hc7 (by omega)
 have hbq7 := hc7.at (hx6.at hbq id) fun e => by have e : q = p := e; omega
 have hplt := at_lt hbp7
 rw [(lenl_at hk _),hkn]
 refine LoopW.go (fun st w' => ∃ (i : Nat) (sv kv' : Value) (L : List Value),st = [i64 (i : Nat)] ∧ i ≤ l.length ∧ Ext w w' ∧ w'.heap[q]? = w7.heap[q]? ∧ w'.heap[p]? = some (.cells [i64 6,.bool false,str [],sv,kv'].toArray VT (0,0)) ∧ w7.heap.size ≤ w'.heap.size ∧ OwnP w' w7.heap.size (mkO (l.take i)) sv kv' L)
   (fun st _ => match st with | [.int _ i] => l.length - i.toNat | _ => 0)
   ⟨0,.slice none 0 0,.slice none 0 0,[],rfl,Nat.zero_le _,hx07,rfl,hbp7,Nat.le_refl _,⟨rfl,.inl ⟨rfl,rfl⟩⟩,by simp [mkO,JV.xs,VRepsP],⟨rfl,.inl ⟨rfl,rfl⟩⟩,⟨by simp [mkO,JV.xs],by simp [mkO,JV.ks],by simp [mkO,JV.t],fun s hs => by simp [mkO,JV.ks] at hs⟩⟩ ?_
 rintro st g w9 ⟨i,sv,kv',L,rfl,hi,hx9,hq9,hb9,s9,hO9⟩
 simp only [List.getD_cons_zero]
 have htl : (l.take i).length = i := by rw [List.length_take]; omega
 have htk : (l.take i).map (·.1) = (l.map (·.1)).take i := List.map_take
 have hrt : Rise ((l.take i).map (·.1)) := by rw [htk]; exact hr.sublist (List.take_sublist _ _)
 have hrep9 : VRep w9 (mkO (l.take i)) [i64 6,.bool false,str [],sv,kv'] := hO9.rep.rep
 have hone : [i64 6,.bool false,str [],sv,kv'].all one1 = true := hrep9.all_one
 rw [bin_lss,condW_dec]
 refine ⟨fun hlt => ?_,fun hge => ?_⟩
 · have hlt : i < l.length := by omega
   obtain ⟨y,hy⟩ : ∃ y,l[i]? = some y := ⟨_,List.getElem?_eq_getElem hlt⟩
   have hyk : (l.map (·.1))[i]? = some y.1 := by rw [List.getElem?_map,hy]; rfl
   have hyx : (l.map (·.2))[i]? = some y.2 := by rw [List.getElem?_map,hy]; rfl
   have hmem : y ∈ l := List.mem_of_getElem? hy
   have hlow : ∀ p ∈ l.take i,Op.bytesLess p.1 y.1 = true := fun p hp => by
     obtain ⟨j,hj⟩ := List.getElem?_of_mem hp
     have hji : j < i := by have := (List.getElem?_eq_some_iff.1 hj).1; omega
     rw [List.getElem?_take_of_lt hji] at hj
     exact rise_lt hr (i := j) (j := i) (by rw [List.getElem?_map,hj]; rfl) hyk hji
   have hno : y.1 ∉ (l.take i).map (·.1) := fun hm => by
     obtain ⟨p,hp,e⟩ := List.mem_map.1 hm
     have := hlow p hp
     rw [e,less_irr] at this
     cases this
   refine text_ld (hk.ext hx9) hyk ?_
   refine ld_all hb9 rfl ?_
   refine getnone_p hrep9 rfl (by simp [mkO,JV.ks]; omega) hrt (fun j hj => by rw [show idxK (mkO (l.take i)).ks y.1 = none from idxK_none.2 hno] at hj; cases hj) fun cs1 w10 hx10 hr10 => ?_
   simp only [ext_tuple]
   refine ⟨_,rfl,_,rfl,?_⟩
   refine copy_new hr10 fun a12 w12 sv1 kv1 hB12 hx12 => ?_
   have hx912 := hx10.trans hx12
   rw [condW_false]
   have hxd : Ext w12 w12.drew := Chg.drew (Chg.refl (fun _ => False) w12)
   have hx9d := hx912.trans hxd
   have hbd := hx9d.at hb9 id
   refine ld_all hbd rfl ?_
   refine (hx.ext (hx9.trans hx9d)).at hyx fun cs2 h2 => ?_
   refine clone_w y.2 (hf y hmem) h2 fun cs3 w16 hx16 h3 => ?_
   have hx916 := hx9d.trans hx16
   refine ⟨ld_all (hx16.at hbd id) rfl rfl,?_⟩
   have hO16 := hO9.ext hx916
   have s16 := hx16.size
   have s9d := hx9d.size
   have hlt9 : ∀ k,sv.ownBlock = some k ∨ kv'.ownBlock = some k → w7.heap.size ≤ k ∧ k < w9.heap.size := fun k hk => by
     rcases hk with hk | hk
     · exact ⟨(own_in hO9.items hk).1,(own_in hO9.items hk).2.1⟩
     · exact ⟨(own_in hO9.keys hk).1,(own_in hO9.keys hk).2.1⟩
   refine put_o hO16 (h3.mono fun k _ hk => ?_) hrt hno (by omega) (hkl y hmem) (by omega) fun sv2 kv2 L2 w17 hc17 hO17 => ?_
   · have hk : w12.drew.heap.size ≤ k := hk
     exact ⟨by omega,fun e => by have := (hlt9 k (.inl e)).2; omega,fun e => by have := (hlt9 k (.inr e)).2; omega⟩
   rw [insP_last hlow] at hO17
   have e17 : l.take i ++ [(y.1,y.2)] = l.take (i + 1) := by rw [List.take_add_one,hy]; rfl
   rw [e17] at hO17
   have hb17 := hc17.at (hx16.at hbd id) fun e => by have := (hlt9 p e).1; omega
   refine st_agg_at hb17 rfl rfl hO17.rep.rep.all_one fun w18 hz18 hb18 hc18 => ?_
   rw [bin_add,up1 (by omega)]
   have s17 := hc17.size
   refine ⟨⟨i + 1,sv2,kv2,L2,rfl,hlt,?_,?_,hb18,by omega,?_⟩,by simp only [Int.toNat_natCast]; omega⟩
   · exact (hx9.trans hx916).then hc17 (fun k hk e => by have := (hlt9 k e).1; have := hx07.size; omega) |>.new hc18 (by omega)
   · rw [hc18.heap q (by omega) (fun e => by have e : q = p := e; omega),hc17.heap q (by omega) (fun e => by have := (hlt9 q e).1; omega),hx916.heap q (by omega) id,hq9]
   · exact ⟨own_chg hO17.items hc18 fun k hk e => by have := (own_in hO17.items hk).1; have e : k = p := e; omega,VRepsP.chg hc18 (fun k hk _ e => by have := hk.1; have e : k = p := e; omega) hO17.reps,own_chg hO17.keys hc18 fun k hk e => by have := (own_in hO17.keys hk).1; have e : k = p := e; omega,hO17.fits⟩
 · obtain rfl : i = l.length := by omega
   rw [List.take_length] at hO9 hrep9
   refine ld_all hb9 rfl ?_
   refine st_agg_at (by rw [hq9]; exact hbq7) rfl rfl hone fun w19 hz19 hb19 hc19 => ?_
   refine ld_all hb19 rfl ?_
   have s7 := hx07.size
   exact hK _ w19 (hx9.new hc19 (by omega)) ((VRepP.chg hc19 (fun k hk _ e => by have hk : w7.heap.size ≤ k := hk; have e : k = q := e; omega) hO9.rep).mono fun k _ hk => by have hk : w7.heap.size ≤ k := hk; show w.heap.size ≤ k; omega)
theorem sobject_p {l : List (Str × JV)} {kv xv : Value} {T : TypeId} {w : World} {K : Value → World → Prop} (hk : SlAt w T kv (l.map (·.1)).length ((l.map (·.1)).map str)) (hx : ItemsAt w xv (l.map (·.2))) (hn : l.length ≤ 1000) (hr : Rise (l.map (·.1)))
   (hkl : ∀ p ∈ l,p.1.length ≤ 9223372036854775807) (hf : ∀ p ∈ l,fewW p.2 = true) (hK : ∀ cs w',Ext w w' → VRepP (From w.heap.size) w' (mkO l) cs → K (.agg cs.toArray) w') :
   callF Tryz.prog 38 [kv,xv] w K := by
 refine W38_ok ?_
 unfold W38
 refine alloc_new fun q w1 hq hz1 hbq hx1 => ?_
 refine vobject_p (hk.ext hx1) (hx.ext hx1) hn hr hkl hf fun cs w2 hx2 hr2 => ?_
 simp only [ext_tuple]
 refine ⟨_,rfl,_,rfl,?_⟩
 have hl5 := hr2.rep.len
 have ho5 := hr2.rep.all_one
 refine alloc_new fun a w3 ha hz3 hba hx3 => ?_
 refine st_agg_at hba hl5 rfl ho5 fun w4 hz4 hb4 hc4 => ?_
 have s1 := hx1.size
 have s2 := hx2.size
 have hx24 : Ext w2 w4 := hx3.new hc4 (by omega)
 refine ld_all hb4 hl5 ?_
 refine st_agg_at ((hx2.trans hx24).at hbq id) hl5 rfl ho5 fun w5 hz5 hb5 hc5 => ?_
 refine ld_all hb5 hl5 ?_
 have hx5 : Ext w w5 := (hx1.trans (hx2.trans hx24)).new hc5 (by omega)
 have hr4 : VRepP (From w1.heap.size) w4 (mkO l) cs := VRepP.chg hx24 (fun _ _ _ e => e) hr2
 exact hK _ w5 hx5 (VRepP.chg hc5 (fun k hk _ e => by have hk : w1.heap.size ≤ k := hk; have e : k = q := e; have := at_lt hbq; omega) hr4 |>.mono fun k _ hk => by have hk : w1.heap.size ≤ k := hk; show w.heap.size ≤ k; omega)
end
end Go.Proofs.YtpiaegojabkioaaGreatDoor
namespace Go.Proofs.YtpiaegojabkioaaGreatDoor
open Go Go.Eng Go.Num Go.RowKit
set_option maxRecDepth 100000
structure BytB (w : World) (b cap : Nat) (c : Array Value) (l : Str) : Prop where
 hb : w.heap[b]? = some (.cells c U8 (c.size,c.size + 1))
 le : l.length ≤ cap
 fits : l.length ≤ c.size
 get : ∀ i,i < l.length → c[i]? = (u8s l)[i]?
theorem BytB.byt {w : World} {b cap : Nat} {c : Array Value} {l : Str} (h : BytB w b cap c l) : Byt w U8 (.slice (some ⟨b,0,none⟩) l.length cap) l :=
 ⟨_,_,rfl,h.le,fun e => (by cases e),fun _ => ⟨b,0,_,_,rfl,h.hb,fun i hi => by rw [Nat.zero_add]; exact h.get i (by simpa [u8s_length] using hi)⟩⟩
theorem to_bytes_o {l : Str} {w : World} {src dst : TypeId} {K : Value → World → Prop} (hs : Tryz.prog.underlying src = some .string) (hd : Tryz.prog.underlying dst = some (.slice U8)) (he : Tryz.prog.underlying U8 = some (.int .u8))
   (hK : ∀ b cap c w',w.heap.size ≤ b → BytB w' b cap c l → Ext w w' → K (.slice (some ⟨b,0,none⟩) l.length cap) w') : semE Tryz.prog (convert src dst (str l)) w K := by
 unfold semE
 rw [Lib.run_convert_string_bytes w src dst U8 (ofL l) hs hd he]
 have hle : (ofL l).size ≤ grownCap w (ofL l).size 0 U8 := grownCap_ge w (ofL l).size 0 U8
 have hsz : (Lib.bytesCells w U8 (ofL l)).size = grownCap w (ofL l).size 0 U8 := by
   unfold Lib.bytesCells
   simp only [Array.size_append,Array.size_map,Array.size_replicate]
   have : (ofL l).data.size = (ofL l).size := rfl
   omega
 have e : (ofL l).size = l.length := ofL_size l
 have hB : BytB (Lib.bytesWorld w U8 (ofL l)) w.heap.size (grownCap w (ofL l).size 0 U8) (Lib.bytesCells w U8 (ofL l)) l := by
   refine ⟨Lib.bytesWorld_at_new w U8 (ofL l),by rw [← e]; exact hle,by rw [hsz,← e]; exact hle,fun i hi => ?_⟩
   have := Lib.bytesWorld_cell w U8 (ofL l) i (by rw [e]; exact hi)
   rw [cell_eq,Lib.bytesWorld_at_new,cellO_some] at this
   rw [this,u8s_get,ofL_data]
   simp [List.getD_eq_getElem?_getD,List.getElem?_eq_getElem hi]
 have := hK _ _ _ _ (Nat.le_refl _) hB (bytes_ext _ _ _)
 rw [e]
 rw [e] at this
 exact this
end Go.Proofs.YtpiaegojabkioaaGreatDoor
namespace Go.Proofs.YtpiaegojabkioaaGreatDoor
open Go Go.Eng Go.Num Go.RowKit
set_option maxRecDepth 100000
abbrev BsT : TypeId := 50
section
variable [HX]
theorem sint_p {n : Int} {w : World} {K : Value → World → Prop} (hT : Tabs w) (h1 : -9223372036854775808 ≤ n) (h2 : n ≤ 9223372036854775807) (hK : ∀ cs w',Ext w w' → (∀ w'',VRep w'' (.mk 3 false (Lib.itoa n) [] []) cs) → K (.agg cs.toArray) w') : callF Tryz.prog 40 [i64 n] w K := by
 refine W40_ok ?_
 unfold W40
 refine alloc_new fun b w1 hb hz hbb hx => ?_
 refine W62_ok ?_
 unfold W62
 refine itoa_p (hT.ext hx) h1 h2 fun w2 hx2 => ?_
 simp only [put_int,put_str,put_nil,List.length_cons,List.length_nil,List.set_cons_zero,List.set_cons_succ]
 refine ⟨by omega,by omega,?_⟩
 refine st_agg_at (l := [i64 3,.bool false,str (Lib.itoa n),.slice none 0 0,.slice none 0 0]) (hx2.at hbb id) rfl rfl rfl fun w3 hz3 hb3 hc3 => ?_
 refine ld_all hb3 rfl ?_
 refine hK _ w3 ((hx.trans hx2).new hc3 (by omega)) fun w'' => ?_
 have hlen := itoa_len h1 h2
 exact VRep.mk (v := .mk 3 false (Lib.itoa n) [] []) (T1 := 0) (T2 := 0) (SlAt.nil w'' 0) (by simp [JV.xs,VReps]) (SlAt.nil w'' 0) ⟨by simp [JV.xs],by simp [JV.ks],by show (Lib.itoa n).length ≤ _; omega,by simp [JV.ks]⟩
theorem row_s2 {a b : Str} {w : World} {K : Value → World → Prop} (hK : ∀ t w',SlAt w' ST t 2 [str a,str b] → Ext w w' → K t w') : bslW ST 2 [.string (ofL []),.string (ofL [])] [(0,1,str a),(1,1,str b)] w K := by
 rw [bslW]
 simp only [put_str,put_nil,List.length_cons,List.length_nil,List.set_cons_zero,List.set_cons_succ]
 refine ⟨by omega,by omega,?_⟩
 refine hK _ _ ⟨_,_,rfl,Nat.le_refl _,fun e => (by cases e),fun _ => ⟨_,_,_,_,rfl,heap_anew _ _ _ rfl,fun i _ => by rw [Nat.zero_add]; simp⟩⟩ (Chg.alloc (Chg.refl _ _) _)
abbrev zq5 : List Value := [(.int .i64 0),(.bool false),(.string (ofL [])),(.slice none 0 0),(.slice none 0 0)]
theorem row_v2 {u v : JV} {cs ds : List Value} {w : World} {K : Value → World → Prop} (h1 : VRep w u cs) (h2 : VRep w v ds) (hK : ∀ t w',ItemsAt w' t [u,v] → Ext w w' → K t w') :
   bslW VT 2 (zq5 ++ zq5) [(0,5,.agg cs.toArray),(5,5,.agg ds.toArray)] w K := by
 unfold bslW
 have l1 := h1.len
 have l2 := h2.len
 have hp : ∀ K : List Value → Prop,K (cs ++ ds) → putW (zq5 ++ zq5) [(0,5,.agg cs.toArray),(5,5,.agg ds.toArray)] K := by
   intro K hK
   refine ⟨by simp [Value.cells,l1],by simp,?_⟩
   refine ⟨by simp [Value.cells,l2],by simp [Value.cells,l1],?_⟩
   have : List.take 5 (List.take 0 (zq5 ++ zq5) ++ ((Value.agg cs.toArray).cells.toList ++ List.drop (0 + 5) (zq5 ++ zq5))) ++ ((Value.agg ds.toArray).cells.toList ++ List.drop (5 + 5) (List.take 0 (zq5 ++ zq5) ++ ((Value.agg cs.toArray).cells.toList ++ List.drop (0 + 5) (zq5 ++ zq5)))) = cs ++ ds := by
     simp [Value.cells,List.take_append,List.drop_append,l1]
   rw [this]
   exact hK
 refine hp _ ?_
 have hx : Ext w (w.alloc (.cells (cs ++ ds).toArray VT)) := Chg.alloc (Chg.refl _ _) _
 refine hK _ _ ⟨⟨VT,cs ++ (ds ++ []),?_,?_⟩,by simp⟩ hx
 · rw [List.append_nil]
   exact (own_new (w := w) (base := w.heap.size) (e := VT) (size := 5) (n := 2) (cs := cs ++ ds) (Nat.le_refl _) (by rw [List.length_append]; omega) (by omega)).sl
 · simp only [VReps]
   exact ⟨cs,ds ++ [],rfl,h1.ext hx,ds,[],rfl,h2.ext hx,rfl⟩
def stV (lv : JV) (ser : Int) : JV := mkO [([114,101,99,111,114,100,115],lv),([115,101,114,105,97,108],.mk 3 false (Lib.itoa ser) [] [])]
theorem enc_end {G : Nat → Prop} {lv : JV} {cs : List Value} {ser : Int} {rl : List RV} {p q : Nat} {sv0 : Value} {w7 : World} {K : Value → World → Prop} (hT : TabA w7) (hA : StB G w7 p ser rl sv0) (h1 : 0 ≤ ser) (h2 : ser ≤ 1099511627776)
   (hb : w7.heap[q]? = some (.cells cs.toArray VT (0,0))) (hr : VRep w7 lv cs) (hf : fewW lv = true)
   (hK1 : (encM 1 20 31 3 (stV lv ser)).2 ≠ 0 → ∀ w',Ext w7 w' → K (.tuple #[.slice none 0 0,i64 3]) w')
   (hK2 : (encM 1 20 31 3 (stV lv ser)).2 = 0 → ∀ b cap c w',Ext w7 w' → w7.heap.size ≤ b → BytB w' b cap c (encM 1 20 31 3 (stV lv ser)).1 → K (.tuple #[.slice (some ⟨b,0,none⟩) (encM 1 20 31 3 (stV lv ser)).1.length cap,i64 0]) w') :
       JoinW (fun J60 =>
         ldW true 5 (.pointer (some ⟨q,0,none⟩)) w7.drew fun t62 =>
         fldW 0 (.pointer (some ⟨p,0,none⟩)) fun t63 =>
         ldW false 1 t63 w7.drew fun t64 =>
         (
          bslW ST 2 [(.string (ofL [])),(.string (ofL []))] [(0,1,(.string (ofL [114,101,99,111,114,100,115]))),(1,1,(.string (ofL [115,101,114,105,97,108])))] w7.drew fun t61 w61 =>
          (ldW false 1 t63 w61 fun x => x = t64) ∧
          (ldW true 5 (.pointer (some ⟨q,0,none⟩)) w61 fun x => x = t62) ∧
          callF Tryz.prog 40 [t64] w61 fun t65 w62 =>
          (ldW true 5 (.pointer (some ⟨q,0,none⟩)) w62 fun x => x = t62) ∧
          bslW VT 2 [(.int .i64 0),(.bool false),(.string (ofL [])),(.slice none 0 0),(.slice none 0 0),(.int .i64 0),(.bool false),(.string (ofL [])),(.slice none 0 0),(.slice none 0 0)] [(0,5,t62),(5,5,t65)] w62 fun t66 w63 =>
          callF Tryz.prog 38 [t61,t66] w63 fun t67 w64 =>
          callF Tryz.prog 39 [t67] w64 fun t68 w65 =>
          extW 0 t68 fun t69 =>
          extW 1 t68 fun t70 =>
         J60 [t69,t70] w65) ∧
         (
          callF Tryz.prog 40 [t64] w7.drew fun t65 w66 =>
          (ldW true 5 (.pointer (some ⟨q,0,none⟩)) w66 fun x => x = t62) ∧
          (
           bslW ST 2 [(.string (ofL [])),(.string (ofL []))] [(0,1,(.string (ofL [114,101,99,111,114,100,115]))),(1,1,(.string (ofL [115,101,114,105,97,108])))] w66 fun t61 w67 =>
           (ldW true 5 (.pointer (some ⟨q,0,none⟩)) w67 fun x => x = t62) ∧
           bslW VT 2 [(.int .i64 0),(.bool false),(.string (ofL [])),(.slice none 0 0),(.slice none 0 0),(.int .i64 0),(.bool false),(.string (ofL [])),(.slice none 0 0),(.slice none 0 0)] [(0,5,t62),(5,5,t65)] w67 fun t66 w68 =>
           callF Tryz.prog 38 [t61,t66] w68 fun t67 w69 =>
           callF Tryz.prog 39 [t67] w69 fun t68 w70 =>
           extW 0 t68 fun t69 =>
           extW 1 t68 fun t70 =>
         J60 [t69,t70] w70) ∧
          (
           bslW VT 2 [(.int .i64 0),(.bool false),(.string (ofL [])),(.slice none 0 0),(.slice none 0 0),(.int .i64 0),(.bool false),(.string (ofL [])),(.slice none 0 0),(.slice none 0 0)] [(0,5,t62),(5,5,t65)] w66 fun t66 w71 =>
           bslW ST 2 [(.string (ofL [])),(.string (ofL []))] [(0,1,(.string (ofL [114,101,99,111,114,100,115]))),(1,1,(.string (ofL [115,101,114,105,97,108])))] w71 fun t61 w72 =>
           callF Tryz.prog 38 [t61,t66] w72 fun t67 w73 =>
           callF Tryz.prog 39 [t67] w73 fun t68 w74 =>
           extW 0 t68 fun t69 =>
           extW 1 t68 fun t70 =>
         J60 [t69,t70] w74)))
       fun s60 _ w75 =>
       binW .neq (s60.getD 1 undef) (.int .i64 0) fun t72 =>
       condW t72 (
         K (.tuple #[(.slice none 0 0),(.int .i64 3)]) w75) (
         semE Tryz.prog (convert 9 BsT (s60.getD 0 undef)) w75 fun t74 w76 =>
         K (.tuple #[t74,(.int .i64 0)]) w76) := by
 have hl5 := hr.len
 have hxd : Ext w7 w7.drew := Chg.drew (Chg.refl (fun _ => False) w7)
 refine JoinW.cut (fun st w' => st = [str (encM 1 20 31 3 (stV lv ser)).1,i64 (encM 1 20 31 3 (stV lv ser)).2] ∧ Ext w7 w') ?_ ?_
 · have hbd := hxd.at hb id
   -- the value is made and written
   have fin : ∀ {w : World} {kt xt : Value} {J : List Value → World → Prop},SlAt w ST kt 2 [str [114,101,99,111,114,100,115],str [115,101,114,105,97,108]] → ItemsAt w xt [lv,.mk 3 false (Lib.itoa ser) [] []] → Ext w7 w → (∀ w',Ext w7 w' → J [str (encM 1 20 31 3 (stV lv ser)).1,i64 (encM 1 20 31 3 (stV lv ser)).2] w') →
       callF Tryz.prog 38 [kt,xt] w fun t67 w64 => callF Tryz.prog 39 [t67] w64 fun t68 w65 => extW 0 t68 fun t69 => extW 1 t68 fun t70 => J [t69,t70] w65 := fun {w kt xt J} hk hx hx7 hJ => by
     refine sobject_p (l := [([114,101,99,111,114,100,115],lv),([115,101,114,105,97,108],.mk 3 false (Lib.itoa ser) [] [])]) hk hx (by simp) ?_ ?_ ?_ fun cs1 w1 hx1 hr1 => ?_
     · exact (by unfold Rise; decide : Rise [[114,101,99,111,114,100,115],[115,101,114,105,97,108]])
     · intro p hp
       simp only [List.mem_cons,List.not_mem_nil,or_false] at hp
       rcases hp with rfl | rfl <;> simp
     · intro p hp
       simp only [List.mem_cons,List.not_mem_nil,or_false] at hp
       rcases hp with rfl | rfl
       · exact hf
       · rfl
     · have hT1 := hT.ext (hx7.trans hx1)
       refine encode_p hT1.tabs.utf (fmt_ok hT1.tabs.bru) hr1.rep fun w2 hx2 => ?_
       simp only [ext_tuple]
       exact ⟨_,rfl,_,rfl,hJ w2 (hx7.trans (hx1.trans hx2))⟩
   refine ld_all hbd hl5 ?_
   simp only [fld_ptr]
   have hAd := hA.ext hxd
   refine hAd.ser ⟨?_,?_⟩
   · refine row_s2 fun t61 w61 hs61 hx61 => ?_
     have hx1 := hxd.trans hx61
     refine ⟨(hA.ext hx1).ser rfl,ld_all (hx1.at hb id) hl5 rfl,?_⟩
     refine sint_p (hT.ext hx1).tabs (by omega) (by omega) fun ds w62 hx62 hr62 => ?_
     have hx2 := hx1.trans hx62
     refine ⟨ld_all (hx2.at hb id) hl5 rfl,?_⟩
     refine row_v2 (hr.ext hx2) (hr62 w62) fun t66 w63 hi63 hx63 => ?_
     exact fin (J := fun st w' => st = [str (encM 1 20 31 3 (stV lv ser)).1,i64 (encM 1 20 31 3 (stV lv ser)).2] ∧ Ext w7 w') (hs61.ext (hx62.trans hx63)) hi63 (hx2.trans hx63) fun w' hx' => ⟨rfl,hx'⟩
   · refine sint_p (hT.ext hxd).tabs (by omega) (by omega) fun ds w66 hx66 hr66 => ?_
     have hx1 := hxd.trans hx66
     refine ⟨ld_all (hx1.at hb id) hl5 rfl,?_,?_⟩
     · refine row_s2 fun t61 w67 hs67 hx67 => ?_
       have hx2 := hx1.trans hx67
       refine ⟨ld_all (hx2.at hb id) hl5 rfl,?_⟩
       refine row_v2 (hr.ext hx2) (hr66 w67) fun t66 w68 hi68 hx68 => ?_
       exact fin (J := fun st w' => st = [str (encM 1 20 31 3 (stV lv ser)).1,i64 (encM 1 20 31 3 (stV lv ser)).2] ∧ Ext w7 w') (hs67.ext hx68) hi68 (hx2.trans hx68) fun w' hx' => ⟨rfl,hx'⟩
     · refine row_v2 (hr.ext hx1) (hr66 w66) fun t66 w71 hi71 hx71 => ?_
       refine row_s2 fun t61 w72 hs72 hx72 => ?_
       exact fin (J := fun st w' => st = [str (encM 1 20 31 3 (stV lv ser)).1,i64 (encM 1 20 31 3 (stV lv ser)).2] ∧ Ext w7 w') hs72 (hi71.ext hx72) (hx1.trans (hx71.trans hx72)) fun w' hx' => ⟨rfl,hx'⟩
 rintro st g w75 ⟨rfl,hx75⟩
 simp only [List.getD_cons_zero,List.getD_cons_succ]
 rw [bin_neq,condW_dec]
 refine ⟨fun hne => hK1 hne w75 hx75,fun he => ?_⟩
 have he : (encM 1 20 31 3 (stV lv ser)).2 = 0 := Classical.byContradiction he
 refine to_bytes_o (by kernel_rfl) (by kernel_rfl) (by kernel_rfl) fun b cap c w76 hlo hB hx76 => ?_
 exact hK2 he b cap c w76 (hx75.trans hx76) (by have := hx75.size; omega) hB
end
end Go.Proofs.YtpiaegojabkioaaGreatDoor

namespace Go.Proofs.YtpiaegojabkioaaGreatDoor
open Go Go.Eng Go.Num Go.RowKit
set_option maxRecDepth 100000
theorem recsOk_few : ∀ {l : List RV} {prev : Option Str},recsOk prev l = true → ∀ r ∈ l,fewM r.attrs = true
 | [],_,_ => fun r hr => by cases hr
 | x :: l,prev,h => by
   simp only [recsOk,Bool.and_eq_true] at h
   obtain ⟨⟨h1,h2⟩,h3⟩ := h
   intro r hr
   rcases List.mem_cons.1 hr with rfl | hr
   · simp only [recOk1,attrsM,Bool.and_eq_true] at h2
     exact (good_v h2.1.2.1.1.2).few
   · exact recsOk_few h3 r hr
theorem goodS_recs {ser : Int} {l : List RV} (h : goodS ser l = true) : recsOk none l = true := by
 simp only [goodS,Bool.and_eq_true] at h
 exact h.2
section
variable [HX]
theorem rrep_zero (w : World) (G : Nat → Prop) : RRepP G w RV.zero zr := by
 refine ⟨[i64 0,.bool false,str [],.slice none 0 0,.slice none 0 0],.slice none 0 0,0,rfl,?_,SlAt.nil _ _,fun h => absurd rfl h,⟨by simp [RV.zero],by simp [RV.zero],by simp [RV.zero],by simp [RV.zero],by simp [RV.zero]⟩⟩
 exact VRepP.mk (v := JV.null) (T1 := 0) (T2 := 0) (SlAt.nil w 0) (by simp [JV.null,JV.xs,VRepsP]) (SlAt.nil w 0) (by simp [Fits,JV.null,JV.xs,JV.ks,JV.t]) (fun h => absurd rfl h) (fun h => absurd rfl h)
end
end Go.Proofs.YtpiaegojabkioaaGreatDoor
namespace Go.Proofs.YtpiaegojabkioaaGreatDoor
open Go Go.Eng Go.Num Go.RowKit
set_option maxRecDepth 100000
theorem attrsM_texts (v : JV) : attrsM v = (decide (v.k = 6) && goodM v && knownM v && textsM v) := by
 unfold attrsM
 cases hg : goodM v with
 | false => simp
 | true =>
 cases hk : knownM v with
 | false => simp
 | true =>
 simp only [Bool.and_true]
 congr 1
 unfold encM
 rw [if_neg (by rw [hg]; decide),if_neg (by rw [hk]; decide)]
 cases ht : textsM v with
 | false => rw [if_pos rfl]; decide
 | true =>
   rw [if_neg (by decide)]
   split
   · exact (by decide : decide ((3 : Int) ≠ 31) = true)
   · exact (by decide : decide ((0 : Int) ≠ 31) = true)
section
variable [HX]
theorem sbad_p {s : Str} {w : World} {K : Value → World → Prop} (hT : TabU w) (hl : s.length ≤ 9223372036854775807) (hK : ∀ w',Ext w w' → K (.bool (!utfM s)) w') : callF Tryz.prog 78 [str s] w K := by
 refine W78_ok ?_
 unfold W78
 refine valid_p hT hl fun w1 hx1 => ?_
 rw [un_not]
 exact hK w1 hx1
theorem stexts_p (v : JV) : ∀ {w0 w : World} {cs : List Value} {K : Value → World → Prop},TabU w0 → Ext w0 w → VRep w v cs → (∀ w',Ext w w' → K (.bool (textsM v)) w') → callF Tryz.prog 56 [.agg cs.toArray] w K := by
 induction v using JV.ind' with
 | h v ih =>
   intro w0 w cs K hT h0 h hK
   rw [textsM_eq] at hK
   refine W56_ok ?_
   unfold W56
   refine box_val h fun a w1 sv kv hB hx _ => ?_
   obtain ⟨f1,f2,f3,f4⟩ := hB.fits
   simp only [wsv,wsg,wsh,wsl,cond_true,cond_false,exists_eq_left',wsu,Nat.reduceAdd,Nat.reduceLT,Nat.lt_add_one,Nat.zero_lt_succ,decide_true,decide_false,ne_eq,reduceCtorEq,wsh,hB.hb]
   refine callV_fn (sbad_p (hT.ext (h0.trans hx)) f3 fun w2 hx2 => ?_)
   have hB2 := hB.ext hx2
   have hx2' := hx.trans hx2
   obtain ⟨Tk,hkv⟩ := hB2.keys
   simp only [wsv,wsg,wsh,wsl,cond_true,cond_false,exists_eq_left',wsu,Nat.reduceAdd,Nat.reduceLT,Nat.lt_add_one,Nat.zero_lt_succ,decide_true,decide_false,ne_eq,reduceCtorEq,Bool.not_not]
   refine GdW.act (v.ks.all utfM) (fun w' => Ext w2 w') (fun _ => Chg.refl _ _) ?_ ?_
   · intro hc J hJ
     simp only [wsv,wsg,wsh,wsl,cond_true,cond_false,exists_eq_left',wsu,Nat.reduceAdd,Nat.reduceLT,Nat.lt_add_one,Nat.zero_lt_succ,decide_true,decide_false,ne_eq,reduceCtorEq,wsh,hB2.hb]
     refine contains_sx (p := fun s => !utfM s) hkv f2 (fun x hxm {w3 K} hx3 hK => callV_fn (sbad_p (hT.ext ((h0.trans hx2').trans hx3)) (f4 x hxm) hK)) fun w4 hx4 => ?_
     simp only [wsv,wsg,wsh,wsl,cond_true,cond_false,exists_eq_left',wsu,Nat.reduceAdd,Nat.reduceLT,Nat.lt_add_one,Nat.zero_lt_succ,decide_true,decide_false,ne_eq,reduceCtorEq,any_not_utf]
     exact hJ w4 hx4
   intro g w4 hx4
   have hB4 := hB2.ext hx4
   have hx4' := hx2'.trans hx4
   simp only [wsv,wsg,wsh,wsl,cond_true,cond_false,exists_eq_left',wsu,Nat.reduceAdd,Nat.reduceLT,Nat.lt_add_one,Nat.zero_lt_succ,decide_true,decide_false,ne_eq,reduceCtorEq]
   refine GdW.act (textsL v.xs) (fun w' => Ext w4 w') (fun _ => Chg.refl _ _) ?_ ?_
   · intro hc J hJ
     simp only [wsv,wsg,wsh,wsl,cond_true,cond_false,exists_eq_left',wsu,Nat.reduceAdd,Nat.reduceLT,Nat.lt_add_one,Nat.zero_lt_succ,decide_true,decide_false,ne_eq,reduceCtorEq,wsh,hB4.hb]
     refine contains_x (p := fun x => !textsM x) hB4.itemsAt ?_ fun w5 hx5 => ?_
     · intro x hxm cs w5 K hx5 hr hK
       refine callV_fn ?_
       refine W80_ok ?_
       unfold W80
       refine box_val hr fun b w6 sv kv hB6 hx6 _ => ?_
       refine hB6.ld fun cs2 h2 => ?_
       refine ih x hxm hT (((h0.trans hx4').trans hx5).trans hx6) h2 fun w7 hx7 => ?_
       rw [un_not]
       exact hK w7 (hx6.trans hx7)
     · simp only [wsv,wsg,wsh,wsl,cond_true,cond_false,exists_eq_left',wsu,Nat.reduceAdd,Nat.reduceLT,Nat.lt_add_one,Nat.zero_lt_succ,decide_true,decide_false,ne_eq,reduceCtorEq,any_not_texts]
       exact hJ w5 hx5
   intro g w5 hx5
   simp only [wsv,wsg,wsh,wsl,cond_true,cond_false,exists_eq_left',wsu,Nat.reduceAdd,Nat.reduceLT,Nat.lt_add_one,Nat.zero_lt_succ,decide_true,decide_false,ne_eq,reduceCtorEq]
   exact hK w5 (hx4'.trans hx5)
theorem sname_p {s : Str} {w : World} {K : Value → World → Prop} (hT : TabU w) (hK : ∀ w',Ext w w' → K (.bool (nm15M s)) w') : callF Tryz.prog 53 [str s] w K := by
 refine W53_ok ?_
 unfold W53
 have e0 : (Value.string (ofL [])) = str [] := rfl
 rw [e0,bin_sne]
 simp only [isB_t]
 refine GdW.look (decide (s.length ≤ 16384)) (fun _ J hJ => ?_) fun g => ?_
 · rw [lens_str,bin_leq,decide_eq_decide.2 (show ((s.length : Nat) : Int) ≤ 16384 ↔ s.length ≤ 16384 by omega)]
   exact hJ
 simp only [List.getD_cons_zero]
 rw [pick_gd_and]
 simp only [isB_t]
 refine GdW.act (utfM s) (fun w' => Ext w w') (fun _ => Chg.refl _ _) (fun hc J hJ => ?_) fun g w' hx => ?_
 · have hl : s.length ≤ 16384 := by
     simp only [Bool.and_eq_true,decide_eq_true_eq] at hc
     exact hc.2
   exact valid_p hT (by omega) hJ
 simp only [List.getD_cons_zero]
 rw [pick_gd_and]
 have e : decide (s ≠ []) = decide (0 < s.length) := decide_eq_decide.2 (List.length_pos_iff).symm
 rw [e]
 exact hK w' hx
theorem sgood_p {G : Nat → Prop} {ser : Int} {l : List RV} {cs : List Value} {w : World} {K : Value → World → Prop} (hT : TabU w) (h : StRepP G w ser l cs) (hl : l.length ≤ 9223372036854775807) (hK : ∀ w',Ext w w' → K (.bool (goodS ser l)) w') :
   callF Tryz.prog 36 [.agg cs.toArray] w K := by
 refine W36_ok ?_
 unfold W36
 refine box_st h fun p w1 sv e1 hA hx1 hp => ?_
 simp only [fld_ptr]
 refine hA.recs ?_
 rw [hA.len]
 refine loop_up l.length (fun i w' => Ext w1 w' ∧ recsOk none l = recsOk (prevAt (l.map RV.addr) i) (l.drop i)) ⟨Chg.refl _ _,rfl⟩ ?_ ?_
 · rintro i w5 g L hi ⟨hx5,hr⟩ hL
   obtain ⟨x,hx⟩ : ∃ x,l[i]? = some x := ⟨_,List.getElem?_eq_getElem hi⟩
   rw [recsOk_step hx] at hr
   have hA5 := hA.ext hx5
   simp only [List.getD_cons_zero]
   rw [bin_lss,decide_eq_true (by omega),condW_true]
   obtain ⟨T5,L5,s5,r5⟩ := hA5.sl
   refine rec_ld s5 r5 hx fun rs hrs => ?_
   refine keep_r hrs fun q w7 vcs dv er hB7 hx7 hq => ?_
   have hx57 := hx5.trans hx7
   have hxd : Ext w7 w7.drew := Chg.drew (Chg.refl (fun _ => False) w7)
   have hx1d := hx57.trans hxd
   have hAd := hA.ext hx1d
   have hBd := hB7.ext hxd
   have hTd := (hT.ext hx1).ext hx1d
   have hfalse : ∀ {w' : World},Ext w1 w' → recsOk none l = false → K (.bool false) w' := fun {w'} hx' hf => by
     have := hK w' (hx1.trans hx')
     have eg : goodS ser l = false := by unfold goodS; rw [hf,Bool.and_false]
     rw [eg] at this
     exact this
   rw [bin_gtr]
   simp only [isB_t]
   -- the order
   have hord : ∀ {Q : Value → Prop},Q (.bool (!prevOk (prevAt (l.map RV.addr) i) x.addr)) →
       (GqW (decide ((0 : Int) < (i : Int))) (fun k8 => k8 (.pointer (some ((⟨p,0,none⟩ : Addr).add 1)))) fun t28 =>
       GqW (decide ((0 : Int) < (i : Int))) (fun k9 => ldW false 1 t28 w7.drew k9) fun t29 =>
       GqW (decide ((0 : Int) < (i : Int))) (fun k10 => k10 (i64 (i : Nat))) fun t30 =>
       GqW (decide ((0 : Int) < (i : Int))) (fun k11 => binW .sub t30 (.int .i64 1) k11) fun t31 =>
       GqW (decide ((0 : Int) < (i : Int))) (fun k12 => ixaW none 9 t29 t31 k12) fun t32 =>
       GqW (decide ((0 : Int) < (i : Int))) (fun k13 => fldW 0 t32 k13) fun t33 =>
       GqW (decide ((0 : Int) < (i : Int))) (fun k14 => ldW false 1 t33 w7.drew k14) fun t34 =>
       GqW (decide ((0 : Int) < (i : Int))) (fun k15 => fldW 0 (.pointer (some ⟨q,0,none⟩)) k15) fun t35 =>
       GqW (decide ((0 : Int) < (i : Int))) (fun k16 => ldW false 1 t35 w7.drew k16) fun t36 =>
       GqW (decide ((0 : Int) < (i : Int))) (fun k17 => binW .geq t34 t36 k17) fun t37 =>
       pickW (.bool (decide ((0 : Int) < (i : Int)))) t37 (.bool false) Q) := by
     intro Q hQ
     cases i with
     | zero =>
       rw [decide_eq_false (show ¬ ((0 : Int) < ((0 : Nat) : Int)) by omega)]
       simp only [GqW_f,pick_f]
       exact hQ
     | succ j =>
       rw [decide_eq_true (show ((0 : Int) < ((j + 1 : Nat) : Int)) by omega)]
       simp only [GqW_t,pick_t,fld_ptr]
       obtain ⟨y,hy⟩ : ∃ y,l[j]? = some y := ⟨_,List.getElem?_eq_getElem (by omega)⟩
       obtain ⟨Td,Ld,sd,rd⟩ := hAd.sl
       obtain ⟨pa,h1,h2,_⟩ := rec_at sd rd hy
       refine ⟨_,rfl,_,hAd.recs rfl,_,rfl,i64 (j : Nat),?_,_,h1 _ rfl,.pointer (some (pa.add 0)),rfl,_,h2 w7.drew _ rfl rfl,_,rfl,_,hBd.ld (off := 0) (v := str x.addr) rfl rfl,.bool (!Op.bytesLess y.addr x.addr),?_,?_⟩
       · rw [bin_sub,show ((j + 1 : Nat) : Int) - 1 = (j : Int) by omega,wrap_id (by omega) (by omega)]
       · rw [bin_sge]
       · simp only [prevAt,prevOk,List.getElem?_map,hy,Option.map_some] at hQ
         exact hQ
   refine hord ?_
   have hfl : ∀ {off : Nat} {K : Value → Prop},K (.pointer (some ((⟨q,0,none⟩ : Addr).add off))) → fldW off (.pointer (some ⟨q,0,none⟩)) K := fun h => h
   have hdall : ∀ {w' : World},Ext w7.drew w' → Ext w1 w' := fun h => hx1d.trans h
   cases h1 : prevOk (prevAt (l.map RV.addr) i) x.addr with
   | false =>
     rw [h1] at hr
     simp only [Bool.not_false,isB_f,Bool.not_true,GqW_f,GeW_f,pick_t,condW_true]
     exact hfalse (hdall (Chg.refl _ _)) hr
   | true =>
   simp only [Bool.not_true,isB_f,Bool.not_false,GqW_t,pick_f]
   rw [h1,Bool.true_and] at hr
   refine ⟨_,hfl rfl,_,hBd.ld (off := 0) (v := str x.addr) rfl rfl,⟨fun _ => ?_,fun e => by cases e⟩⟩
   refine sname_p hTd fun wa hxa => ?_
   have hBa := hBd.ext hxa
   have hTa := hTd.ext hxa
   refine ⟨_,rfl,?_⟩
   unfold recOk1 at hr
   cases h2 : nm15M x.addr with
   | false =>
     rw [h2] at hr
     simp only [Bool.not_false,isB_f,Bool.not_true,GqW_f,GeW_f,pick_t,condW_true]
     exact hfalse (hdall hxa) hr
   | true =>
   simp only [Bool.not_true,isB_f,Bool.not_false,GqW_t,pick_f]
   rw [h2,Bool.true_and] at hr
   refine ⟨_,hfl rfl,_,hBa.ld (off := 1) (v := str x.typ) rfl rfl,⟨fun _ => ?_,fun e => by cases e⟩⟩
   refine sname_p hTa fun wb hxb => ?_
   have hBb := hBa.ext hxb
   have hTb := hTa.ext hxb
   have hxab := hxa.trans hxb
   refine ⟨_,rfl,?_⟩
   cases h3 : nm15M x.typ with
   | false =>
     rw [h3] at hr
     simp only [Bool.not_false,isB_f,Bool.not_true,GqW_f,GeW_f,pick_t,condW_true]
     exact hfalse (hdall hxab) hr
   | true =>
   simp only [Bool.not_true,isB_f,Bool.not_false,GqW_t,pick_f]
   rw [h3,Bool.true_and] at hr
   refine ⟨_,hfl rfl,_,hBb.ld (off := 2) (v := str x.id) rfl rfl,⟨fun _ => ?_,fun e => by cases e⟩⟩
   refine sname_p hTb fun wc hxc => ?_
   have hBc := hBb.ext hxc
   have hTc := hTb.ext hxc
   have hxac := hxab.trans hxc
   have hx1c := hx1d.trans hxac
   refine ⟨_,rfl,?_⟩
   cases h4 : nm15M x.id with
   | false =>
     rw [h4] at hr
     simp only [Bool.not_false,pick_t,condW_true]
     exact hfalse hx1c hr
   | true =>
   simp only [Bool.not_true,pick_f,condW_false]
   rw [h4,Bool.true_and,attrsM_texts] at hr
   have hav : ∀ {w' : World} {K : Value → Prop},RcB (fun k => G k) RT w' q x vcs dv → K (i64 x.attrs.k) → ldW false 1 (.pointer (some (((⟨q,0,none⟩ : Addr).add 3).add 0))) w' K := fun {w' K} hB hk => by
     have h5 := hB.val.rep
     obtain ⟨sv',kv',T1,T2,L',ev,_⟩ := h5.out
     rw [add_mk]
     refine RcB.ld (off := 3) hB ?_ hk
     show (vcs ++ [dv])[0]? = _
     rw [ev]; rfl
   refine hav hBc ?_
   rw [bin_neq]
   simp only [isB_f]
   have en : (!decide (x.attrs.k ≠ 6)) = decide (x.attrs.k = 6) := by simp
   rw [en]
   refine GdW.act (!goodM x.attrs) (fun w' => Ext wc w') (fun _ => Chg.refl _ _) (fun _ J hJ => ?_) fun g2 wd hxd2 => ?_
   · rw [fld_ptr]
     refine hBc.attrs ?_
     refine vgood_p hBc.val.rep fun w' hx' => ?_
     rw [un_not]
     exact hJ w' hx'
   have hBe := hBc.ext hxd2
   have hx1e := hx1c.trans hxd2
   simp only [List.getD_cons_zero]
   have epk : ∀ (c e : Bool) (Q : Value → Prop),pickW (.bool (decide (x.attrs.k ≠ 6))) (.bool true) (bif decide (x.attrs.k = 6) then .bool e else undef) Q ↔ Q (.bool (!(decide (x.attrs.k = 6) && !e))) := fun c e Q => by
     by_cases h6 : x.attrs.k = 6
     · rw [decide_eq_true h6,decide_eq_false (fun h => h h6),pick_f]
       simp
     · rw [decide_eq_false h6,decide_eq_true h6,pick_t]
       simp
   rw [epk false,Bool.not_not]
   simp only [isB_f,Bool.not_not]
   have epk2 : ∀ (c e : Bool) (Q : Value → Prop),pickW (.bool (!c)) (.bool true) (bif c then .bool (!e) else undef) Q ↔ Q (.bool (!(c && e))) := fun c e Q => by cases c <;> cases e <;> exact Iff.rfl
   refine GdW.act (!knownM x.attrs) (fun w' => Ext wd w') (fun _ => Chg.refl _ _) (fun _ J hJ => ?_) fun g3 we hxe => ?_
   · rw [fld_ptr]
     refine hBe.attrs ?_
     refine known_p x.attrs hBe.val.rep fun w' hx' => ?_
     rw [un_not]
     exact hJ w' hx'
   have hBf := hBe.ext hxe
   have hx1f := hx1e.trans hxe
   have hTf := ((hTc.ext hxd2).ext hxe)
   simp only [List.getD_cons_zero]
   rw [epk2]
   simp only [isB_f,Bool.not_not]
   refine GdW.act (!textsM x.attrs) (fun w' => Ext we w') (fun _ => Chg.refl _ _) (fun _ J hJ => ?_) fun g4 w9 hx9' => ?_
   · rw [fld_ptr]
     refine hBf.attrs ?_
     refine stexts_p x.attrs hTf (Chg.refl _ _) hBf.val.rep fun w' hx' => ?_
     rw [un_not]
     exact hJ w' hx'
   have hB9 := hBf.ext hx9'
   have hx19 := hx1f.trans hx9'
   have hT9 := hTf.ext hx9'
   simp only [List.getD_cons_zero]
   rw [epk2]
   cases h5 : (decide (x.attrs.k = 6) && goodM x.attrs && knownM x.attrs && textsM x.attrs) with
   | false =>
     rw [h5] at hr
     simp only [Bool.not_false,condW_true]
     exact hfalse hx19 hr
   | true =>
   simp only [Bool.not_true,condW_false]
   rw [h5,Bool.true_and] at hr
   have hd8 : (rcs x vcs dv)[8]? = some dv := by
     have h5 := hBd.val.rep.len
     show (vcs ++ [dv])[5]? = some dv
     rw [List.getElem?_append_right (by omega),h5]
     rfl
   obtain ⟨Td,sd⟩ := hB9.sl
   have hdl := hB9.fits.deps
   refine hB9.ld (off := 8) hd8 ?_
   rw [(lenl_at sd _)]
   refine loop_up x.deps.length (fun k w' => Ext w9 w' ∧ depOk none x.deps = depOk (prevAt x.deps k) (x.deps.drop k)) ⟨Chg.refl _ _,rfl⟩ ?_ ?_
   · rintro k w10 g L2 hk ⟨hx10,hdk⟩ hL2
     obtain ⟨d,hd⟩ : ∃ d,x.deps[k]? = some d := ⟨_,List.getElem?_eq_getElem hk⟩
     rw [depOk_step hd] at hdk
     have hx1d2 := hx19.trans hx10
     have hT10 := hT9.ext hx10
     have se0 := sd.ext hx10
     simp only [List.getD_cons_zero]
     rw [bin_lss,decide_eq_true (by omega),condW_true]
     refine text_ld se0 hd ?_
     refine sname_p hT10 fun w11 hx11 => ?_
     have hBe := hB9.ext (hx10.trans hx11)
     have se := se0.ext hx11
     have hx1g := hx1d2.trans hx11
     rw [un_not]
     simp only [isB_f,Bool.not_not]
     have hstep : depOk none x.deps = depOk (prevAt x.deps (k + 1)) (x.deps.drop (k + 1)) → L2 [i64 ((k + 1 : Nat) : Int)] w11 := fun e => hL2 _ ⟨hx10.trans hx11,e⟩
     refine GdW.look (decide (0 < k)) (fun _ J hJ => ?_) fun g5 => ?_
     · rw [bin_gtr,decide_eq_decide.2 (show (0 : Int) < ((k : Nat) : Int) ↔ 0 < k by omega)]
       exact hJ
     simp only [List.getD_cons_zero]
     rw [isB_gd_t]
     refine GdW.look (!prevOk (prevAt x.deps k) d) (fun hc J hJ => ?_) fun g6 => ?_
     · simp only [Bool.and_eq_true,decide_eq_true_eq] at hc
       obtain ⟨j,rfl⟩ : ∃ j,k = j + 1 := ⟨k - 1,by omega⟩
       obtain ⟨y,hy⟩ : ∃ y,x.deps[j]? = some y := ⟨_,List.getElem?_eq_getElem (by omega)⟩
       refine hBe.ld (off := 8) hd8 ?_
       rw [bin_sub,show ((j + 1 : Nat) : Int) - 1 = (j : Int) by omega,wrap_id (by omega) (by omega)]
       refine text_ld se hy ?_
       rw [bin_sge]
       have ep : prevOk (prevAt x.deps (j + 1)) d = Op.bytesLess y d := by simp only [prevAt,hy,prevOk]
       rw [ep] at hJ
       exact hJ
     simp only [List.getD_cons_zero]
     refine GdW.look (!prevOk (prevAt x.deps k) d) (fun hc J hJ => ?_) fun g7 => ?_
     · rw [hc]
       cases k with
       | zero => exact hJ
       | succ j => exact hJ
     simp only [List.getD_cons_zero]
     have epk3 : ∀ (c e : Bool) (Q : Value → Prop),pickW (.bool (!c)) (.bool true) (bif c then .bool (!e) else undef) Q ↔ Q (.bool (!(c && e))) := epk2
     rw [epk3,condW_b]
     refine ⟨fun e => ?_,fun e => ?_⟩
     · have e : (nm15M d && prevOk (prevAt x.deps k) d) = false := by rwa [Bool.not_eq_true'] at e
       rw [e] at hdk
       simp only [Bool.false_and] at hdk
       rw [hdk] at hr
       exact hfalse hx1g hr
     · have e : (nm15M d && prevOk (prevAt x.deps k) d) = true := by rwa [Bool.not_eq_false'] at e
       rw [e,Bool.true_and] at hdk
       rw [bin_add,up1 (by omega)]
       exact hstep hdk
   · rintro w10 g L2 ⟨hx10,hdk⟩
     simp only [List.getD_cons_zero]
     rw [bin_lss,decide_eq_false (by omega),condW_false,bin_add,up1 (by omega)]
     rw [List.drop_length,show depOk (prevAt x.deps x.deps.length) [] = true from by cases x.deps <;> rfl] at hdk
     rw [hdk,Bool.true_and] at hr
     exact hL _ ⟨hx19.trans hx10,hr⟩
 · rintro w5 g L ⟨hx5,hr⟩
   have hA5 := hA.ext hx5
   simp only [List.getD_cons_zero]
   rw [bin_lss,decide_eq_false (by omega),condW_false]
   have hrt : recsOk none l = true := by
     rw [hr,List.drop_length]
     cases l <;> rfl
   refine hA5.ser ?_
   rw [bin_geq]
   simp only [isB_t]
   refine GdW.look (decide (ser ≤ 1099511627776)) (fun _ J hJ => ?_) fun g => ?_
   · refine hA5.ser ?_
     rw [bin_leq]; exact hJ
   simp only [List.getD_cons_zero]
   rw [pick_gd_and]
   have := hK w5 (hx1.trans hx5)
   unfold goodS at this
   rw [hrt,Bool.and_true] at this
   exact this
end
end Go.Proofs.YtpiaegojabkioaaGreatDoor
namespace Go.Proofs.YtpiaegojabkioaaGreatDoor
open Go Go.Eng Go.Num Go.RowKit
set_option maxRecDepth 100000
def txtV (s : Str) : JV := .mk 4 false s [] []
def depsV (ds : List Str) : JV := .mk 5 false [] (ds.map txtV) []
abbrev kAddr : Str := [97,100,100,114]
abbrev kAttrs : Str := [97,116,116,114,115]
abbrev kDeps : Str := [100,101,112,115]
abbrev kId : Str := [105,100]
abbrev kType : Str := [116,121,112,101]
def recP (r : RV) : List (Str × JV) := [(kAddr,txtV r.addr),(kAttrs,r.attrs),(kDeps,depsV r.deps),(kId,txtV r.id),(kType,txtV r.typ)]
def recV (r : RV) : JV := mkO (recP r)
def listV (l : List RV) : JV := .mk 5 false [] (l.map recV) []
theorem fewW_txt (s : Str) : fewW (txtV s) = true := rfl
theorem fewW_list {xs : List JV} {t : Str} (h : xs.length ≤ 1000000) (hx : ∀ x ∈ xs,fewW x = true) : fewW (.mk 5 false t xs []) = true := by
 rw [fewW_eq,fewWL_all]
 simp only [JV.xs,JV.ks,List.length_nil,Bool.and_eq_true,decide_eq_true_eq,List.all_eq_true]
 exact ⟨⟨decide_eq_true h,rfl⟩,hx⟩
theorem fewW_deps {ds : List Str} (h : ds.length ≤ 1000000) : fewW (depsV ds) = true :=
 fewW_list (by rw [List.length_map]; exact h) fun x hx => by obtain ⟨s,_,rfl⟩ := List.mem_map.1 hx; exact fewW_txt s
theorem fewW_recP {r : RV} (hf : fewM r.attrs = true) (hd : r.deps.length ≤ 1000000) : ∀ p ∈ recP r,fewW p.2 = true := by
 intro p hp
 simp only [recP,List.mem_cons,List.not_mem_nil,or_false] at hp
 rcases hp with rfl | rfl | rfl | rfl | rfl
 · exact fewW_txt _
 · exact few_w _ hf
 · exact fewW_deps hd
 · exact fewW_txt _
 · exact fewW_txt _
theorem fewW_rec {r : RV} (hf : fewM r.attrs = true) (hd : r.deps.length ≤ 1000000) : fewW (recV r) = true := few_mkW (by simp [recP]) (fewW_recP hf hd)
theorem rise_recP (r : RV) : Rise ((recP r).map (·.1)) := (by unfold Rise; decide : Rise [kAddr,kAttrs,kDeps,kId,kType])
theorem repP_txt {G : Nat → Prop} {w : World} {s : Str} {cs : List Value} (h : VRep w (.mk 4 false s [] []) cs) : VRepP G w (txtV s) cs := by
 obtain ⟨sv,kv,T1,T2,L,rfl,h1,h2,h3,h4⟩ := h.out
 have hL : L = [] := by simpa only [JV.xs,VReps] using h2
 subst hL
 exact VRepP.mk (v := txtV s) (T1 := T1) (T2 := T2) h1 (by simp [txtV,JV.xs,VRepsP]) h3 h4 (fun h => absurd rfl h) (fun h => absurd rfl h)
structure GrowL (w0 w : World) (p B : Nat) (ov : Value) (xs : List JV) : Prop where
 ext : Ext w0 w
 hb : w.heap[p]? = some (.cells [i64 5,.bool false,str [],ov,.slice none 0 0].toArray VT (0,0))
 lo : w0.heap.size ≤ p
 lt : p < B
 le : B ≤ w.heap.size
 own : ∃ L,Own w B VT 5 ov xs.length L ∧ VRepsP (fun k => B ≤ k ∧ ov.ownBlock ≠ some k) w xs L
theorem GrowL.more {w0 w w' : World} {p B : Nat} {ov : Value} {xs : List JV} (h : GrowL w0 w p B ov xs) (hx : Ext w w') : GrowL w0 w' p B ov xs :=
 ⟨h.ext.trans hx,hx.at h.hb id,h.lo,h.lt,Nat.le_trans h.le hx.size,let ⟨L,h1,h2⟩ := h.own; ⟨L,own_chg h1 hx fun _ _ e => e,VRepsP.chg hx (fun _ _ _ e => e) h2⟩⟩
theorem GrowL.ld {w0 w : World} {p B : Nat} {ov : Value} {xs : List JV} {K : Value → Prop} (h : GrowL w0 w p B ov xs) (hk : K ov) : ldW false 1 (.pointer (some ((⟨p,0,none⟩ : Addr).add 3))) w K := by
 rw [ld_one]
 exact ⟨ov,by rw [add_mk,cell_eq,h.hb,cellO_some]; rfl,hk⟩
theorem GrowL.all {w0 w : World} {p B : Nat} {ov : Value} {xs : List JV} {K : Value → Prop} (h : GrowL w0 w p B ov xs) (hk : K (.agg [i64 5,.bool false,str [],ov,.slice none 0 0].toArray)) : ldW true 5 (.pointer (some ⟨p,0,none⟩)) w K := ld_all h.hb rfl hk
theorem GrowL.olt {w0 w : World} {p B : Nat} {ov : Value} {xs : List JV} (h : GrowL w0 w p B ov xs) : ∀ k,ov.ownBlock = some k → k < w.heap.size := fun k hk => by obtain ⟨L,hO,_⟩ := h.own; exact (own_in hO hk).2.1
theorem GrowL.rep {w0 w : World} {p B : Nat} {ov : Value} {xs : List JV} (h : GrowL w0 w p B ov xs) (hl : xs.length ≤ 9223372036854775807) : VRep w (.mk 5 false [] xs []) [i64 5,.bool false,str [],ov,.slice none 0 0] := by
 obtain ⟨L,hO,hR⟩ := h.own
 exact (VRepP.mk (G := fun k => B ≤ k) (v := .mk 5 false [] xs []) (T2 := ST) hO.sl (VRepsP.mono (fun k _ hk => hk.1) hR) (SlAt.nil w ST) ⟨hl,by simp [JV.ks],by simp [JV.t],by simp [JV.ks]⟩ (fun _ k hk => (own_in hO hk).1) (fun h => absurd rfl h)).rep
theorem repsP_snoc {G : Nat → Prop} {w : World} : ∀ {xs : List JV} {x : JV} {L cs : List Value},VRepsP G w xs L → VRepP G w x cs → VRepsP G w (xs ++ [x]) (L ++ cs)
 | [],x,L,cs,h,hx => by
   simp only [VRepsP] at h
   subst h
   simp only [List.nil_append,VRepsP]
   exact ⟨cs,[],(List.append_nil _).symm,hx,rfl⟩
 | y :: ys,x,L,cs,h,hx => by
   simp only [VRepsP] at h
   obtain ⟨c,r,rfl,h1,h2⟩ := h
   simp only [List.cons_append,VRepsP]
   exact ⟨c,r ++ cs,by rw [List.append_assoc],h1,repsP_snoc h2 hx⟩
section
variable [HX]
theorem row_v1 {cs : List Value} {w : World} {K : Value → World → Prop} (hc : cs.length = 5) (hK : ∀ t w',SlAt w' VT t 1 cs → Ext w w' → K t w') : bslW VT 1 zq5 [(0,5,.agg cs.toArray)] w K := by
 unfold bslW
 have hp : ∀ K : List Value → Prop,K cs → putW zq5 [(0,5,.agg cs.toArray)] K := by
   intro K hK
   refine ⟨by simp [Value.cells,hc],by simp,?_⟩
   have : List.take 0 zq5 ++ ((Value.agg cs.toArray).cells.toList ++ List.drop (0 + 5) zq5) = cs := by simp [Value.cells]
   rw [this]
   exact hK
 refine hp _ ?_
 exact hK _ _ (own_new (w := w) (base := w.heap.size) (e := VT) (size := 5) (n := 1) (cs := cs) (Nat.le_refl _) (by omega) (by omega)).sl (by repeat (first | assumption | exact Chg.refl _ _ | refine Chg.drew ?_ | refine Chg.alloc ?_ _ | refine Chg.set ?_ (by first | exact .inl rfl | exact .inr (by omega) | exact .inr (by simp only [size_set,size_alloc,size_drew]; omega) | (left; simp; done)) _ | exact Chg.of_ext (by assumption)))
theorem GrowL.app {w0 w : World} {p B n : Nat} {ov t : Value} {xs : List JV} {x : JV} {cs : List Value} {K : World → Prop} (h : GrowL w0 w p B ov xs) (ht : SlAt w VT t 1 cs) (hx : VRepP (fun k => n ≤ k) w x cs) (hn : B ≤ n) (hno : ∀ k,ov.ownBlock = some k → k < n) (hl : xs.length ≤ 1000000)
   (hK : ∀ ov' w',GrowL w0 w' p B ov' (xs ++ [x]) → (∀ k,k < B → k ≠ p → w'.heap[k]? = w.heap[k]?) → w.heap.size ≤ w'.heap.size → K w') : semE Tryz.prog (Builtin.append_ #[65,65] 65 #[ov,t]) w fun t2 w1 => stW 1 (.pointer (some ((⟨p,0,none⟩ : Addr).add 3))) t2 w1 K := by
 obtain ⟨L,hO,hR⟩ := h.own
 have hlo := h.lo
 have hlt := h.lt
 refine append_own3 elem_v hO ht (m := 1) (by rw [hx.rep.len]) hx.rep.one (by omega) (by omega) h.le fun v' w1 hO1 hc1 hb1' => ?_
 have hge : ∀ k,ov.ownBlock = some k → B ≤ k := fun k hk => (own_in hO hk).1
 have hb1 := hc1.at h.hb fun e => by have := hge p e; omega
 have hall : VRepsP (fun k => (B ≤ k ∧ ov.ownBlock ≠ some k) ∧ k < w.heap.size) w (xs ++ [x]) (L ++ cs) := VRepsP.mono (fun k hlt hk => ⟨hk,hlt⟩) (repsP_snoc hR (VRepP.mono (fun k _ hk => ⟨by omega,fun e => by have := hno k e; have hk : n ≤ k := hk; omega⟩) hx))
 have hR1 := VRepsP.chg hc1 (fun k hk _ e => hk.1.2 e) hall
 have hx1 : Ext w0 w1 := h.ext.then hc1 fun k hk e => by have := hge k e; omega
 rw [add_mk,Nat.zero_add]
 refine st_at hb1 (by obtain ⟨q,c,e,_⟩ := hO1.sl.shape; rw [e]; rfl) (by simp) fun w2 hz2 hb2 hc2 => ?_
 refine hK v' w2 ⟨hx1.new hc2 hlo,by rw [hb2]; simp,hlo,hlt,by have := h.le; have := hc1.size; omega,L ++ cs,?_,VRepsP.mono (fun k _ hk => ⟨hk.1.1,fun e => ?_⟩) (VRepsP.chg hc2 (fun k hk _ e => by have := hk.1.1; have e : k = p := e; omega) hR1)⟩ (fun k hkB hkp => ?_) (by have := hc1.size; omega)
 · rw [List.length_append,List.length_singleton]
   exact own_chg hO1 hc2 fun k hk e => by have := (own_in hO1 hk).1; have e : k = p := e; omega
 · have := h.le
   have := hc1.size
   rw [hc2.heap k (by omega) hkp,hc1.heap k (by omega) fun e => by have := hge k e; omega]
 · rcases hb1' k e with h | h
   · exact hk.1.2 h
   · omega
theorem row_s5 {a b c d e : Str} {w : World} {K : Value → World → Prop} (hK : ∀ t w',SlAt w' ST t 5 [str a,str b,str c,str d,str e] → Ext w w' → K t w') : bslW ST 5 [.string (ofL []),.string (ofL []),.string (ofL []),.string (ofL []),.string (ofL [])] [(0,1,str a),(1,1,str b),(2,1,str c),(3,1,str d),(4,1,str e)] w K := by
 rw [bslW]
 simp only [put_str,put_nil,List.length_cons,List.length_nil,List.set_cons_zero,List.set_cons_succ]
 refine ⟨by omega,by omega,by omega,by omega,by omega,?_⟩
 refine hK _ _ ⟨_,_,rfl,Nat.le_refl _,fun e => (by cases e),fun _ => ⟨_,_,_,_,rfl,heap_anew _ _ _ rfl,fun i _ => by rw [Nat.zero_add]; simp⟩⟩ (Chg.alloc (Chg.refl _ _) _)
theorem put_next {A z cs : List Value} {i n : Nat} {r : List (Nat × Nat × Value)} {K : List Value → Prop} (hA : A.length = i) (hz : z.length = n) (hc : cs.length = n) {rest : List Value} (hK : putW (A ++ cs ++ rest) r K) : putW (A ++ (z ++ rest)) ((i,n,.agg cs.toArray) :: r) K := by
 refine ⟨by simp [Value.cells,hc],by simp only [List.length_append]; omega,?_⟩
 have e : List.take i (A ++ (z ++ rest)) ++ ((Value.agg cs.toArray).cells.toList ++ List.drop (i + n) (A ++ (z ++ rest))) = A ++ cs ++ rest := by
   have h1 : List.take i (A ++ (z ++ rest)) = A := by rw [← hA,List.take_left']; rfl
   have h2 : List.drop (i + n) (A ++ (z ++ rest)) = rest := by
     rw [← List.drop_drop,← hA,List.drop_left',← hz,List.drop_left'] <;> rfl
   rw [h1,h2]
   simp [Value.cells]
 rw [e]
 exact hK
theorem row_v5 {v1 v2 v3 v4 v5 : JV} {c1 c2 c3 c4 c5 : List Value} {w : World} {K : Value → World → Prop} (h1 : VRep w v1 c1) (h2 : VRep w v2 c2) (h3 : VRep w v3 c3) (h4 : VRep w v4 c4) (h5 : VRep w v5 c5) (hK : ∀ t w',ItemsAt w' t [v1,v2,v3,v4,v5] → Ext w w' → K t w') :
   bslW VT 5 (zq5 ++ (zq5 ++ (zq5 ++ (zq5 ++ (zq5 ++ []))))) [(0,5,.agg c1.toArray),(5,5,.agg c2.toArray),(10,5,.agg c3.toArray),(15,5,.agg c4.toArray),(20,5,.agg c5.toArray)] w K := by
 unfold bslW
 have l1 := h1.len
 have l2 := h2.len
 have l3 := h3.len
 have l4 := h4.len
 have l5 := h5.len
 refine put_next (A := []) (z := zq5) rfl rfl l1 ?_
 refine put_next (z := zq5) (by simp [l1]) rfl l2 ?_
 refine put_next (z := zq5) (by simp [l1,l2]) rfl l3 ?_
 refine put_next (z := zq5) (by simp [l1,l2,l3]) rfl l4 ?_
 refine put_next (z := zq5) (by simp [l1,l2,l3,l4]) rfl l5 ?_
 simp only [List.nil_append,List.append_nil,put_nil]
 have hx : Ext w (w.alloc (.cells (c1 ++ c2 ++ c3 ++ c4 ++ c5).toArray VT)) := Chg.alloc (Chg.refl _ _) _
 refine hK _ _ ⟨⟨VT,c1 ++ (c2 ++ (c3 ++ (c4 ++ (c5 ++ [])))),?_,?_⟩,by simp⟩ hx
 · have e : c1 ++ (c2 ++ (c3 ++ (c4 ++ (c5 ++ [])))) = c1 ++ c2 ++ c3 ++ c4 ++ c5 := by simp
   rw [e]
   exact (own_new (w := w) (base := w.heap.size) (e := VT) (size := 5) (n := 5) (cs := c1 ++ c2 ++ c3 ++ c4 ++ c5) (Nat.le_refl _) (by simp only [List.length_append]; omega) (by omega)).sl
 · simp only [VReps]
   exact ⟨c1,_,rfl,h1.ext hx,c2,_,rfl,h2.ext hx,c3,_,rfl,h3.ext hx,c4,_,rfl,h4.ext hx,c5,[],rfl,h5.ext hx,rfl⟩
end
end Go.Proofs.YtpiaegojabkioaaGreatDoor
namespace Go.Proofs.YtpiaegojabkioaaGreatDoor
open Go Go.Eng Go.Num Go.RowKit
set_option maxRecDepth 100000
theorem rec_nm {l : List RV} {prev : Option Str} : recsOk prev l = true → ∀ r ∈ l,r.addr.length ≤ 16384 ∧ r.typ.length ≤ 16384 ∧ r.id.length ≤ 16384 := by
 intro h r hr
 induction l generalizing prev with
 | nil => cases hr
 | cons x l ih =>
   simp only [recsOk,Bool.and_eq_true] at h
   rcases List.mem_cons.1 hr with rfl | hr
   · have := h.1.2
     simp only [recOk1,nm15M,Bool.and_eq_true,decide_eq_true_eq] at this
     exact ⟨this.1.1.1.1.1.2,this.1.1.1.2.1.2,this.1.1.2.1.2⟩
   · exact ih h.2 hr
section
variable [HX]
set_option maxHeartbeats 1000000 in
theorem sencode_p {G : Nat → Prop} {ser : Int} {l : List RV} {cs : List Value} {w : World} {K : Value → World → Prop} (hT : TabA w) (h : StRepP G w ser l cs) (hl : l.length ≤ 1000) (hd0 : goodS ser l = true → ∀ x ∈ l,x.deps.length ≤ 1000000)
   (hbad : goodS ser l = false → ∀ w',Ext w w' → K (.tuple #[.slice none 0 0,i64 150]) w')
   (hlong : goodS ser l = true → (encM 1 20 31 3 (stV (listV l) ser)).2 ≠ 0 → ∀ w',Ext w w' → K (.tuple #[.slice none 0 0,i64 3]) w')
   (hok : goodS ser l = true → (encM 1 20 31 3 (stV (listV l) ser)).2 = 0 → ∀ b cap c w',Ext w w' → w.heap.size ≤ b → BytB w' b cap c (encM 1 20 31 3 (stV (listV l) ser)).1 → K (.tuple #[.slice (some ⟨b,0,none⟩) (encM 1 20 31 3 (stV (listV l) ser)).1.length cap,i64 0]) w') :
   callF Tryz.prog 26 [.agg cs.toArray] w K := by
 refine W26_ok ?_
 unfold W26
 refine box_st h fun p w1 sv e hA hx1 hp => ?_
 refine hA.all ?_
 refine sgood_p (hT.ext hx1).tabs.utf hA.rep (by omega) fun w2 hx2 => ?_
 have hx02 := hx1.trans hx2
 rw [un_not,condW_b]
 refine ⟨fun hg => hbad (by simpa using hg) w2 hx02,fun hg => ?_⟩
 have hg : goodS ser l = true := by simpa using hg
 have hd := hd0 hg
 have hser : 0 ≤ ser ∧ ser ≤ 1099511627776 := by
   simp only [goodS,Bool.and_eq_true,decide_eq_true_eq] at hg
   exact hg.1
 have hrecs := goodS_recs hg
 simp only [put_int,put_nil,List.length_cons,List.length_nil,List.set_cons_zero]
 refine ⟨by omega,?_⟩
 refine alloc_new fun q w4 hq hz4 hbq hx4 => ?_
 refine st_agg_at (l := [i64 5,.bool false,str [],.slice none 0 0,.slice none 0 0]) hbq rfl rfl rfl fun w5 hz5 hb5 hc5 => ?_
 have s2 := hx2.size
 have hx25 : Ext w2 w5 := hx4.new hc5 (by omega)
 have hx15 := hx2.trans hx25
 have hA5 := hA.ext hx15
 have hT2 := hT.ext hx02
 rw [fld_ptr]
 refine hA5.recs ?_
 rw [hA5.len]
 have hG5 : GrowL w2 w5 q w5.heap.size (.slice none 0 0) ((l.take 0).map recV) := ⟨hx25,hb5,by omega,at_lt hb5,Nat.le_refl _,[],⟨rfl,.inl ⟨rfl,rfl⟩⟩,by simp [VRepsP]⟩
 refine loop_up l.length (fun i w' => ∃ ov,GrowL w2 w' q w5.heap.size ov ((l.take i).map recV)) ⟨_,hG5⟩ ?_ ?_
 · rintro i w7 g L hi ⟨ov,hG7⟩ hL
   obtain ⟨x,hx⟩ : ∃ x,l[i]? = some x := ⟨_,List.getElem?_eq_getElem hi⟩
   have hxm : x ∈ l := List.mem_of_getElem? hx
   have hxd := hd x hxm
   have hxf := recsOk_few hrecs x hxm
   obtain ⟨n1,n2,n3⟩ := rec_nm hrecs x hxm
   have hx27 := hG7.ext
   have hA7 := hA.ext (hx2.trans hx27)
   simp only [List.getD_cons_zero]
   rw [bin_lss,decide_eq_true (by omega),condW_true]
   refine JoinW.cut (fun st w' => ∃ ov',GrowL w2 w' q w5.heap.size ov' ((l.take (i + 1)).map recV)) ?_ ?_
   · obtain ⟨T7,L7,s7,r7⟩ := hA7.sl
     have s7' : SlAt w7 T7 sv l.length L7 := s7
     refine rec_ld s7' r7 hx fun rs hrs => ?_
     refine keep_r hrs fun o w10 vcs dv er hB10 hx10 ho => ?_
     simp only [put_int,put_nil,List.length_cons,List.length_nil,List.set_cons_zero]
     refine ⟨by omega,?_⟩
     refine alloc_new fun o2 w12 ho2 hz12 hb12 hx12 => ?_
     refine st_agg_at (l := [i64 5,.bool false,str [],.slice none 0 0,.slice none 0 0]) hb12 rfl rfl rfl fun w13 hz13 hb13 hc13 => ?_
     have hx1013 : Ext w10 w13 := hx12.new hc13 (by omega)
     have hB13 := hB10.ext hx1013
     have hd8 : (rcs x vcs dv)[8]? = some dv := by
       have h5 := hB10.val.rep.len
       show (vcs ++ [dv])[5]? = some dv
       rw [List.getElem?_append_right (by omega),h5]
       rfl
     simp only [fld_ptr]
     refine hB13.ld (off := 8) hd8 ?_
     obtain ⟨Td,sd⟩ := hB13.sl
     rw [(lenl_at sd _)]
     have hG13 : GrowL w10 w13 o2 w13.heap.size (.slice none 0 0) ((x.deps.take 0).map txtV) := ⟨hx1013,hb13,by omega,at_lt hb13,Nat.le_refl _,[],⟨rfl,.inl ⟨rfl,rfl⟩⟩,by simp [VRepsP]⟩
     have hx7_10 : Ext w7 w10 := hx10
     refine loop_up x.deps.length (fun k w' => ∃ ov',GrowL w10 w' o2 w13.heap.size ov' ((x.deps.take k).map txtV) ∧ w13.heap.size ≤ w'.heap.size ∧ ∀ k,k < w13.heap.size → k ≠ o2 → w'.heap[k]? = w13.heap[k]?) ⟨_,hG13,Nat.le_refl _,fun _ _ _ => rfl⟩ ?_ ?_
     · rintro k w15 g2 L2 hk ⟨ov2,hG15,hs15,hk15⟩ hL2
       obtain ⟨d,hdk⟩ : ∃ d,x.deps[k]? = some d := ⟨_,List.getElem?_eq_getElem hk⟩
       obtain ⟨T15,sd15⟩ := (hB10.ext hG15.ext).sl
       simp only [List.getD_cons_zero]
       rw [bin_lss,decide_eq_true (by omega),condW_true]
       refine text_ld sd15 hdk ?_
       have hxdr : Ext w15 w15.drew := Chg.drew (Chg.refl (fun _ => False) w15)
       have hG15d := hG15.more hxdr
       refine hG15d.ld ?_
       refine text_p (hB10.fits.each d (List.mem_of_getElem? hdk)) fun c1 w16 hx16 hr16 => ?_
       have hG16 := hG15d.more hx16
       refine ⟨hG16.ld rfl,?_⟩
       refine row_v1 (hr16 w16).len fun t w17 ht17 hx17 => ?_
       have hG17 := hG16.more hx17
       refine ⟨hG17.ld rfl,?_⟩
       have hle := hG17.le
       refine hG17.app (n := w17.heap.size) ht17 (repP_txt (hr16 w17)) hle hG17.olt (by rw [List.length_map,List.length_take]; omega) fun ov3 w19 hG19 hk19 hs19 => ?_
       rw [bin_add,up1 (by omega)]
       refine hL2 _ ⟨ov3,?_,?_,?_⟩
       · rw [List.take_add_one,hdk]
         simpa using hG19
       · have := hx16.size
         have := hx17.size
         have e : w15.drew.heap.size = w15.heap.size := rfl
         omega
       · intro j hj hne
         have e : w15.drew.heap = w15.heap := rfl
         have h16 := hx16.size
         have h17 := hx17.size
         rw [hk19 j hj hne,hx17.heap j (by rw [e] at h16; omega) id,hx16.heap j (by rw [e]; omega) id,e,hk15 j hj hne]
     · rintro w15 g2 L2 ⟨ov2,hG15,hs15,hk15⟩
       rw [List.take_length] at hG15
       simp only [List.getD_cons_zero]
       rw [bin_lss,decide_eq_false (by omega),condW_false]
       have hxdr : Ext w15 w15.drew := Chg.drew (Chg.refl (fun _ => False) w15)
       have hx10d := hG15.ext.trans hxdr
       have hx7d := hx7_10.trans hx10d
       have hGo := hG7.more hx7d
       have hGi := hG15.more hxdr
       have hBd := hB10.ext hx10d
       have hTd := hT2.ext (hx27.trans hx7d)
       refine hGo.ld ?_
       refine hBd.ld (off := 0) (v := str x.addr) rfl ?_
       refine hBd.attrs ?_
       refine hGi.all ?_
       refine hBd.ld (off := 2) (v := str x.id) rfl ?_
       refine hBd.ld (off := 1) (v := str x.typ) rfl ?_
       -- re-reading
       have r51 : ∀ {w' : World},Ext w15.drew w' → (ldW false 1 (.pointer (some ((⟨o,0,none⟩ : Addr).add 1))) w' fun y => y = str x.typ) := fun hx' => (hBd.ext hx').ld (off := 1) (v := str x.typ) rfl rfl
       have r48 : ∀ {w' : World},Ext w15.drew w' → (ldW false 1 (.pointer (some ((⟨o,0,none⟩ : Addr).add 2))) w' fun y => y = str x.id) := fun hx' => (hBd.ext hx').ld (off := 2) (v := str x.id) rfl rfl
       have r42 : ∀ {w' : World},Ext w15.drew w' → (ldW false 1 (.pointer (some ((⟨o,0,none⟩ : Addr).add 0))) w' fun y => y = str x.addr) := fun hx' => (hBd.ext hx').ld (off := 0) (v := str x.addr) rfl rfl
       have r45 : ∀ {w' : World},Ext w15.drew w' → (ldW true 5 (.pointer (some ((⟨o,0,none⟩ : Addr).add 3))) w' fun y => y = .agg vcs.toArray) := fun hx' => (hBd.ext hx').attrs rfl
       have r47 : ∀ {w' : World},Ext w15.drew w' → (ldW true 5 (.pointer (some ⟨o2,0,none⟩)) w' fun y => y = .agg [i64 5,.bool false,str [],ov2,.slice none 0 0].toArray) := fun hx' => (hGi.more hx').all rfl
       have r39 : ∀ {w' : World},Ext w15.drew w' → (ldW false 1 (.pointer (some ((⟨q,0,none⟩ : Addr).add 3))) w' fun y => y = ov) := fun hx' => (hGo.more hx').ld rfl
       have hvd : VRep w15.drew (depsV x.deps) [i64 5,.bool false,str [],ov2,.slice none 0 0] := hGi.rep (by rw [List.length_map]; omega)
       have hva : VRep w15.drew x.attrs vcs := hBd.val.rep
       -- the record's value is made and put behind the list
       have fin : ∀ {w0 : World} {kt xt : Value} {J : List Value → World → Prop},Ext w15.drew w0 → SlAt w0 ST kt 5 [str kAddr,str kAttrs,str kDeps,str kId,str kType] → ItemsAt w0 xt [txtV x.addr,x.attrs,depsV x.deps,txtV x.id,txtV x.typ] →
           (∀ w',(∃ ov',GrowL w2 w' q w5.heap.size ov' ((l.take (i + 1)).map recV)) → J [] w') →
           (ldW false 1 (.pointer (some ((⟨q,0,none⟩ : Addr).add 3))) w0 fun y => y = ov) ∧ callF Tryz.prog 38 [kt,xt] w0 fun t55 w25 =>
           (ldW false 1 (.pointer (some ((⟨q,0,none⟩ : Addr).add 3))) w25 fun y => y = ov) ∧
           bslW VT 1 [(.int .i64 0),(.bool false),(.string (ofL [])),(.slice none 0 0),(.slice none 0 0)] [(0,5,t55)] w25 fun t56 w26 =>
           (ldW false 1 (.pointer (some ((⟨q,0,none⟩ : Addr).add 3))) w26 fun y => y = ov) ∧
           semE Tryz.prog (Builtin.append_ #[65,65] 65 #[ov,t56]) w26 fun t57 w27 =>
           stW 1 (.pointer (some ((⟨q,0,none⟩ : Addr).add 3))) t57 w27 fun w28 => J [] w28 := fun {w0 kt xt J} hx0 hk hxi hJ => by
         refine ⟨r39 hx0,?_⟩
         refine sobject_p (l := recP x) hk hxi (by simp [recP]) (rise_recP x) ?_ (fewW_recP hxf hxd) fun c2 w25 hx25 hr25 => ?_
         · intro p hp
           simp only [recP,List.mem_cons,List.not_mem_nil,or_false] at hp
           rcases hp with rfl | rfl | rfl | rfl | rfl <;> simp
         have hx0' := hx0.trans hx25
         refine ⟨r39 hx0',?_⟩
         refine row_v1 hr25.rep.len fun t w26 ht26 hx26 => ?_
         have hG26 := hGo.more (hx0'.trans hx26)
         refine ⟨hG26.ld rfl,?_⟩
         have h0le := (hGo.more hx0).le
         have h0lt := (hGo.more hx0).olt
         refine hG26.app (n := w0.heap.size) ht26 (VRepP.chg (G := From w0.heap.size) hx26 (fun _ _ _ e => e) hr25) h0le h0lt (by rw [List.length_map,List.length_take]; omega) fun ov3 w28 hG28 _ _ => ?_
         refine hJ w28 ⟨ov3,?_⟩
         rw [List.take_add_one,hx]
         simpa [recV] using hG28
       have n1' : x.addr.length ≤ 9223372036854775807 := by omega
       have n2' : x.typ.length ≤ 9223372036854775807 := by omega
       have n3' : x.id.length ≤ 9223372036854775807 := by omega
       refine ⟨?_,?_⟩
       · refine row_s5 fun kt w20 hk20 hx20 => ?_
         refine ⟨r51 hx20,r48 hx20,r47 hx20,r45 hx20,r42 hx20,r39 hx20,?_⟩
         refine text_p n1' fun ca w21 hx21 ha => ?_
         have hx21' := hx20.trans hx21
         refine ⟨r51 hx21',r48 hx21',r47 hx21',r45 hx21',r39 hx21',?_⟩
         refine text_p n3' fun ci w22 hx22 hid => ?_
         have hx22' := hx21'.trans hx22
         refine ⟨r51 hx22',r47 hx22',r45 hx22',r39 hx22',?_⟩
         refine text_p n2' fun ct w23 hx23 ht => ?_
         have hx23' := hx22'.trans hx23
         refine ⟨r47 hx23',r45 hx23',r39 hx23',?_⟩
         refine row_v5 (ha w23) (hva.ext hx23') (hvd.ext hx23') (hid w23) (ht w23) fun xt w24 hi24 hx24 => ?_
         exact fin (J := fun _ w' => ∃ ov',GrowL w2 w' q w5.heap.size ov' ((l.take (i + 1)).map recV)) (hx23'.trans hx24) (hk20.ext (hx21.trans (hx22.trans (hx23.trans hx24)))) hi24 fun w' h => h
       · refine text_p n1' fun ca w29 hx29 ha => ?_
         refine ⟨r51 hx29,r48 hx29,r47 hx29,r45 hx29,r39 hx29,?_,?_⟩
         · refine row_s5 fun kt w30 hk30 hx30 => ?_
           have hx30' := hx29.trans hx30
           refine ⟨r51 hx30',r48 hx30',r47 hx30',r45 hx30',r39 hx30',?_⟩
           refine text_p n3' fun ci w31 hx31 hid => ?_
           have hx31' := hx30'.trans hx31
           refine ⟨r51 hx31',r47 hx31',r45 hx31',r39 hx31',?_⟩
           refine text_p n2' fun ct w32 hx32 ht => ?_
           have hx32' := hx31'.trans hx32
           refine ⟨r47 hx32',r45 hx32',r39 hx32',?_⟩
           refine row_v5 (ha w32) (hva.ext hx32') (hvd.ext hx32') (hid w32) (ht w32) fun xt w33 hi33 hx33 => ?_
           exact fin (J := fun _ w' => ∃ ov',GrowL w2 w' q w5.heap.size ov' ((l.take (i + 1)).map recV)) (hx32'.trans hx33) (hk30.ext (hx31.trans (hx32.trans hx33))) hi33 fun w' h => h
         · refine text_p n3' fun ci w38 hx38 hid => ?_
           have hx38' := hx29.trans hx38
           refine ⟨r51 hx38',r47 hx38',r45 hx38',r39 hx38',?_,?_⟩
           · refine row_s5 fun kt w39 hk39 hx39 => ?_
             have hx39' := hx38'.trans hx39
             refine ⟨r51 hx39',r47 hx39',r45 hx39',r39 hx39',?_⟩
             refine text_p n2' fun ct w40 hx40 ht => ?_
             have hx40' := hx39'.trans hx40
             refine ⟨r47 hx40',r45 hx40',r39 hx40',?_⟩
             refine row_v5 (ha w40) (hva.ext hx40') (hvd.ext hx40') (hid w40) (ht w40) fun xt w41 hi41 hx41 => ?_
             exact fin (J := fun _ w' => ∃ ov',GrowL w2 w' q w5.heap.size ov' ((l.take (i + 1)).map recV)) (hx40'.trans hx41) (hk39.ext (hx40.trans hx41)) hi41 fun w' h => h
           · refine text_p n2' fun ct w46 hx46 ht => ?_
             have hx46' := hx38'.trans hx46
             refine ⟨r47 hx46',r45 hx46',r39 hx46',?_,?_⟩
             · refine row_s5 fun kt w47 hk47 hx47 => ?_
               have hx47' := hx46'.trans hx47
               refine ⟨r47 hx47',r45 hx47',r39 hx47',?_⟩
               refine row_v5 (ha w47) (hva.ext hx47') (hvd.ext hx47') (hid w47) (ht w47) fun xt w48 hi48 hx48 => ?_
               exact fin (J := fun _ w' => ∃ ov',GrowL w2 w' q w5.heap.size ov' ((l.take (i + 1)).map recV)) (hx47'.trans hx48) (hk47.ext hx48) hi48 fun w' h => h
             · refine row_v5 (ha w46) (hva.ext hx46') (hvd.ext hx46') (hid w46) (ht w46) fun xt w53 hi53 hx53 => ?_
               have hx53' := hx46'.trans hx53
               refine ⟨r39 hx53',?_⟩
               refine row_s5 fun kt w54 hk54 hx54 => ?_
               exact fin (J := fun _ w' => ∃ ov',GrowL w2 w' q w5.heap.size ov' ((l.take (i + 1)).map recV)) (hx53'.trans hx54) hk54 (hi53.ext hx54) fun w' h => h
   rintro st g3 w59 ⟨ov',hG59⟩
   rw [bin_add,up1 (by omega)]
   exact hL _ ⟨ov',hG59⟩
 · rintro w7 g L ⟨ov,hG7⟩
   rw [List.take_length] at hG7
   simp only [List.getD_cons_zero]
   rw [bin_lss,decide_eq_false (by omega),condW_false]
   have hx27 := hG7.ext
   have hx07 := hx02.trans hx27
   have hfl : fewW (listV l) = true := fewW_list (by rw [List.length_map]; omega) fun y hy => by
     obtain ⟨r,hr,rfl⟩ := List.mem_map.1 hy
     exact fewW_rec (recsOk_few hrecs r hr) (hd r hr)
   refine enc_end (lv := listV l) (hT.ext hx07) (hA.ext (hx2.trans hx27)) hser.1 hser.2 hG7.hb (hG7.rep (by rw [List.length_map]; omega)) hfl (fun hne w' hx' => hlong hg hne w' (hx07.trans hx')) (fun he b cap c w' hx' hlo hb' => ?_)
   exact hok hg he b cap c w' (hx07.trans hx') (by have := hx07.size; omega) hb'
end
end Go.Proofs.YtpiaegojabkioaaGreatDoor
namespace Go.Proofs.YtpiaegojabkioaaGreatDoor
open Go Go.Eng Go.Num Go.RowKit
set_option maxRecDepth 100000
theorem dec_pos {c : UInt8} {d : Str} (h : (c :: d).all Num.isDig = true) (h48 : c ≠ 48) : 1 ≤ Num.dec (c :: d) := by
 rw [Num.dec_cons]
 simp only [List.all_cons,Bool.and_eq_true] at h
 have hc := h.1
 simp only [Num.isDig,Bool.and_eq_true,decide_eq_true_eq] at hc
 have : c.toNat ≠ 48 := fun e => h48 (by apply UInt8.toNat_inj.1; exact e)
 have hv : 1 ≤ Num.dval c := by unfold Num.dval; omega
 have := Nat.pow_pos (n := d.length) (show 0 < 10 by omega)
 have := Nat.mul_le_mul hv this
 omega
theorem dec_back_digits : ∀ (n : Nat) (d : Str),d.length ≤ n → d ≠ [] → d.all Num.isDig = true → (d.head? = some 48 → d = [48]) → Lib.decDigits (Num.dec d) = d := by
 intro n
 induction n with
 | zero => intro d h h0 _ _; exact absurd (List.eq_nil_of_length_eq_zero (by omega)) h0
 | succ n ih =>
   intro d hl h0 ha h48
   obtain ⟨l,c,rfl⟩ : ∃ l c,d = l ++ [c] := ⟨d.dropLast,d.getLast h0,(List.dropLast_concat_getLast h0).symm⟩
   simp only [List.all_append,List.all_cons,List.all_nil,Bool.and_true,Bool.and_eq_true] at ha
   have hc := ha.2
   simp only [Num.isDig,Bool.and_eq_true,decide_eq_true_eq] at hc
   have ec : UInt8.ofNat (48 + Num.dval c) = c := by
     unfold Num.dval
     rw [show 48 + (c.toNat - 48) = c.toNat by omega,UInt8.ofNat_toNat]
   have hv : Num.dval c < 10 := by unfold Num.dval; omega
   have h1 : Num.dec [c] = Num.dval c := by simp [Num.dec]
   rw [Num.dec_app,h1,List.length_singleton,Nat.pow_one,Lib.decDigits]
   cases l with
   | nil =>
     rw [show Num.dec [] = 0 from rfl,Nat.zero_mul,Nat.zero_add,dif_pos hv,ec]
     rfl
   | cons a l =>
     have ha48 : a ≠ 48 := fun e => by
       subst e
       have := h48 rfl
       simp at this
     have hp := dec_pos ha.1 ha48
     rw [dif_neg (by omega),show (Num.dec (a :: l) * 10 + Num.dval c) / 10 = Num.dec (a :: l) by omega,show (Num.dec (a :: l) * 10 + Num.dval c) % 10 = Num.dval c by omega,ec,
       ih (a :: l) (by simp at hl ⊢; omega) (by simp) ha.1 fun e => by simp only [List.head?_cons,Option.some.injEq] at e; exact absurd e ha48]
theorem itoa_of {s : Str} {n : Int} (hg : goodN s = true) (hn : (s.head? = some 45 ∧ n = -((Num.dec (Num.dig s) : Nat) : Int)) ∨ (s.head? ≠ some 45 ∧ n = ((Num.dec (Num.dig s) : Nat) : Int))) : Lib.itoa n = s := by
 obtain ⟨g1,g2,g3,g4⟩ := goodN_out hg
 have hne : Num.dig s ≠ [] := fun e => by rw [e] at g1; simp at g1
 rcases hn with ⟨h45,rfl⟩ | ⟨h45,rfl⟩
 · cases s with
   | nil => simp at h45
   | cons a r =>
     simp only [List.head?_cons,Option.some.injEq] at h45
     subst h45
     have ed : Num.dig (45 :: r) = r := by simp [Num.dig]
     rw [ed] at g1 g3 g4 hne ⊢
     have hd : Lib.decDigits (Num.dec r) = r := dec_back_digits _ r (Nat.le_refl _) hne g4 fun e => by have := g3 e; cases this
     have hp : 1 ≤ Num.dec r := by
       cases r with
       | nil => exact absurd rfl hne
       | cons c d => exact dec_pos g4 fun e => by subst e; have := g3 rfl; cases this
     unfold Lib.itoa
     rw [if_pos (by omega),show (-((Num.dec r : Nat) : Int)).natAbs = Num.dec r by omega,hd]
 · have ed : Num.dig s = s := by
     cases s with
     | nil => rfl
     | cons a r =>
       have : a ≠ 45 := fun e => h45 (by rw [e]; rfl)
       simp [Num.dig,this]
   rw [ed] at g1 g3 g4 hne ⊢
   have hd : Lib.decDigits (Num.dec s) = s := dec_back_digits _ s (Nat.le_refl _) hne g4 g3
   unfold Lib.itoa
   rw [if_neg (by omega),show ((Num.dec s : Nat) : Int).toNat = Num.dec s by omega,hd]
section
variable [HX]
end
end Go.Proofs.YtpiaegojabkioaaGreatDoor
namespace Go.Proofs.YtpiaegojabkioaaGreatDoor
open Go Go.Eng Go.Num Go.RowKit
set_option maxRecDepth 100000
theorem plain_head {v : JV} (h : plainM v = true) : headOk v.k v.b v.t v.xs.length v.ks = true ∧ ∀ x ∈ v.xs,plainM x = true := by
 cases v with
 | mk k b t xs ks =>
   simp only [plainM,plainL_all,Bool.and_eq_true,List.all_eq_true] at h
   exact h
theorem plain_txt {x : JV} (h : plainM x = true) (hk : x.k = 4) : x = txtV x.t := by
 have h1 := (plain_head h).1
 cases x with
 | mk k b t xs ks =>
   simp only [JV.k] at hk
   subst hk
   simp only [JV.k,JV.b,JV.t,JV.xs,JV.ks,headOk,Bool.and_eq_true,Bool.or_eq_true,decide_eq_true_eq,Bool.not_eq_true',show ¬ (4 : Int) = 2 by decide,show ¬ (4 : Int) = 6 by decide,show ¬ (5 : Int) ≤ 4 by decide,decide_false,Bool.or_false,or_false,false_or] at h1
   obtain ⟨⟨⟨⟨⟨⟨⟨⟨⟨_,_⟩,hb⟩,_⟩,hx⟩,hks⟩,_⟩,_⟩,_⟩,_⟩ := h1
   have ex : xs = [] := List.eq_nil_of_length_eq_zero (of_decide_eq_true hx)
   have ek : ks = [] := of_decide_eq_true (hks.resolve_left (by decide))
   have eb : b = false := by simpa using hb
   subst eb ex ek
   rfl
theorem plain_list {x : JV} (h : plainM x = true) (hk : x.k = 5) : x = .mk 5 false [] x.xs [] := by
 have h1 := (plain_head h).1
 cases x with
 | mk k b t xs ks =>
   simp only [JV.k] at hk
   subst hk
   simp only [JV.k,JV.b,JV.t,JV.xs,JV.ks,headOk,Bool.and_eq_true,Bool.or_eq_true,decide_eq_true_eq,Bool.not_eq_true',show ¬ (5 : Int) = 2 by decide,show ¬ (5 : Int) = 6 by decide,show ¬ (5 : Int) = 3 by decide,show ¬ (5 : Int) = 4 by decide,decide_false,Bool.or_false,or_false,false_or] at h1
   obtain ⟨⟨⟨⟨⟨⟨⟨⟨⟨_,_⟩,hb⟩,ht⟩,_⟩,hks⟩,_⟩,_⟩,_⟩,_⟩ := h1
   have et : t = [] := of_decide_eq_true ht
   have ek : ks = [] := of_decide_eq_true (hks.resolve_left (by decide))
   have eb : b = false := by simpa using hb
   subst eb et ek
   rfl
theorem plain_obj {x : JV} (h : plainM x = true) (hk : x.k = 6) : x = .mk 6 false [] x.xs x.ks ∧ x.ks.length = x.xs.length := by
 have h1 := (plain_head h).1
 cases x with
 | mk k b t xs ks =>
   simp only [JV.k] at hk
   subst hk
   simp only [JV.k,JV.b,JV.t,JV.xs,JV.ks,headOk,Bool.and_eq_true,Bool.or_eq_true,decide_eq_true_eq,Bool.not_eq_true',show ¬ (6 : Int) = 2 by decide,show ¬ (6 : Int) = 3 by decide,show ¬ (6 : Int) = 4 by decide,decide_false,decide_true,Bool.or_false,or_false,false_or,Bool.not_true,Bool.false_eq_true] at h1
   obtain ⟨⟨⟨⟨⟨⟨⟨⟨⟨_,_⟩,hb⟩,ht⟩,_⟩,_⟩,_⟩,_⟩,hn⟩,_⟩ := h1
   have et : t = [] := of_decide_eq_true ht
   have eb : b = false := by simpa using hb
   subst eb et
   exact ⟨rfl,of_decide_eq_true hn⟩
theorem rec_of {v x0 x1 x2 x3 x4 : JV} (h : plainM v = true) (hk : v.k = 6) (hks : v.ks = [kAddr,kAttrs,kDeps,kId,kType]) (hxs : v.xs = [x0,x1,x2,x3,x4]) (k0 : x0.k = 4) (k2 : x2.k = 5) (k3 : x3.k = 4) (k4 : x4.k = 4) (hd : ∀ d ∈ x2.xs,d.k = 4) :
   v = recV ⟨x0.t,x4.t,x3.t,x1,x2.xs.map JV.t⟩ := by
 obtain ⟨_,hp⟩ := plain_head h
 rw [hxs] at hp
 have e := (plain_obj h hk).1
 rw [e,hxs,hks]
 have e0 := plain_txt (hp x0 (by simp)) k0
 have e2 := plain_list (hp x2 (by simp)) k2
 have e3 := plain_txt (hp x3 (by simp)) k3
 have e4 := plain_txt (hp x4 (by simp)) k4
 have ed : x2.xs = (x2.xs.map JV.t).map txtV := by
   rw [List.map_map]
   refine (List.map_id _).symm.trans (List.map_congr_left fun d hdm => ?_)
   exact plain_txt ((plain_head (hp x2 (by simp))).2 d hdm) (hd d hdm)
 show JV.mk 6 false [] [x0,x1,x2,x3,x4] [kAddr,kAttrs,kDeps,kId,kType] = JV.mk 6 false [] [txtV x0.t,x1,depsV (x2.xs.map JV.t),txtV x3.t,txtV x4.t] [kAddr,kAttrs,kDeps,kId,kType]
 have e2' : x2 = depsV (x2.xs.map JV.t) := by
   unfold depsV
   rw [← ed]
   exact e2
 rw [← e0,← e3,← e4,← e2']
structure ItemsP (G : Nat → Prop) (w : World) (sv : Value) (xs : List JV) : Prop where
 it : ∃ T L,SlAt w T sv xs.length L ∧ VRepsP G w xs L
 few : xs.length ≤ 9223372036854775807
theorem ItemsP.rep {G : Nat → Prop} {w : World} {sv : Value} {xs : List JV} (h : ItemsP G w sv xs) : ItemsAt w sv xs := ⟨let ⟨T,L,h1,h2⟩ := h.it; ⟨T,L,h1,VRepsP.rep h2⟩,h.few⟩
theorem ItemsP.ext {G : Nat → Prop} {w w' : World} {sv : Value} {xs : List JV} (h : ItemsP G w sv xs) (hx : Ext w w') : ItemsP G w' sv xs := ⟨let ⟨T,L,h1,h2⟩ := h.it; ⟨T,L,h1.ext hx,VRepsP.chg hx (fun _ _ _ e => e) h2⟩,h.few⟩
theorem itm_at {G : Nat → Prop} {w : World} {sv : Value} {xs : List JV} {i : Nat} {x : JV} (h : ItemsP G w sv xs) (hx : xs[i]? = some x) :
   ∃ (p : Addr) (cs : List Value),VRepP G w x cs ∧ (∀ K : Value → Prop,K (.pointer (some p)) → ixaW none 5 sv (i64 (i : Nat)) K) ∧ (∀ (w' : World) (off : Nat) (v : Value) (K : Value → Prop),Ext w w' → cs[off]? = some v → K v → ldW false 1 (.pointer (some (p.add off))) w' K) ∧
     (∀ (w' : World) (K : Value → Prop),Ext w w' → K (.agg cs.toArray) → ldW true 5 (.pointer (some p)) w' K) := by
 obtain ⟨T,L,hS,hR⟩ := h.it
 obtain ⟨hi,_⟩ := List.getElem?_eq_some_iff.1 hx
 have hlen := hR.len
 obtain ⟨cs,hc,hg⟩ := hR.get hx
 obtain ⟨q,cap,rfl,h1,h2,h3⟩ := hS
 obtain ⟨b,off,c,fr,rfl,hb,hcs⟩ := h3 (by intro e; rw [e] at hlen; simp at hlen; omega)
 have hin : ∀ j,j < 5 → c[off + i * 5 + j]? = cs[j]? := fun j hj => by
   rw [← hg j hj,← hcs (i * 5 + j) (by omega)]
   congr 1; omega
 refine ⟨⟨b,off + i * 5,none⟩,cs,hc,fun K hK => ?_,fun w' o v K hx' hv hK => ?_,fun w' K hx' hK => ld_cells (hx'.at hb id) hc.rep.len hin hK⟩
 · rw [ixa_slice,Int.toNat_natCast,add_mk]
   exact ⟨by omega,by omega,hK⟩
 · have ho : o < 5 := by have := (List.getElem?_eq_some_iff.1 hv).1; rw [hc.rep.len] at this; exact this
   rw [ld_one]
   exact ⟨_,by rw [add_mk,cell_eq,hx'.at hb id,cellO_some,← hv,← hin o ho],hK⟩
theorem cs_k {w : World} {x : JV} {cs : List Value} (h : VRep w x cs) : cs[0]? = some (i64 x.k) := by obtain ⟨sv,kv,T1,T2,L,rfl,_⟩ := h.out; rfl
theorem cs_t {w : World} {x : JV} {cs : List Value} (h : VRep w x cs) : cs[2]? = some (str x.t) := by obtain ⟨sv,kv,T1,T2,L,rfl,_⟩ := h.out; rfl
theorem cs_x {G : Nat → Prop} {w : World} {x : JV} {cs : List Value} (h : VRepP G w x cs) : ∃ sv,cs[3]? = some sv ∧ ItemsP G w sv x.xs := by
 obtain ⟨sv,kv,T1,T2,L,rfl,h1,h2,_,h4,_⟩ := h.out
 exact ⟨sv,rfl,⟨T1,L,h1,h2⟩,h4.1⟩
structure GrowD (w0 w : World) (p B : Nat) (r : RV) (vcs : List Value) (dv : Value) : Prop where
 ext : Ext w0 w
 hb : w.heap[p]? = some (.cells (rcs r vcs dv).toArray RT (0,0))
 lo : w0.heap.size ≤ p
 lt : p < B
 le : B ≤ w.heap.size
 own : Own w B ST 1 dv r.deps.length (r.deps.map str)
theorem GrowD.more {w0 w w' : World} {p B : Nat} {r : RV} {vcs : List Value} {dv : Value} (h : GrowD w0 w p B r vcs dv) (hx : Ext w w') : GrowD w0 w' p B r vcs dv :=
 ⟨h.ext.trans hx,hx.at h.hb id,h.lo,h.lt,Nat.le_trans h.le hx.size,own_chg h.own hx fun _ _ e => e⟩
section
variable [HX]
theorem GrowD.app {w0 w : World} {p B : Nat} {r : RV} {vcs : List Value} {dv t : Value} {d : Str} {K : World → Prop} (h : GrowD w0 w p B r vcs dv) (hv : vcs.length = 5) (ht : SlAt w ST t 1 [str d]) (hl : r.deps.length ≤ 1000000)
   (hK : ∀ dv' w',GrowD w0 w' p B { r with deps := r.deps ++ [d] } vcs dv' → (∀ k,k < B → k ≠ p → w'.heap[k]? = w.heap[k]?) → w.heap.size ≤ w'.heap.size → K w') :
   semE Tryz.prog (Builtin.append_ #[22,22] 22 #[dv,t]) w fun t2 w1 => stW 1 (.pointer (some ((⟨p,0,none⟩ : Addr).add 8))) t2 w1 K := by
 have hlo := h.lo
 have hlt := h.lt
 refine append_own3 elem_s h.own ht (m := 1) rfl (by intro u hu; rw [List.mem_singleton.1 hu]; rfl) (by omega) (by omega) h.le fun v' w1 hO1 hc1 hb1' => ?_
 have hge : ∀ k,dv.ownBlock = some k → B ≤ k := fun k hk => (own_in h.own hk).1
 have hb1 := hc1.at h.hb fun e => by have := hge p e; omega
 have hx1 : Ext w0 w1 := h.ext.then hc1 fun k hk e => by have := hge k e; omega
 rw [add_mk,Nat.zero_add]
 refine st_at hb1 (by obtain ⟨q,c,e,_⟩ := hO1.sl.shape; rw [e]; rfl) (by simp [hv]) fun w2 hz2 hb2 hc2 => ?_
 refine hK v' w2 ⟨hx1.new hc2 hlo,?_,hlo,hlt,by have := h.le; have := hc1.size; omega,?_⟩ (fun k hkB hkp => ?_) (by have := hc1.size; omega)
 · rw [hb2]
   have e : (rcs r vcs dv).set 8 v' = rcs { r with deps := r.deps ++ [d] } vcs v' := by
     show (str r.addr :: str r.typ :: str r.id :: (vcs ++ [dv])).set 8 v' = str r.addr :: str r.typ :: str r.id :: (vcs ++ [v'])
     simp only [List.set_cons_succ]
     rw [List.set_append_right _ _ (by omega),hv]
     rfl
   rw [← e]
   simp
 · have hO2 := own_chg hO1 hc2 fun k hk e => by have := (own_in hO1 hk).1; have e : k = p := e; omega
   have : (r.deps ++ [d]).length = r.deps.length + 1 := by simp
   simp only [List.length_append,List.length_singleton,List.map_append,List.map_cons,List.map_nil]
   exact hO2
 · have := h.le
   have := hc1.size
   rw [hc2.heap k (by omega) hkp,hc1.heap k (by omega) fun e => by have := hge k e; omega]
theorem stake_p {v : JV} {sv kv2 : Value} {ks : List Str} {kv : Value} {T : TypeId} {w : World} {K : Value → World → Prop} (h : VRep w v [i64 v.k,.bool v.b,str v.t,sv,kv2]) (hk : SlAt w T kv ks.length (ks.map str))
   (hK : ∀ w',Ext w w' → K (.tuple #[sv,.bool (decide (v.k = 6) && decide (v.ks = ks))]) w') : callF Tryz.prog 43 [.agg [i64 v.k,.bool v.b,str v.t,sv,kv2].toArray,kv] w K := by
 refine W43_ok ?_
 unfold W43
 obtain ⟨sv',kv',T1,T2,L,e,g1,g2,g3,hfit⟩ := h.out
 simp only [List.cons.injEq,true_and,and_true] at e
 obtain ⟨rfl,rfl⟩ := e
 refine box_new fun b w1 _ _ hb hx1 => ?_
 have hB : ValB w1 b v sv kv2 := ⟨hb,⟨T1,L,g1.ext hx1,g2.ext hx1⟩,⟨T2,g3.ext hx1⟩,hfit⟩
 have hxd : Ext w1 w1.drew := Chg.drew (Chg.refl (fun _ => False) w1)
 have hBd := hB.ext hxd
 simp only [fld_ptr,ld_one]
 refine ⟨sv,by rw [add_mk,cell_eq,hBd.hb,cellO_some]; rfl,i64 v.k,by rw [add_mk,cell_eq,hBd.hb,cellO_some]; rfl,?_⟩
 rw [bin_eql]
 simp only [isB_t]
 by_cases h6 : v.k = 6
 · rw [decide_eq_true h6]
   simp only [GqW_t]
   refine ⟨_,rfl,kv2,by rw [ld_one]; exact ⟨kv2,by rw [add_mk,cell_eq,hBd.hb,cellO_some]; rfl,rfl⟩,_,rfl,⟨fun _ => ?_,fun e => by cases e⟩⟩
   obtain ⟨T2,hks⟩ := hBd.keys
   refine equals_p hks ((hk.ext hx1).ext hxd) hfit.2.1 fun w7 hx7 => ?_
   have hB7 := hBd.ext hx7
   refine ⟨⟨sv,by rw [add_mk,cell_eq,hB7.hb,cellO_some]; rfl,rfl⟩,?_⟩
   rw [pick_t]
   have := hK w7 (hx1.trans (hxd.trans hx7))
   rw [decide_eq_true h6,Bool.true_and] at this
   exact this
 · rw [decide_eq_false h6]
   simp only [GqW_f,GeW_f]
   refine ⟨⟨sv,by rw [add_mk,cell_eq,hBd.hb,cellO_some]; rfl,rfl⟩,?_⟩
   rw [pick_f]
   have := hK w1.drew (hx1.trans hxd)
   rw [decide_eq_false h6,Bool.false_and] at this
   exact this
end
end Go.Proofs.YtpiaegojabkioaaGreatDoor

namespace Go.Proofs.YtpiaegojabkioaaGreatDoor
open Go Go.Eng Go.Num Go.RowKit
set_option maxRecDepth 100000
abbrev kRecs : Str := [114,101,99,111,114,100,115]
abbrev kSer : Str := [115,101,114,105,97,108]
theorem plain_num {x : JV} (h : plainM x = true) (hk : x.k = 3) : x = .mk 3 false x.t [] [] ∧ goodN x.t = true := by
 have h1 := (plain_head h).1
 cases x with
 | mk k b t xs ks =>
   simp only [JV.k] at hk
   subst hk
   simp only [JV.k,JV.b,JV.t,JV.xs,JV.ks,headOk,Bool.and_eq_true,Bool.or_eq_true,decide_eq_true_eq,Bool.not_eq_true',show ¬ (3 : Int) = 2 by decide,show ¬ (3 : Int) = 6 by decide,show ¬ (5 : Int) ≤ 3 by decide,decide_false,Bool.or_false,or_false,false_or] at h1
   obtain ⟨⟨⟨⟨⟨⟨⟨⟨⟨_,_⟩,hb⟩,_⟩,hx⟩,hks⟩,hg⟩,_⟩,_⟩,_⟩ := h1
   have ex : xs = [] := List.eq_nil_of_length_eq_zero (of_decide_eq_true hx)
   have ek : ks = [] := of_decide_eq_true (hks.resolve_left (by decide))
   have eb : b = false := by simpa using hb
   subst eb ex ek
   exact ⟨rfl,hg.resolve_left (by decide)⟩
theorem few_xs {v : JV} (h : fewM v = true) : v.xs.length ≤ 100000 ∧ ∀ x ∈ v.xs,fewM x = true := by
 rw [fewM_eq,fewL_all] at h
 simp only [Bool.and_eq_true,decide_eq_true_eq,List.all_eq_true] at h
 exact ⟨h.1.1,h.2⟩
theorem num_short {t : Str} (h : goodN t = true) : t.length ≤ 101 := by
 obtain ⟨_,g2,_,_⟩ := goodN_out h
 cases t with
 | nil => simp
 | cons a r =>
   unfold Num.dig at g2
   split at g2
   · rename_i e; cases e
   · rename_i c d e
     cases e
     split at g2
     · simp; omega
     · simp at g2 ⊢; omega
theorem st_of {v x0 x1 : JV} {n : Int} {rl : List RV} (h : plainM v = true) (hk : v.k = 6) (hks : v.ks = [kRecs,kSer]) (hxs : v.xs = [x0,x1]) (k0 : x0.k = 5) (k1 : x1.k = 3) (hr : x0.xs = rl.map recV) (hn : Lib.itoa n = x1.t) :
   v = stV (listV rl) n := by
 obtain ⟨_,hp⟩ := plain_head h
 rw [hxs] at hp
 have e := (plain_obj h hk).1
 have e0 := plain_list (hp x0 (by simp)) k0
 have e1 := (plain_num (hp x1 (by simp)) k1).1
 rw [hr] at e0
 rw [← hn] at e1
 rw [e,hxs,hks,e0,e1]
 rfl
structure GrowM (A : Nat) (w0 w : World) (p B : Nat) (ser : Int) (ov : Value) (xs : List RV) : Prop where
 ext : Ext w0 w
 hb : w.heap[p]? = some (.cells [i64 ser,ov].toArray StaT (0,0))
 lo : w0.heap.size ≤ p
 lt : p < B
 le : B ≤ w.heap.size
 own : ∃ L,Own w B RT 9 ov xs.length L ∧ RRepsP (fun k => (ov.ownBlock ≠ some k ∧ k ≠ p) ∧ A ≤ k) w xs L
theorem GrowM.more {A : Nat} {w0 w w' : World} {p B : Nat} {ser : Int} {ov : Value} {xs : List RV} (h : GrowM A w0 w p B ser ov xs) (hx : Ext w w') : GrowM A w0 w' p B ser ov xs :=
 ⟨h.ext.trans hx,hx.at h.hb id,h.lo,h.lt,Nat.le_trans h.le hx.size,let ⟨L,h1,h2⟩ := h.own; ⟨L,own_chg h1 hx fun _ _ e => e,h2.ext hx⟩⟩
theorem GrowM.ld {A : Nat} {w0 w : World} {p B : Nat} {ser : Int} {ov : Value} {xs : List RV} {K : Value → Prop} (h : GrowM A w0 w p B ser ov xs) (hk : K ov) : ldW false 1 (.pointer (some ((⟨p,0,none⟩ : Addr).add 1))) w K := by
 rw [ld_one]
 exact ⟨ov,by rw [add_mk,cell_eq,h.hb,cellO_some]; rfl,hk⟩
theorem GrowM.all {A : Nat} {w0 w : World} {p B : Nat} {ser : Int} {ov : Value} {xs : List RV} {K : Value → Prop} (h : GrowM A w0 w p B ser ov xs) (hk : K (.agg [i64 ser,ov].toArray)) : ldW true 2 (.pointer (some ⟨p,0,none⟩)) w K := ld_all h.hb rfl hk
theorem GrowM.rep {A : Nat} {w0 w : World} {p B : Nat} {ser : Int} {ov : Value} {xs : List RV} (h : GrowM A w0 w p B ser ov xs) : StRepP (fun _ => True) w ser xs [i64 ser,ov] := by
 obtain ⟨L,hO,hR⟩ := h.own
 exact ⟨ov,RT,L,rfl,hO.sl,hR.mono fun _ _ _ => trivial⟩
theorem GrowM.olt {A : Nat} {w0 w : World} {p B : Nat} {ser : Int} {ov : Value} {xs : List RV} (h : GrowM A w0 w p B ser ov xs) : ∀ k,ov.ownBlock = some k → B ≤ k ∧ k < w.heap.size := fun k hk => by obtain ⟨L,hO,_⟩ := h.own; exact ⟨(own_in hO hk).1,(own_in hO hk).2.1⟩
section
variable [HX]
theorem GrowM.app {A : Nat} {w0 w : World} {p B : Nat} {ser : Int} {ov t : Value} {xs : List RV} {x : RV} {cs : List Value} {K : World → Prop} (h : GrowM A w0 w p B ser ov xs) (ht : SlAt w RT t 1 cs) (hx : RRepP (fun k => (ov.ownBlock ≠ some k ∧ k ≠ p) ∧ A ≤ k) w x cs) (hl : xs.length ≤ 1000000)
   (hK : ∀ ov' w',GrowM A w0 w' p B ser ov' (xs ++ [x]) → K w') : semE Tryz.prog (Builtin.append_ #[36,36] 36 #[ov,t]) w fun t2 w1 => stW 1 (.pointer (some ((⟨p,0,none⟩ : Addr).add 1))) t2 w1 K := by
 obtain ⟨L,hO,hR⟩ := h.own
 have hlo := h.lo
 have hlt := h.lt
 refine append_own3 elem_r hO ht (m := 1) (by rw [hx.len]) hx.one (by omega) (by omega) h.le fun v' w1 hO1 hc1 hb1' => ?_
 have hge : ∀ k,ov.ownBlock = some k → B ≤ k := fun k hk => (own_in hO hk).1
 have hb1 := hc1.at h.hb fun e => by have := hge p e; omega
 have hall : RRepsP (fun k => ((ov.ownBlock ≠ some k ∧ k ≠ p) ∧ A ≤ k) ∧ k < w.heap.size) w (xs ++ [x]) (L ++ cs) := (hR.snoc hx).mono fun k hlt hk => ⟨hk,hlt⟩
 have hR1 := RRepsP.chg hc1 (fun k hk _ e => hk.1.1.1 e) hall
 have hx1 : Ext w0 w1 := h.ext.then hc1 fun k hk e => by have := hge k e; omega
 rw [add_mk,Nat.zero_add]
 refine st_at hb1 (by obtain ⟨q,c,e,_⟩ := hO1.sl.shape; rw [e]; rfl) (by simp) fun w2 hz2 hb2 hc2 => ?_
 refine hK v' w2 ⟨hx1.new hc2 hlo,by rw [hb2]; simp,hlo,hlt,by have := h.le; have := hc1.size; omega,L ++ cs,?_,(RRepsP.chg hc2 (fun k hk _ e => hk.1.1.2 e) hR1).mono fun k _ hk => ⟨⟨fun e => ?_,hk.1.1.2⟩,hk.1.2⟩⟩
 · rw [List.length_append,List.length_singleton]
   exact own_chg hO1 hc2 fun k hk e => by have := (own_in hO1 hk).1; have e : k = p := e; omega
 · rcases hb1' k e with h | h
   · exact hk.1.1.1 h
   · have := hk.2; omega
end
end Go.Proofs.YtpiaegojabkioaaGreatDoor
namespace Go.Proofs.YtpiaegojabkioaaGreatDoor
open Go Go.Eng Go.Num Go.RowKit
set_option maxRecDepth 100000
theorem dec_len7 : ∀ (k u : Nat),u < 10 ^ k → (Lib.decDigits u).length ≤ k + 1 := by
 intro k
 induction k with
 | zero => intro u h; rw [Lib.decDigits,dif_pos (by omega)]; simp
 | succ k ih =>
   intro u h
   rw [Lib.decDigits]
   split
   · simp
   · have := ih (u / 10) (by rw [Nat.pow_succ] at h; omega)
     rw [List.length_append,List.length_singleton]; omega
theorem decD_all7 : ∀ (n u : Nat),u < n → (Lib.decDigits u).all Num.isDig = true ∧ (Lib.decDigits u) ≠ [] ∧ ((Lib.decDigits u).head? = some 48 → u = 0) := by
 intro n
 induction n with
 | zero => intro u h; omega
 | succ n ih =>
   intro u h
   rw [Lib.decDigits]
   have hd : ∀ k,k < 10 → Num.isDig (UInt8.ofNat (48 + k)) = true := by
     intro k hk
     have : ∀ k : Fin 10,Num.isDig (UInt8.ofNat (48 + k.val)) = true := by decide
     exact this ⟨k,hk⟩
   split
   · rename_i h10
     refine ⟨by rw [List.all_cons,hd u h10]; rfl,by simp,fun e => ?_⟩
     have : ∀ k : Fin 10,([UInt8.ofNat (48 + k.val)].head? = some 48) → k.val = 0 := by decide
     exact this ⟨u,h10⟩ e
   · have hi := ih (u / 10) (by omega)
     refine ⟨by rw [List.all_append,hi.1,List.all_cons,hd (u % 10) (by omega)]; rfl,by simp,fun e => ?_⟩
     have e : (Lib.decDigits (u / 10)).head? = some 48 := by
       cases hq : Lib.decDigits (u / 10) with
       | nil => exact absurd hq hi.2.1
       | cons x y => rw [hq] at e; simpa using e
     have := hi.2.2 e
     omega
theorem itoa_good7 {n : Int} (h1 : -9223372036854775808 ≤ n) (h2 : n ≤ 9223372036854775807) : goodN (Lib.itoa n) = true := by
 have key : ∀ u : Nat,u ≤ 9223372036854775808 → (Lib.decDigits u).all isDig = true ∧ Lib.decDigits u ≠ [] ∧ ((Lib.decDigits u).head? = some 48 → u = 0) ∧ (Lib.decDigits u).length ≤ 20 := fun u hu => by
   obtain ⟨a1,a2,a3⟩ := decD_all7 _ u (Nat.lt_succ_self _)
   exact ⟨a1,a2,a3,dec_len7 19 u (by omega)⟩
 have h0 : Lib.decDigits 0 = [48] := by rw [Lib.decDigits,dif_pos (by decide)]; rfl
 unfold Lib.itoa
 by_cases hn : n < 0
 · rw [if_pos hn]
   obtain ⟨a1,a2,a3,a4⟩ := key n.natAbs (by omega)
   have e : dig (45 :: Lib.decDigits n.natAbs) = Lib.decDigits n.natAbs := by simp [dig]
   have hh : ¬ (Lib.decDigits n.natAbs).head? = some 48 := fun h => by have := a3 h; omega
   have hl : 0 < (Lib.decDigits n.natAbs).length := List.length_pos_iff.2 a2
   unfold goodN
   rw [e,a1]
   simp only [Bool.and_eq_true,Bool.and_true,decide_eq_true_eq,Bool.or_eq_true,Bool.not_eq_true']
   exact ⟨⟨by omega,by omega⟩,.inl (by simpa using hh)⟩
 · rw [if_neg hn]
   obtain ⟨a1,a2,a3,a4⟩ := key n.toNat (by omega)
   cases hd : Lib.decDigits n.toNat with
   | nil => exact absurd hd a2
   | cons c r =>
     rw [hd] at a1 a3 a4
     have hc : isDig c = true := by simp only [List.all_cons,Bool.and_eq_true] at a1; exact a1.1
     have h45 : c ≠ 45 := by rintro rfl; exact absurd hc (by decide)
     have edig : dig (c :: r) = c :: r := by simp [dig,h45]
     unfold goodN
     rw [edig,a1]
     simp only [Bool.and_eq_true,Bool.and_true,decide_eq_true_eq,Bool.or_eq_true,Bool.not_eq_true',List.head?_cons,List.length_cons] at a4 ⊢
     refine ⟨⟨by omega,by omega⟩,?_⟩
     by_cases h48 : c = 48
     · right
       have := a3 (by rw [h48]; rfl)
       rw [this,h0] at hd
       exact hd.symm
     · left
       simpa using h48
theorem dec_itoa7 : ∀ (n u : Nat),u < n → Num.dec (Lib.decDigits u) = u := by
 intro n
 induction n with
 | zero => intro u h; omega
 | succ n ih =>
   intro u h
   have hv : ∀ k,k < 10 → Num.dval (UInt8.ofNat (48 + k)) = k := fun k hk => by
     unfold Num.dval
     rw [UInt8.toNat_ofNat',Nat.mod_eq_of_lt (by omega)]; omega
   rw [Lib.decDigits]
   split
   · rename_i h10
     show 0 * 10 + Num.dval (UInt8.ofNat (48 + u)) = u
     rw [hv u h10]; omega
   · rw [Num.dec_app,ih (u / 10) (by omega)]
     have : Num.dec [UInt8.ofNat (48 + u % 10)] = u % 10 := by
       show 0 * 10 + Num.dval (UInt8.ofNat (48 + u % 10)) = u % 10
       rw [hv (u % 10) (by omega)]; omega
     rw [this]
     simp only [List.length_singleton,Nat.pow_one]
     omega
theorem fold_ge : ∀ (d : Str) (acc : Nat),acc ≤ d.foldl (fun n c => n * 10 + Num.dval c) acc
 | [],acc => Nat.le_refl _
 | c :: d,acc => Nat.le_trans (by omega) (fold_ge d (acc * 10 + Num.dval c))
theorem pu_all : ∀ (d : Str) (acc : Nat),d.all Num.isDig = true → acc < 18446744073709551616 →
   (Lib.parseUint10 acc d = .ok (d.foldl (fun n c => n * 10 + Num.dval c) acc) ∧ d.foldl (fun n c => n * 10 + Num.dval c) acc < 18446744073709551616) ∨ (Lib.parseUint10 acc d = .range ∧ 18446744073709551616 ≤ d.foldl (fun n c => n * 10 + Num.dval c) acc)
 | [],acc,_,h => .inl ⟨rfl,h⟩
 | c :: d,acc,ha,h => by
   simp only [List.all_cons,Bool.and_eq_true] at ha
   have hc := ha.1
   simp only [Num.isDig,Bool.and_eq_true,decide_eq_true_eq] at hc
   simp only [Lib.parseUint10,if_pos hc,List.foldl_cons]
   have hd : Num.dval c = c.toNat - 48 := rfl
   split
   · right
     refine ⟨rfl,Nat.le_trans ?_ (fold_ge d _)⟩
     omega
   · split
     · right
       refine ⟨rfl,Nat.le_trans ?_ (fold_ge d _)⟩
       omega
     · rw [hd]
       exact pu_all d _ ha.2 (by omega)
theorem good_shape {s : Str} (hg : goodN s = true) : (s = 45 :: dig s ∧ neg s = true ∨ s = dig s ∧ neg s = false) ∧ dig s ≠ [] ∧ (dig s).all Num.isDig = true := by
 obtain ⟨g1,g2,g3,g4⟩ := goodN_out hg
 refine ⟨?_,fun e => by rw [e] at g1; simp at g1,g4⟩
 cases s with
 | nil => simp [dig] at g1
 | cons c r =>
   by_cases h : c = 45
   · subst h; left; simp [dig,neg]
   · right; simp [dig,neg,h]
theorem atoi_good {s : Str} (hg : goodN s = true) : (Lib.atoiAll s = .ok (num s) ∧ -9223372036854775808 ≤ num s ∧ num s ≤ 9223372036854775807) ∨ (Lib.atoiAll s = .range ∧ (num s < -9223372036854775808 ∨ 9223372036854775807 < num s)) := by
 obtain ⟨hs,hne,ha⟩ := good_shape hg
 have hp := pu_all (dig s) 0 ha (by decide)
 have hd : (dig s).foldl (fun n c => n * 10 + Num.dval c) 0 = dec (dig s) := rfl
 rw [hd] at hp
 rcases hs with ⟨e,hn⟩ | ⟨e,hn⟩
 · have hnum : num s = -(dec (dig s) : Int) := by unfold num; rw [hn]; rfl
   rw [hnum]
   generalize dig s = d at *
   subst e
   simp only [Lib.atoiAll,Lib.parseMag]
   simp only [show (45 : UInt8).toNat = 45 from rfl,or_true,if_true,not_true_eq_false,false_and,if_false,true_and,if_neg hne]
   rcases hp with ⟨h1,h2⟩ | ⟨h1,h2⟩
   · simp only [h1]
     by_cases hb : 9223372036854775808 < dec d
     · right
       rw [if_pos hb]
       exact ⟨rfl,.inl (by omega)⟩
     · left
       rw [if_neg hb]
       exact ⟨rfl,by omega,by omega⟩
   · right
     simp only [h1]
     exact ⟨trivial,.inl (by omega)⟩
 · have hnum : num s = (dec (dig s) : Int) := by unfold num; rw [hn]; rfl
   rw [hnum]
   cases hd2 : dig s with
   | nil => exact absurd hd2 hne
   | cons c r =>
     rw [hd2] at hp ha e
     have hc := ha
     simp only [List.all_cons,Bool.and_eq_true,Num.isDig,decide_eq_true_eq] at hc
     have n43 : ¬ c.toNat = 43 := by omega
     have n45 : ¬ c.toNat = 45 := by omega
     rw [e]
     simp only [Lib.atoiAll,Lib.parseMag,n43,n45,or_self,if_false,not_false_eq_true,true_and,false_and,if_neg (show ¬ (c :: r = []) by simp)]
     rcases hp with ⟨h1,h2⟩ | ⟨h1,h2⟩
     · simp only [h1]
       by_cases hb : 9223372036854775808 ≤ dec (c :: r)
       · right
         rw [if_pos hb]
         exact ⟨rfl,.inr (by omega)⟩
       · left
         rw [if_neg hb]
         exact ⟨rfl,by omega,by omega⟩
     · right
       simp only [h1]
       exact ⟨trivial,.inr (by omega)⟩
theorem eq_nil2 (K : Value → Prop) (w : World) : eqQ Tryz.prog .neq 112 false true .nilIface .nilIface w K ↔ K (.bool false) := by
 have h : (do eqGuard .neq 112 (stand false) (stand true) .nilIface .nilIface; binOp .neq 112 .nilIface .nilIface : Sem Value).run Tryz.prog w = .ok (.bool false) w := by kernel_rfl
 unfold eqQ semQ
 rw [h]
 exact ⟨fun ⟨v,h1,h2⟩ => by cases h1; exact h2,fun h2 => ⟨_,rfl,h2⟩⟩
theorem ne_nil2 (T : TypeId) (v : Value) (w : World) (K : Value → Prop) : eqQ Tryz.prog .neq 112 false true (.iface T v) .nilIface w K ↔ K (.bool true) := by
 have h : (do eqGuard .neq 112 (stand false) (stand true) (.iface T v) .nilIface; binOp .neq 112 (.iface T v) .nilIface : Sem Value).run Tryz.prog w = .ok (.bool true) w := by kernel_rfl
 unfold eqQ semQ
 rw [h]
 exact ⟨fun ⟨v,h1,h2⟩ => by cases h1; exact h2,fun h2 => ⟨_,rfl,h2⟩⟩
def intM (s : Str) : Option Int := if goodN s = true ∧ -9223372036854775808 ≤ num s ∧ num s ≤ 9223372036854775807 then some (num s) else none
theorem num_itoa {n : Int} (h0 : 0 ≤ n) : num (Lib.itoa n) = n := by
 have e : Lib.itoa n = Lib.decDigits n.toNat := by unfold Lib.itoa; rw [if_neg (by omega)]
 obtain ⟨a1,a2,_⟩ := decD_all7 _ n.toNat (Nat.lt_succ_self _)
 have hd := dec_itoa7 _ n.toNat (Nat.lt_succ_self _)
 rw [e]
 cases hq : Lib.decDigits n.toNat with
 | nil => exact absurd hq a2
 | cons c r =>
   rw [hq] at a1 hd
   have hc : isDig c = true := by simp only [List.all_cons,Bool.and_eq_true] at a1; exact a1.1
   have h45 : c ≠ 45 := by rintro rfl; exact absurd hc (by decide)
   have e1 : dig (c :: r) = c :: r := by simp [dig,h45]
   have e2 : neg (c :: r) = false := by unfold neg; simp [h45]
   unfold num
   rw [e1,e2,hd]
   simp only [Bool.false_eq_true,if_false]
   omega
theorem int_itoa {n : Int} (h0 : 0 ≤ n) (h1 : n ≤ 1099511627776) : intM (Lib.itoa n) = some n := by
 unfold intM
 rw [num_itoa h0,if_pos ⟨itoa_good7 (by omega) (by omega),by omega,by omega⟩]
theorem itoa_num {s : Str} (hg : goodN s = true) : Lib.itoa (num s) = s := by
 refine itoa_of hg ?_
 unfold num neg
 cases hh : (s.head? == some 45) with
 | true => left; exact ⟨by simpa using hh,by simp⟩
 | false => right; exact ⟨by simpa using hh,by simp⟩
theorem recV_inj {r q : RV} (h : recV r = recV q) : r = q := by
 have hx := congrArg JV.xs h
 simp only [recV,recP,mkO,JV.xs,List.map_cons,List.map_nil,List.cons.injEq,and_true] at hx
 obtain ⟨h1,h2,h3,h4,h5⟩ := hx
 have t : ∀ {a b : Str},txtV a = txtV b → a = b := fun {a b} e => congrArg JV.t e
 have hd : ∀ {a b : List Str},a.map txtV = b.map txtV → a = b := fun {a b} e => by
   have := congrArg (List.map JV.t) e
   rw [List.map_map,List.map_map] at this
   simpa [Function.comp_def,txtV,JV.t] using this
 cases r; cases q
 simp only at h1 h2 h3 h4 h5
 have h3 := congrArg JV.xs h3
 simp only [depsV,JV.xs] at h3
 rw [t h1,h2,hd h3,t h4,t h5]
theorem recs_inj : ∀ {a b : List RV},a.map recV = b.map recV → a = b
 | [],[],_ => rfl
 | [],_ :: _,h => by simp at h
 | _ :: _,[],h => by simp at h
 | x :: a,y :: b,h => by
   simp only [List.map_cons,List.cons.injEq] at h
   rw [recV_inj h.1,recs_inj h.2]
theorem rec_parts {r : RV} {v x0 x1 x2 x3 x4 : JV} (h : v = recV r) (hx : v.xs = [x0,x1,x2,x3,x4]) : x0.k = 4 ∧ x2.k = 5 ∧ x3.k = 4 ∧ x4.k = 4 ∧ ∀ d ∈ x2.xs,d.k = 4 := by
 subst h
 simp only [recV,recP,mkO,JV.xs,List.map_cons,List.map_nil,List.cons.injEq,and_true] at hx
 obtain ⟨rfl,rfl,rfl,rfl,rfl⟩ := hx
 refine ⟨rfl,rfl,rfl,rfl,fun d hd => ?_⟩
 simp only [depsV,JV.xs,List.mem_map] at hd
 obtain ⟨s,_,rfl⟩ := hd
 rfl
theorem st_parts {l : List RV} {ser : Int} {v x0 x1 : JV} (h : v = stV (listV l) ser) (hx : v.xs = [x0,x1]) : x0.k = 5 ∧ x1.k = 3 ∧ x0.xs = l.map recV ∧ x1.t = Lib.itoa ser := by
 subst h
 simp only [stV,mkO,JV.xs,List.map_cons,List.map_nil,List.cons.injEq,and_true] at hx
 obtain ⟨rfl,rfl⟩ := hx
 exact ⟨rfl,rfl,rfl,rfl⟩
section
variable [HX]
theorem atoi_x {s : Str} {w : World} {K : Value → World → Prop} (hT : TabA w) (hl : s.length ≤ 1000000)
   (hK : ∀ n e w',Ext w w' → ((e = .nilIface ∧ Lib.atoiAll s = .ok n) ∨ (∃ T v,e = .iface T v) ∧ ∀ n',Lib.atoiAll s ≠ .ok n') → K (.tuple #[i64 n,e]) w') :
   callF Tryz.prog 68 [str s] w K := by
 refine W68_ok ?_
 unfold W68
 refine of_calls (args := #[str s]) Tryz.call100 ((Tryz.internal_strconv_Atoi_all (ofL s) (by rw [ofL_size]; omega) w).mono ?_)
 rintro e w1 ⟨rfl,hw⟩
 rw [ofL_data]
 have hx1 : Ext w w1 := by
   rcases hw with rfl | ⟨t,rfl⟩
   · exact Chg.refl _ _
   · exact bytes_ext _ _ _
 have hT1 := hT.ext hx1
 refine ⟨_,rfl,?_⟩
 rcases hA : Lib.atoiAll s with n | _ | _
 · simp only [Lib.intTuple,ext_tuple]
   refine ⟨_,rfl,_,rfl,?_⟩
   rw [eq_nil2,condW_false]
   exact hK n _ w1 hx1 (.inl ⟨rfl,hA⟩)
 · simp only [Lib.intTuple,ext_tuple]
   refine ⟨_,rfl,_,rfl,?_⟩
   rw [ne_nil2,condW_true]
   obtain ⟨T,v,hv⟩ := hT1.err
   refine of_calls (args := #[str [65,116,111,105],str s,i64 0,i64 0,.iface 176 (.int .i64 2)]) Tryz.call101 ((Tryz.strconv_toError_syntax (ofL [65,116,111,105]) (ofL s) 0 0 _ w1 (by rw [ofL_size]; omega) hv (.inr ⟨T,v,rfl⟩)).mono ?_)
   rintro e w' ⟨N,rfl,_,_,hb⟩
   exact ⟨_,rfl,hK 0 _ w' (hx1.trans (Chg.of_below hb)) (.inr ⟨⟨_,_,rfl⟩,fun n' h => by rw [hA] at h; cases h⟩)⟩
 · simp only [Lib.intTuple,ext_tuple]
   refine ⟨_,rfl,_,rfl,?_⟩
   rw [ne_nil2,condW_true]
   obtain ⟨T,v,hv⟩ := hT1.rng
   refine of_calls (args := #[str [65,116,111,105],str s,i64 0,i64 0,.iface 176 (.int .i64 1)]) Tryz.call101 ((Tryz.strconv_toError_range (ofL [65,116,111,105]) (ofL s) 0 0 _ w1 (by rw [ofL_size]; omega) hv (.inr ⟨T,v,rfl⟩)).mono ?_)
   rintro e w' ⟨N,rfl,_,_,hb⟩
   exact ⟨_,rfl,hK _ _ w' (hx1.trans (Chg.of_below hb)) (.inr ⟨⟨_,_,rfl⟩,fun n' h => by rw [hA] at h; cases h⟩)⟩
theorem numint_x {s : Str} {w : World} {K : Value → World → Prop} (hT : TabA w) (hl : s.length ≤ 1000000) (hK : ∀ w',Ext w w' → K (.tuple #[i64 ((intM s).getD 0),.bool (intM s).isSome]) w') : callF Tryz.prog 44 [str s] w K := by
 refine W44_ok ?_
 unfold W44
 refine atoi_x hT hl fun n e w1 hx1 he => ?_
 simp only [ext_tuple]
 refine ⟨_,rfl,_,rfl,?_⟩
 rcases he with ⟨rfl,hn⟩ | ⟨⟨T,v,rfl⟩,hn⟩
 · rw [eq_nil2]
   simp only [isB_f,Bool.not_false]
   refine GdW.act (!goodN s) (fun w' => Ext w1 w') (fun _ => Chg.refl _ _) (fun _ J hJ => ?_) fun g w4 hx4 => ?_
   · refine numgood_ref (by omega) fun w3 hx3 => ?_
     rw [un_not]
     exact hJ w3 hx3
   simp only [List.getD_cons_zero,pick_f,cond_true]
   have hx := hx1.trans hx4
   rw [condW_b]
   refine ⟨fun hg => ?_,fun hg => ?_⟩
   · have : intM s = none := by unfold intM; rw [if_neg]; rintro ⟨h,_⟩; rw [h] at hg; cases hg
     rw [this] at hK
     exact hK w4 hx
   · have hg : goodN s = true := by simpa using hg
     rcases atoi_good hg with ⟨h1,h2,h3⟩ | ⟨h1,_⟩
     · rw [h1] at hn
       cases hn
       have : intM s = some (num s) := by unfold intM; rw [if_pos ⟨hg,h2,h3⟩]
       rw [this] at hK
       exact hK w4 hx
     · rw [h1] at hn; cases hn
 · rw [ne_nil2]
   simp only [isB_f,Bool.not_true,GdW_f]
   intro g
   rw [pick_t,condW_true]
   have : intM s = none := by
     unfold intM
     rw [if_neg]
     rintro ⟨hg,h2,h3⟩
     rcases atoi_good hg with ⟨h1,_⟩ | ⟨_,h4⟩
     · exact hn _ h1
     · omega
   rw [this] at hK
   exact hK w1 hx1
end
end Go.Proofs.YtpiaegojabkioaaGreatDoor
namespace Go.Proofs.YtpiaegojabkioaaGreatDoor
open Go Go.Eng Go.Num Go.RowKit
set_option maxRecDepth 100000
section
variable [HX]
set_option maxHeartbeats 1000000 in
theorem srecC_p {G : Nat → Prop} {v : JV} {cs : List Value} {w : World} {K : Value → World → Prop} (hp : plainM v = true) (hn : ∀ x ∈ v.xs,x.xs.length ≤ 100000) (h : VRepP G w v cs)
   (hbad : (∀ r,v ≠ recV r) → ∀ w',Ext w w' → K (.tuple #[.agg zr.toArray,.bool false]) w')
   (hok : ∀ r rs w',v = recV r → Ext w w' → RRepP (fun k => G k ∨ w.heap.size ≤ k) w' r rs → K (.tuple #[.agg rs.toArray,.bool true]) w') :
   callF Tryz.prog 45 [.agg cs.toArray] w K := by
 refine W45_ok ?_
 unfold W45
 obtain ⟨sv,kv,T1,T2,L,rfl,g1,g2,g3,hfit,_⟩ := id h.out
 have hit : ItemsP G w sv v.xs := ⟨⟨T1,L,g1,g2⟩,hfit.1⟩
 refine box_new fun b w1 _ _ hbb hx1 => ?_
 refine alloc_new fun o w2 ho hz2 hbo hx2 => ?_
 refine ld_all (hx2.at hbb id) rfl ?_
 refine row_s5 fun kt w3 hk3 hx3 => ?_
 refine stake_p (ks := [kAddr,kAttrs,kDeps,kId,kType]) (h.rep.ext (hx1.trans (hx2.trans hx3))) hk3 fun w4 hx4 => ?_
 simp only [ext_tuple]
 refine ⟨_,rfl,_,rfl,?_⟩
 have hx24 := hx3.trans hx4
 have hx04 := hx1.trans (hx2.trans hx24)
 have hbo4 := hx24.at hbo id
 have s1 := hx1.size
 -- nothing is handed back
 have bad : (∀ r,v ≠ recV r) → ∀ {w' : World},Ext w4 w' → w'.heap[o]? = some (.cells zr.toArray RT (0,0)) → (stW 9 (.pointer (some ⟨o,0,none⟩)) (.agg zr.toArray) w' fun w14 => ldW true 9 (.pointer (some ⟨o,0,none⟩)) w14 fun r15 => K (.tuple #[r15,.bool false]) w14) := fun hvr {w'} hx' hb' => by
   refine st_agg_at (l := zr) hb' rfl rfl rfl fun w14 hz14 hb14 hc14 => ?_
   refine ld_all hb14 rfl ?_
   exact hbad hvr w14 ((hx04.trans hx').new hc14 (by omega))
 rw [un_not]
 cases hc : (decide (v.k = 6) && decide (v.ks = [kAddr,kAttrs,kDeps,kId,kType])) with
 | false =>
   simp only [Bool.not_false,isB_f,Bool.not_true,GdW_f,pick_t,condW_true,put_nil]
   intros
   exact bad (fun r e => by rw [e] at hc; exact absurd hc (by simp [recV,recP,mkO,JV.k,JV.ks])) (Chg.refl _ _) hbo4
 | true =>
 simp only [Bool.and_eq_true,decide_eq_true_eq] at hc
 obtain ⟨h6,hks⟩ := hc
 have hxl : v.xs.length = 5 := by rw [← (plain_obj hp h6).2,hks]; rfl
 obtain ⟨x0,x1,x2,x3,x4,hxs⟩ : ∃ x0 x1 x2 x3 x4,v.xs = [x0,x1,x2,x3,x4] := by
   match hv : v.xs,hxl with
   | [a,b,c,d,e],_ => exact ⟨a,b,c,d,e,rfl⟩
 rw [hxs] at hit hn
 obtain ⟨p0,q0,r0,i0,f0,_⟩ := itm_at (i := 0) hit rfl
 obtain ⟨p1,q1,r1,i1,_,a1⟩ := itm_at (i := 1) hit rfl
 obtain ⟨p2,q2,r2,i2,f2,_⟩ := itm_at (i := 2) hit rfl
 obtain ⟨p3,q3,r3,i3,f3,_⟩ := itm_at (i := 3) hit rfl
 obtain ⟨p4,q4,r4,i4,f4,_⟩ := itm_at (i := 4) hit rfl
 simp only [Bool.not_true,isB_f,Bool.not_false]
 refine GdW.look (decide (x0.k ≠ 4)) (fun _ J hJ => ?_) fun g => ?_
 · refine i0 _ ?_
   rw [fld_ptr]
   refine f0 _ 0 _ _ hx04 (cs_k r0.rep) ?_
   rw [bin_neq]; exact hJ
 simp only [List.getD_cons_zero,pick_f,cond_true]
 refine (Classical.em (x0.k = 4)).symm.elim (fun k0 => ?_) fun k0 => ?_
 · rw [decide_eq_true k0]
   simp only [isB_f,Bool.not_true,GdW_f,pick_t,condW_true,put_nil]
   intros
   exact bad (fun r e => k0 (rec_parts e hxs).1) (Chg.refl _ _) hbo4
 rw [decide_eq_false (fun e => e k0)]
 simp only [isB_f,Bool.not_false]
 refine GdW.look (decide (x2.k ≠ 5)) (fun _ J hJ => ?_) fun g => ?_
 · refine i2 _ ?_
   rw [fld_ptr]
   refine f2 _ 0 _ _ hx04 (cs_k r2.rep) ?_
   rw [bin_neq]; exact hJ
 simp only [List.getD_cons_zero,pick_f,cond_true]
 refine (Classical.em (x2.k = 5)).symm.elim (fun k2 => ?_) fun k2 => ?_
 · rw [decide_eq_true k2]
   simp only [isB_f,Bool.not_true,GdW_f,pick_t,condW_true,put_nil]
   intros
   exact bad (fun r e => k2 (rec_parts e hxs).2.1) (Chg.refl _ _) hbo4
 rw [decide_eq_false (fun e => e k2)]
 simp only [isB_f,Bool.not_false]
 refine GdW.look (decide (x3.k ≠ 4)) (fun _ J hJ => ?_) fun g => ?_
 · refine i3 _ ?_
   rw [fld_ptr]
   refine f3 _ 0 _ _ hx04 (cs_k r3.rep) ?_
   rw [bin_neq]; exact hJ
 simp only [List.getD_cons_zero,pick_f,cond_true]
 refine (Classical.em (x3.k = 4)).symm.elim (fun k3 => ?_) fun k3 => ?_
 · rw [decide_eq_true k3]
   simp only [isB_f,Bool.not_true,GdW_f,pick_t,condW_true,put_nil]
   intros
   exact bad (fun r e => k3 (rec_parts e hxs).2.2.1) (Chg.refl _ _) hbo4
 rw [decide_eq_false (fun e => e k3)]
 simp only [isB_f,Bool.not_false]
 refine GdW.look (decide (x4.k ≠ 4)) (fun _ J hJ => ?_) fun g => ?_
 · refine i4 _ ?_
   rw [fld_ptr]
   refine f4 _ 0 _ _ hx04 (cs_k r4.rep) ?_
   rw [bin_neq]; exact hJ
 simp only [List.getD_cons_zero,pick_f,cond_true]
 refine (Classical.em (x4.k = 4)).symm.elim (fun k4 => ?_) fun k4 => ?_
 · rw [decide_eq_true k4]
   simp only [condW_true,put_nil]
   exact bad (fun r e => k4 (rec_parts e hxs).2.2.2.1) (Chg.refl _ _) hbo4
 rw [decide_eq_false (fun e => e k4),condW_false]
 have hxd : Ext w4 w4.drew := Chg.drew (Chg.refl (fun _ => False) w4)
 refine i0 _ ?_
 simp only [fld_ptr]
 refine f0 _ 2 _ _ (hx04.trans hxd) (cs_t r0.rep) ?_
 refine i1 _ ?_
 refine a1 _ _ (hx04.trans hxd) ?_
 refine i3 _ ?_
 refine f3 _ 2 _ _ (hx04.trans hxd) (cs_t r3.rep) ?_
 refine i4 _ ?_
 refine f4 _ 2 _ _ (hx04.trans hxd) (cs_t r4.rep) ?_
 simp only [put_str,List.length_cons,List.length_nil,List.set_cons_zero]
 refine ⟨by omega,?_⟩
 have l1 := r1.rep.len
 refine put_next (A := [str x0.t,str [],str []]) (z := zq5) (rest := [.slice none 0 0]) rfl rfl l1 ?_
 show putW (str x0.t :: str [] :: str [] :: (q1 ++ [.slice none 0 0])) _ _
 simp only [put_str,put_nil,List.length_cons,List.set_cons_succ,List.set_cons_zero]
 refine ⟨by omega,by omega,?_⟩
 refine alloc_new fun o6 w17 ho6 hz17 hb17 hx17 => ?_
 refine ⟨f4 _ 2 _ _ (hx04.trans (hxd.trans hx17)) (cs_t r4.rep) rfl,f3 _ 2 _ _ (hx04.trans (hxd.trans hx17)) (cs_t r3.rep) rfl,a1 _ _ (hx04.trans (hxd.trans hx17)) rfl,f0 _ 2 _ _ (hx04.trans (hxd.trans hx17)) (cs_t r0.rep) rfl,?_⟩
 have hq1 : ∀ u ∈ q1,one1 u = true := r1.rep.one
 refine st_agg_at (l := rcs ⟨x0.t,x4.t,x3.t,x1,[]⟩ q1 (.slice none 0 0)) hb17 (by simp [l1]) (by simp [zr]) (by simp only [List.all_cons,List.all_append,List.all_nil,Bool.and_true]; rw [List.all_eq_true.2 hq1]; rfl) fun w18 hz18 hb18 hc18 => ?_
 have hx18 : Ext w4.drew w18 := hx17.new hc18 (by omega)
 have hx418 := hxd.trans hx18
 refine i2 _ ?_
 obtain ⟨dv2,hd2,hit2⟩ := cs_x r2
 refine f2 _ 3 _ _ (hx04.trans hx418) hd2 ?_
 have hit18 := hit2.ext (hx04.trans hx418)
 rw [hit18.rep.len]
 have hlt18 := at_lt hb18
 have hn2 : x2.xs.length ≤ 100000 := hn x2 (by simp)
 have hG0 : GrowD w4.drew w18 o6 w18.heap.size ⟨x0.t,x4.t,x3.t,x1,((x2.xs.take 0).map JV.t)⟩ q1 (.slice none 0 0) := ⟨hx18,hb18,by omega,hlt18,Nat.le_refl _,⟨rfl,.inl ⟨rfl,rfl⟩⟩⟩
 have hoo : o < o6 := by have := at_lt hbo4; have e : w4.drew.heap.size = w4.heap.size := rfl; omega
 refine loop_up x2.xs.length (fun i w' => ∃ dv,GrowD w4.drew w' o6 w18.heap.size ⟨x0.t,x4.t,x3.t,x1,((x2.xs.take i).map JV.t)⟩ q1 dv ∧ ∀ d ∈ x2.xs.take i,d.k = 4) ⟨_,hG0,fun d hd => by simp at hd⟩ ?_ ?_
 · rintro i w20 g L hi ⟨dv,hG,hall⟩ hL
   obtain ⟨d,hd⟩ : ∃ d,x2.xs[i]? = some d := ⟨_,List.getElem?_eq_getElem hi⟩
   simp only [List.getD_cons_zero]
   rw [bin_lss,decide_eq_true (by omega),condW_true]
   have hx420 := hxd.trans hG.ext
   have hit20 := hit2.ext (hx04.trans hx420)
   refine hit20.rep.at hd fun c8 h8 => ?_
   refine keep_val h8 fun o8 w22 sv8 kv8 hB8 hx22 => ?_
   have hG22 := hG.more hx22
   have hx422 := hx420.trans hx22
   simp only [fld_ptr,ld_one]
   refine ⟨i64 d.k,by rw [add_mk,cell_eq,hB8.hb,cellO_some]; rfl,?_⟩
   rw [bin_neq,condW_dec]
   refine ⟨fun hne => ?_,fun he => ?_⟩
   · exact bad (fun r e => hne ((rec_parts e hxs).2.2.2.2 d (List.mem_of_getElem? hd))) hx422 (hx422.at hbo4 id)
   have he : d.k = 4 := Classical.byContradiction he
   refine ⟨dv,?_,str d.t,by rw [add_mk,cell_eq,hB8.hb,cellO_some]; rfl,?_⟩
   · rw [add_mk,cell_eq,hG22.hb,cellO_some]
     show (rcs _ q1 dv).toArray[0 + 8]? = _
     simp only [List.getElem?_toArray]
     show (q1 ++ [dv])[5]? = _
     rw [List.getElem?_append_right (by omega),l1]
     rfl
   refine rowS fun a9 w26 ha9 hz26 hb26 hx26 => ?_
   have hG26 := hG22.more hx26
   refine hG26.app (d := d.t) l1 (t := .slice (some ⟨a9,0,none⟩) 1 1) ⟨_,_,rfl,Nat.le_refl _,fun e => (by cases e),fun _ => ⟨_,_,_,_,rfl,hb26,fun i _ => by simp⟩⟩ (by rw [List.length_map,List.length_take]; omega) fun dv' w28 hG28 _ _ => ?_
   rw [bin_add,up1 (by omega)]
   refine hL _ ⟨dv',?_,?_⟩
   · rw [List.take_add_one,hd]
     simpa using hG28
   · intro y hy
     rw [List.take_add_one,hd] at hy
     rcases List.mem_append.1 hy with hy | hy
     · exact hall y hy
     · rw [Option.toList_some,List.mem_singleton] at hy
       rw [hy]; exact he
 · rintro w20 g L ⟨dv,hG,hall⟩
   rw [List.take_length] at hG hall
   simp only [List.getD_cons_zero]
   rw [bin_lss,decide_eq_false (by omega),condW_false]
   have hx420 := hxd.trans hG.ext
   have hl9 : (rcs ⟨x0.t,x4.t,x3.t,x1,x2.xs.map JV.t⟩ q1 dv).length = 9 := by simp [l1]
   have hdv1 : one1 dv = true := by obtain ⟨q,c,e,_⟩ := hG.own.sl.shape; rw [e]; rfl
   have hone : (rcs ⟨x0.t,x4.t,x3.t,x1,x2.xs.map JV.t⟩ q1 dv).all one1 = true := by
     simp only [List.all_cons,List.all_append,List.all_nil,Bool.and_true]
     rw [List.all_eq_true.2 hq1,hdv1]; rfl
   refine ld_all hG.hb hl9 ?_
   refine st_agg_at (hx420.at hbo4 id) hl9 (by simp [zr]) hone fun w29 hz29 hb29 hc29 => ?_
   refine ld_all hb29 hl9 ?_
   have hx29 : Ext w w29 := (hx04.trans hx420).new hc29 (by omega)
   refine hok _ _ w29 (rec_of hp h6 hks hxs k0 k2 k3 k4 hall) hx29 ?_
   have hxg : Chg (Cr o) w20 w29 := hc29
   obtain ⟨f1,f2',f3',f4'⟩ := id (show Fits x0.xs.length x0.ks x0.t from by obtain ⟨_,_,_,_,_,_,_,_,_,hf⟩ := r0.rep.out; exact hf)
   obtain ⟨g1,g2,g3,g4⟩ := id (show Fits x4.xs.length x4.ks x4.t from by obtain ⟨_,_,_,_,_,_,_,_,_,hf⟩ := r4.rep.out; exact hf)
   obtain ⟨e1,e2,e3,e4⟩ := id (show Fits x3.xs.length x3.ks x3.t from by obtain ⟨_,_,_,_,_,_,_,_,_,hf⟩ := r3.rep.out; exact hf)
   have hown := own_chg hG.own hxg fun k hk e => by have := (own_in hG.own hk).1; have e : k = o := e; omega
   have hv29 : VRepP (fun k => G k ∨ w.heap.size ≤ k) w29 x1 q1 := by
     have h0 : VRepP (fun k => G k ∧ k < w.heap.size) w x1 q1 := VRepP.mono (fun k hlt hk => ⟨hk,hlt⟩) r1
     exact VRepP.mono (fun k _ hk => .inl hk.1) (VRepP.chg hxg (fun k hk _ e => by have hk := hk.2; have e : k = o := e; omega) (VRepP.chg (hx04.trans hx420) (fun _ _ _ e => e) h0))
   refine ⟨q1,dv,ST,rfl,hv29,hown.sl,fun _ k hk => .inr ?_,⟨f3',g3,e3,?_,?_⟩⟩
   · have := (own_in hown hk).1
     have := hx04.size
     have := hx418.size
     omega
   · show (x2.xs.map JV.t).length ≤ _
     rw [List.length_map]; omega
   · intro s hs
     obtain ⟨d,hdm,rfl⟩ := List.mem_map.1 hs
     obtain ⟨i,hi⟩ := List.getElem?_of_mem hdm
     obtain ⟨_,cd,rd,_⟩ := itm_at hit2 hi
     obtain ⟨_,_,_,_,_,_,_,_,_,hf⟩ := rd.rep.out
     exact hf.2.2.1
end
end Go.Proofs.YtpiaegojabkioaaGreatDoor
namespace Go.Proofs.YtpiaegojabkioaaGreatDoor
open Go Go.Eng Go.Num Go.RowKit
set_option maxRecDepth 100000
def StOwn (A : Nat) (w : World) (ser : Int) (l : List RV) (cs : List Value) : Prop :=
 ∃ sv T L,cs = [i64 ser,sv] ∧ SlAt w T sv l.length L ∧ (L ≠ [] → inG (fun k => A ≤ k) sv) ∧ RRepsP (fun k => A ≤ k) w l L
theorem StOwn.rep {A : Nat} {w : World} {ser : Int} {l : List RV} {cs : List Value} (h : StOwn A w ser l cs) : StRepP (fun _ => True) w ser l cs := by
 obtain ⟨sv,T,L,e,h1,_,h3⟩ := h
 exact ⟨sv,T,L,e,h1,h3.mono fun _ _ _ => trivial⟩
theorem StOwn.chg {A : Nat} {S : Nat → Prop} {w w' : World} {ser : Int} {l : List RV} {cs : List Value} (h : StOwn A w ser l cs) (hc : Chg S w w') (hS : ∀ k,S k → k < A) : StOwn A w' ser l cs := by
 obtain ⟨sv,T,L,e,h1,h2,h3⟩ := h
 have hn : ∀ k,A ≤ k → k < w.heap.size → ¬ S k := fun k hk _ e => by have := hS k e; omega
 exact ⟨sv,T,L,e,slat_chgG h1 h2 hc hn,h2,h3.chg hc hn⟩
theorem StOwn.ext {A : Nat} {w w' : World} {ser : Int} {l : List RV} {cs : List Value} (h : StOwn A w ser l cs) (hx : Ext w w') : StOwn A w' ser l cs := h.chg hx fun _ e => e.elim
section
variable [HX]
set_option maxHeartbeats 1000000 in
theorem sdecodeC_s {s : Str} {t : Value} {w : World} {K : Value → World → Prop} (hT : TabA w) (ht : Byt w U8 t s) (hs : s.length ≤ 9223372036854775807)
   (hbad : (∀ ser l j c,decM En s = .ok (stV (listV l) ser) j c → 0 ≤ ser → ser ≤ 1099511627776 → goodS ser l = false) → ∀ w',Ext w w' → K (.tuple #[.agg [i64 0,.slice none 0 0].toArray,i64 150]) w')
   (hok : ∀ ser l cs w',(∃ j c,decM En s = .ok (stV (listV l) ser) j c) → goodS ser l = true → l.length ≤ 100000 → Ext w w' → StOwn w.heap.size w' ser l cs → K (.tuple #[.agg cs.toArray,i64 0]) w') :
   callF Tryz.prog 29 [t] w K := by
 refine W29_ok ?_
 unfold W29
 refine alloc_new fun a w1 ha hz1 hba hx1 => ?_
 rw [conv_bytes (l := s) (e := U8) (by kernel_rfl) (by kernel_rfl) (by kernel_rfl) (ht.ext hx1)]
 have hT1 := hT.ext hx1
 -- nothing is handed back
 have bad : (∀ ser l j c,decM En s = .ok (stV (listV l) ser) j c → 0 ≤ ser → ser ≤ 1099511627776 → goodS ser l = false) → ∀ {w' : World},Ext w1 w' → (stW 2 (.pointer (some ⟨a,0,none⟩)) (.agg [i64 0,.slice none 0 0].toArray) w' fun w14 => ldW true 2 (.pointer (some ⟨a,0,none⟩)) w14 fun r15 => K (.tuple #[r15,i64 150]) w14) := fun hno {w'} hx' => by
   refine st_agg_at (l := [i64 0,.slice none 0 0]) (hx'.at hba id) rfl rfl rfl fun w14 hz14 hb14 hc14 => ?_
   refine ld_all hb14 rfl ?_
   exact hbad hno w14 ((hx1.trans hx').new hc14 (by omega))
 refine decode_p (s := s) hT1.tabs.utf hT1.err hs (fun v j c hv cs w2 hx2 hr2 => ?_) (fun e i hv d w2 hx2 hd hbd => ?_)
 rotate_left
 · simp only [ext_tuple]
   refine ⟨_,rfl,_,rfl,?_⟩
   refine alloc_new fun b w3 hb hz3 hbb hx3 => ?_
   refine st_agg_at (l := [i64 0,.bool false,str [],.slice none 0 0,.slice none 0 0]) hbb rfl rfl rfl fun w4 hz4 hb4 hc4 => ?_
   refine ld_all hb4 rfl ?_
   refine row_s2 fun t22 w5 hs5 hx5 => ?_
   refine stake_p (v := JV.null) (ks := [kRecs,kSer]) (vrep_null w5) hs5 fun w6 hx6 => ?_
   simp only [ext_tuple]
   refine ⟨_,rfl,_,rfl,?_⟩
   rw [eqp_sn]
   simp only [isB_f,Bool.not_true,GdW_f,pick_t,condW_true,put_nil]
   intros
   exact bad (fun ser l j c h _ _ => by rw [hv] at h; cases h) (hx2.trans ((hx3.new hc4 (by omega)).trans (hx5.trans hx6)))
 obtain ⟨hitem,hcnt,hl1,hl2⟩ := dec_back hv
 have hp := hitem.plain
 have hfew := few_cnt v hp (by omega)
 simp only [ext_tuple]
 refine ⟨_,rfl,_,rfl,?_⟩
 obtain ⟨sv,kv,T1,T2,L,rfl,g1,g2,g3,hfit,_⟩ := id hr2.out
 have g2' : VRepsP (fun k => w1.heap.size ≤ k ∧ k < w2.heap.size) w2 v.xs L := VRepsP.mono (fun k hlt hk => ⟨hk,hlt⟩) g2
 have hit : ItemsP (fun k => w1.heap.size ≤ k ∧ k < w2.heap.size) w2 sv v.xs := ⟨⟨T1,L,g1,g2'⟩,hfit.1⟩
 refine alloc_new fun b w3 hb hz3 hbb hx3 => ?_
 refine st_agg_at (l := [i64 v.k,.bool v.b,str v.t,sv,kv]) hbb rfl rfl hr2.rep.all_one fun w4 hz4 hb4 hc4 => ?_
 have hx24 : Ext w2 w4 := hx3.new hc4 (by omega)
 refine ld_all hb4 rfl ?_
 refine row_s2 fun t22 w5 hs5 hx5 => ?_
 refine stake_p (ks := [kRecs,kSer]) (hr2.rep.ext (hx24.trans hx5)) hs5 fun w6 hx6 => ?_
 have hx26 := hx24.trans (hx5.trans hx6)
 have hx16 := hx2.trans hx26
 simp only [ext_tuple]
 refine ⟨_,rfl,_,rfl,?_⟩
 rw [eqp_nn]
 simp only [isB_f,Bool.not_true,Bool.not_false]
 refine GdW.look (!(decide (v.k = 6) && decide (v.ks = [kRecs,kSer]))) (fun _ J hJ => ?_) fun g => ?_
 · rw [un_not]; exact hJ
 simp only [List.getD_cons_zero,pick_f,cond_true]
 cases hc : (decide (v.k = 6) && decide (v.ks = [kRecs,kSer])) with
 | false =>
   simp only [Bool.not_false,isB_f,Bool.not_true,GdW_f,pick_t,condW_true,put_nil]
   intros
   exact bad (fun ser l j' c' h _ _ => by have e : v = stV (listV l) ser := (by rw [hv] at h; cases h; rfl); rw [e] at hc; exact absurd hc (by simp [stV,mkO,JV.k,JV.ks])) hx16
 | true =>
 simp only [Bool.and_eq_true,decide_eq_true_eq] at hc
 obtain ⟨h6,hks⟩ := hc
 have hxl : v.xs.length = 2 := by rw [← (plain_obj hp h6).2,hks]; rfl
 obtain ⟨x0,x1,hxs⟩ : ∃ x0 x1,v.xs = [x0,x1] := by
   match hv : v.xs,hxl with
   | [a,b],_ => exact ⟨a,b,rfl⟩
 have hfx := (few_xs hfew).2
 have hpx := (plain_head hp).2
 rw [hxs] at hit hfx hpx
 have hf0 := few_xs (hfx x0 (by simp))
 have hp0 := hpx x0 (by simp)
 have hp1 := hpx x1 (by simp)
 obtain ⟨p0,q0,r0,i0,f0,_⟩ := itm_at (i := 0) hit rfl
 obtain ⟨p1,q1,r1,i1,f1,_⟩ := itm_at (i := 1) hit rfl
 simp only [Bool.not_true,isB_f,Bool.not_false]
 refine GdW.look (decide (x0.k ≠ 5)) (fun _ J hJ => ?_) fun g => ?_
 · refine i0 _ ?_
   rw [fld_ptr]
   refine f0 _ 0 _ _ hx26 (cs_k r0.rep) ?_
   rw [bin_neq]; exact hJ
 simp only [List.getD_cons_zero,pick_f,cond_true]
 refine (Classical.em (x0.k = 5)).symm.elim (fun k0 => ?_) fun k0 => ?_
 · rw [decide_eq_true k0]
   simp only [isB_f,Bool.not_true,GdW_f,pick_t,condW_true,put_nil]
   intros
   exact bad (fun ser l j' c' h _ _ => by have e : v = stV (listV l) ser := (by rw [hv] at h; cases h; rfl); exact absurd (st_parts e hxs).1 k0) hx16
 rw [decide_eq_false (fun e => e k0)]
 simp only [isB_f,Bool.not_false]
 refine GdW.look (decide (x1.k ≠ 3)) (fun _ J hJ => ?_) fun g => ?_
 · refine i1 _ ?_
   rw [fld_ptr]
   refine f1 _ 0 _ _ hx26 (cs_k r1.rep) ?_
   rw [bin_neq]; exact hJ
 simp only [List.getD_cons_zero,pick_f,cond_true]
 refine (Classical.em (x1.k = 3)).symm.elim (fun k1 => ?_) fun k1 => ?_
 · rw [decide_eq_true k1]
   simp only [condW_true,put_nil]
   exact bad (fun ser l j' c' h _ _ => by have e : v = stV (listV l) ser := (by rw [hv] at h; cases h; rfl); exact absurd (st_parts e hxs).2.1 k1) hx16
 rw [decide_eq_false (fun e => e k1),condW_false]
 refine i1 _ ?_
 rw [fld_ptr]
 refine f1 _ 2 _ _ hx26 (cs_t r1.rep) ?_
 have hsh := num_short (plain_num hp1 k1).2
 refine numint_x (hT1.ext hx16) (by omega) fun w16 hx616 => ?_
 have hgn := (plain_num hp1 k1).2
 generalize hn : (intM x1.t).getD 0 = n at *
 generalize hokn : (intM x1.t).isSome = okn at *
 have hnn : okn = true → Lib.itoa n = x1.t := fun e => by
   subst e
   unfold intM at hn hokn
   split at hn
   · rw [← hn]; exact itoa_num hgn
   · rename_i h; rw [if_neg h] at hokn; cases hokn
 simp only [ext_tuple]
 refine ⟨_,rfl,_,rfl,?_⟩
 simp only [put_int,put_nil,List.length_cons,List.length_nil,List.set_cons_zero]
 refine ⟨by omega,?_⟩
 refine alloc_new fun p w18 hp18 hz18 hb18 hx18 => ?_
 refine st_agg_at (l := [i64 n,.slice none 0 0]) hb18 rfl rfl rfl fun w19 hz19 hb19 hc19 => ?_
 have hx1619 : Ext w16 w19 := hx18.new hc19 (by omega)
 have hx216 := hx26.trans hx616
 have hx219 := hx216.trans hx1619
 refine i0 _ ?_
 rw [fld_ptr]
 obtain ⟨sv0,hs0,hit0⟩ := cs_x r0
 refine f0 _ 3 _ _ hx219 hs0 ?_
 rw [(hit0.ext hx219).rep.len]
 have hG19 : GrowM w1.heap.size w16 w19 p w19.heap.size n (.slice none 0 0) [] := ⟨hx1619,hb19,by omega,at_lt hb19,Nat.le_refl _,[],⟨rfl,.inl ⟨rfl,rfl⟩⟩,by simp [RRepsP]⟩
 refine LoopW.go (fun st w' => ∃ (bb : Bool) (i : Nat) (ov : Value) (rl : List RV),st = [.bool bb,i64 (i : Nat)] ∧ i ≤ x0.xs.length ∧ GrowM w1.heap.size w16 w' p w19.heap.size n ov rl ∧ rl.length = i ∧ (bb = true → okn = true ∧ x0.xs.take i = rl.map recV) ∧ (bb = false → okn = false ∨ ∃ x ∈ x0.xs.take i,∀ r,x ≠ recV r))
   (fun st _ => match st with | [_,.int _ i] => x0.xs.length - i.toNat | _ => 0) ⟨okn,0,_,[],rfl,Nat.zero_le _,hG19,rfl,fun h => ⟨h,rfl⟩,fun h => .inl h⟩ ?_
 rintro st g w21 ⟨bb,i,ov,rl,rfl,hi,hG,hrl,hbb2,hbb3⟩
 simp only [List.getD_cons_zero,List.getD_cons_succ]
 have hx221 := hx216.trans hG.ext
 rw [bin_lss,condW_dec]
 refine ⟨fun hlt => ?_,fun hge => ?_⟩
 · have hlt : i < x0.xs.length := by omega
   obtain ⟨x,hx⟩ : ∃ x,x0.xs[i]? = some x := ⟨_,List.getElem?_eq_getElem hlt⟩
   have hxm : x ∈ x0.xs := List.mem_of_getElem? hx
   obtain ⟨pi,ci,ri,ii,_,ai⟩ := itm_at hit0 hx
   refine ii _ ?_
   refine ai _ _ hx221 ?_
   refine alloc_new fun o w22 ho hz22 hbo hx22 => ?_
   refine st_agg_at hbo ri.rep.len rfl ri.rep.all_one fun w23 hz23 hb23 hc23 => ?_
   have hx2123 : Ext w21 w23 := hx22.new hc23 (by omega)
   refine ld_all hb23 ri.rep.len ?_
   have hx223 := hx221.trans hx2123
   have hri : VRepP (fun k => w1.heap.size ≤ k ∧ k < w2.heap.size) w23 x ci := VRepP.chg hx223 (fun _ _ _ e => e) ri
   -- the record is put behind the others,whatever it is
   have fin : ∀ {w24 : World} {r : RV} {rs : List Value} {is : Bool},Ext w23 w24 → RRepP (fun k => (w1.heap.size ≤ k ∧ k < w2.heap.size) ∨ w23.heap.size ≤ k) w24 r rs → (is = true → x = recV r) → (is = false → ∀ r,x ≠ recV r) →
       extW 0 (.tuple #[.agg rs.toArray,.bool is]) fun t69 => extW 1 (.tuple #[.agg rs.toArray,.bool is]) fun t70 =>
       allocW RT zr w24 fun t12 w25 => stW 9 t12 t69 w25 fun w26 =>
       GdW (isB (.bool bb) true) [undef] w26 (fun J27 => J27 [t70] w26)
       fun s27 _ w28 =>
       pickW (.bool bb) (s27.getD 0 undef) (.bool false) fun t74 =>
       fldW 1 (.pointer (some ⟨p,0,none⟩)) fun t75 =>
       ldW false 1 t75 w28 fun t76 =>
       ldW true 9 t12 w28 fun t77 =>
       bslW RT 1 zr [(0,9,t77)] w28 fun t78 w29 =>
       semE Tryz.prog (Builtin.append_ #[36,36] 36 #[t76,t78]) w29 fun t79 w30 =>
       fldW 1 (.pointer (some ⟨p,0,none⟩)) fun t80 =>
       stW 1 t80 t79 w30 fun w31 =>
       binW .add (i64 (i : Nat)) (.int .i64 1) fun t81 =>
       (∃ (bb : Bool) (i_1 : Nat) (ov : Value) (rl : List RV),[t74,t81] = [.bool bb,i64 (i_1 : Nat)] ∧ i_1 ≤ x0.xs.length ∧ GrowM w1.heap.size w16 w31 p w19.heap.size n ov rl ∧ rl.length = i_1 ∧ (bb = true → okn = true ∧ x0.xs.take i_1 = rl.map recV) ∧ (bb = false → okn = false ∨ ∃ x ∈ x0.xs.take i_1,∀ r,x ≠ recV r)) ∧
         (match [t74,t81] with | [_,.int _ i] => x0.xs.length - i.toNat | _ => 0) < x0.xs.length - ((i : Nat) : Int).toNat := fun {w24 r rs is} hx24' hrr his hisn => by
     simp only [ext_tuple]
     refine ⟨_,rfl,_,rfl,?_⟩
     refine keep_r hrr fun o2 w26 vcs dv er hC hx26' ho2 => ?_
     simp only [isB_t]
     refine GdW.look is (fun _ J hJ => hJ) fun g => ?_
     simp only [List.getD_cons_zero]
     rw [pick_gd_and]
     simp only [fld_ptr]
     have hx2126 := hx2123.trans (hx24'.trans hx26')
     have hG26 := hG.more hx2126
     refine hG26.ld ?_
     refine hC.all ?_
     refine row_r hC.rep.len fun t29 w29 ht29 hx29 => ?_
     have hG29 := hG26.more hx29
     have s23 := hx2123.size
     have hC29 := hC.rep.ext hx29
     have s2 := hx216.size
     have hlo := hG.lo
     have hlt2 := hG.lt
     have hle := hG.le
     refine hG29.app ht29 (hC29.mono fun k _ hk => ⟨⟨fun e => ?_,fun e => ?_⟩,?_⟩) (by omega) fun ov' w31 hG31 => ?_
     · rw [bin_add,up1 (by omega)]
       refine ⟨⟨bb && is,i + 1,ov',rl ++ [r],rfl,hlt,hG31,by rw [List.length_append,hrl]; rfl,fun hb => ?_,fun hb => ?_⟩,by simp only [Int.toNat_natCast]; omega⟩
       · simp only [Bool.and_eq_true] at hb
         obtain ⟨h1,h2⟩ := hbb2 hb.1
         refine ⟨h1,?_⟩
         rw [List.take_add_one,hx,h2,his hb.2]
         simp
       · rw [List.take_add_one,hx]
         rcases Bool.and_eq_false_iff.1 hb with hb | hb
         · rcases hbb3 hb with h | ⟨q,hq,hqr⟩
           · exact .inl h
           · exact .inr ⟨q,List.mem_append_left _ hq,hqr⟩
         · exact .inr ⟨x,by simp,hisn hb⟩
     · have h1 := hG.olt k e
       rcases hk with hk | hk <;> omega
     · rcases hk with hk | hk <;> omega
     · have := hx2.size
       rcases hk with hk | hk <;> omega
   refine srecC_p ((plain_head hp0).2 x hxm) (fun y hy => (few_xs ((few_xs (hf0.2 x hxm)).2 y hy)).1) hri (fun hnr w24 hx24' => ?_) (fun r rs w24 hxr hx24' hrr => ?_)
   · exact fin hx24' (rrep_zero w24 _) (fun h => by cases h) (fun _ => hnr)
   · exact fin hx24' hrr (fun _ => hxr) (fun h => by cases h)
 · obtain rfl : i = x0.xs.length := by omega
   rw [un_not]
   simp only [isB_f,Bool.not_not]
   refine GdW.act (!goodS n rl) (fun w' => Ext w21 w') (fun _ => Chg.refl _ _) (fun _ J hJ => ?_) fun g w34 hx34 => ?_
   · refine hG.all ?_
     refine sgood_p (hT1.ext (hx2.trans hx221)).tabs.utf hG.rep (by omega) fun w33 hx33 => ?_
     rw [un_not]
     exact hJ w33 hx33
   have hx134 := (hx2.trans hx221).trans hx34
   simp only [List.getD_cons_zero]
   have epk2 : ∀ (c e : Bool) (Q : Value → Prop),pickW (.bool (!c)) (.bool true) (bif c then .bool (!e) else undef) Q ↔ Q (.bool (!(c && e))) := fun c e Q => by cases c <;> cases e <;> exact Iff.rfl
   rw [epk2]
   cases hfin : (bb && goodS n rl) with
   | false =>
     simp only [Bool.not_false,condW_true,put_nil]
     refine bad (fun ser l j' c' h h0 h1 => ?_) hx134
     have e : v = stV (listV l) ser := (by rw [hv] at h; cases h; rfl)
     obtain ⟨_,_,p3,p4⟩ := st_parts e hxs
     have hi := int_itoa h0 h1
     rw [← p4] at hi
     rw [hi] at hn hokn
     have hn : ser = n := hn
     have hokn : true = okn := hokn
     subst hn
     subst hokn
     rcases Bool.and_eq_false_iff.1 hfin with hb | hb
     · rcases hbb3 hb with h | ⟨q,hq,hqr⟩
       · cases h
       · rw [List.take_length,p3] at hq
         obtain ⟨r,_,e⟩ := List.mem_map.1 hq
         exact absurd e.symm (hqr r)
     · cases hbv : bb with
       | true =>
         obtain ⟨_,htk⟩ := hbb2 hbv
         rw [List.take_length,p3] at htk
         rw [recs_inj htk]; exact hb
       | false =>
         rcases hbb3 hbv with h | ⟨q,hq,hqr⟩
         · cases h
         · rw [List.take_length,p3] at hq
           obtain ⟨r,_,e⟩ := List.mem_map.1 hq
           exact absurd e.symm (hqr r)
   | true =>
     simp only [Bool.and_eq_true] at hfin
     obtain ⟨hb1,hg1⟩ := hfin
     obtain ⟨hokn,htk⟩ := hbb2 hb1
     rw [List.take_length] at htk
     simp only [Bool.not_true,condW_false]
     have hG34 := hG.more hx34
     refine hG34.all ?_
     have hone : [i64 n,ov].all one1 = true := by
       obtain ⟨L',hO,_⟩ := hG34.own
       obtain ⟨q,c,e,_⟩ := hO.sl.shape
       rw [e]; rfl
     refine st_agg_at (l := [i64 n,ov]) (hx134.at hba id) rfl rfl hone fun w38 hz38 hb38 hc38 => ?_
     refine ld_all hb38 rfl ?_
     have hane : a < w16.heap.size := by
       have := at_lt (hx16.trans hx616 |>.at hba id)
       exact this
     refine hok n rl [i64 n,ov] w38 ?_ hg1 (by have := hf0.1; omega) ((hx1.trans hx134).new hc38 (by omega)) ?_
     · have e := st_of hp h6 hks hxs k0 k1 htk (hnn hokn)
       exact ⟨j,c,by rw [← e]; exact hv⟩
     · have := hG34.rep
       obtain ⟨L',hO,hR⟩ := hG34.own
       have hlt := hG.lt
       have hlo := hG.lo
       have hle := hG.le
       refine ⟨ov,RT,L',rfl,(own_chg hO hc38 fun k hk e => by have := (own_in hO hk).1; have e : k = a := e; omega).sl,(fun _ k hk => by have := (own_in hO hk).1; have := (hx1.trans (hx16.trans hx616)).size; show w.heap.size ≤ k; omega),(RRepsP.chg hc38 (fun k hk _ e => by have := hk.2; have e : k = a := e; omega) hR).mono fun k _ hk => by have := hk.2; have := hx1.size; show w.heap.size ≤ k; omega⟩
end
end Go.Proofs.YtpiaegojabkioaaGreatDoor
namespace Go.Proofs.YtpiaegojabkioaaGreatDoor.Fx
open Go Go.Eng Go.Vfs Go.Num Go.RowKit
set_option maxRecDepth 100000
abbrev bytesOf (ser : Int) (l : List RV) : Str := (encM 1 20 31 3 (stV (listV l) ser)).1
structure Sv (ser : Int) (l : List RV) : Prop where
 good : goodS ser l = true
 enc : (encM 1 20 31 3 (stV (listV l) ser)).2 = 0
theorem Sv.show {ser : Int} {l : List RV} (h : Sv ser l) : bytesOf ser l = showM (stV (listV l) ser) := by
 obtain ⟨_,_,_,e⟩ := enc_ok h.enc
 unfold bytesOf
 rw [e]
theorem Sv.len {ser : Int} {l : List RV} (h : Sv ser l) : (bytesOf ser l).length ≤ 65536 := by
 rw [h.show]
 exact (enc_ok h.enc).2.2.1
theorem Sv.ser {ser : Int} {l : List RV} (h : Sv ser l) : 0 ≤ ser ∧ ser ≤ 1099511627776 := by
 have := h.good
 simp only [goodS,Bool.and_eq_true,decide_eq_true_eq] at this
 exact this.1
theorem st_inj {a b : Int} {l m : List RV} (ha : 0 ≤ a) (hb : 0 ≤ b) (h : stV (listV l) a = stV (listV m) b) : a = b ∧ l = m := by
 obtain ⟨x0,x1,hx⟩ : ∃ x0 x1,(stV (listV l) a).xs = [x0,x1] := ⟨_,_,rfl⟩
 obtain ⟨_,_,p3,p4⟩ := st_parts rfl hx
 obtain ⟨_,_,q3,q4⟩ := st_parts h hx
 refine ⟨?_,recs_inj (p3.symm.trans q3)⟩
 rw [← num_itoa ha,← num_itoa hb,← p4,← q4]
theorem Sv.dec {ser : Int} {l : List RV} (h : Sv ser l) : ∃ j c,decM En (bytesOf ser l) = .ok (stV (listV l) ser) j c := by
 obtain ⟨hi,hc,hl,_⟩ := enc_ok h.enc
 obtain ⟨j,hj⟩ := dec_show (E := En) hi hc hl
 exact ⟨j,_,by rw [h.show]; exact hj⟩
theorem StOwn.low {A B : Nat} {w : World} {ser : Int} {l : List RV} {cs : List Value} (h : StOwn B w ser l cs) (hA : A ≤ B) : StOwn A w ser l cs := by
 obtain ⟨sv,T,L,e,h1,h2,h3⟩ := h
 exact ⟨sv,T,L,e,h1,(fun hne k hk => Nat.le_trans hA (h2 hne k hk)),h3.mono fun k _ hk => Nat.le_trans hA hk⟩
section
variable [HX] {w0 w : World} {b m : Nat} {s : MS} {K : Value → World → Prop}
theorem fholder (h : Fs w0 w b m s) (hK : ∀ w',Ext w w' → K (.tuple #[str (df (lkM s.files kLock)).data,.bool (lkM s.files kLock).isSome]) w') : callF Tryz.prog 8 [fp b] w K := by
 refine W8_ok ?_
 unfold W8
 refine fread h fun dv w1 hd hx => ?_
 simp only [ext_tuple]
 refine ⟨_,rfl,_,rfl,?_⟩
 rw [conv_b hd]
 exact hK w1 hx
theorem flock (h : Fs w0 w b m s) {who : Str} (hK : ∀ w',Fs w0 w' b m (lockM s who).1 → Chg (M2 b m) w w' → K (i64 (lockM s who).2) w') : callF Tryz.prog 9 [fp b,str who] w K := by
 refine W9_ok ?_
 unfold W9
 rw [bin_seq]
 simp only [isB_f]
 refine GdW.look (decide (32 < who.length)) (fun _ J hJ => ?_) fun g => ?_
 · rw [lens_str,bin_gtr,show decide ((32 : Int) < (who.length : Nat)) = decide (32 < who.length) from by rw [decide_eq_decide]; omega]
   exact hJ
 simp only [List.getD_cons_zero]
 rw [pick_gd_or,← Bool.decide_or,condW_dec]
 refine ⟨fun hbad => ?_,fun hgood => ?_⟩
 · rw [lock_form hbad] at hK
   exact hK w h (Chg.refl _ _)
 refine to_bytes (l := who) (by kernel_rfl) (by kernel_rfl) (by kernel_rfl) fun v w3 hv hx3 => ?_
 refine fcreate (h.more hx3) hv fun w4 h4 hc4 => ?_
 have hc04 : Chg (M2 b m) w w4 := Chg.then (S := M2 b m) (Chg.of_ext hx3) hc4 fun _ _ e => e
 rw [bin_eql,condW_dec]
 refine ⟨fun e0 => ?_,fun e0 => ?_⟩
 · have e : lockM s who = syncM (writeM s kLock who true).1 kLock := by unfold lockM; rw [if_neg hgood,if_pos e0]
   rw [e] at hK
   refine fsync h4 fun w5 h5 hc5 => hK w5 h5 (Chg.then (S := M2 b m) hc04 hc5 fun _ _ e => e)
 rw [bin_eql,condW_dec]
 refine ⟨fun e2 => ?_,fun e2 => ?_⟩
 · have e : lockM s who = ((writeM s kLock who true).1,140) := by unfold lockM; rw [if_neg hgood,if_neg e0,if_pos e2]
   rw [e] at hK
   exact hK w4 h4 hc04
 · have e : lockM s who = writeM s kLock who true := by unfold lockM; rw [if_neg hgood,if_neg e0,if_neg e2]
   rw [e] at hK
   exact hK w4 h4 hc04
theorem funlock (h : Fs w0 w b m s) {who : Str} (hK : ∀ w',Fs w0 w' b m (unlockM s who).1 → Chg (M2 b m) w w' → K (i64 (unlockM s who).2) w') : callF Tryz.prog 11 [fp b,str who] w K := by
 refine W11_ok ?_
 unfold W11
 refine fholder h fun w1 hx1 => ?_
 simp only [ext_tuple]
 refine ⟨_,rfl,_,rfl,?_⟩
 rw [un_not,condW_b]
 have h1 := h.more hx1
 unfold unlockM at hK
 cases hl : lkM s.files kLock with
 | none =>
   rw [hl] at hK
   exact ⟨fun _ => hK w1 h1 (Chg.of_ext hx1),fun e => by cases e⟩
 | some x =>
   rw [hl] at hK
   refine ⟨fun e => (by cases e),fun _ => ?_⟩
   simp only [Option.getD_some]
   rw [bin_sne,condW_dec]
   refine ⟨fun e => ?_,fun e => ?_⟩
   · simp only [if_neg e] at hK
     exact hK w1 h1 (Chg.of_ext hx1)
   · simp only [if_pos (Classical.not_not.1 e)] at hK
     exact fremove h1 fun w2 h2 hc2 => hK w2 h2 (Chg.then (S := M2 b m) (Chg.of_ext hx1) hc2 fun _ _ e => e)
theorem frecover (h : Fs w0 w b m s) (hK : ∀ w',Fs w0 w' b m (recoverM s).1 → Chg (M2 b m) w w' → K (i64 (recoverM s).2) w') : callF Tryz.prog 15 [fp b] w K := by
 refine W15_ok ?_
 unfold W15
 refine fread h fun dv w1 hd hx1 => ?_
 simp only [ext_tuple]
 refine ⟨_,rfl,_,rfl,?_⟩
 rw [un_not,condW_b]
 have h1 := h.more hx1
 unfold recoverM at hK
 cases hl : (lkM s.files kNext).isSome with
 | false =>
   rw [hl] at hK
   exact ⟨fun _ => hK w1 h1 (Chg.of_ext hx1),fun e => by cases e⟩
 | true =>
   rw [hl] at hK
   refine ⟨fun e => (by cases e),fun _ => ?_⟩
   exact fremove h1 fun w2 h2 hc2 => hK w2 h2 (Chg.then (S := M2 b m) (Chg.of_ext hx1) hc2 fun _ _ e => e)
theorem fsave {G : Nat → Prop} {ser : Int} {l : List RV} {cs : List Value} (hT : TabA w) (h : Fs w0 w b m s) (hst : StRepP G w ser l cs) (hl : l.length ≤ 1000) (hd0 : goodS ser l = true → ∀ x ∈ l,x.deps.length ≤ 1000000)
   (hbad : ¬ Sv ser l → ∀ c : Int,c ≠ 0 → ∀ w',Fs w0 w' b m s → Chg (M2 b m) w w' → K (i64 c) w')
   (hok : Sv ser l → ∀ w',Fs w0 w' b m (saveM s (bytesOf ser l)).1 → Chg (M2 b m) w w' → K (i64 (saveM s (bytesOf ser l)).2) w') : callF Tryz.prog 13 [fp b,.agg cs.toArray] w K := by
 refine W13_ok ?_
 unfold W13
 refine box_st hst fun p w1 sv e hA hx1 hp => ?_
 refine hA.all ?_
 refine sencode_p (hT.ext hx1) hA.rep hl hd0 (fun hg w2 hx2 => ?_) (fun hg he w2 hx2 => ?_) (fun hg he q cap c w2 hx2 hlo hB => ?_)
 · simp only [ext_tuple]
   refine ⟨_,rfl,_,rfl,?_⟩
   rw [bin_neq,decide_eq_true (by decide),condW_true]
   exact hbad (fun hs => by rw [hs.good] at hg; cases hg) 150 (by decide) w2 (h.more (hx1.trans hx2)) (Chg.of_ext (hx1.trans hx2))
 · simp only [ext_tuple]
   refine ⟨_,rfl,_,rfl,?_⟩
   rw [bin_neq,decide_eq_true (by decide),condW_true]
   exact hbad (fun hs => he hs.enc) 3 (by decide) w2 (h.more (hx1.trans hx2)) (Chg.of_ext (hx1.trans hx2))
 simp only [ext_tuple]
 refine ⟨_,rfl,_,rfl,?_⟩
 rw [bin_neq,decide_eq_false (by decide),condW_false]
 have hok := hok ⟨hg,he⟩
 have hx02 := hx1.trans hx2
 refine fwrite (h.more hx02) (T := UT) hB.byt fun w3 h3 hc3 => ?_
 have c3 : Chg (M2 b m) w w3 := Chg.then (S := M2 b m) (Chg.of_ext hx02) hc3 fun _ _ e => e
 unfold saveM thenM at hok
 rw [bin_neq,condW_dec]
 refine ⟨fun e1 => ?_,fun e1 => ?_⟩
 · have e1 : ¬ (writeM s kNext (bytesOf ser l) false).2 = 0 := e1
   simp only [if_neg e1] at hok
   exact hok w3 h3 c3
 have e1 : (writeM s kNext (bytesOf ser l) false).2 = 0 := Classical.not_not.1 e1
 simp only [if_pos e1] at hok
 refine fsync h3 fun w4 h4 hc4 => ?_
 have c4 : Chg (M2 b m) w w4 := Chg.then (S := M2 b m) c3 hc4 fun _ _ e => e
 rw [bin_neq,condW_dec]
 refine ⟨fun e2 => ?_,fun e2 => ?_⟩
 · have e2 : ¬ (syncM (writeM s kNext (bytesOf ser l) false).1 kNext).2 = 0 := e2
   simp only [if_neg e2] at hok
   exact hok w4 h4 c4
 have e2 : (syncM (writeM s kNext (bytesOf ser l) false).1 kNext).2 = 0 := Classical.not_not.1 e2
 simp only [if_pos e2] at hok
 exact frename h4 fun w5 h5 hc5 => hok w5 h5 (Chg.then (S := M2 b m) c4 hc5 fun _ _ e => e)
theorem fload0 (h : Fs w0 w b m s) (hn : lkM s.files kFile = none) (hK : ∀ w',Ext w w' → K (.tuple #[.agg [i64 0,.slice none 0 0].toArray,i64 0]) w') : callF Tryz.prog 14 [fp b] w K := by
 refine W14_ok ?_
 unfold W14
 refine alloc_new fun a w1 ha hz1 hba hx1 => ?_
 refine fread (h.more hx1) fun dv w2 hd hx2 => ?_
 simp only [ext_tuple]
 refine ⟨_,rfl,_,rfl,?_⟩
 rw [un_not,condW_b]
 refine ⟨fun _ => ?_,fun e => by rw [show (lkM s.files [115,116,97,116,101,46,106,115,111,110]) = none from hn] at e; cases e⟩
 simp only [put_nil]
 refine st_agg_at (l := [i64 0,.slice none 0 0]) (hx2.at hba id) rfl rfl rfl fun w4 hz4 hb4 hc4 => ?_
 refine ld_all hb4 rfl ?_
 exact hK w4 ((hx1.trans hx2).new hc4 (by omega))
theorem fload1 {ser : Int} {l : List RV} {x : MF} (hT : TabA w) (h : Fs w0 w b m s) (hs : Sv ser l) (hf : lkM s.files kFile = some x) (hx : x.data = bytesOf ser l)
   (hK : ∀ cs w',Ext w w' → StOwn w.heap.size w' ser l cs → K (.tuple #[.agg cs.toArray,i64 0]) w') : callF Tryz.prog 14 [fp b] w K := by
 refine W14_ok ?_
 unfold W14
 refine alloc_new fun a w1 ha hz1 hba hx1 => ?_
 refine fread (h.more hx1) fun dv w2 hd hx2 => ?_
 simp only [ext_tuple]
 refine ⟨_,rfl,_,rfl,?_⟩
 have hf' : lkM s.files [115,116,97,116,101,46,106,115,111,110] = some x := hf
 rw [hf'] at hd ⊢
 simp only [Option.getD_some,hx] at hd
 rw [un_not,condW_b]
 refine ⟨fun e => (by cases e),fun _ => ?_⟩
 obtain ⟨j,c,hdec⟩ := hs.dec
 have h12 := hx1.trans hx2
 refine sdecodeC_s (hT.ext h12) hd (by have := hs.len; omega) (fun hno => ?_) (fun ser' l' cs w6 hd' hg' hl' hx6 hr => ?_)
 · have := hno ser l j c hdec hs.ser.1 hs.ser.2
   rw [hs.good] at this
   cases this
 · obtain ⟨j',c',hj'⟩ := hd'
   rw [hdec] at hj'
   have e : stV (listV l) ser = stV (listV l') ser' := by injection hj'
   have hser' : 0 ≤ ser' := by
     simp only [goodS,Bool.and_eq_true,decide_eq_true_eq] at hg'
     exact hg'.1.1
   obtain ⟨rfl,rfl⟩ := st_inj hs.ser.1 hser' e
   simp only [ext_tuple]
   refine ⟨_,rfl,_,rfl,?_⟩
   obtain ⟨sv,T,L,rfl,hS,hin,hR⟩ := id hr
   have hone : [i64 ser,sv].all one1 = true := by obtain ⟨q,c,e,_⟩ := hS.shape; rw [e]; rfl
   refine st_agg_at (l := [i64 ser,sv]) ((hx2.trans hx6).at hba id) rfl rfl hone fun w7 hz7 hb7 hc7 => ?_
   refine ld_all hb7 rfl ?_
   have := hx2.size
   refine hK _ w7 ((h12.trans hx6).new hc7 (by omega)) (StOwn.low (hr.chg hc7 fun k e => ?_) ?_)
   · have e : k = a := e
     omega
   · have := h12.size
     omega
end
end Go.Proofs.YtpiaegojabkioaaGreatDoor.Fx
namespace Go.Proofs.YtpiaegojabkioaaGreatDoor.Fx
open Go Go.Eng Go.Vfs Go.Num Go.RowKit
set_option maxRecDepth 100000
theorem strep_nil' (w : World) (ser : Int) : StRepP (fun _ => True) w ser [] [i64 ser,.slice none 0 0] := ⟨_,0,[],rfl,SlAt.nil w 0,by simp [RRepsP]⟩
def okN (n : Nat) : Bool := decide ((encM 1 20 31 3 (stV (listV []) (n : Nat))).2 = 0)
theorem sv_nat (n : Nat) (hn : n < 128) : Sv (n : Nat) [] := by
 refine ⟨?_,?_⟩
 · simp only [goodS,recsOk,Bool.and_true,decide_eq_true_eq,Bool.and_eq_true]
   omega
 · have : ∀ m : Fin 128,okN m.val = true := by decide +kernel
   have := this ⟨n,hn⟩
   simpa [okN] using this
section
variable [HX]
theorem awake16 {w : World} {K : Value → World → Prop} (hT : TabA w) (hK : ∀ w',Ext w w' → K (.bool true) w') : callF Tryz.prog 7 [] w K := by
 refine W7_ok ?_
 unfold W7
 refine fnew fun b m w1 h1 => ?_
 simp only [eq_pn]
 refine GdW.t ?_
 obtain ⟨st1,e1⟩ := lock_free (st := 0) (who := [97]) (by simp) (by simp)
 refine flock (s := newM) h1 fun w2 h2 hc2 => ?_
 rw [show lockM newM [97] = _ from e1] at h2 ⊢
 rw [bin_neq,decide_eq_false (by simp)]
 intro g
 simp only [List.getD_cons_zero,pick_f]
 refine GdW.t ?_
 refine flock h2 fun w3 h3 hc3 => ?_
 rw [lock_held (by simp) (by simp)] at h3 ⊢
 rw [bin_neq,decide_eq_false (by simp)]
 intro g
 simp only [List.getD_cons_zero,pick_f]
 refine GdW.t ?_
 refine funlock h3 fun w4 h4 hc4 => ?_
 rw [unlock_other (by simp)] at h4 ⊢
 rw [bin_neq,decide_eq_false (by simp)]
 intro g
 simp only [List.getD_cons_zero,pick_f]
 refine GdW.t ?_
 refine funlock h4 fun w5 h5 hc5 => ?_
 rw [unlock_own] at h5 ⊢
 rw [bin_neq,decide_eq_false (by simp)]
 intro g
 simp only [List.getD_cons_zero,pick_f,condW_false,put_int,put_nil,List.length_cons,List.length_nil,List.set_cons_zero]
 refine ⟨by omega,?_⟩
 have hT5 := hT.ext h5.ext
 have hsv := sv_nat 1 (by omega)
 refine fsave (l := []) (ser := 1) (s := lk0 (IntKind.i64.wrap (st1 + 1))) hT5 h5 (strep_nil' w5 1) (by simp) (by simp) (fun hn => absurd hsv hn) fun _ w6 h6 hc6 => ?_
 rcases save_once none (IntKind.i64.wrap (st1 + 1)) (-1) hsv.len with ⟨st',l',e6,k6⟩ | ⟨hne,_⟩
 · rw [show saveM (lk0 (IntKind.i64.wrap (st1 + 1))) (bytesOf 1 []) = _ from e6] at h6 ⊢
   refine fload1 (x := ⟨bytesOf 1 [],bytesOf 1 [],true⟩) (hT.ext h6.ext) h6 hsv (by simp [fl,lkM]) rfl fun cs w7 hx7 hst => ?_
   simp only [ext_tuple]
   refine ⟨_,rfl,_,rfl,?_⟩
   obtain ⟨sv,T,L,rfl,hS,hin,hR⟩ := id hst
   refine alloc_new fun a w8 ha hz8 hba hx8 => ?_
   have hone : [i64 1,sv].all one1 = true := by obtain ⟨q,c,e,_⟩ := hS.shape; rw [e]; rfl
   refine st_agg_at (l := [i64 1,sv]) hba rfl rfl hone fun w9 hz9 hb9 hc9 => ?_
   rw [bin_eql,decide_eq_true rfl]
   simp only [isB_t]
   refine GdW.t ?_
   rw [bin_eql,decide_eq_true rfl]
   intro g
   simp only [List.getD_cons_zero,pick_t,isB_t]
   refine GdW.t ?_
   rw [fld_ptr,ld_one]
   refine ⟨i64 1,by rw [add_mk,cell_eq,hb9,cellO_some]; rfl,?_⟩
   rw [bin_eql,decide_eq_true rfl]
   intro g
   simp only [List.getD_cons_zero,pick_t]
   exact hK w9 (h6.ext.trans (hx7.trans (hx8.new hc9 (by omega))))
 · exact absurd rfl hne
def lks : Option Str → Int → MS
 | none,st => lk0 st
 | some h,st => lk1 st h
theorem lks_lk (o : Option Str) (st : Int) : lkM (lks o st).files kLock = o.map fun h => ⟨h,h,true⟩ := by cases o <;> simp [lks,lkM]
theorem lks_some (o : Option Str) : (o.map fun h => (⟨h,h,true⟩ : MF)).isSome = o.isSome := by cases o <;> rfl
theorem lks_df (o : Option Str) : (df (o.map fun h => (⟨h,h,true⟩ : MF))).data = o.getD [] := by cases o <;> rfl
theorem once_true {T0 T1 : TypeId} {v0 v1 : Value} {whos : List Str} {picks : List Int} {w : World} {K : Value → World → Prop} (hT : TabA w) (h0' : SlAt w T0 v0 whos.length (whos.map str) ∧ whos.length ≤ 9223372036854775807) (h1' : SlAt w T1 v1 picks.length (picks.map i64) ∧ picks.length ≤ 9223372036854775807)
   (hK : ∀ w',Ext w w' → K (.bool true) w') : callF Tryz.prog 3 [v0,v1] w K := by
 obtain ⟨h0,hl0⟩ := h0'
 obtain ⟨h1,hl1⟩ := h1'
 refine W3_ok ?_
 unfold W3
 refine fnew fun b m w1 hf1 => ?_
 refine awake16 (hT.ext hf1.ext) fun w2 hx2 => ?_
 have hf2 := hf1.more hx2
 rw [un_not]
 simp only [isB_f,Bool.not_true,Bool.not_false]
 refine GdW.t ?_
 simp only [eq_pn]
 intro g
 simp only [List.getD_cons_zero,pick_f,condW_false]
 refine LoopW.go (fun st w' => ∃ (i : Nat) (o : Option Str) (n : Int),st = [str (o.getD []),i64 (i : Nat)] ∧ i ≤ picks.length ∧ (∀ h,o = some h → h ≠ [] ∧ h.length ≤ 32) ∧ Fs w w' b m (lks o n))
   (fun st _ => match st with | [_,.int _ i] => picks.length - i.toNat | _ => 0) ⟨0,none,0,rfl,Nat.zero_le _,(fun h e => by cases e),hf2⟩ ?_
 rintro st g w6 ⟨i,o,n,rfl,hi,ho,hf6⟩
 simp only [List.getD_cons_zero,List.getD_cons_succ]
 have a0 := h0.ext hf6.ext
 have a1 := h1.ext hf6.ext
 rw [lenl_at a1,bin_lss,show decide ((i : Int) < (picks.length : Nat)) = decide (i < picks.length) from by rw [decide_eq_decide]; omega]
 simp only [isB_t]
 refine GdW.look (decide (i < 100)) (fun _ J hJ => ?_) fun g => ?_
 · rw [bin_lss,show decide ((i : Int) < 100) = decide (i < 100) from by rw [decide_eq_decide]; omega]; exact hJ
 simp only [List.getD_cons_zero]
 rw [pick_gd_and]
 simp only [isB_t]
 refine GdW.look (decide (0 < whos.length)) (fun _ J hJ => ?_) fun g => ?_
 · rw [lenl_at a0,bin_gtr,show decide ((0 : Int) < (whos.length : Nat)) = decide (0 < whos.length) from by rw [decide_eq_decide]; omega]; exact hJ
 simp only [List.getD_cons_zero]
 rw [pick_gd_and,condW_b]
 refine ⟨fun hc => ?_,fun _ => hK w6 hf6.ext⟩
 simp only [Bool.and_eq_true,decide_eq_true_eq] at hc
 obtain ⟨⟨hlt,h100⟩,hpos⟩ := hc
 obtain ⟨p,hpi⟩ : ∃ p,picks[i]? = some p := ⟨_,List.getElem?_eq_getElem hlt⟩
 refine JoinW.cut (fun st w' => ∃ (o' : Option Str) (n' : Int),st = [str (o'.getD [])] ∧ (∀ h,o' = some h → h ≠ [] ∧ h.length ≤ 32) ∧ Fs w w' b m (lks o' n')) ?_ ?_
 · refine ixa_ld a1 (by simp) (x := i64 p) (by simp [hpi]) ?_
   rw [cvt_int]
   obtain ⟨u,hu⟩ : ∃ u : Nat,IntKind.u64.wrap p = (u : Int) := ⟨(IntKind.u64.wrap p).toNat,by rw [IntKind.wrap_u64]; omega⟩
   have hul : u < 18446744073709551616 := by have := hu; rw [IntKind.wrap_u64] at this; omega
   have hlu : IntKind.u64.wrap ((whos.length : Nat) : Int) = ((whos.length : Nat) : Int) := by rw [IntKind.wrap_u64]; omega
   rw [hu,lenl_at a0,cvt_int,hlu,bin_rem]
   refine ⟨by omega,?_⟩
   have hk : u % whos.length < whos.length := Nat.mod_lt _ hpos
   have e : ((u : Nat) : Int).tmod ((whos.length : Nat) : Int) = ((u % whos.length : Nat) : Int) := by rw [Int.tmod_eq_emod_of_nonneg (by omega)]; omega
   rw [e,cvt_int,wrap_id (by omega) (by omega)]
   obtain ⟨who,hwho⟩ : ∃ x,whos[u % whos.length]? = some x := ⟨_,List.getElem?_eq_getElem hk⟩
   refine ixa_ld a0 (by simp) (x := str who) (by simp [hwho]) ?_
   rw [lens_str,bin_geq,show decide ((1 : Int) ≤ (who.length : Nat)) = decide (1 ≤ who.length) from by rw [decide_eq_decide]; omega]
   simp only [isB_t]
   refine GdW.look (decide (who.length ≤ 32)) (fun _ J hJ => ?_) fun g => ?_
   · rw [lens_str,bin_leq,show decide ((who.length : Nat) ≤ (32 : Int)) = decide (who.length ≤ 32) from by rw [decide_eq_decide]; omega]; exact hJ
   simp only [List.getD_cons_zero]
   rw [pick_gd_and]
   refine fholder hf6 fun w14 hx14 => ?_
   have hf14 := hf6.more hx14
   rw [lks_lk,lks_some,lks_df]
   simp only [ext_tuple]
   refine ⟨_,rfl,_,rfl,?_⟩
   have hoe : decide (o.getD [] ≠ []) = o.isSome := by
     cases ho' : o with
     | none => simp
     | some h => simpa using (ho h ho').1
   rw [bin_sne,hoe,ne_bb]
   simp only [beq_self_eq_true,Bool.not_true,isB_f,Bool.not_false]
   refine GdW.t ?_
   rw [bin_sne,show decide (o.getD [] ≠ o.getD []) = false from by simp]
   intro g
   simp only [List.getD_cons_zero,pick_f,condW_false]
   refine ixa_ld (a1.ext hx14) (by simp) (x := i64 p) (by simp [hpi]) ?_
   rw [bin_rem]
   refine ⟨by decide,?_⟩
   rw [bin_neq,condW_dec]
   have fin : ∀ {P : Prop},P → P := fun h => h
   refine ⟨fun _ => ?_,fun _ => ?_⟩
   · -- one that locks
     by_cases hg : 1 ≤ who.length ∧ who.length ≤ 32
     · have hw1 : who ≠ [] := fun e => by rw [e] at hg; simp at hg
       rw [decide_eq_true hg.1,decide_eq_true hg.2]
       cases ho' : o with
       | none =>
         subst ho'
         obtain ⟨n',e1⟩ := lock_free (st := n) hw1 hg.2
         refine flock hf14 fun w17 hf17 hc17 => ?_
         rw [show lockM (lks none n) who = _ from e1] at hf17 ⊢
         have e0 : decide (((0 : Int)) ≠ 6) = true := by decide
         have e2 : decide (((0 : Int)) ≠ 140) = true := by decide
         have e3 : decide (((0 : Int)) ≠ 0) = false := by decide
         have e4 : decide (((0 : Int)) = 0) = true := by decide
         have e5 : decide (([] : Str) ≠ []) = false := by decide
         have e6 : decide (([] : Str) = []) = true := by decide
         repeat (first
           | refine GdW.f fun _ => ?_
           | (refine GdW.t ?_; intro _)
           | (refine GdW.t ?_; simp only [bin_neq,bin_eql,bin_seq,bin_sne,un_not,isB_t,isB_f,isB_u,pick_t,pick_f,Option.getD_none,Option.getD_some,List.getD_cons_zero,Bool.not_true,Bool.not_false,Bool.and_true,condW_true,condW_false,Int.reduceEq,Int.reduceNe,decide_true,decide_false,cond_true,cond_false,ofL_data,ne_eq,not_true_eq_false,not_false_eq_true]; intro _)
           | simp only [bin_neq,bin_eql,bin_seq,bin_sne,un_not,isB_t,isB_f,isB_u,pick_t,pick_f,Option.getD_none,Option.getD_some,List.getD_cons_zero,Bool.not_true,Bool.not_false,Bool.and_true,condW_true,condW_false,Int.reduceEq,Int.reduceNe,decide_true,decide_false,cond_true,cond_false,ofL_data,ne_eq,not_true_eq_false,not_false_eq_true])
         refine fcrash (keep := []) hf17 (SlAt.nil _ 0) fun b2 m2 w40 hf40 => ?_
         rw [show crashM (lk1 n' who) [] = lk1 0 who from crash_lock] at hf40
         refine fholder hf40 fun w41 hx41 => ?_
         have hlk : lkM (lk1 0 who).files kLock = some ⟨who,who,true⟩ := by simp [lkM]
         rw [hlk]
         simp only [ext_tuple]
         refine ⟨_,rfl,_,rfl,?_⟩
         simp only [Option.isSome_some,Option.getD_some,un_not,Bool.not_true,isB_f,Bool.not_false]
         refine GdW.t ?_
         rw [bin_sne,decide_eq_false (by simp)]
         intro g
         simp only [List.getD_cons_zero,pick_f,condW_false]
         exact ⟨some who,n',rfl,(fun h e => by cases e; exact ⟨hw1,hg.2⟩),hf17.more (hf40.ext.trans hx41)⟩
       | some h =>
         subst ho'
         refine flock hf14 fun w17 hf17 hc17 => ?_
         rw [show lockM (lks (some h) n) who = _ from lock_held hw1 hg.2] at hf17 ⊢
         have hh := ho h rfl
         have e0 : decide (((140 : Int)) ≠ 6) = true := by decide
         have e2 : decide (((140 : Int)) ≠ 140) = false := by decide
         have e3 : decide (((140 : Int)) ≠ 0) = true := by decide
         have e4 : decide (((140 : Int)) = 0) = false := by decide
         have e5 : decide (h ≠ []) = true := decide_eq_true hh.1
         have e6 : decide (h = []) = false := decide_eq_false hh.1
         have e9 : (h = []) = False := eq_false hh.1
         repeat (first
           | refine GdW.f fun _ => ?_
           | (refine GdW.t ?_; intro _)
           | (refine GdW.t ?_; simp only [bin_neq,bin_eql,bin_seq,bin_sne,un_not,isB_t,isB_f,isB_u,pick_t,pick_f,Option.getD_none,Option.getD_some,List.getD_cons_zero,Bool.not_true,Bool.not_false,Bool.and_true,condW_true,condW_false,Int.reduceEq,Int.reduceNe,decide_true,decide_false,cond_true,cond_false,ofL_data,ne_eq,not_true_eq_false,not_false_eq_true,e9]; intro _)
           | simp only [bin_neq,bin_eql,bin_seq,bin_sne,un_not,isB_t,isB_f,isB_u,pick_t,pick_f,Option.getD_none,Option.getD_some,List.getD_cons_zero,Bool.not_true,Bool.not_false,Bool.and_true,condW_true,condW_false,Int.reduceEq,Int.reduceNe,decide_true,decide_false,cond_true,cond_false,ofL_data,ne_eq,not_true_eq_false,not_false_eq_true,e9])
         exact ⟨some h,n,rfl,(fun h' e => by cases e; exact hh),hf17⟩
     · have hgb : (decide (1 ≤ who.length) && decide (who.length ≤ 32)) = false := by
         rw [← Bool.decide_and]; exact decide_eq_false hg
       rw [hgb]
       have hform : who = [] ∨ 32 < who.length := by
         by_cases h : who = []
         · exact .inl h
         · refine .inr ?_
           have : who.length ≠ 0 := fun e => h (List.eq_nil_of_length_eq_zero e)
           omega
       refine flock hf14 fun w17 hf17 hc17 => ?_
       rw [lock_form hform] at hf17 ⊢
       have e0 : decide (((6 : Int)) ≠ 6) = false := by decide
       have e3 : decide (((6 : Int)) ≠ 0) = true := by decide
       have e4 : decide (((6 : Int)) = 0) = false := by decide
       repeat (first
         | refine GdW.f fun _ => ?_
         | (refine GdW.t ?_; intro _)
         | (refine GdW.t ?_; simp only [bin_neq,bin_eql,bin_seq,bin_sne,un_not,isB_t,isB_f,isB_u,pick_t,pick_f,Option.getD_none,Option.getD_some,List.getD_cons_zero,Bool.not_true,Bool.not_false,Bool.and_true,condW_true,condW_false,Int.reduceEq,Int.reduceNe,decide_true,decide_false,cond_true,cond_false,ofL_data,ne_eq,not_true_eq_false,not_false_eq_true]; intro _)
         | simp only [bin_neq,bin_eql,bin_seq,bin_sne,un_not,isB_t,isB_f,isB_u,pick_t,pick_f,Option.getD_none,Option.getD_some,List.getD_cons_zero,Bool.not_true,Bool.not_false,Bool.and_true,condW_true,condW_false,Int.reduceEq,Int.reduceNe,decide_true,decide_false,cond_true,cond_false,ofL_data,ne_eq,not_true_eq_false,not_false_eq_true])
       exact ⟨o,n,rfl,ho,hf17⟩
   · -- one that unlocks
     cases ho' : o with
     | none =>
       subst ho'
       refine funlock hf14 fun w17 hf17 hc17 => ?_
       rw [show unlockM (lks none n) who = _ from unlock_free] at hf17 ⊢
       have e0 : decide (((4 : Int)) ≠ 4) = false := by decide
       have e3 : decide (((4 : Int)) ≠ 0) = true := by decide
       have e4 : decide (((4 : Int)) = 0) = false := by decide
       have e5 : decide (([] : Str) ≠ []) = false := by decide
       have e6 : decide (([] : Str) = []) = true := by decide
       repeat (first
         | refine GdW.f fun _ => ?_
         | (refine GdW.t ?_; intro _)
         | (refine GdW.t ?_; simp only [bin_neq,bin_eql,bin_seq,bin_sne,un_not,isB_t,isB_f,isB_u,pick_t,pick_f,Option.getD_none,Option.getD_some,List.getD_cons_zero,Bool.not_true,Bool.not_false,Bool.and_true,condW_true,condW_false,Int.reduceEq,Int.reduceNe,decide_true,decide_false,cond_true,cond_false,ofL_data,ne_eq,not_true_eq_false,not_false_eq_true]; intro _)
         | simp only [bin_neq,bin_eql,bin_seq,bin_sne,un_not,isB_t,isB_f,isB_u,pick_t,pick_f,Option.getD_none,Option.getD_some,List.getD_cons_zero,Bool.not_true,Bool.not_false,Bool.and_true,condW_true,condW_false,Int.reduceEq,Int.reduceNe,decide_true,decide_false,cond_true,cond_false,ofL_data,ne_eq,not_true_eq_false,not_false_eq_true])
       exact ⟨none,n,rfl,(fun h e => by cases e),hf17⟩
     | some h =>
       subst ho'
       have hh := ho h rfl
       have e5 : decide (h ≠ []) = true := decide_eq_true hh.1
       have e6 : decide (h = []) = false := decide_eq_false hh.1
       have e9 : (h = []) = False := eq_false hh.1
       by_cases hw : h = who
       · subst hw
         refine funlock hf14 fun w17 hf17 hc17 => ?_
         rw [show unlockM (lks (some h) n) h = _ from unlock_own] at hf17 ⊢
         have e0 : decide (((0 : Int)) ≠ 4) = true := by decide
         have e1 : decide (((0 : Int)) ≠ 140) = true := by decide
         have e3 : decide (((0 : Int)) ≠ 0) = false := by decide
         have e4 : decide (((0 : Int)) = 0) = true := by decide
         have e7 : decide (h ≠ h) = false := by simp
         have e8 : decide (h = h) = true := by simp
         repeat (first
           | refine GdW.f fun _ => ?_
           | (refine GdW.t ?_; intro _)
           | (refine GdW.t ?_; simp only [bin_neq,bin_eql,bin_seq,bin_sne,un_not,isB_t,isB_f,isB_u,pick_t,pick_f,Option.getD_none,Option.getD_some,List.getD_cons_zero,Bool.not_true,Bool.not_false,Bool.and_true,condW_true,condW_false,Int.reduceEq,Int.reduceNe,decide_true,decide_false,cond_true,cond_false,ofL_data,ne_eq,not_true_eq_false,not_false_eq_true,e9]; intro _)
           | simp only [bin_neq,bin_eql,bin_seq,bin_sne,un_not,isB_t,isB_f,isB_u,pick_t,pick_f,Option.getD_none,Option.getD_some,List.getD_cons_zero,Bool.not_true,Bool.not_false,Bool.and_true,condW_true,condW_false,Int.reduceEq,Int.reduceNe,decide_true,decide_false,cond_true,cond_false,ofL_data,ne_eq,not_true_eq_false,not_false_eq_true,e9])
         exact ⟨none,_,rfl,(fun h e => by cases e),hf17⟩
       · refine funlock hf14 fun w17 hf17 hc17 => ?_
         rw [show unlockM (lks (some h) n) who = _ from unlock_other hw] at hf17 ⊢
         have e1 : decide (((140 : Int)) ≠ 140) = false := by decide
         have e3 : decide (((140 : Int)) ≠ 0) = true := by decide
         have e4 : decide (((140 : Int)) = 0) = false := by decide
         have e7 : decide (h ≠ who) = true := decide_eq_true hw
         have e8 : decide (h = who) = false := decide_eq_false hw
         have ea : (h = who) = False := eq_false hw
         repeat (first
           | refine GdW.f fun _ => ?_
           | (refine GdW.t ?_; intro _)
           | (refine GdW.t ?_; simp only [bin_neq,bin_eql,bin_seq,bin_sne,un_not,isB_t,isB_f,isB_u,pick_t,pick_f,Option.getD_none,Option.getD_some,List.getD_cons_zero,Bool.not_true,Bool.not_false,Bool.and_true,condW_true,condW_false,Int.reduceEq,Int.reduceNe,decide_true,decide_false,cond_true,cond_false,ofL_data,ne_eq,not_true_eq_false,not_false_eq_true,e9,ea]; intro _)
           | simp only [bin_neq,bin_eql,bin_seq,bin_sne,un_not,isB_t,isB_f,isB_u,pick_t,pick_f,Option.getD_none,Option.getD_some,List.getD_cons_zero,Bool.not_true,Bool.not_false,Bool.and_true,condW_true,condW_false,Int.reduceEq,Int.reduceNe,decide_true,decide_false,cond_true,cond_false,ofL_data,ne_eq,not_true_eq_false,not_false_eq_true,e9,ea])
         exact ⟨some h,n,rfl,(fun h' e => by cases e; exact hh),hf17⟩
 · rintro st g w' ⟨o',n',rfl,ho2,hf'⟩
   simp only [List.getD_cons_zero]
   rw [bin_add,wrap_id (by omega) (by omega)]
   refine ⟨⟨i + 1,o',n',rfl,hlt,ho2,hf'⟩,?_⟩
   show picks.length - ((i : Int) + 1).toNat < picks.length - ((i : Int)).toNat
   omega
end
end Go.Proofs.YtpiaegojabkioaaGreatDoor.Fx
namespace Go.Eng
open Go Go.Deep
theorem flat_get {k : Nat} : ∀ (L : List (List Value)) (i r : Nat) (y : List Value),(∀ z ∈ L,z.length = k) → r < k → L[i]? = some y → L.flatten[i * k + r]? = y[r]?
 | [],i,_,_,_,_,h => by simp at h
 | z :: L,0,r,y,hl,hr,h => by
   simp only [List.getElem?_cons_zero,Option.some.injEq] at h
   subst h
   simp only [List.flatten_cons,Nat.zero_mul,Nat.zero_add]
   rw [List.getElem?_append_left (by rw [hl z List.mem_cons_self]; exact hr)]
 | z :: L,i + 1,r,y,hl,hr,h => by
   simp only [List.getElem?_cons_succ] at h
   have := flat_get L i r y (fun u hu => hl u (List.mem_cons_of_mem _ hu)) hr h
   rw [← this]
   simp only [List.flatten_cons]
   have hz := hl z List.mem_cons_self
   rw [List.getElem?_append_right (by rw [hz,Nat.add_mul]; omega)]
   congr 1
   rw [hz,Nat.add_mul]
   omega
theorem flat_len {k : Nat} : ∀ (L : List (List Value)),(∀ z ∈ L,z.length = k) → L.flatten.length = L.length * k
 | [],_ => by simp
 | z :: L,hl => by
   rw [List.flatten_cons,List.length_append,flat_len L fun u hu => hl u (List.mem_cons_of_mem _ hu),hl z List.mem_cons_self,List.length_cons,Nat.add_mul]
   omega
section
variable {H : Type} {enc : TypeId × Value → H} {P : Program} {w : World} {base : Nat} {spare : Nat → Bool} {held : Bool}
theorem open_rows {t e : TypeId} {k fuel : Nat} {v : Value} {d : DataW H} {ps : List MemPlace} (ht : P.underlying t = some (.slice e)) (hk : P.cellsOf e = k) (hk0 : 0 < k) (h : DataW.trod enc P w base spare held fuel t [v] = some (d,ps)) :
   ∃ p n c T m,∃ (f : Nat → List Value) (D : Nat → DataW H) (Pl : Nat → List MemPlace),v = .slice p n c ∧ SlAt w T (.slice p n c) n ((List.range n).map f).flatten ∧
     (∀ i,i < n → (f i).length = k ∧ DataW.trod enc P w base spare held m e (f i) = some (D i,Pl i)) ∧ ((n = 0 ∧ d = .nil) ∨ ∃ rest,d = .slice ((List.range n).map D) rest) := by
 rcases open_slice ht h with ⟨hc,hx⟩ | ⟨a,len,cap,m,n,D,Pl,hc,_,hl,hm,hme,hx,hel⟩
 · cases hc
   cases hx
   refine ⟨none,0,0,0,0,fun _ => [],fun _ => .nil,fun _ => [],rfl,?_,fun i hi => by omega,.inl ⟨rfl,rfl⟩⟩
   simpa using SlAt.nil w 0
 · cases hc
   cases hx
   have hlm : len ≤ m := by rw [hme]; split <;> omega
   obtain ⟨f,hf⟩ := choose_lt (n := len) fun i hi => hel i (by omega)
   have hfl : ∀ i,i < len → (f i).length = k := fun i hi => by rw [(World.cells?_some (hf i hi).1).2.1,hk]
   have hall : ∀ z ∈ (List.range len).map f,z.length = k := by
     intro z hz
     obtain ⟨i,hi,rfl⟩ := List.mem_map.1 hz
     exact hfl i (List.mem_range.1 hi)
   have hcell : ∀ i r,i < len → r < k → w.cell? (a.add (i * k + r)) = (f i)[r]? := by
     intro i r hi hr
     have := (World.cells?_some (hf i hi).1).2.2 r (by omega)
     rw [add_add,hk] at this
     exact this
   by_cases h0 : len = 0
   · subst h0
     refine ⟨some a,0,cap,0,n,f,D,Pl,rfl,⟨some a,cap,rfl,Nat.zero_le _,(by intro e; cases e),(by simp)⟩,fun i hi => by omega,.inr ⟨_,rfl⟩⟩
   have h00 := hcell 0 0 (by omega) hk0
   have hf0 := hfl 0 (by omega)
   rw [List.getElem?_eq_getElem (by omega)] at h00
   obtain ⟨c,T,fr,hb,hsp⟩ : ∃ c T fr,w.heap[a.block]? = some (.cells c T fr) ∧ a.spot = none := by
     unfold World.cell? at h00
     have e1 : (a.add (0 * k + 0)).block = a.block := by unfold Addr.add; split <;> rfl
     have e2 : (a.add (0 * k + 0)) = a := by unfold Addr.add; simp
     rw [e2] at h00
     split at h00
     · rename_i c T fr hb
       refine ⟨c,T,fr,hb,?_⟩
       cases hs : a.spot with
       | none => rfl
       | some _ => simp [hs] at h00
     · cases h00
   obtain ⟨b,off,sp⟩ := a
   simp only at hsp hb
   subst hsp
   refine ⟨some ⟨b,off,none⟩,len,cap,T,n,f,D,Pl,rfl,⟨_,_,rfl,hl,(by intro e; cases e),fun _ => ⟨b,off,c,fr,rfl,hb,fun j hj => ?_⟩⟩,fun i hi => ⟨hfl i hi,(hf i hi).2⟩,.inr ⟨_,rfl⟩⟩
   rw [flat_len _ hall,List.length_map,List.length_range] at hj
   have hi : j / k < len := by rw [Nat.div_lt_iff_lt_mul hk0]; exact hj
   have hr : j % k < k := Nat.mod_lt _ hk0
   have hjj : j / k * k + j % k = j := by rw [Nat.mul_comm]; exact Nat.div_add_mod j k
   have h1 := hcell (j / k) (j % k) hi hr
   rw [hjj,add_mk,cell_eq,hb,cellO_some] at h1
   have h2 := flat_get ((List.range len).map f) (j / k) (j % k) (f (j / k)) hall hr (by simp [hi])
   rw [hjj] at h2
   rw [h1,h2]
end
end Go.Eng
namespace Go.Proofs.YtpiaegojabkioaaGreatDoor
open Go Go.Eng Go.Num Go.Deep
set_option maxRecDepth 100000
instance : Inhabited JV := ⟨JV.null⟩
theorem vreps_map {w : World} {X : Nat → JV} {f : Nat → List Value} : ∀ (l : List Nat),(∀ i ∈ l,VRep w (X i) (f i)) → VReps w (l.map X) (l.map f).flatten
 | [],_ => by simp [VReps]
 | i :: l,h => by
   simp only [List.map_cons,List.flatten_cons,VReps]
   exact ⟨_,_,rfl,h i List.mem_cons_self,vreps_map l fun j hj => h j (List.mem_cons_of_mem _ hj)⟩
section
variable {H : Type} {enc : TypeId × Value → H} {w : World} {base : Nat} {spare : Nat → Bool} {held : Bool}
theorem open_len {P : Program} {t e : TypeId} {fuel : Nat} {p : Option Addr} {n c : Nat} {x : DataW H × List MemPlace} (ht : P.underlying t = some (.slice e)) (h : DataW.trod enc P w base spare held fuel t [.slice p n c] = some x) : n ≤ 9223372036854775807 := by
 rcases Deep.open_slice ht h with ⟨hc,_⟩ | ⟨a,len,cap,m,n',D,Pl,hc,_,hl,hm,_⟩
 · cases hc; omega
 · cases hc; unfold maxLen at hm; omega
theorem open_texts {P : Program} {t e : TypeId} {fuel : Nat} {v : Value} {d : DataW H} {ps : List MemPlace} (ht : P.underlying t = some (.slice e)) (he : P.underlying e = some .string) (hk : P.cellsOf e = 1) (h : DataW.trod enc P w base spare held fuel t [v] = some (d,ps)) :
   ∃ (T : TypeId) (l : List Str),SlAt w T v l.length (l.map str) ∧ l.length ≤ 9223372036854775807 ∧ ∀ s ∈ l,s.length ≤ 9223372036854775807 := by
 obtain ⟨p,n,c,T,m,f,D,Pl,rfl,hs,hf,hd⟩ := open_rows ht hk (by omega) h
 have hn := open_len ht h
 have hex : ∀ i,i < n → ∃ b : Str,f i = [str b] ∧ b.length ≤ 9223372036854775807 := by
   intro i hi
   obtain ⟨s,hx,_,hw⟩ := DataW.trod_string he (hf i hi).2
   refine ⟨s.data.toList,by rw [hx]; simp [ofL],?_⟩
   unfold maxLen at hw
   simpa using hw
 obtain ⟨g,hg⟩ := choose_lt hex
 have hfl : ((List.range n).map f).flatten = ((List.range n).map g).map str := by
   have : (List.range n).map f = (List.range n).map fun i => [str (g i)] := List.map_congr_left fun i hi => (hg i (List.mem_range.1 hi)).1
   rw [this]
   simp only [List.map_map]
   generalize List.range n = L
   induction L with
   | nil => rfl
   | cons a L ih => simp only [List.map_cons,List.flatten_cons,ih,Function.comp_apply]; rfl
 rw [hfl] at hs
 refine ⟨T,(List.range n).map g,by simpa using hs,by simpa using hn,fun s hs => ?_⟩
 obtain ⟨i,hi,rfl⟩ := List.mem_map.1 hs
 exact (hg i (List.mem_range.1 hi)).2
theorem open_val : ∀ (N fuel : Nat) (cs : List Value) (d : DataW H) (ps : List MemPlace),SizeOf.sizeOf d < N → DataW.trod enc Tryz.prog w base spare held fuel VT cs = some (d,ps) → ∃ v : JV,VRep w v cs
 | 0,_,_,_,_,h,_ => by omega
 | N + 1,fuel,cs,d,ps,hN,h => by
   obtain ⟨xs,n,hn,hx,hl,hlen,hf⟩ := DataW.trod_struct Tryz.underlying67 h
   have hl5 : cs.length = 5 := hl.trans (show Tryz.prog.cellsOf VT = 5 by kernel_rfl)
   have k0 : Tryz.prog.cellsOf 64 = 1 := by kernel_rfl
   have k1 : Tryz.prog.cellsOf 4 = 1 := by kernel_rfl
   have k2 : Tryz.prog.cellsOf 9 = 1 := by kernel_rfl
   have k3 : Tryz.prog.cellsOf 65 = 1 := by kernel_rfl
   have k4 : Tryz.prog.cellsOf 22 = 1 := by kernel_rfl
   match cs,hl5 with
   | [c0,c1,c2,c3,c4],_ =>
   have f0 : DataW.trod enc Tryz.prog w base spare held n 64 (([c0,c1,c2,c3,c4].drop 0).take (Tryz.prog.cellsOf 64)) = xs[0]? := hf 0 _ rfl
   rw [k0] at f0
   have f0 : DataW.trod enc Tryz.prog w base spare held n 64 [c0] = xs[0]? := f0
   have f1 : DataW.trod enc Tryz.prog w base spare held n 4 (([c0,c1,c2,c3,c4].drop 1).take (Tryz.prog.cellsOf 4)) = xs[1]? := hf 1 _ rfl
   rw [k1] at f1
   have f1 : DataW.trod enc Tryz.prog w base spare held n 4 [c1] = xs[1]? := f1
   have f2 : DataW.trod enc Tryz.prog w base spare held n 9 (([c0,c1,c2,c3,c4].drop 2).take (Tryz.prog.cellsOf 9)) = xs[2]? := hf 2 _ rfl
   rw [k2] at f2
   have f2 : DataW.trod enc Tryz.prog w base spare held n 9 [c2] = xs[2]? := f2
   have f3 : DataW.trod enc Tryz.prog w base spare held n 65 (([c0,c1,c2,c3,c4].drop 3).take (Tryz.prog.cellsOf 65)) = xs[3]? := hf 3 _ rfl
   rw [k3] at f3
   have f3 : DataW.trod enc Tryz.prog w base spare held n 65 [c3] = xs[3]? := f3
   have f4 : DataW.trod enc Tryz.prog w base spare held n 22 (([c0,c1,c2,c3,c4].drop 4).take (Tryz.prog.cellsOf 22)) = xs[4]? := hf 4 _ rfl
   rw [k4] at f4
   have f4 : DataW.trod enc Tryz.prog w base spare held n 22 [c4] = xs[4]? := f4
   have hlen : xs.length = 5 := hlen
   match xs,hlen with
   | [y0,y1,y2,y3,y4],_ =>
   simp only [List.getElem?_cons_zero,List.getElem?_cons_succ] at f0 f1 f2 f3 f4
   obtain ⟨a0,h0,_,_⟩ := DataW.trod_int Tryz.underlying64 f0
   obtain ⟨a1,h1,_⟩ := DataW.trod_bool Tryz.underlying4 f1
   obtain ⟨a2,h2,_,w2⟩ := DataW.trod_string Tryz.underlying9 f2
   obtain ⟨T4,ks,h4,l4,b4⟩ := open_texts Tryz.underlying22 Tryz.underlying9 k2 f4
   obtain ⟨p,m,c,T3,m3,f,D,Pl,rfl,h3,hel,hd⟩ := open_rows (k := 5) Tryz.underlying65 (by kernel_rfl) (by omega) f3
   have l3 := open_len Tryz.underlying65 f3
   cases h0; cases h1; cases h2
   have hd3 : SizeOf.sizeOf y3.1 < SizeOf.sizeOf d := by
     have : d = .agg [y0.1,y1.1,y2.1,y3.1,y4.1] := by cases hx; rfl
     rw [this]
     simp
     omega
   have each : ∀ i,i < m → ∃ v : JV,VRep w v (f i) := fun i hi => by
     refine open_val N m3 (f i) (D i) (Pl i) ?_ (hel i hi).2
     rcases hd with ⟨e,_⟩ | ⟨rest,e⟩
     · omega
     · have hmem : D i ∈ (List.range m).map D := List.mem_map.2 ⟨i,List.mem_range.2 hi,rfl⟩
       have h1 := List.sizeOf_lt_of_mem hmem
       rw [e] at hd3
       simp at hd3
       omega
   obtain ⟨X,hX⟩ := choose_lt each
   have hreps : VReps w ((List.range m).map X) ((List.range m).map f).flatten := vreps_map _ fun i hi => hX i (List.mem_range.1 hi)
   have ea : (Value.string a2) = str a2.data.toList := by simp [ofL]
   rw [ea]
   refine ⟨.mk a0 a1 a2.data.toList ((List.range m).map X) ks,VRep.mk (v := .mk a0 a1 a2.data.toList ((List.range m).map X) ks) (by simpa [JV.xs] using h3) hreps h4 ⟨by simpa [JV.xs] using l3,l4,?_,b4⟩⟩
   unfold maxLen at w2
   simpa [JV.t] using w2
end
end Go.Proofs.YtpiaegojabkioaaGreatDoor
namespace Go.Proofs.YtpiaegojabkioaaGreatDoor
open Go.RowKit Go.Eng
set_option maxRecDepth 100000
theorem tab_reads {P : Program} {w : World} {name : String} {k : IntKind} {zs : List Int} {g : Nat} {t e : TypeId} {n : Nat} (hg : P.globalNamed name = some g) (hty : (P.globals[g]?).map (·.type) = some t) (ht : P.underlying t = some (.array n e)) (he : P.underlying e = some (.int k)) (hce : P.cellsOf e = 1) (hct : P.cellsOf t = n)
   (h : Lib.VarReads P w name (Lib.tabData k zs)) : Lib.TabIs P w name k zs := by
 obtain ⟨g',t',cs,fuel,p,hg',ht',hvar,hd⟩ := h
 obtain rfl := Option.some.inj (hg.symm.trans hg')
 obtain rfl := Option.some.inj (hty.symm.trans ht')
 unfold Lib.TabIs
 rw [hvar,← Lib.cells_of_tab ht he hce hct hd]
def bruTab : List Int := [0,1,56,2,57,49,28,3,61,58,42,50,38,29,17,4,62,47,59,36,45,43,51,22,53,39,33,30,24,18,12,5,63,55,48,27,60,41,37,16,46,35,44,21,52,32,23,11,54,26,40,15,34,20,31,10,25,14,19,9,13,8,7,6]
theorem tabs_of {w : World} (hL : laidMetH Tryz.prog Rows.storeOnceRow.laid w) : Tabs w := by
 have h : laidMet Tryz.prog Rows.storeOnceRow.laid w := by
   rw [Go.MakeChecks.laidMetH_plain _ _ _ (by kernel_rfl)] at hL
   exact hL
 have r : ∀ n d,(n,d) ∈ Rows.storeOnceRow.laid → Lib.VarReads Tryz.prog w n d := fun n d hm => Lib.laidMet.reads h hm
 have r1 : Lib.VarReads Tryz.prog w "math/bits.deBruijn64tab" (Lib.tabData .u8 bruTab) := r _ _ (.tail _ (.head _))
 have r2 : Lib.VarReads Tryz.prog w "internal/strconv.uint64pow10" (Lib.tabData .u64 Lib.pow10Tab) := r _ _ (.tail _ (.tail _ (.head _)))
 have r3 : Lib.VarReads Tryz.prog w "unicode/utf8.acceptRanges" Lib.acceptData := r _ _ (.tail _ (.tail _ (.tail _ (.head _))))
 have r4 : Lib.VarReads Tryz.prog w "unicode/utf8.first" Lib.firstData := r _ _ (.tail _ (.tail _ (.tail _ (.tail _ (.tail _ (.tail _ (.head _)))))))
 refine ⟨?_,?_,?_⟩
 · exact Go.Proofs.utf8Tabs_of_readsT (Go.Proofs.U8Types.of196 Tryz.laysValid) ⟨by kernel_rfl,by kernel_rfl,by kernel_rfl,by kernel_rfl,by kernel_rfl,by kernel_rfl,by kernel_rfl⟩ r4 r3
 · have := tab_reads (g := 7) (t := 219) (e := U8) (n := 64) (by kernel_rfl) (by kernel_rfl) (by kernel_rfl) (by kernel_rfl) (by kernel_rfl) (by kernel_rfl) r1
   exact Lib.TabIs.cell this (by kernel_rfl) 15 (by decide)
 · exact tab_reads (g := 5) (t := 216) (e := U64) (n := 20) (by kernel_rfl) (by kernel_rfl) (by kernel_rfl) (by kernel_rfl) (by kernel_rfl) (by kernel_rfl) r2
section
variable {H : Type} {enc : TypeId × Value → H} {w : World} {base : Nat} {spare : Nat → Bool} {held : Bool}
theorem open_i {v : Value} {d : DataW H} {ps : List MemPlace} {r : Reach} {b0 : Nat} (hval : Value.okWide Tryz.prog w r b0 3 v) (h : DataW.Trod enc Tryz.prog w base spare held 3 v d ps) : ∃ n : Int,v = i64 n ∧ -9223372036854775808 ≤ n ∧ n ≤ 9223372036854775807 := by
 obtain ⟨n,rfl,_,_,hw⟩ := Go.ChangeShapes.open_int Tryz.underlying3 hval h
 refine ⟨n,rfl,?_⟩
 have e1 : IntKind.i64.min = -9223372036854775808 := by decide
 have e2 : IntKind.i64.max = 9223372036854775807 := by decide
 simp only [Lit.wf,Bool.and_eq_true,decide_eq_true_eq,e1,e2] at hw
 exact hw
end
end Go.Proofs.YtpiaegojabkioaaGreatDoor
namespace Go.Proofs.YtpiaegojabkioaaGreatDoor
open Go.RowKit Go.Eng
set_option maxRecDepth 100000
theorem trod_iface {P : Program} {w : World} {fuel : Nat} {t : TypeId} {cs : List Value} {s : String} {x : DataW Unit} {p : List MemPlace} {m : Array TypeId} (ht : ∃ m,P.underlying t = some (.interface m)) (h : DataW.trod (fun _ => ()) P w 0 (fun _ => true) false fuel t cs = some (.iface s x,p)) : ∃ u v,cs = [.iface u v] := by
 obtain ⟨m,ht⟩ := ht
 cases fuel with
 | zero => cases h
 | succ fuel =>
   unfold DataW.trod at h
   rw [ht] at h
   match cs,h with
   | [],h => cases h
   | [v],h =>
     cases v with
     | iface u v => exact ⟨u,v,rfl⟩
     | _ => cases h
   | a :: b :: r,h => simp at h
theorem tabe_of {w : World} {x : DataW Unit} {s : String} (h : Lib.VarReads Tryz.prog w "strconv.ErrSyntax" (.iface s x)) : TabE w := by
 obtain ⟨g',t',cs,fuel,p,hg',ht',hvar,hd⟩ := h
 have hg : Tryz.prog.globalNamed "strconv.ErrSyntax" = some 2 := by kernel_rfl
 have hty : (Tryz.prog.globals[2]?).map (·.type) = some 112 := by kernel_rfl
 obtain rfl := Option.some.inj (hg.symm.trans hg')
 obtain rfl := Option.some.inj (hty.symm.trans ht')
 obtain ⟨u,v,hcs⟩ := trod_iface (m := #[]) ⟨_,Tryz.underlying112⟩ hd
 have := World.var?_cell hg hvar 0
 refine ⟨u,v,?_⟩
 rw [this]
 have e : cs = #[.iface u v] := by
   apply Array.ext'
   rw [hcs]
 rw [e]; rfl
theorem tabsj_of {w : World} (hL : laidMetH Tryz.prog Rows.storeOnceRow.laid w) : TabJ w := by
 have h : laidMet Tryz.prog Rows.storeOnceRow.laid w := by
   rw [Go.MakeChecks.laidMetH_plain _ _ _ (by kernel_rfl)] at hL
   exact hL
 have r : ∀ n d,(n,d) ∈ Rows.storeOnceRow.laid → Lib.VarReads Tryz.prog w n d := fun n d hm => Lib.laidMet.reads h hm
 have hT := tabs_of (w := w) hL
 have r5 : Lib.VarReads Tryz.prog w "strconv.ErrSyntax" Rows.laid_strconv_ErrSyntax := r _ _ (.tail _ (.tail _ (.tail _ (.tail _ (.tail _ (.head _))))))
 exact ⟨hT.utf,hT.bru,tabe_of r5⟩
section
variable {H : Type} {enc : TypeId × Value → H} {w : World} {base : Nat} {spare : Nat → Bool} {held : Bool}
theorem open_ints {v : Value} {d : DataW H} {ps : List MemPlace} {r : Reach} {b0 : Nat} (hval : Value.okWide Tryz.prog w r b0 23 v) (h : DataW.Trod enc Tryz.prog w base spare held 23 v d ps) : ∃ (T : TypeId) (l : List Int),SlAt w T v l.length (l.map i64) ∧ l.length ≤ 9223372036854775807 := by
 obtain ⟨fuel,h⟩ := h
 obtain ⟨a,len,cap,rfl⟩ := Go.WideShapes.okWide_slice Tryz.underlying23 hval
 have hone : (Value.slice a len cap).cells.toList = [Value.slice a len cap] := rfl
 rw [hone] at h
 obtain ⟨p,n,c,T,m,f,D,Pl,he,hs,hf,hd⟩ := open_rows Tryz.underlying23 (k := 1) (by kernel_rfl) (by omega) h
 cases he
 have hn := open_len Tryz.underlying23 h
 have hex : ∀ i,i < len → ∃ b : Int,f i = [i64 b] := by
   intro i hi
   obtain ⟨a,hx,_⟩ := DataW.trod_int Tryz.underlying3 (hf i hi).2
   exact ⟨a,hx⟩
 obtain ⟨g,hg⟩ := Deep.choose_lt hex
 have hfl : ((List.range len).map f).flatten = ((List.range len).map g).map i64 := by
   have : (List.range len).map f = (List.range len).map fun i => [i64 (g i)] := List.map_congr_left fun i hi => hg i (List.mem_range.1 hi)
   rw [this]
   simp only [List.map_map]
   generalize List.range len = L
   induction L with
   | nil => rfl
   | cons a L ih => simp only [List.map_cons,List.flatten_cons,ih,Function.comp_apply]; rfl
 rw [hfl] at hs
 exact ⟨T,(List.range len).map g,by simpa using hs,by simpa using hn⟩
end
end Go.Proofs.YtpiaegojabkioaaGreatDoor
namespace Go.Proofs.YtpiaegojabkioaaGreatDoor
open Go Go.RowKit Go.Eng
set_option maxRecDepth 100000
theorem tabr_of {w : World} {x : DataW Unit} {s : String} (h : Lib.VarReads Tryz.prog w "strconv.ErrRange" (.iface s x)) : ∃ T v,w.cell? ⟨3,0,none⟩ = some (.iface T v) := by
 obtain ⟨g',t',cs,fuel,p,hg',ht',hvar,hd⟩ := h
 have hg : Tryz.prog.globalNamed "strconv.ErrRange" = some 3 := by kernel_rfl
 have hty : (Tryz.prog.globals[3]?).map (·.type) = some 112 := by kernel_rfl
 obtain rfl := Option.some.inj (hg.symm.trans hg')
 obtain rfl := Option.some.inj (hty.symm.trans ht')
 obtain ⟨u,v,hcs⟩ := trod_iface (m := #[]) ⟨_,Tryz.underlying112⟩ hd
 have := World.var?_cell hg hvar 0
 refine ⟨u,v,?_⟩
 rw [this]
 have e : cs = #[.iface u v] := by
   apply Array.ext'
   rw [hcs]
 rw [e]; rfl
theorem taba_of {w : World} (hL : laidMetH Tryz.prog Rows.storeOnceRow.laid w) : TabA w := by
 have h : laidMet Tryz.prog Rows.storeOnceRow.laid w := by
   rw [Go.MakeChecks.laidMetH_plain _ _ _ (by kernel_rfl)] at hL
   exact hL
 have r : ∀ n d,(n,d) ∈ Rows.storeOnceRow.laid → Lib.VarReads Tryz.prog w n d := fun n d hm => Lib.laidMet.reads h hm
 have hT := tabs_of (w := w) hL
 have hJ := tabsj_of (w := w) hL
 have r4 : Lib.VarReads Tryz.prog w "strconv.ErrRange" Rows.laid_strconv_ErrRange := r _ _ (.tail _ (.tail _ (.tail _ (.tail _ (.head _)))))
 exact ⟨hT,hJ.err,tabr_of r4⟩
section
variable {H : Type} {enc : TypeId × Value → H} {w : World} {base : Nat} {spare : Nat → Bool} {held : Bool}
theorem open_strs {v : Value} {d : DataW H} {ps : List MemPlace} {r : Reach} {b0 : Nat} (hval : Value.okWide Tryz.prog w r b0 22 v) (h : DataW.Trod enc Tryz.prog w base spare held 22 v d ps) : ∃ (T : TypeId) (l : List Str),SlAt w T v l.length (l.map str) ∧ l.length ≤ 9223372036854775807 := by
 obtain ⟨fuel,h⟩ := h
 obtain ⟨a,len,cap,rfl⟩ := Go.WideShapes.okWide_slice Tryz.underlying22 hval
 have hone : (Value.slice a len cap).cells.toList = [Value.slice a len cap] := rfl
 rw [hone] at h
 obtain ⟨T,l,h1,h2,_⟩ := open_texts Tryz.underlying22 Tryz.underlying9 (by kernel_rfl) h
 exact ⟨T,l,h1,h2⟩
end
end Go.Proofs.YtpiaegojabkioaaGreatDoor
namespace Go.Proofs.YtpiaegojabkioaaGreatDoor
open Go Go.RowKit Go.Eng Go.Deep
set_option maxRecDepth 100000
instance : Inhabited RV := ⟨RV.zero⟩
theorem rreps_map {G : Nat → Prop} {w : World} {X : Nat → RV} {f : Nat → List Value} : ∀ (l : List Nat),(∀ i ∈ l,RRepP G w (X i) (f i)) → RRepsP G w (l.map X) (l.map f).flatten
 | [],_ => by simp [RRepsP]
 | i :: l,h => by
   simp only [List.map_cons,List.flatten_cons,RRepsP]
   exact ⟨_,_,rfl,h i List.mem_cons_self,rreps_map l fun j hj => h j (List.mem_cons_of_mem _ hj)⟩
section
variable {H : Type} {enc : TypeId × Value → H} {w : World} {base : Nat} {spare : Nat → Bool} {held : Bool}
end
end Go.Proofs.YtpiaegojabkioaaGreatDoor
namespace Go.Proofs.YtpiaegojabkioaaGreatDoor.Fx
open Go Go.Eng Go.Vfs Go.Num Go.RowKit
set_option maxRecDepth 100000
theorem Fs.low {w0 w1 w : World} {b m : Nat} {s : MS} (h : Fs w1 w b m s) (hx : Ext w0 w1) : Fs w0 w b m s :=
 ⟨h.fs,h.ok,Nat.le_trans hx.size h.gb,Nat.le_trans hx.size h.gm,hx.trans h.ext⟩
def fo (n : Nat) : Option Str := if n = 0 then none else some (bytesOf (n : Nat) [])
theorem fo_succ (n : Nat) : fo (n + 1) = some (bytesOf ((n + 1 : Nat) : Int) []) := by unfold fo; rw [if_neg (by omega)]
section
variable [HX]
theorem fload_n {w0 w : World} {b m : Nat} {s : MS} {K : Value → World → Prop} (hT : TabA w) (h : Fs w0 w b m s) (n : Nat) (hn : n < 128) (hf : lkM s.files kFile = (fo n).map fun b => ⟨b,b,true⟩)
   (hK : ∀ sv w',Ext w w' → one1 sv = true → K (.tuple #[.agg [i64 (n : Nat),sv].toArray,i64 0]) w') : callF Tryz.prog 14 [fp b] w K := by
 by_cases h0 : n = 0
 · subst h0
   exact fload0 h hf fun w' hx => hK _ w' hx rfl
 · rw [show fo n = some (bytesOf (n : Nat) []) from if_neg h0] at hf
   refine fload1 hT h (sv_nat n hn) hf rfl fun cs w' hx hst => ?_
   obtain ⟨sv,T,L,rfl,hS,_⟩ := hst
   exact hK sv w' hx (by obtain ⟨q,c,e,_⟩ := hS.shape; rw [e]; rfl)
theorem rows_true {T1 : TypeId} {v1 : Value} {n0 : Int} {cuts : List Int} {w : World} {K : Value → World → Prop} (hT : TabA w) (h0 : -9223372036854775808 ≤ n0 ∧ n0 ≤ 9223372036854775807) (h1' : SlAt w T1 v1 cuts.length (cuts.map i64) ∧ cuts.length ≤ 9223372036854775807)
   (hK : ∀ w',Ext w w' → K (.bool true) w') : callF Tryz.prog 4 [i64 n0,v1] w K := by
 obtain ⟨h1,hl1⟩ := h1'
 refine W4_ok ?_
 unfold W4
 refine fnew fun b m w1 hf1 => ?_
 refine awake16 (hT.ext hf1.ext) fun w2 hx2 => ?_
 have hf2 := hf1.more hx2
 rw [un_not]
 simp only [isB_f,Bool.not_true,Bool.not_false]
 refine GdW.t ?_
 simp only [eq_pn]
 intro g
 simp only [List.getD_cons_zero,pick_f,condW_false]
 refine LoopW.go (fun st w' => ∃ (i n : Nat) (c : Int) (b m : Nat),st = [fp b,i64 (n : Nat),i64 (n : Nat),i64 (i : Nat)] ∧ i ≤ cuts.length ∧ n ≤ 5 * i ∧ i ≤ 20 ∧ Fs w w' b m ⟨fl (fo n),c,-1,false⟩)
   (fun st _ => match st with | [_,_,_,.int _ i] => cuts.length - i.toNat | _ => 0) ⟨0,0,0,b,m,rfl,Nat.zero_le _,by omega,by omega,hf2⟩ ?_
 rintro st g w6 ⟨i,n,c,b,m,rfl,hi,hn,hi20,hf6⟩
 simp only [List.getD_cons_zero,List.getD_cons_succ]
 have a1 := h1.ext hf6.ext
 rw [lenl_at a1,bin_lss,show decide ((i : Int) < (cuts.length : Nat)) = decide (i < cuts.length) from by rw [decide_eq_decide]; omega]
 simp only [isB_t]
 refine GdW.look (decide (i < 20)) (fun _ J hJ => ?_) fun g => ?_
 · rw [bin_lss,show decide ((i : Int) < 20) = decide (i < 20) from by rw [decide_eq_decide]; omega]; exact hJ
 simp only [List.getD_cons_zero]
 rw [pick_gd_and,condW_b]
 refine ⟨fun hc => ?_,fun _ => hK w6 hf6.ext⟩
 simp only [Bool.and_eq_true,decide_eq_true_eq] at hc
 obtain ⟨hlt,h20⟩ := hc
 obtain ⟨p,hpi⟩ : ∃ p,cuts[i]? = some p := ⟨_,List.getElem?_eq_getElem hlt⟩
 refine ixa_ld a1 (by simp) (x := i64 p) (by simp [hpi]) ?_
 rw [cvt_int]
 obtain ⟨u,hu⟩ : ∃ u : Nat,IntKind.u64.wrap p = (u : Int) := ⟨(IntKind.u64.wrap p).toNat,by rw [IntKind.wrap_u64]; omega⟩
 rw [hu,bin_rem]
 refine ⟨by decide,?_⟩
 have e : ((u : Nat) : Int).tmod 12 = ((u % 12 : Nat) : Int) := by rw [Int.tmod_eq_emod_of_nonneg (by omega)]; omega
 rw [e,cvt_int,wrap_id (by omega) (by omega)]
 refine farm hf6 fun w9 hf9 hc9 => ?_
 have earm : armM ⟨fl (fo n),c,-1,false⟩ ((u % 12 : Nat) : Int) = (⟨fl (fo n),c,((u % 12 : Nat) : Int),false⟩,0) := by unfold armM; rw [if_neg (by omega)]
 rw [earm] at hf9 ⊢
 rw [bin_neq,decide_eq_false (by simp),condW_false]
 refine JoinW.cut (fun st w' => ∃ (L : Nat) (y : Option MF) (c' l' : Int) (d : Bool),st = [i64 (L : Nat)] ∧ L ≤ 5 * (i + 1) ∧ Fs w w' b m ⟨fl (fo L) ++ nx y,c',l',d⟩) ?_ ?_
 · refine LoopW.go (fun st w' => ∃ (k : Nat) (c' l' : Int),st = [i64 ((n + k : Nat)),i64 ((n + k : Nat)),i64 (k : Nat)] ∧ k ≤ 5 ∧ Fs w w' b m ⟨fl (fo (n + k)),c',l',false⟩)
     (fun st _ => match st with | [_,_,.int _ k] => 5 - k.toNat | _ => 0) ⟨0,c,_,rfl,by omega,hf9⟩ ?_
   rintro st g w12 ⟨k,c',l',rfl,hk,hf12⟩
   simp only [List.getD_cons_zero,List.getD_cons_succ]
   rw [bin_lss,condW_dec]
   refine ⟨fun hk5 => ?_,fun hk5 => ⟨n + k,none,c',l',false,rfl,by omega,by rw [show fl (fo (n + k)) ++ nx none = fl (fo (n + k)) from List.append_nil _]; exact hf12⟩⟩
   rw [bin_add,wrap_id (by omega) (by omega)]
   have en : ((n + k : Nat) : Int) + 1 = ((n + (k + 1) : Nat) : Int) := by omega
   rw [en]
   simp only [put_int,put_nil,List.length_cons,List.length_nil,List.set_cons_zero]
   refine ⟨by omega,?_⟩
   have hsv := sv_nat (n + (k + 1)) (by omega)
   refine fsave (l := []) (ser := ((n + (k + 1) : Nat) : Int)) (hT.ext hf12.ext) hf12 (strep_nil' w12 _) (by simp) (by simp) (fun hno => absurd hsv hno) fun _ w14 hf14 hc14 => ?_
   rcases save_once (fo (n + k)) c' l' hsv.len with ⟨c2,l2,e2,_⟩ | ⟨_,y,c2,l2,e2⟩
   · rw [e2] at hf14 ⊢
     rw [bin_neq,decide_eq_false (by simp),condW_false,bin_add,wrap_id (by omega) (by omega)]
     refine ⟨⟨k + 1,c2,l2,rfl,by omega,?_⟩,?_⟩
     · rw [← Nat.add_assoc,fo_succ]
       exact hf14
     · show 5 - ((k : Int) + 1).toNat < 5 - ((k : Int)).toNat
       omega
   · rw [e2] at hf14 ⊢
     rw [bin_neq,decide_eq_true (by simp),condW_true]
     exact ⟨n + k,y,c2,l2,true,rfl,by omega,hf14⟩
 · rintro st g w15 ⟨L,y,c',l',d,rfl,hL,hf15⟩
   simp only [List.getD_cons_zero]
   have a15 := h1.ext hf15.ext
   refine ixa_ld a15 (by simp) (x := i64 p) (by simp [hpi]) ?_
   rw [bslW]
   simp only [put_int,put_nil,List.length_cons,List.length_nil,List.set_cons_zero,List.set_cons_succ]
   refine ⟨by omega,by omega,?_⟩
   have hxa : Ext w15 (w15.alloc (.cells ([n0,p].map i64).toArray 3)) := (by repeat (first | assumption | exact Chg.refl _ _ | refine Chg.drew ?_ | refine Chg.alloc ?_ _ | refine Chg.set ?_ (by first | exact .inl rfl | exact .inr (by omega) | exact .inr (by simp only [size_set,size_alloc,size_drew]; omega) | (left; simp; done)) _ | exact Chg.of_ext (by assumption)))
   refine fcrash (keep := [n0,p]) (hf15.more hxa) (ints_lit [n0,p] w15 (by simp)) fun b2 m2 w17 hf17 => ?_
   obtain ⟨z,ez⟩ := crash_fn [n0,p] (fo L) y c' l' d
   rw [ez] at hf17
   have hf17 := hf17.low (hf15.ext.trans hxa)
   simp only [eq_pn,condW_false]
   refine fload_n (hT.ext hf17.ext) hf17 L (by omega) (fn_file _ _) fun sv w18 hx18 hone => ?_
   simp only [ext_tuple]
   refine ⟨_,rfl,_,rfl,?_⟩
   refine alloc_new fun a w19 ha hz19 hba hx19 => ?_
   refine st_agg_at (l := [i64 (L : Nat),sv]) hba rfl rfl (by simp only [List.all_cons,hone]; rfl) fun w20 hz20 hb20 hc20 => ?_
   have hx1820 : Ext w18 w20 := hx19.new hc20 (by omega)
   rw [bin_neq,show decide ((0 : Int) ≠ 0) = false from by decide]
   simp only [isB_f,Bool.not_false]
   refine GdW.t ?_
   rw [fld_ptr,ld_one]
   refine ⟨i64 (L : Nat),by rw [add_mk,cell_eq,hb20,cellO_some]; rfl,?_⟩
   rw [bin_neq,show decide ((L : Int) ≠ (L : Int)) = false from by simp]
   intro g1
   simp only [List.getD_cons_zero,isB_t]
   refine GdW.f fun g2 => ?_
   refine GdW.t ?_
   simp only [pick_f]
   intro g3
   simp only [List.getD_cons_zero,pick_f,condW_false]
   rw [fld_ptr,ld_one]
   refine ⟨i64 (L : Nat),by rw [add_mk,cell_eq,hb20,cellO_some]; rfl,?_⟩
   refine frecover (hf17.more (hx18.trans hx1820)) fun w27 hf27 hc27 => ?_
   obtain ⟨c3,e3⟩ := recover_fn (fo L) z
   rw [e3] at hf27 ⊢
   rw [bin_neq,decide_eq_false (by simp),condW_false,bin_add,wrap_id (by omega) (by omega)]
   refine ⟨⟨i + 1,L,c3,b2,m2,rfl,hlt,hL,by omega,hf27⟩,?_⟩
   show cuts.length - ((i : Int) + 1).toNat < cuts.length - ((i : Int)).toNat
   omega
end
end Go.Proofs.YtpiaegojabkioaaGreatDoor.Fx

namespace Go.Proofs.YtpiaegojabkioaaGreatDoor
open Go Go.Eng Go.Num Go.RowKit
set_option maxRecDepth 100000
theorem depOk_pos : ∀ {ds : List Str} {prev : Option Str},depOk prev ds = true → ∀ d ∈ ds,0 < d.length
 | [],_,_ => fun d hd => by cases hd
 | x :: ds,prev,h => by
   simp only [depOk,Bool.and_eq_true] at h
   intro d hd
   rcases List.mem_cons.1 hd with rfl | hd
   · have := h.1.1
     simp only [nm15M,Bool.and_eq_true,decide_eq_true_eq] at this
     exact this.1.1
   · exact depOk_pos h.2 d hd
theorem deps_pos {l : List RV} {prev : Option Str} : recsOk prev l = true → ∀ r ∈ l,∀ d ∈ r.deps,0 < d.length := by
 intro h r hr
 induction l generalizing prev with
 | nil => cases hr
 | cons x l ih =>
   simp only [recsOk,Bool.and_eq_true] at h
   rcases List.mem_cons.1 hr with rfl | hr
   · have := h.1.2
     simp only [recOk1,Bool.and_eq_true] at this
     exact depOk_pos this.2
   · exact ih h.2 hr
section
variable [HX]
end
end Go.Proofs.YtpiaegojabkioaaGreatDoor
namespace Go.Proofs.YtpiaegojabkioaaGreatDoor.Fx
open Go Go.Eng Go.Vfs Go.Num Go.RowKit
set_option maxRecDepth 100000
theorem elem_int : ElemT Tryz.prog 23 3 1 8 := ⟨by kernel_rfl,by kernel_rfl,by decide⟩
theorem bool_of (P : Prop) : ∃ e : Bool,(e = true ↔ P) := by
 by_cases h : P
 · exact ⟨true,by simp [h]⟩
 · exact ⟨false,by simp [h]⟩
theorem bool_eq {x y : Bool} {P : Prop} (h : x = true ↔ P) (h' : y = true ↔ P) : x = y := Bool.eq_iff_iff.2 (h.trans h'.symm)
section
variable [HX]
theorem fsave2 {w0 w : World} {b m : Nat} {K : Value → World → Prop} {G : Nat → Prop} {sa sb c n : Int} {la lb : List RV} {cs : List Value} (hT : TabA w) (h : Fs w0 w b m ⟨fl (some (bytesOf sa la)),c,n,false⟩) (hA : Sv sa la)
   (hst : StRepP G w sb lb cs) (hl : lb.length ≤ 1000) (hd0 : goodS sb lb = true → ∀ x ∈ lb,x.deps.length ≤ 1000000)
   (hK : ∀ (code : Int) (sX : Int) (lX : List RV) (y : Option MF) (c' l' : Int) (d : Bool) (w' : World),Fs w0 w' b m ⟨fl (some (bytesOf sX lX)) ++ nx y,c',l',d⟩ → Sv sX lX →
     ((sX = sa ∧ lX = la ∧ code ≠ 0) ∨ (sX = sb ∧ lX = lb ∧ code = 0)) → K (i64 code) w') : callF Tryz.prog 13 [fp b,.agg cs.toArray] w K := by
 refine fsave hT h hst hl hd0 (fun hno code hc w' h' _ => hK code sa la none c n false w' (by rw [show fl (some (bytesOf sa la)) ++ nx none = fl (some (bytesOf sa la)) from List.append_nil _]; exact h') hA (.inl ⟨rfl,rfl,hc⟩)) fun hB w' h' _ => ?_
 rcases save_once (some (bytesOf sa la)) c n hB.len with ⟨c2,l2,e2,_⟩ | ⟨_,y,c2,l2,e2⟩
 · rw [e2] at h' ⊢
   exact hK 0 sb lb none c2 l2 false w' (by rw [show fl (some (bytesOf sb lb)) ++ nx none = fl (some (bytesOf sb lb)) from List.append_nil _]; exact h') hB (.inr ⟨rfl,rfl,rfl⟩)
 · rw [e2] at h' ⊢
   exact hK 5 sa la y c2 l2 true w' h' hA (.inl ⟨rfl,rfl,by decide⟩)
theorem whole_true {T2 : TypeId} {G G' : Nat → Prop} {sa sb : Int} {la lb : List RV} {ca cb : List Value} {v2 : Value} {keep : List Int} {w : World} {K : Value → World → Prop} (hT : TabA w)
   (ha : StRepP G w sa la ca) (hla : la.length ≤ 9223372036854775807) (hda : ∀ x ∈ la,(∀ d ∈ x.deps,0 < d.length) → x.deps.length ≤ 1000000)
   (hb : StRepP G' w sb lb cb) (hlb : lb.length ≤ 9223372036854775807) (hdb : ∀ x ∈ lb,(∀ d ∈ x.deps,0 < d.length) → x.deps.length ≤ 1000000) (h2' : SlAt w T2 v2 keep.length (keep.map i64) ∧ keep.length ≤ 1048576)
   (hK : ∀ w',Ext w w' → K (.bool true) w') : callF Tryz.prog 5 [.agg ca.toArray,.agg cb.toArray,v2] w K := by
 obtain ⟨h2,hl2⟩ := h2'
 refine W5_ok ?_
 unfold W5
 refine box_st ha fun p1 w1 sva ea hA1 hx1 hp1 => ?_
 refine box_st (hb.ext hx1) fun p2 w2 svb eb hB2 hx2 hp2 => ?_
 have hx02 := hx1.trans hx2
 have hA2 := hA1.ext hx2
 refine awake16 (hT.ext hx02) fun w3 hx3 => ?_
 have hx03 := hx02.trans hx3
 have hA3 := hA2.ext hx3
 have hB3 := hB2.ext hx3
 rw [un_not]
 simp only [isB_f,Bool.not_true,Bool.not_false]
 refine GdW.act (!decide (la.length ≤ 200)) (fun w' => Ext w3 w') (fun _ => Chg.refl _ _) (fun _ J hJ => ?_) fun g w6 hx6 => ?_
 · refine hA3.all ?_
   refine few15_p hA3.rep fun w5 hx5 => ?_
   rw [un_not]
   exact hJ w5 hx5
 simp only [List.getD_cons_zero,pick_f,cond_true,isB_f,Bool.not_not]
 have hA6 := hA3.ext hx6
 have hB6 := hB3.ext hx6
 refine GdW.act (!decide (lb.length ≤ 200)) (fun w' => Ext w6 w') (fun _ => Chg.refl _ _) (fun _ J hJ => ?_) fun g w9 hx9 => ?_
 · refine hB6.all ?_
   refine few15_p hB6.rep fun w8 hx8 => ?_
   rw [un_not]
   exact hJ w8 hx8
 simp only [List.getD_cons_zero]
 have hx09 := hx03.trans (hx6.trans hx9)
 have hA9 := hA6.ext hx9
 have hB9 := hB6.ext hx9
 have epk : ∀ (c e : Bool) (Q : Value → Prop),pickW (.bool (!c)) (.bool true) (bif c then .bool (!e) else undef) Q ↔ Q (.bool (!(c && e))) := fun c e Q => by cases c <;> cases e <;> exact Iff.rfl
 rw [epk,condW_b]
 refine ⟨fun _ => awake16 (hT.ext hx09) fun w10 hx10 => hK w10 (hx09.trans hx10),fun hfew => ?_⟩
 have hfew : la.length ≤ 200 ∧ lb.length ≤ 200 := by
   have : (decide (la.length ≤ 200) && decide (lb.length ≤ 200)) = true := by simpa using hfew
   simpa using this
 refine fnew fun b m w11 hf11 => ?_
 have hA11 := hA9.ext hf11.ext
 have hB11 := hB9.ext hf11.ext
 refine hA11.all ?_
 refine fsave (hT.ext (hx09.trans hf11.ext)) hf11 hA11.rep (by omega) (fun hg x hx => hda x hx (deps_pos (goodS_recs hg) x hx)) (fun hno code hc w12 hf12 _ => ?_) fun hSa w12 hf12 _ => ?_
 · rw [bin_neq,decide_eq_true hc,condW_true]
   exact hK w12 (hx09.trans hf12.ext)
 rcases save_once none 0 (-1) hSa.len with ⟨c1,l1,e1,k1⟩ | ⟨hne,_⟩
 rotate_left
 · exact absurd rfl hne
 have k1 := k1 rfl
 subst k1
 rw [show saveM newM (bytesOf sa la) = _ from e1] at hf12 ⊢
 rw [bin_neq,decide_eq_false (by simp),condW_false]
 refine LoopW.go (fun st w' => ∃ k : Nat,st = [i64 (k : Nat)] ∧ k ≤ 5 ∧ Fs w9 w' b m ⟨fl (some (bytesOf sa la)),c1,-1,false⟩)
   (fun st _ => match st with | [.int _ k] => 5 - k.toNat | _ => 0) ⟨0,rfl,by omega,hf12⟩ ?_
 rintro st g w14 ⟨k,rfl,hk5,hf14⟩
 simp only [List.getD_cons_zero]
 rw [bin_lss,condW_dec]
 refine ⟨fun hlt => ?_,fun _ => hK w14 (hx09.trans hf14.ext)⟩
 have hlt : k < 5 := by omega
 have hA14 := hA9.ext hf14.ext
 have hB14 := hB9.ext hf14.ext
 refine fclone hf14 fun b' m' w15 hg15 => ?_
 simp only [eq_pn,isB_f,Bool.not_false]
 refine GdW.t ?_
 refine farm hg15 fun w17 hg17 _ => ?_
 have earm : armM ⟨fl (some (bytesOf sa la)),c1,-1,false⟩ ((k : Nat) : Int) = (⟨fl (some (bytesOf sa la)),c1,((k : Nat) : Int),false⟩,0) := by unfold armM; rw [if_neg (by omega)]
 rw [earm] at hg17 ⊢
 rw [bin_neq,decide_eq_false (by simp)]
 intro g1
 simp only [List.getD_cons_zero,pick_f,condW_false]
 have hB17 := hB14.ext hg17.ext
 refine hB17.all ?_
 refine fsave2 (hT.ext (hx09.trans (hf14.ext.trans hg17.ext))) hg17 hSa hB17.rep (by omega) (fun hg x hx => hdb x hx (deps_pos (goodS_recs hg) x hx)) fun code sX lX y c' l' d w19 hg19 hSX hcode => ?_
 rw [bin_mul]
 generalize hkk : IntKind.i64.wrap (((k : Nat) : Int) * 30) = k30
 rw [bslW]
 simp only [put_int,put_nil,List.length_cons,List.length_nil,List.set_cons_zero]
 refine ⟨by omega,?_⟩
 have hxa : Ext w19 (w19.alloc (.cells ([k30].map i64).toArray 3)) := (by repeat (first | assumption | exact Chg.refl _ _ | refine Chg.drew ?_ | refine Chg.alloc ?_ _ | refine Chg.set ?_ (by first | exact .inl rfl | exact .inr (by omega) | exact .inr (by simp only [size_set,size_alloc,size_drew]; omega) | (left; simp; done)) _ | exact Chg.of_ext (by assumption)))
 have hown := own_new (w := w19) (base := w19.heap.size) (e := 3) (size := 1) (n := 1) (cs := [i64 k30]) (Nat.le_refl _) (by simp) (by omega)
 have hx019 := hx09.trans (hf14.ext.trans hg19.ext)
 refine append_own2 elem_int hown ((h2.ext hx019).ext hxa) (by simp) (fun u hu => by obtain ⟨a,_,rfl⟩ := List.mem_map.1 hu; rfl) (by omega) (by omega) (by show w19.heap.size ≤ (w19.alloc _).heap.size; simp) ?_
 intro v' w21 hown' hc21 _
 have hx1921 : Ext w19 w21 := hxa.then hc21 fun k hk e => by
   simp only [Value.ownBlock,Option.some.injEq] at e
   omega
 have hsl : SlAt w21 3 v' (k30 :: keep).length ((k30 :: keep).map i64) := by
   have := hown'.sl
   simpa [Nat.add_comm] using this
 refine fcrash (keep := k30 :: keep) (hg19.more hx1921) hsl fun b2 m2 w22 hh22 => ?_
 obtain ⟨z,ez⟩ := crash_fn (k30 :: keep) (some (bytesOf sX lX)) y c' l' d
 rw [ez] at hh22
 have hx1422 : Ext w14 w22 := hg19.ext.trans (hx1921.trans hh22.ext)
 have hx022 := hx09.trans (hf14.ext.trans hx1422)
 refine fload1 (hT.ext hx022) hh22 hSX (fn_file _ _) rfl fun cs w23 hx23 hst => ?_
 simp only [ext_tuple]
 refine ⟨_,rfl,_,rfl,?_⟩
 obtain ⟨sv,T5,L5,rfl,hS5,hin5,hR5⟩ := id hst
 have hone : [i64 sX,sv].all one1 = true := by obtain ⟨q,c,e,_⟩ := hS5.shape; rw [e]; rfl
 refine alloc_new fun t12 w24 ht12 hz24 hba24 hx24 => ?_
 refine st_agg_at (l := [i64 sX,sv]) hba24 rfl rfl hone fun w25 hz25 hb25 hc25 => ?_
 have hx2325 : Ext w23 w25 := hx24.new hc25 (by omega)
 have hst25 := hst.ext hx2325
 have hx1425 := hx1422.trans (hx23.trans hx2325)
 have hA25 := hA14.ext hx1425
 have hB25 := hB14.ext hx1425
 obtain ⟨x1,hx1e⟩ := bool_of (sX = sa ∧ lX = la)
 obtain ⟨x2,hx2e⟩ := bool_of (sX = sb ∧ lX = lb)
 have f1 : (!x1 && !x2) = false := by
   rcases hcode with ⟨e1,e2,_⟩ | ⟨e1,e2,_⟩
   · rw [hx1e.2 ⟨e1,e2⟩]; rfl
   · rw [hx2e.2 ⟨e1,e2⟩]; simp
 have f2 : (decide (code = 0) && !x2) = false := by
   rcases hcode with ⟨_,_,e⟩ | ⟨e1,e2,_⟩
   · rw [decide_eq_false e]; rfl
   · rw [hx2e.2 ⟨e1,e2⟩]; simp
 have hsame : ∀ {p : Nat} {st : Int} {lt : List RV} {svt : Value} {GG : Nat → Prop} {wx : World} {x : Bool} {KK : Value → World → Prop},wx.heap[t12]? = some (.cells [i64 sX,sv].toArray StaT (0,0)) → StOwn w22.heap.size wx sX lX [i64 sX,sv] → StB GG wx p st lt svt → (x = true ↔ sX = st ∧ lX = lt) → (∀ wy,Ext wx wy → KK (.bool x) wy) →
     ldW true 2 (.pointer (some ⟨t12,0,none⟩)) wx fun t65 => ldW true 2 (.pointer (some ⟨p,0,none⟩)) wx fun t66 => callF Tryz.prog 18 [t65,t66] wx KK := by
   intro p st lt svt GG wx x KK h12 hown hpb hxx hKK
   refine ld_all h12 rfl ?_
   refine hpb.all ?_
   refine same15_ref hown.rep hpb.rep ?_ fun bb wy hbb hxy => ?_
   · obtain ⟨sv',T',L',e,hS,_⟩ := hown
     rcases hcode with ⟨_,e2,_⟩ | ⟨_,e2,_⟩ <;> rw [e2] <;> omega
   · rw [bool_eq hbb hxx]
     exact hKK wy hxy
 rw [bin_neq,show decide ((0 : Int) ≠ 0) = false from by decide]
 simp only [isB_f,Bool.not_false]
 refine GdW.act (!x1) (fun w' => Ext w25 w') (fun e => by cases e) (fun _ J hJ => ?_) fun g2 w28 hx28 => ?_
 · refine hsame hb25 hst25 hA25 hx1e fun wy hy => ?_
   rw [un_not]
   exact hJ wy hy
 simp only [List.getD_cons_zero,cond_true,isB_t]
 have hb28 := hx28.at hb25 id
 have hst28 := hst25.ext hx28
 refine GdW.act (!x2) (fun w' => Ext w28 w') (fun _ => Chg.refl _ _) (fun _ J hJ => ?_) fun g3 w31 hx31 => ?_
 · refine hsame hb28 hst28 (hB25.ext hx28) hx2e fun wy hy => ?_
   rw [un_not]
   exact hJ wy hy
 simp only [List.getD_cons_zero]
 refine GdW.look (!x1 && !x2) (fun _ J hJ => ?_) fun g4 => ?_
 · rw [pick_gd_and]; exact hJ
 rw [f1]
 simp only [List.getD_cons_zero,cond_true,pick_f,isB_f,Bool.not_false]
 have hb31 := hx31.at hb28 id
 have hst31 := hst28.ext hx31
 have hx2531 := hx28.trans hx31
 refine GdW.look (decide (code = 0)) (fun _ J hJ => ?_) fun g5 => ?_
 · rw [bin_eql]; exact hJ
 simp only [List.getD_cons_zero,cond_true,isB_t]
 refine GdW.act (!x2) (fun w' => Ext w31 w') (fun _ => Chg.refl _ _) (fun _ J hJ => ?_) fun g6 w38 hx38 => ?_
 · refine hsame hb31 hst31 (hB25.ext hx2531) hx2e fun wy hy => ?_
   rw [un_not]
   exact hJ wy hy
 simp only [List.getD_cons_zero]
 refine GdW.look (decide (code = 0) && !x2) (fun _ J hJ => ?_) fun g7 => ?_
 · rw [pick_gd_and]; exact hJ
 rw [f2]
 simp only [List.getD_cons_zero,cond_true,pick_f,condW_false]
 have hx2538 := hx2531.trans hx38
 have hh38 := hh22.more (hx23.trans (hx2325.trans hx2538))
 refine frecover hh38 fun w41 hh41 hc41 => ?_
 obtain ⟨c3,e3⟩ := recover_fn (some (bytesOf sX lX)) z
 rw [e3] at hh41 ⊢
 rw [bin_neq,decide_eq_false (by simp),condW_false]
 have hlt2 : ∀ k,M2 b2 m2 k → k < w22.heap.size := by
   rintro k (rfl | rfl)
   · exact hh22.fs.lt
   · exact hh22.fs.mlt
 have hst41 : StOwn w22.heap.size w41 sX lX [i64 sX,sv] := (hst25.ext hx2538).chg hc41 hlt2
 have s23 := hx23.size
 have hb41 : w41.heap[t12]? = some (.cells [i64 sX,sv].toArray StaT (0,0)) := hc41.at (hx2538.at hb25 id) fun e => by have := hlt2 _ e; omega
 have hx1441 : Ext w14 w41 := hg19.ext.trans (hx1921.trans hh41.ext)
 have hx2241 : Ext w21 w41 := hh41.ext
 refine fload1 (hT.ext (hx09.trans (hf14.ext.trans hx1441))) hh41 hSX (by rw [fl_lk]; rfl) rfl fun cs2 w42 hx42 hst2 => ?_
 simp only [ext_tuple]
 refine ⟨_,rfl,_,rfl,?_⟩
 obtain ⟨sv2,T6,L6,rfl,hS6,hin6,hR6⟩ := id hst2
 have hone2 : [i64 sX,sv2].all one1 = true := by obtain ⟨q,c,e,_⟩ := hS6.shape; rw [e]; rfl
 refine alloc_new fun t14 w43 ht14 hz43 hba43 hx43 => ?_
 refine st_agg_at (l := [i64 sX,sv2]) hba43 rfl rfl hone2 fun w44 hz44 hb44 hc44 => ?_
 have hx4244 : Ext w42 w44 := hx43.new hc44 (by omega)
 have hx4144 := hx42.trans hx4244
 rw [bin_neq,show decide ((0 : Int) ≠ 0) = false from by decide]
 simp only [isB_f,Bool.not_false]
 refine GdW.act false (fun w' => Ext w44 w') (fun e => by cases e) (fun _ J hJ => ?_) fun g8 w47 hx47 => ?_
 · refine ld_all hb44 rfl ?_
   refine ld_all (hx4144.at hb41 id) rfl ?_
   refine same15_ref (hst2.ext hx4244).rep (hst41.ext hx4144).rep ?_ fun bb wy hbb hy => ?_
   · rcases hcode with ⟨_,e2,_⟩ | ⟨_,e2,_⟩ <;> rw [e2] <;> omega
   · rw [hbb.2 ⟨rfl,rfl⟩,un_not]
     exact hJ wy hy
 simp only [List.getD_cons_zero,cond_true,pick_f,isB_f,Bool.not_false]
 have hx4147 := hx4144.trans hx47
 have hh47 := hh41.more hx4147
 refine GdW.act false (fun w' => Ext w47 w') (fun e => by cases e) (fun _ J hJ => ?_) fun g9 w50 hx50 => ?_
 · refine paths_fs hh47.fs hh47.ok fun pv w49 hpv hx49 => ?_
   rw [lenl_at hpv,bin_neq]
   exact hJ w49 hx49
 simp only [List.getD_cons_zero,cond_true,pick_f,condW_false]
 rw [bin_add,wrap_id (by omega) (by omega)]
 refine ⟨⟨k + 1,rfl,hlt,hf14.more (hx1441.trans (hx4147.trans hx50))⟩,?_⟩
 show 5 - ((k : Int) + 1).toNat < 5 - ((k : Int)).toNat
 omega
end
end Go.Proofs.YtpiaegojabkioaaGreatDoor.Fx
namespace Go.Proofs.YtpiaegojabkioaaGreatDoor
open Go Go.RowKit Go.Eng Go.Deep Go.ChangeShapes
set_option maxRecDepth 100000
theorem bulk_mem {H : Type} : ∀ (l : List (DataW H)) (d : DataW H),d ∈ l → Rows.uptoBulk d ≤ Rows.uptoBulkAll l
 | [],d,h => by cases h
 | x :: r,d,h => by
   rcases List.mem_cons.1 h with rfl | h
   · simp only [Rows.uptoBulkAll]; omega
   · have := bulk_mem r d h; simp only [Rows.uptoBulkAll]; omega
theorem bulk_lits {H : Type} : ∀ (l : List Str),(∀ s ∈ l,0 < s.length) → l.length * 2 ≤ Rows.uptoBulkAll (l.map fun s => (DataW.lit (.string s) : DataW H))
 | [],_ => Nat.zero_le _
 | s :: l,h => by
   have h1 := bulk_lits (H := H) l fun x hx => h x (List.mem_cons_of_mem _ hx)
   have h2 := h s List.mem_cons_self
   simp only [List.map_cons,Rows.uptoBulkAll,Rows.uptoBulk,List.length_cons]
   omega
section
variable {H : Type} {enc : TypeId × Value → H} {w : World} {base : Nat} {spare : Nat → Bool} {held : Bool}
theorem open_textsb {P : Program} {t e : TypeId} {fuel : Nat} {v : Value} {d : DataW H} {ps : List MemPlace} (ht : P.underlying t = some (.slice e)) (he : P.underlying e = some .string) (hk : P.cellsOf e = 1) (h : DataW.trod enc P w base spare held fuel t [v] = some (d,ps)) :
   ∃ (T : TypeId) (l : List Str),SlAt w T v l.length (l.map str) ∧ l.length ≤ 9223372036854775807 ∧ (∀ s ∈ l,s.length ≤ 9223372036854775807) ∧ ((l = [] ∧ d = .nil) ∨ ∃ rest,d = .slice (l.map fun s => DataW.lit (.string s)) rest) := by
 obtain ⟨p,n,c,T,m,f,D,Pl,rfl,hs,hf,hd⟩ := open_rows ht hk (by omega) h
 have hn := open_len ht h
 have hex : ∀ i,i < n → ∃ b : Str,f i = [str b] ∧ b.length ≤ 9223372036854775807 ∧ D i = .lit (.string b) := by
   intro i hi
   obtain ⟨s,hx,hz,hw⟩ := DataW.trod_string he (hf i hi).2
   refine ⟨s.data.toList,by rw [hx]; simp [ofL],?_,congrArg Prod.fst hz⟩
   unfold maxLen at hw
   simpa using hw
 obtain ⟨g,hg⟩ := choose_lt hex
 have hfl : ((List.range n).map f).flatten = ((List.range n).map g).map str := by
   have : (List.range n).map f = (List.range n).map fun i => [str (g i)] := List.map_congr_left fun i hi => (hg i (List.mem_range.1 hi)).1
   rw [this]
   simp only [List.map_map]
   generalize List.range n = L
   induction L with
   | nil => rfl
   | cons a L ih => simp only [List.map_cons,List.flatten_cons,ih,Function.comp_apply]; rfl
 rw [hfl] at hs
 refine ⟨T,(List.range n).map g,by simpa using hs,by simpa using hn,(fun s hs => ?_),?_⟩
 · obtain ⟨i,hi,rfl⟩ := List.mem_map.1 hs
   exact (hg i (List.mem_range.1 hi)).2.1
 · rcases hd with ⟨rfl,hd⟩ | ⟨rest,hd⟩
   · exact .inl ⟨rfl,hd⟩
   · refine .inr ⟨rest,?_⟩
     rw [hd,List.map_map]
     congr 1
     exact List.map_congr_left fun i hi => (hg i (List.mem_range.1 hi)).2.2
theorem open_recb {fuel : Nat} {cs : List Value} {d : DataW H} {ps : List MemPlace} (h : DataW.trod enc Tryz.prog w base spare held fuel RT cs = some (d,ps)) (hw : Rows.uptoBulk d ≤ 1048576) :
   ∃ r : RV,RRepP (fun k => k < w.heap.size) w r cs ∧ ((∀ s ∈ r.deps,0 < s.length) → r.deps.length ≤ 1000000) := by
 obtain ⟨xs,n,hn,hx,hl,hlen,hf⟩ := DataW.trod_struct Tryz.underlying69 h
 have hl9 : cs.length = 9 := hl.trans (show Tryz.prog.cellsOf RT = 9 by kernel_rfl)
 have k1 : Tryz.prog.cellsOf 9 = 1 := by kernel_rfl
 have k5 : Tryz.prog.cellsOf VT = 5 := by kernel_rfl
 have k0 : Tryz.prog.cellsOf 22 = 1 := by kernel_rfl
 match cs,hl9 with
 | [c0,c1,c2,c3,c4,c5,c6,c7,c8],_ =>
 have f0 : DataW.trod enc Tryz.prog w base spare held n 9 (([c0,c1,c2,c3,c4,c5,c6,c7,c8].drop 0).take (Tryz.prog.cellsOf 9)) = xs[0]? := hf 0 _ rfl
 rw [k1] at f0
 have f0 : DataW.trod enc Tryz.prog w base spare held n 9 [c0] = xs[0]? := f0
 have f1 : DataW.trod enc Tryz.prog w base spare held n 9 (([c0,c1,c2,c3,c4,c5,c6,c7,c8].drop 1).take (Tryz.prog.cellsOf 9)) = xs[1]? := hf 1 _ rfl
 rw [k1] at f1
 have f1 : DataW.trod enc Tryz.prog w base spare held n 9 [c1] = xs[1]? := f1
 have f2 : DataW.trod enc Tryz.prog w base spare held n 9 (([c0,c1,c2,c3,c4,c5,c6,c7,c8].drop 2).take (Tryz.prog.cellsOf 9)) = xs[2]? := hf 2 _ rfl
 rw [k1] at f2
 have f2 : DataW.trod enc Tryz.prog w base spare held n 9 [c2] = xs[2]? := f2
 have f3 : DataW.trod enc Tryz.prog w base spare held n VT (([c0,c1,c2,c3,c4,c5,c6,c7,c8].drop 3).take (Tryz.prog.cellsOf VT)) = xs[3]? := hf 3 _ rfl
 rw [k5] at f3
 have f3 : DataW.trod enc Tryz.prog w base spare held n VT [c3,c4,c5,c6,c7] = xs[3]? := f3
 have f4 : DataW.trod enc Tryz.prog w base spare held n 22 (([c0,c1,c2,c3,c4,c5,c6,c7,c8].drop 8).take (Tryz.prog.cellsOf 22)) = xs[4]? := hf 4 _ rfl
 rw [k0] at f4
 have f4 : DataW.trod enc Tryz.prog w base spare held n 22 [c8] = xs[4]? := f4
 have hlen : xs.length = 5 := hlen
 match xs,hlen with
 | [y0,y1,y2,y3,y4],_ =>
 simp only [List.getElem?_cons_zero,List.getElem?_cons_succ] at f0 f1 f2 f3 f4
 obtain ⟨a0,h0,z0,w0⟩ := DataW.trod_string Tryz.underlying9 f0
 obtain ⟨a1,h1,z1,w1⟩ := DataW.trod_string Tryz.underlying9 f1
 obtain ⟨a2,h2,z2,w2⟩ := DataW.trod_string Tryz.underlying9 f2
 obtain ⟨v,hv⟩ := open_val _ n _ y3.1 y3.2 (Nat.lt_succ_self _) f3
 obtain ⟨T4,ks,h4,l4,b4,d4⟩ := open_textsb Tryz.underlying22 Tryz.underlying9 k1 f4
 cases h0; cases h1; cases h2
 unfold maxLen at w0 w1 w2
 have ea : ∀ a : ByteArray,(Value.string a) = str a.data.toList := fun a => by simp [ofL]
 refine ⟨⟨a0.data.toList,a1.data.toList,a2.data.toList,v,ks⟩,⟨_,c8,T4,by rw [ea a0,ea a1,ea a2]; rfl,vrep_lt hv,h4,slat_lt h4,⟨by simpa using w0,by simpa using w1,by simpa using w2,l4,b4⟩⟩,fun hpos => ?_⟩
 show ks.length ≤ 1000000
 have ed : d = .agg [y0.1,y1.1,y2.1,y3.1,y4.1] := by cases hx; rfl
 rw [ed] at hw
 rcases d4 with ⟨rfl,_⟩ | ⟨rest,e4⟩
 · simp
 have h2 := bulk_lits (H := H) ks hpos
 have h3 := bulk_mem [y0.1,y1.1,y2.1,y3.1,y4.1] y4.1 (by simp)
 rw [e4] at h3
 rw [e4] at hw
 simp only [Rows.uptoBulk] at hw h3
 omega
theorem open_stb {v : Value} {d : DataW H} {ps : List MemPlace} {r : Reach} {b0 : Nat} (hval : Value.okWide Tryz.prog w r b0 StaT v) (h : DataW.Trod enc Tryz.prog w base spare held StaT v d ps) (hw : Rows.uptoBulk d ≤ 1048576) :
   ∃ (ser : Int) (l : List RV) (cs : List Value),v = .agg cs.toArray ∧ StRepP (fun k => k < w.heap.size) w ser l cs ∧ l.length ≤ 9223372036854775807 ∧ ∀ x ∈ l,(∀ s ∈ x.deps,0 < s.length) → x.deps.length ≤ 1000000 := by
 obtain ⟨fuel,h⟩ := h
 obtain ⟨xs,n,hn,hx,hl,hlen,hf⟩ := DataW.trod_struct Tryz.underlying38 h
 have hl2 : v.cells.toList.length = 2 := hl.trans (show Tryz.prog.cellsOf StaT = 2 by kernel_rfl)
 have k1 : Tryz.prog.cellsOf 3 = 1 := by kernel_rfl
 have k2 : Tryz.prog.cellsOf 36 = 1 := by kernel_rfl
 have k9 : Tryz.prog.cellsOf RT = 9 := by kernel_rfl
 cases v with
 | agg arr =>
   obtain ⟨cs⟩ := arr
   simp only [Value.cells] at hl2 hf
   match cs,hl2 with
   | [c0,c1],_ =>
   have f0 : DataW.trod enc Tryz.prog w base spare held n 3 (([c0,c1].drop 0).take (Tryz.prog.cellsOf 3)) = xs[0]? := hf 0 _ rfl
   rw [k1] at f0
   have f0 : DataW.trod enc Tryz.prog w base spare held n 3 [c0] = xs[0]? := f0
   have f1 : DataW.trod enc Tryz.prog w base spare held n 36 (([c0,c1].drop 1).take (Tryz.prog.cellsOf 36)) = xs[1]? := hf 1 _ rfl
   rw [k2] at f1
   have f1 : DataW.trod enc Tryz.prog w base spare held n 36 [c1] = xs[1]? := f1
   have hlen : xs.length = 2 := hlen
   match xs,hlen with
   | [y0,y1],_ =>
   simp only [List.getElem?_cons_zero,List.getElem?_cons_succ] at f0 f1
   obtain ⟨a0,h0,z0,w0⟩ := DataW.trod_int Tryz.underlying3 f0
   obtain ⟨p,m,c,T3,m3,f,D,Pl,rfl,h3,hel,hd⟩ := open_rows (k := 9) Tryz.underlying36 k9 (by omega) f1
   have l3 := open_len Tryz.underlying36 f1
   cases h0
   have ed : d = .agg [y0.1,y1.1] := by cases hx; rfl
   rw [ed] at hw
   have each : ∀ i,i < m → ∃ r : RV,RRepP (fun k => k < w.heap.size) w r (f i) ∧ ((∀ s ∈ r.deps,0 < s.length) → r.deps.length ≤ 1000000) := fun i hi => by
     refine open_recb (hel i hi).2 ?_
     rcases hd with ⟨e,_⟩ | ⟨rest,e⟩
     · omega
     · have hmem : D i ∈ (List.range m).map D := List.mem_map.2 ⟨i,List.mem_range.2 hi,rfl⟩
       have h1 := bulk_mem _ _ hmem
       have h2 := bulk_mem [y0.1,y1.1] y1.1 (by simp)
       rw [e] at h2 hw
       simp only [Rows.uptoBulk] at h2 hw
       omega
   obtain ⟨X,hX⟩ := choose_lt each
   have hreps : RRepsP (fun k => k < w.heap.size) w ((List.range m).map X) ((List.range m).map f).flatten := rreps_map _ fun i hi => (hX i (List.mem_range.1 hi)).1
   refine ⟨a0,(List.range m).map X,_,rfl,⟨_,T3,_,rfl,by simpa using h3,hreps⟩,by simpa using l3,fun x hx => ?_⟩
   obtain ⟨i,hi,rfl⟩ := List.mem_map.1 hx
   exact (hX i (List.mem_range.1 hi)).2
 | _ => simp [Value.cells] at hl2
end
theorem handed_upto {H : Type} {enc : TypeId × Value → H} {a : Assume} {C : Checked} {os : Os} {f : FuncId} {fn : Func} {s : OpenSpec} {k : (H : Type) → List (DataW H) → Bool} (hk : s.cond = some k) {F : Stop.Interp} {conds : List PathCond} {apart fresh handsOn again : Bool} {X : World → Array Value → Prop}
   (hX : ∀ (w w' : World) (args : Array Value),w.heap = w'.heap → X w args → X w' args)
   (own : ownKnob C.prog.godebug = none) (started : os.Started) (noInit : C.prog.inits.idxOf? f = none) (hfn : C.prog.funcs[f]? = some fn)
   (witness : ∃ (w : World) (tape : Tape) (i : Input),w.os = os ∧ (w.forCall tape i).Shaped C.prog ∧ i.vars = [] ∧ Input.okWide C.prog (w.forCall tape i) .any w.heap.size f i ∧
     ((s.pre enc C.prog fn conds apart (w.forCall tape i).memory i.args ∧ X (w.forCall tape i).memory i.args) ∧ sizedMet enc C.prog fn s apart (w.forCall tape i).memory i.args) ∧ a.holds C.prog (lone (Frame.enter C.prog f i.args .normal) [] (w.forCall tape i)))
   (contract : ∀ (W : World) (base : Nat) (args : Array Value) (ds gs : List (DataW H)) (before : List MemPlace),
     (∀ (j : Nat) t v,fn.params[j]? = some t → args[j]? = some v → Value.okWide C.prog W .any base t v) →
     DataW.Whole enc C.prog fn.params.toList s.vars apart W args.toList ds gs before → k H (ds ++ gs) = true → X W args →
     Calls C.prog f args W fun e W' => ∃ v,e = .returned v ∧ (s.at F).post enc C.prog fn apart fresh handsOn again W args v W') :
   ReturnsInHanded a C os f .any (fun w args => (s.pre enc C.prog fn conds apart w args ∧ X w args) ∧ sizedMet enc C.prog fn s apart w args) ((s.at F).post enc C.prog fn apart fresh handsOn again) := by
 refine returnsInHanded_of_calls own started noInit witness ?_
 intro w tape i _ _ _ hok hpre hholds
 obtain ⟨_,_,_,fn',hfn',_,_,_,_,hval⟩ := hok
 have e : fn' = fn := Option.some.inj (hfn'.symm.trans hfn)
 subst e
 obtain ⟨⟨hp0,hx⟩,hz⟩ := hpre
 obtain ⟨ds,gs,before,hw,_,hkk⟩ := (OpenSpec.pre_some hk conds apart _ _).1 hp0
 have hw' := DataW.Whole.of_heap (w' := w.forCall tape i) (by rfl) hw
 refine (contract (w.forCall tape i) w.heap.size i.args ds gs before hval hw' hkk (hX _ _ _ (by rfl) hx)).mono fun e W' ⟨v,he,hp⟩ => ?_
 subst he
 exact ChangeSpec.post_blind hp
theorem witness_upto {H : Type} {enc : TypeId × Value → H} {C : Checked} {os : Os} {f : FuncId} {fn : Func} {s : OpenSpec} {k : (H : Type) → List (DataW H) → Bool} (hk : s.cond = some k) {apart : Bool} {X : World → Array Value → Prop} (w0 : World) (args : Array Value) (fuel : Nat) (hos : w0.os = os)
   (hv : (w0.forCall (fun _ _ => 0) ⟨#[],args,[]⟩).variablesB C.prog = true)
   (hr : ((w0.forCall (fun _ _ => 0) ⟨#[],args,[]⟩).heap.toList.drop C.prog.globals.size).take ((begin C.prog (fun _ _ => 0) default).world.heap.size - C.prog.globals.size) =
     (begin C.prog (fun _ _ => 0) default).world.heap.toList.drop C.prog.globals.size)
   (hok : Input.okWideB C.prog (w0.forCall (fun _ _ => 0) ⟨#[],args,[]⟩) f ⟨#[],args,[]⟩ = true)
   {x : List (DataW H) × List (DataW H) × List MemPlace} (hx : DataW.whole enc C.prog (w0.forCall (fun _ _ => 0) ⟨#[],args,[]⟩).memory fn.params.toList s.vars apart args.toList fuel = some x)
   (hkk : k H (x.1 ++ x.2.1) = true)
   (hsz : s.bare.sizedB enc C.prog fn apart (w0.forCall (fun _ _ => 0) ⟨#[],args,[]⟩).memory args fuel = true)
   (hxx : X (w0.forCall (fun _ _ => 0) ⟨#[],args,[]⟩).memory args) :
   ∃ (w : World) (tape : Tape) (i : Input),w.os = os ∧ (w.forCall tape i).Shaped C.prog ∧ i.vars = [] ∧ Input.okWide C.prog (w.forCall tape i) .any w.heap.size f i ∧
     ((s.pre enc C.prog fn [] apart (w.forCall tape i).memory i.args ∧ X (w.forCall tape i).memory i.args) ∧ sizedMet enc C.prog fn s apart (w.forCall tape i).memory i.args) ∧ ({} : Assume).holds C.prog (lone (Frame.enter C.prog f i.args .normal) [] (w.forCall tape i)) :=
 ⟨w0,fun _ _ => 0,⟨#[],args,[]⟩,hos,World.shaped_of_B hv hr,(Input.okWide_of_okWideB (base := 0) hok).1,(Input.okWide_of_okWideB hok).2,
   ⟨⟨(OpenSpec.pre_some hk [] apart _ _).2 ⟨x.1,x.2.1,x.2.2,DataW.Whole_of_whole hx,rfl,hkk⟩,hxx⟩,sizedMet_of_sizedB hsz⟩,by
   simp only [Assume.holds]
   exact ⟨by simp,by simp,fun _ => Modest.zero,by simp,by simp⟩⟩
end Go.Proofs.YtpiaegojabkioaaGreatDoor
namespace Go.Proofs.YtpiaegojabkioaaGreatDoor
open Go Go.RowKit Go.Eng Go.Deep
set_option maxRecDepth 100000
theorem bulk_pos {H : Type} (d : DataW H) : 1 ≤ Rows.uptoBulk d := by
 cases d with
 | lit l => cases l <;> simp [Rows.uptoBulk]
 | _ => simp [Rows.uptoBulk]
theorem bulk_len {H : Type} : ∀ (l : List (DataW H)),l.length ≤ Rows.uptoBulkAll l
 | [] => Nat.zero_le _
 | d :: l => by
   have h1 := bulk_pos d
   have h2 := bulk_len l
   simp only [Rows.uptoBulkAll,List.length_cons]
   omega
section
variable {H : Type} {enc : TypeId × Value → H} {w : World} {base : Nat} {spare : Nat → Bool} {held : Bool}
theorem open_intsb {v : Value} {d : DataW H} {ps : List MemPlace} {r : Reach} {b0 : Nat} (hval : Value.okWide Tryz.prog w r b0 23 v) (h : DataW.Trod enc Tryz.prog w base spare held 23 v d ps) (hw : Rows.uptoBulk d ≤ 1048576) : ∃ (T : TypeId) (l : List Int),SlAt w T v l.length (l.map i64) ∧ l.length ≤ 1048576 := by
 obtain ⟨fuel,h⟩ := h
 obtain ⟨a,len,cap,rfl⟩ := Go.WideShapes.okWide_slice Tryz.underlying23 hval
 have hone : (Value.slice a len cap).cells.toList = [Value.slice a len cap] := rfl
 rw [hone] at h
 obtain ⟨p,n,c,T,m,f,D,Pl,he,hs,hf,hd⟩ := open_rows Tryz.underlying23 (k := 1) (by kernel_rfl) (by omega) h
 cases he
 have hex : ∀ i,i < len → ∃ b : Int,f i = [i64 b] := by
   intro i hi
   obtain ⟨a,hx,_⟩ := DataW.trod_int Tryz.underlying3 (hf i hi).2
   exact ⟨a,hx⟩
 obtain ⟨g,hg⟩ := Deep.choose_lt hex
 have hfl : ((List.range len).map f).flatten = ((List.range len).map g).map i64 := by
   have : (List.range len).map f = (List.range len).map fun i => [i64 (g i)] := List.map_congr_left fun i hi => hg i (List.mem_range.1 hi)
   rw [this]
   simp only [List.map_map]
   generalize List.range len = L
   induction L with
   | nil => rfl
   | cons a L ih => simp only [List.map_cons,List.flatten_cons,ih,Function.comp_apply]; rfl
 rw [hfl] at hs
 refine ⟨T,(List.range len).map g,by simpa using hs,?_⟩
 rw [List.length_map,List.length_range]
 rcases hd with ⟨e,_⟩ | ⟨rest,e⟩
 · omega
 · rw [e] at hw
   simp only [Rows.uptoBulk] at hw
   have := bulk_len ((List.range len).map D)
   rw [List.length_map,List.length_range] at this
   omega
end
end Go.Proofs.YtpiaegojabkioaaGreatDoor
