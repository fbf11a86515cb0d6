/- One plain sentence: weakest preconditions, contracts and plain laws that the claim rests on, text behind text. Conditions: those that each states. -/
import Derived.Test.YtofhaneggcpdaaaGreatDoorPP2
import Derived.Test.YtofhaneggcpdaaaGreatDoorPP1
set_option linter.all false
set_option linter.unusedSimpArgs false
set_option linter.unusedVariables false
set_option linter.unusedSectionVars false
namespace Go.Syn
open Go Go.Eng Go.Lex
def escs : Str → Bool
 | [] => true
 | [c] => c != 92
 | c :: e :: r => if c = 92 then escs r else escs (e :: r)
theorem escs_cons {c : UInt8} {r : Str} (hc : c ≠ 92) (h : escs r = true) : escs (c :: r) = true := by
 cases r with
 | nil => simp [escs,hc]
 | cons e r => simp only [escs]; rw [if_neg hc]; exact h
theorem noD_escs : ∀ (n : Nat) (t : Str),t.length ≤ n → noD t = true → escs t = true
 | _,[],_,_ => rfl
 | _,[c],_,h => by simp only [noD,Bool.and_eq_true] at h; exact h.1
 | 0,c :: e :: r,h,_ => by simp at h
 | n + 1,c :: e :: r,h,hd => by
   simp only [noD] at hd
   simp only [List.length_cons] at h
   simp only [escs]
   split at hd
   · rename_i hc
     rw [if_pos hc]
     exact noD_escs n r (by omega) hd
   · rename_i hc
     rw [if_neg hc]
     simp only [Bool.and_eq_true] at hd
     exact noD_escs n (e :: r) (by simp only [List.length_cons]; omega) hd.2
theorem take_cons_eq {c c' : UInt8} {r r' : Str} {k : Nat} (h : (c' :: r').take (k + 1) = (c :: r).take (k + 1)) : c' = c ∧ r'.take k = r.take k := by
 simp only [List.take_succ_cons,List.cons.injEq] at h
 exact h
theorem take_drop_eq {r r' : Str} {k j m : Nat} (h : r'.take k = r.take k) (hk : j + m ≤ k) : (r'.drop j).take m = (r.drop j).take m := by
 have e : ∀ s : Str,(s.drop j).take m = ((s.take k).drop j).take m := fun s => by
   rw [List.drop_take,List.take_take,Nat.min_eq_left (by omega)]
 rw [e r',e r,h]
theorem pre_stab {c x x' : UInt8} {r r' : Str} (h : x = x') : preM [36,123] (c :: x :: r) = preM [36,123] (c :: x' :: r') := by
 subst h; simp [preM,List.isPrefixOf]
theorem stab : ∀ (N : Nat) (r r' : Str),r.length ≤ N →
   (∀ d k,textX r d = (k,0) → r'.take k = r.take k → k ≤ r'.length → textX r' d = (k,0)) ∧
   (∀ d k,insX r d = (k,0) → r'.take k = r.take k → k ≤ r'.length → insX r' d = (k,0)) := by
 intro N
 induction N with
 | zero =>
   intro r r' hr
   have : r = [] := List.eq_nil_of_length_eq_zero (by omega)
   subst this
   exact ⟨fun d k h => (by rw [textX_nil] at h; cases h),fun d k h => (by rw [insX_nil] at h; cases h)⟩
 | succ N ih =>
   intro r r' hr
   cases r with
   | nil => exact ih [] r' (by simp)
   | cons c r =>
     simp only [List.length_cons] at hr
     have hr : r.length ≤ N := by omega
     have sh : ∀ {k : Nat},1 ≤ k → r'.take k = (c :: r).take k → k ≤ r'.length → ∃ r2,r' = c :: r2 ∧ r2.take (k - 1) = r.take (k - 1) ∧ k - 1 ≤ r2.length := fun {k} hk ht hl => by
       cases r' with
       | nil => simp at hl; omega
       | cons c' r2 =>
         obtain ⟨j,rfl⟩ : ∃ j,k = j + 1 := ⟨k - 1,by omega⟩
         obtain ⟨rfl,h2⟩ := take_cons_eq ht
         exact ⟨r2,rfl,h2,by simpa using hl⟩
     refine ⟨fun d k h ht hl => ?_,fun d k h ht hl => ?_⟩
     · have hk := ((ins_bra _ (c :: r) (Nat.le_refl _)).1 d k h).2.1
       obtain ⟨r2,rfl,h2,hl2⟩ := sh hk ht hl
       rw [textX_cons] at h ⊢
       simp only [beq_iff_eq] at h ⊢
       split at h
       · rename_i e; rw [if_pos e]; exact h
       rename_i e
       rw [if_neg e]
       split at h
       · cases h
       rename_i e1
       rw [if_neg e1]
       split at h
       · rename_i e2
         rw [if_pos e2]
         cases r with
         | nil => cases h
         | cons x rr =>
           simp only at h
           split at h
           · rename_i e3
             obtain ⟨g1,g2⟩ := add_ok h
             have gk := ((ins_bra _ rr (Nat.le_refl _)).1 d _ g1).2.1
             cases r2 with
             | nil => simp at hl2; omega
             | cons x' rr' =>
               obtain ⟨j,rfl⟩ : ∃ j,k = j + 2 := ⟨k - 2,by omega⟩
               rw [show j + 2 - 1 = j + 1 by omega] at h2 hl2
               obtain ⟨rfl,h3⟩ := take_cons_eq h2
               simp only [if_pos e3]
               have := (ih rr rr' (by simp at hr; omega)).1 d j (by simpa using g1) h3 (by simpa using hl2)
               rw [this]; unfold addM; simp
           · cases h
       rename_i e2
       rw [if_neg e2]
       split at h
       · rename_i e3
         split at h
         · cases h
         rename_i e24
         split at h
         · rename_i e4
           obtain ⟨g1,g2⟩ := add_ok h
           have gk := ((ins_bra _ _ (Nat.le_refl _)).1 d _ g1).2
           have gi := ((ins_bra _ (r.drop 1) (Nat.le_refl _)).2 (d + 1) _ (Prod.ext rfl e4)).1
           cases r with
           | nil => simp [preM] at e3
           | cons x rr =>
             cases r2 with
             | nil => simp at hl2; omega
             | cons x' rr' =>
               obtain ⟨j,rfl⟩ : ∃ j,k = j + 2 := ⟨k - 2,by omega⟩
               rw [show j + 2 - 1 = j + 1 by omega] at h2 hl2
               obtain ⟨rfl,h3⟩ := take_cons_eq h2
               simp only [List.drop_succ_cons,List.drop_zero] at g1 gk gi e4 ⊢
               have hl3 : j ≤ rr'.length := by simpa using hl2
               have hp : preM [36,123] (c :: x' :: rr') = true := by rw [pre_stab (r' := rr) rfl]; exact e3
               have hrr : rr.length ≤ N := by simp at hr; omega
               have hi := (ih rr rr' hrr).2 (d + 1) (insX rr (d + 1)).1 (Prod.ext rfl e4) (by have := take_drop_eq (j := 0) (m := (insX rr (d + 1)).1) h3 (by omega); simpa using this) (by omega)
               rw [if_pos hp,if_neg e24,hi]
               simp only
               have ht := (ih (rr.drop (insX rr (d + 1)).1) (rr'.drop (insX rr (d + 1)).1) (drop_le _ hrr)).1 d _ g1 (take_drop_eq h3 (by omega)) (by rw [List.length_drop]; omega)
               rw [ht]; unfold addM; simp; omega
         · rename_i e4
           injection h with _ h2
           exact absurd h2 e4
       · rename_i e3
         obtain ⟨g1,g2⟩ := add_ok h
         have gk := ((ins_bra _ _ (Nat.le_refl _)).1 d _ g1).2
         have hp : ¬ preM [36,123] (c :: r2) = true := by
           cases r with
           | nil => rw [textX_nil] at g1; exact absurd (congrArg Prod.snd g1) (by simp)
           | cons x rr =>
             cases r2 with
             | nil => simp at hl2; omega
             | cons x' rr' =>
               obtain ⟨j,hj⟩ : ∃ j,k - 1 = j + 1 := ⟨k - 2,by omega⟩
               rw [hj] at h2
               obtain ⟨rfl,_⟩ := take_cons_eq h2
               rw [pre_stab (r' := rr) rfl]; exact e3
         rw [if_neg hp]
         have := (ih r r2 hr).1 d (k - 1) g1 h2 hl2
         rw [this]; unfold addM; simp; omega
     · have hk := ((ins_bra _ (c :: r) (Nat.le_refl _)).2 d k h).1.1
       obtain ⟨r2,rfl,h2,hl2⟩ := sh hk ht hl
       rw [insX_cons] at h ⊢
       simp only [beq_iff_eq] at h ⊢
       split at h
       · rename_i e; rw [if_pos e]; exact h
       rename_i e
       rw [if_neg e]
       split at h
       · cases h
       rename_i e1
       rw [if_neg e1]
       split at h
       · rename_i e2
         rw [if_pos e2]
         split at h
         · cases h
         rename_i e24
         rw [if_neg e24]
         split at h
         · rename_i e4
           obtain ⟨g1,g2⟩ := add_ok h
           have gk := ((ins_bra _ _ (Nat.le_refl _)).2 d _ g1).1
           have hi := (ih r r2 hr).2 (d + 1) (insX r (d + 1)).1 (Prod.ext rfl e4) (by have := take_drop_eq (j := 0) (m := (insX r (d + 1)).1) h2 (by omega); simpa using this) (by omega)
           rw [hi]
           simp only [if_true]
           have ht := (ih (r.drop (insX r (d + 1)).1) (r2.drop (insX r (d + 1)).1) (drop_le _ hr)).2 d _ g1 (take_drop_eq h2 (by omega)) (by rw [List.length_drop]; omega)
           rw [ht]; unfold addM; simp; omega
         · rename_i e4
           injection h with _ h2
           exact absurd h2 e4
       rename_i e2
       rw [if_neg e2]
       split at h
       · rename_i e3
         rw [if_pos e3]
         split at h
         · rename_i e4
           obtain ⟨g1,g2⟩ := add_ok h
           have gk := ((ins_bra _ _ (Nat.le_refl _)).2 d _ g1).1
           have hi := (ih r r2 hr).1 d (textX r d).1 (Prod.ext rfl e4) (by have := take_drop_eq (j := 0) (m := (textX r d).1) h2 (by omega); simpa using this) (by omega)
           rw [hi]
           simp only [if_true]
           have ht := (ih (r.drop (textX r d).1) (r2.drop (textX r d).1) (drop_le _ hr)).2 d _ g1 (take_drop_eq h2 (by omega)) (by rw [List.length_drop]; omega)
           rw [ht]; unfold addM; simp; omega
         · rename_i e4
           injection h with _ h2
           exact absurd h2 e4
       · rename_i e3
         rw [if_neg e3]
         obtain ⟨g1,g2⟩ := add_ok h
         have := (ih r r2 hr).2 d (k - 1) g1 h2 hl2
         rw [this]; unfold addM; simp; omega
def Scd (t : Str) : Prop := ∃ d,textX (t ++ [34]) d = (t.length + 1,0)
theorem scd_text {r : Str} {d k : Nat} (h : textX r d = (k,0)) (hl : ∀ b,r[k - 1]? = some b → b = 34) : Scd (r.take (k - 1)) := by
 obtain ⟨_,h1,h2⟩ := (ins_bra _ r (Nat.le_refl _)).1 d k h
 obtain ⟨j,rfl⟩ : ∃ j,k = j + 1 := ⟨k - 1,by omega⟩
 rw [Nat.add_sub_cancel] at hl ⊢
 have e1 : (r.take j).length = j := by rw [List.length_take]; omega
 have hlt : j < r.length := by omega
 have e2 : r.take j ++ [34] = r.take (j + 1) := by
   have := hl _ (List.getElem?_eq_getElem hlt)
   rw [List.take_add_one,List.getElem?_eq_getElem hlt,this]
   rfl
 refine ⟨d,?_⟩
 rw [e2,e1]
 exact (stab _ r (r.take (j + 1)) (Nat.le_refl _)).1 d (j + 1) h (by rw [List.take_take,Nat.min_self]) (by rw [List.length_take]; omega)
theorem text_end : ∀ (N : Nat) (r : Str) (d k : Nat),r.length ≤ N → textX r d = (k,0) → r[k - 1]? = some 34
 | 0,r,d,k,hr,h => by
   have : r = [] := List.eq_nil_of_length_eq_zero (by omega)
   subst this
   rw [textX_nil] at h; cases h
 | N + 1,[],d,k,_,h => by rw [textX_nil] at h; cases h
 | N + 1,c :: r,d,k,hr,h => by
   simp only [List.length_cons] at hr
   have hr : r.length ≤ N := by omega
   rw [textX_cons] at h
   simp only [beq_iff_eq] at h
   split at h
   · rename_i e
     injection h with h1 _
     subst h1 e
     rfl
   split at h
   · cases h
   split at h
   · cases r with
     | nil => cases h
     | cons x rr =>
       simp only at h
       split at h
       · obtain ⟨g1,g2⟩ := add_ok h
         have gk := ((ins_bra _ rr (Nat.le_refl _)).1 d _ g1).2.1
         have := text_end N rr d _ (by simp at hr; omega) g1
         rw [show k - 1 = (k - 2 - 1) + 2 by omega]
         exact this
       · cases h
   split at h
   · rename_i e3
     split at h
     · cases h
     split at h
     · obtain ⟨g1,g2⟩ := add_ok h
       have gk := ((ins_bra _ _ (Nat.le_refl _)).1 d _ g1).2.1
       have := text_end N _ d _ (drop_le _ (drop_le 1 hr)) g1
       rw [List.getElem?_drop,List.getElem?_drop] at this
       rw [show k - 1 = 1 + ((insX (r.drop 1) (d + 1)).1 + (k - ((insX (r.drop 1) (d + 1)).1 + 2) - 1)) + 1 by omega]
       exact this
     · rename_i e4
       injection h with _ h2
       exact absurd h2 e4
   · obtain ⟨g1,g2⟩ := add_ok h
     have gk := ((ins_bra _ r (Nat.le_refl _)).1 d _ g1).2.1
     have := text_end N r d _ hr g1
     rw [show k - 1 = (k - 1 - 1) + 1 by omega]
     exact this
theorem scd_ins : ∀ (N : Nat) (t : Str),t.length ≤ N → Scd t → (insP t = none → escs t = true) ∧ ∀ i e,insP t = some (i,e) → escs (t.take i) = true ∧ i + 3 ≤ e ∧ e ≤ t.length ∧ Scd (t.drop e)
 | _,[],_,_ => ⟨fun _ => rfl,fun i e h => by simp [insP] at h⟩
 | 0,_ :: _,h,_ => by simp at h
 | N + 1,[c],_,⟨d,h⟩ => by
   refine ⟨fun _ => ?_,fun i e h => by simp [insP] at h⟩
   simp only [escs,bne_iff_ne,ne_eq]
   intro e
   subst e
   simp only [List.cons_append,List.nil_append] at h
   rw [textX_cons] at h
   simp [Lex.escOk,addM,textX_nil] at h
 | N + 1,c :: x :: r,hN,⟨d,h⟩ => by
   simp only [List.length_cons] at hN
   simp only [List.cons_append] at h
   rw [textX_cons] at h
   simp only [beq_iff_eq] at h
   split at h
   · injection h with h1 _
     simp at h1
   split at h
   · cases h
   simp only [insP,escs]
   split at h
   · rename_i e92
     rw [if_pos e92,if_pos e92]
     split at h
     · obtain ⟨g1,g2⟩ := add_ok h
       have sr : Scd r := ⟨d,by rw [g1]; simp⟩
       obtain ⟨i1,i2⟩ := scd_ins N r (by omega) sr
       refine ⟨fun hn => i1 (by cases hr : insP r with | none => rfl | some y => rw [hr] at hn; cases hn),fun i e hi => ?_⟩
       cases hr : insP r with
       | none => rw [hr] at hi; cases hi
       | some y =>
         rw [hr] at hi
         simp only [Option.map_some,Option.some.injEq,Prod.mk.injEq] at hi
         obtain ⟨rfl,rfl⟩ := hi
         obtain ⟨j1,j2,j3,j4⟩ := i2 _ _ hr
         refine ⟨?_,by omega,by simp only [List.length_cons]; omega,by rw [show y.2 + 2 = y.2 + 1 + 1 by omega,List.drop_succ_cons,List.drop_succ_cons]; exact j4⟩
         rw [show y.1 + 2 = y.1 + 1 + 1 by omega,List.take_succ_cons,List.take_succ_cons]
         simp only [escs]
         rw [if_pos e92]
         exact j1
     · cases h
   rename_i e92
   rw [if_neg e92,if_neg e92]
   split at h
   · rename_i e3
     have hc : c = 36 ∧ x = 123 := by
       simp [preM,List.isPrefixOf] at e3
       exact ⟨e3.1.symm,e3.2.symm⟩
     rw [if_pos hc]
     refine ⟨fun hn => (by cases hn),fun i e hi => ?_⟩
     simp only [Option.some.injEq,Prod.mk.injEq] at hi
     obtain ⟨rfl,rfl⟩ := hi
     split at h
     · cases h
     split at h
     · rename_i e4
       simp only [List.drop_succ_cons,List.drop_zero] at h e4
       obtain ⟨k1,e5⟩ : ∃ k1,insX (r ++ [34]) (d + 1) = (k1,0) := ⟨_,Prod.ext rfl e4⟩
       simp only [e5] at h
       obtain ⟨g1,g2⟩ := add_ok h
       have gk := ((ins_bra _ _ (Nat.le_refl _)).1 d _ g1).2
       have gi := ((ins_bra _ (r ++ [34]) (Nat.le_refl _)).2 (d + 1) _ e5).1
       simp only [List.length_cons] at g1 gk g2
       have hle : k1 ≤ r.length := by omega
       have hs := (stab _ (r ++ [34]) r (Nat.le_refl _)).2 (d + 1) _ e5 (by rw [List.take_append_of_le_length hle]) hle
       have hb := ((ins_bra _ r (Nat.le_refl _)).2 (d + 1) _ hs).2 1 (by omega)
       rw [if_pos rfl] at hb
       have eb : braM (x :: r) = 1 + k1 := by
         show braX (x :: r) 0 = _
         rw [braX_cons,if_pos hc.2,show (0 : Int) + 1 = 1 from rfl,hb]
       rw [eb]
       refine ⟨rfl,by omega,by simp only [List.length_cons]; omega,?_⟩
       rw [show 1 + (1 + k1) = k1 + 1 + 1 by omega,List.drop_succ_cons,List.drop_succ_cons]
       refine ⟨d,?_⟩
       rw [← List.drop_append_of_le_length hle,g1,List.length_drop]
       simp only [Prod.mk.injEq,and_true]
       omega
     · rename_i e4
       injection h with _ h2
       exact absurd h2 e4
   · rename_i e3
     have hc : ¬ (c = 36 ∧ x = 123) := fun e => e3 (by simp [preM,List.isPrefixOf,e.1,e.2])
     rw [if_neg hc]
     obtain ⟨g1,g2⟩ := add_ok h
     have sr : Scd (x :: r) := ⟨d,by simp only [List.cons_append]; rw [g1]; simp⟩
     obtain ⟨i1,i2⟩ := scd_ins N (x :: r) (by simp only [List.length_cons]; omega) sr
     refine ⟨fun hn => i1 (by cases hr : insP (x :: r) with | none => rfl | some y => rw [hr] at hn; cases hn),fun i e hi => ?_⟩
     cases hr : insP (x :: r) with
     | none => rw [hr] at hi; cases hi
     | some y =>
       rw [hr] at hi
       simp only [Option.map_some,Option.some.injEq,Prod.mk.injEq] at hi
       obtain ⟨rfl,rfl⟩ := hi
       obtain ⟨j1,j2,j3,j4⟩ := i2 _ _ hr
       refine ⟨?_,by omega,by simp only [List.length_cons] at j3 ⊢; omega,by rw [List.drop_succ_cons]; exact j4⟩
       rw [List.take_succ_cons]
       exact escs_cons e92 j1
def TxOk (t : Str) : Prop := noD t = true ∨ Scd t
theorem tx_ins {t : Str} (h : TxOk t) : (insP t = none → escs t = true) ∧ ∀ i e,insP t = some (i,e) → escs (t.take i) = true ∧ i + 3 ≤ e ∧ e ≤ t.length ∧ TxOk (t.drop e) := by
 rcases h with h | h
 · exact ⟨fun _ => noD_escs _ t (Nat.le_refl _) h,fun i e hi => by rw [noD_ins _ t (Nat.le_refl _) h] at hi; cases hi⟩
 · obtain ⟨h1,h2⟩ := scd_ins _ t (Nat.le_refl _) h
   exact ⟨h1,fun i e hi => by obtain ⟨a,b,c,d⟩ := h2 i e hi; exact ⟨a,b,c,.inr d⟩⟩
def TS (l : List Tok) : Prop := ∀ t ∈ l,t.k = 3 → TxOk t.t ∧ t.t.length ≤ 100000
theorem hereL_len : ∀ s : Str,(hereL s).length ≤ 2 * s.length
 | [] => Nat.le_refl _
 | c :: r => by
   have := hereL_len r
   simp only [hereL]
   split
   · simp only [List.length_cons]; omega
   split
   · simp only [List.length_cons]; omega
   split
   · simp only [List.length_cons]; omega
   · simp only [List.length_cons]; omega
theorem hereF_len : ∀ (n : Nat) (name s : Str),(hereF n name s).1.length ≤ 2 * s.length
 | 0,_,_ => by simp [hereF]
 | n + 1,name,s => by
   have hr := run_le (fun b => b != 10) s
   simp only [hereF]
   split
   · simp
   split
   · simp
   rename_i hlen
   split
   · have h1 := hereF_len n name (s.drop (runM (fun b => b != 10) s + 1))
     have h2 := hereL_len (s.take (runM (fun b => b != 10) s))
     rw [List.length_drop] at h1
     rw [List.length_take] at h2
     simp only [List.length_append,List.length_cons,List.length_nil]
     omega
   · simp
theorem heredoc_len (s : Str) : (heredocM s).1.length ≤ 2 * s.length := by
 unfold heredocM
 simp only
 generalize (if isLetter ((s.drop 2).headD 0) = true then runM isName (s.drop 2) else 0) = n
 split
 · simp
 split
 · have h1 := hereF_len (s.length + 1) ((s.drop 2).take n) (s.drop (2 + n + 1))
   rw [List.length_drop] at h1
   split
   · show (hereF (s.length + 1) ((s.drop 2).take n) (s.drop (2 + n + 1))).1.length ≤ _
     omega
   · simp
 · simp
theorem one_tx {s : Str} {t : Tok} {k : Nat} (h : oneM s = (t,k,0)) (hk : t.k = 3) : TxOk t.t ∧ t.t.length ≤ 2 * s.length := by
 unfold oneM at h
 simp only at h
 split at h
 · injection h with h1 _; subst h1; cases hk
 split at h
 · injection h with h1 _; subst h1; cases hk
 split at h
 · injection h with h1 _; subst h1; cases hk
 split at h
 · split at h
   · rename_i hq he
     injection h with h1 _
     subst h1
     have hx : textF (s.length + 1) (s.drop 1) 0 = textX (s.drop 1) 0 := textF_x (by rw [List.length_drop]; omega)
     rw [hx] at he ⊢
     refine ⟨.inr (scd_text (d := 0) (Prod.ext rfl he) fun b hb => ?_),by simp only [List.length_take,List.length_drop]; omega⟩
     rw [text_end _ (s.drop 1) 0 _ (Nat.le_refl _) (Prod.ext rfl he)] at hb
     injection hb with hb
     exact hb.symm
   · rename_i he
     injection h with h1 h2
     injection h2 with _ h2
     exact absurd h2 he
 split at h
 · injection h with h1 h2
   injection h2 with h2 h3
   obtain ⟨i1,i2,i3⟩ := heredoc_ok (s := s) (t := (heredocM s).1) (k := (heredocM s).2.1) (Prod.ext rfl (Prod.ext rfl h3))
   subst h1
   exact ⟨.inl i3,heredoc_len s⟩
 · injection h with h1 _; subst h1; cases hk
theorem scanF_ts : ∀ (n : Nat) (s : Str) (a cnt : Nat) (l : List Tok),s.length ≤ 16384 → scanF n s a cnt = .ok l → TS l
 | 0,_,_,_,_,_,h => by simp [scanF] at h
 | n + 1,s,a,cnt,l,hl,h => by
   simp only [scanF] at h
   split at h
   · cases h
   split at h
   · injection h with h
     subst h
     intro t ht hk
     simp only [List.mem_singleton] at ht
     subst ht
     cases hk
   split at h
   · cases h
   rename_i ho
   split at h
   · cases h
   split at h
   · rename_i l' hl'
     injection h with h
     subst h
     intro t ht hk
     rcases List.mem_cons.1 ht with rfl | ht
     · have h1 := one_tx (t := (oneM (s.drop (skipF (s.length + 1) s).1)).1) (k := (oneM (s.drop (skipF (s.length + 1) s).1)).2.1) (Prod.ext rfl (Prod.ext rfl (Classical.not_not.1 ho))) hk
       rw [List.length_drop] at h1
       exact ⟨h1.1,by simp only; omega⟩
     · exact scanF_ts n _ _ _ _ (by rw [List.length_drop,List.length_drop]; omega) hl' t ht hk
   · rename_i hne
     exact absurd h (hne l)
theorem scan_ts {s : Str} {l : List Tok} (h : scanM s = .ok l) : TS l := by
 unfold scanM at h
 split at h
 · cases h
 rename_i hl
 split at h
 · cases h
 exact scanF_ts _ _ _ _ _ (by omega) h
theorem scanF_few : ∀ (n : Nat) (s : Str) (a cnt : Nat) (l : List Tok),cnt ≤ 4096 → scanF n s a cnt = .ok l → cnt + l.length ≤ 4097
 | 0,_,_,_,_,_,h => by simp [scanF] at h
 | n + 1,s,a,cnt,l,hc,h => by
   simp only [scanF] at h
   split at h
   · cases h
   split at h
   · injection h with h
     subst h
     simp only [List.length_cons,List.length_nil]; omega
   split at h
   · cases h
   split at h
   · cases h
   rename_i hne
   split at h
   · rename_i l' hl'
     injection h with h
     subst h
     have := scanF_few n _ _ _ _ (by omega) hl'
     simp only [List.length_cons]; omega
   · rename_i hne
     exact absurd h (hne l)
theorem scan_few {s : Str} {l : List Tok} (h : scanM s = .ok l) : l.length ≤ 4097 ∧ s.length ≤ 16384 := by
 unfold scanM at h
 split at h
 · cases h
 rename_i hl
 split at h
 · cases h
 have := scanF_few _ _ _ _ _ (Nat.zero_le _) h
 omega
end Go.Syn
namespace Go.Proofs.YtofhaneggcpdaaaGreatDoor
open Go Go.Eng Go.Num Go.RowKit
set_option maxRecDepth 100000
structure BytB (w : World) (b cap : Nat) (c : Array Value) (l : Str) : Prop where
 hb : w.heap[b]? = some (.cells c U8 (c.size,c.size + 1))
 le : l.length ≤ cap
 fits : l.length ≤ c.size
 get : ∀ i,i < l.length → c[i]? = (u8s l)[i]?
theorem BytB.ext {w w' : World} {b cap : Nat} {c : Array Value} {l : Str} (h : BytB w b cap c l) (hx : Ext w w') : BytB w' b cap c l := ⟨hx.at h.hb id,h.le,h.fits,h.get⟩
theorem BytB.byt {w : World} {b cap : Nat} {c : Array Value} {l : Str} (h : BytB w b cap c l) : Byt w U8 (.slice (some ⟨b,0,none⟩) l.length cap) l :=
 ⟨_,_,rfl,h.le,fun e => (by cases e),fun _ => ⟨b,0,_,_,rfl,h.hb,fun i hi => by rw [Nat.zero_add]; exact h.get i (by simpa [u8s_length] using hi)⟩⟩
theorem to_bytes_o {l : Str} {w : World} {src dst : TypeId} {K : Value → World → Prop} (hs : Tryz.prog.underlying src = some .string) (hd : Tryz.prog.underlying dst = some (.slice U8)) (he : Tryz.prog.underlying U8 = some (.int .u8))
   (hK : ∀ b cap c w',w.heap.size ≤ b → BytB w' b cap c l → Ext w w' → K (.slice (some ⟨b,0,none⟩) l.length cap) w') : semE Tryz.prog (convert src dst (str l)) w K := by
 unfold semE
 rw [Lib.run_convert_string_bytes w src dst U8 (ofL l) hs hd he]
 have hle : (ofL l).size ≤ grownCap w (ofL l).size 0 U8 := grownCap_ge w (ofL l).size 0 U8
 have hsz : (Lib.bytesCells w U8 (ofL l)).size = grownCap w (ofL l).size 0 U8 := by
   unfold Lib.bytesCells
   simp only [Array.size_append,Array.size_map,Array.size_replicate]
   have : (ofL l).data.size = (ofL l).size := rfl
   omega
 have e : (ofL l).size = l.length := ofL_size l
 have hB : BytB (Lib.bytesWorld w U8 (ofL l)) w.heap.size (grownCap w (ofL l).size 0 U8) (Lib.bytesCells w U8 (ofL l)) l := by
   refine ⟨Lib.bytesWorld_at_new w U8 (ofL l),by rw [← e]; exact hle,by rw [hsz,← e]; exact hle,fun i hi => ?_⟩
   have := Lib.bytesWorld_cell w U8 (ofL l) i (by rw [e]; exact hi)
   rw [cell_eq,Lib.bytesWorld_at_new,cellO_some] at this
   rw [this,u8s_get,ofL_data]
   simp [List.getD_eq_getElem?_getD,List.getElem?_eq_getElem hi]
 have := hK _ _ _ _ (Nat.le_refl _) hB (bytes_ext _ _ _)
 rw [e]
 rw [e] at this
 exact this
theorem set_byte {w : World} {b cap i : Nat} {c : Array Value} {l : Str} {y : UInt8} {K : World → Prop} (h : BytB w b cap c l) (hi : i < l.length)
   (hK : ∀ c' w',BytB w' b cap c' (l.set i y) → Chg (fun k => k = b) w w' → w'.heap.size = w.heap.size → K w') : ixaW none 1 (.slice (some ⟨b,0,none⟩) l.length cap) (i64 (i : Nat)) fun t => stW 1 t (.int .u8 (y.toNat : Nat)) w K := by
 rw [ixa_slice]
 refine ⟨by omega,by omega,?_⟩
 rw [add_mk,Nat.zero_add,Int.toNat_natCast,Nat.mul_one]
 have hf := h.fits
 have hc2 : (Value.int .u8 (y.toNat : Nat)).cells = #[.int .u8 (y.toNat : Nat)] := rfl
 have hz : (⟨b,i,none⟩ : Addr).add 0 = ⟨b,i,none⟩ := rfl
 simp only [stW,hc2]
 refine ⟨rfl,?_⟩
 simp only [stCells,hz]
 refine ⟨rfl,?_,?_,?_⟩
 · rw [cell_eq,h.hb,cellO_some]; simp; omega
 · rw [frozen_eq,h.hb,frO_some]; simp; omega
 · refine hK (c.setIfInBounds i (.int .u8 (y.toNat : Nat))) _ ⟨?_,by rw [List.length_set]; exact h.le,by rw [List.length_set]; simpa using h.fits,fun j hj => ?_⟩ (Chg.set (S := fun k => k = b) (Chg.refl _ _) (.inl rfl) _) (by simp)
   · rw [heap_set_same,h.hb,setO_some]
     simp
   · rw [List.length_set] at hj
     have hg := h.get j hj
     simp only [u8s,List.map_set] at hg ⊢
     rw [Array.getElem?_setIfInBounds,List.getElem?_set]
     by_cases e : i = j
     · rw [if_pos e,if_pos e]
       subst e
       rw [if_pos (by omega),if_pos (by simpa using hj)]
     · rw [if_neg e,if_neg e]
       exact hg
end Go.Proofs.YtofhaneggcpdaaaGreatDoor
namespace Go.Proofs.YtofhaneggcpdaaaGreatDoor
open Go Go.Eng Go.RowKit Go.Syn Go.Lex
set_option maxRecDepth 100000
theorem bld_isb {w : World} {B b : Nat} {l : Str} (h : Bld w B b l) : Lib.IsBuilderF BdT U8 B b (Lib.byteCells l) w := by
 obtain ⟨p,v,h1,h2,h3,h4⟩ := h
 have hO : w.ownsRow B U8 1 v (u8s l).length (u8s l) := by rw [u8s_length]; exact h3
 have : Lib.BuilderAt BdT U8 B b p (u8s l) w := ⟨h4,v,h1,hO,fun e => bd_ne h1 (h3.block b e)⟩
 rcases h2 with rfl | rfl
 · exact .inl (Lib.BuilderAtF.of this)
 · exact .inr (Lib.BuilderAtF.of this)
theorem callV_cap' {P : Program} [HX] {g : FuncId} {args caps : List Value} {w : World} {K : Value → World → Prop} (h : callF P g (args ++ caps) w K) : callV P (.func (.func g) #[] caps.toArray) args w K := by
 unfold callV semN
 unfold callF at h
 have : (do let d ← (Deferred.ofValue (.func (.func g) #[] caps.toArray) args.toArray); invoke d.target d.args : Sem Next) = callFunc g (args ++ caps).toArray := by
   show callFunc g (#[] ++ args.toArray ++ caps.toArray) = _
   simp
 rw [this]
 exact h
theorem drop_len {s : Str} {i : Nat} (h : i < s.length) : s.drop i = s[i] :: s.drop (i + 1) := List.drop_eq_getElem_cons h
theorem pre_eq (s : Str) : Lib.hasPrefix s [36,123] = preM [36,123] s := rfl
section
variable [HX]
theorem bstring_p {w : World} {B b : Nat} {l : Str} {K : Value → World → Prop} (h : Bld w B b l) (hB : B ≤ w.heap.size) (hK : ∀ w',Chg (fun k => B ≤ k) w w' → K (str l) w') : callF Tryz.prog 34 [.pointer (some ⟨b,0,none⟩)] w K := by
 refine of_calls (args := #[.pointer (some ⟨b,0,none⟩)]) Tryz.call34 ((Tryz.Builder_String_any_k B b l w (bld_isb h) hB).mono ?_)
 rintro e w' ⟨rfl,_,hb,_⟩
 exact ⟨_,rfl,hK w' ⟨hb.os,hb.tape,hb.output,hb.size,fun k _ hn => hb.block k (by omega)⟩⟩
theorem hasp_p {s q : Str} {w : World} {K : Value → World → Prop} (hK : K (.bool (Lib.hasPrefix s q)) w) : callF Tryz.prog 36 [str s,str q] w K := by
 refine of_calls (args := #[str s,str q]) Tryz.call36 ((Tryz.strings_HasPrefix (ofL s) (ofL q) w).mono ?_)
 rintro e w' ⟨rfl,rfl⟩
 rw [ofL_data,ofL_data]
 exact ⟨_,rfl,hK⟩
theorem ixs_i {s : Str} {i : Nat} {K : Value → Prop} (h : i < s.length) (hK : K (.int .u8 (s[i].toNat : Nat))) : ixsW (str s) (i64 (i : Nat)) K := by
 rw [ixs_str]
 exact ⟨by omega,s[i],by simpa using List.getElem?_eq_getElem h,hK⟩
theorem u8_eq (c : UInt8) (k : Nat) (hk : k < 256) : decide (((c.toNat : Nat) : Int) = (k : Int)) = decide (c = UInt8.ofNat k) := by
 rw [decide_eq_decide]
 constructor
 · intro h
   have h : c.toNat = k := by omega
   rw [← h]; simp
 · intro h
   subst h
   rw [UInt8.toNat_ofNat']
   omega
theorem says_p {s : Str} {w : World} {K : Value → World → Prop} (he : escs s = true) (hl : s.length ≤ 1000000) (hK : ∀ w',Ext w w' → K (str (saysM s)) w') : callF Tryz.prog 79 [str s] w K := by
 refine W79_ok ?_
 unfold W79
 refine bnew (B := w.heap.size) (Nat.le_refl _) fun b w1 hb hB1 hx1 => ?_
 have hz1 := hx1.size
 refine LoopW.go (fun st w' => ∃ i out,st = [i64 (i : Nat)] ∧ i ≤ s.length ∧ Bld w' w.heap.size b out ∧ Ext w w' ∧ out ++ saysM (s.drop i) = saysM s ∧ out.length ≤ i ∧ escs (s.drop i) = true) (fun st _ => match st with | [.int _ i] => s.length - i.toNat | _ => 0)
   ⟨0,[],rfl,by omega,hB1,hx1,rfl,Nat.le_refl _,he⟩ ?_
 rintro st g w2 ⟨i,out,rfl,hi,hB2,hx2,hs,ho,hes⟩
 have hz2 := hx2.size
 simp only [List.getD_cons_zero]
 rw [lens_str,bin_lss,condW_dec]
 have fin : ∀ {w3 : World} {l : Str} {j : Nat} (c : UInt8),Chg (BCh w2 w.heap.size b) w2 w3 → Bld w3 w.heap.size b (out ++ [c]) → i ≤ j → j < s.length → (out ++ [c]) ++ saysM (s.drop (j + 1)) = saysM s → escs (s.drop (j + 1)) = true →
     (∃ i' out',[i64 ((j + 1 : Nat))] = [i64 (i' : Nat)] ∧ i' ≤ s.length ∧ Bld w3 w.heap.size b out' ∧ Ext w w3 ∧ out' ++ saysM (s.drop i') = saysM s ∧ out'.length ≤ i' ∧ escs (s.drop i') = true) ∧ s.length - ((j + 1 : Nat) : Int).toNat < s.length - ((i : Nat) : Int).toNat := fun {w3 l j} c hc hB3 hij hj he1 he2 => by
   refine ⟨⟨j + 1,out ++ [c],rfl,by omega,hB3,BCh.new hx2 (Nat.le_refl _) (by omega) hc,he1,by simp; omega,he2⟩,?_⟩
   simp only [Int.toNat_natCast]; omega
 refine ⟨fun hlt => ?_,fun hge => ?_⟩
 · have hlt : i < s.length := by omega
   refine ixs_i hlt ?_
   have hd := drop_len hlt
   have he0 := hes
   rw [hd] at hes hs
   refine JoinW.cut (fun st w' => w' = w2 ∧ ∃ (j : Nat) (c : UInt8),st = [i64 (j : Nat),.int .u8 (c.toNat : Nat)] ∧ i ≤ j ∧ j < s.length ∧ (out ++ [c]) ++ saysM (s.drop (j + 1)) = saysM s ∧ escs (s.drop (j + 1)) = true) ?_ ?_
   · rw [bin_eql,condW_dec]
     refine ⟨fun e => ?_,fun e => ?_⟩
     · have ec : s[i] = 92 := UInt8.toNat_inj.1 (by have e : (s[i].toNat : Int) = 92 := e; show s[i].toNat = 92; omega)
       have hlt2 : i + 1 < s.length := by
         by_cases h2 : i + 1 < s.length
         · exact h2
         · rw [List.drop_of_length_le (by omega),ec] at hes
           simp [escs] at hes
       have hd2 := drop_len hlt2
       rw [hd2,ec] at hes hs
       simp only [escs,if_true] at hes
       simp only [saysM,if_true] at hs
       rw [bin_add,upi (by omega)]
       refine ixs_i hlt2 ?_
       rw [bin_eql,condW_dec]
       refine ⟨fun e1 => ?_,fun e1 => ?_⟩
       · have e1 : s[i + 1] = 110 := UInt8.toNat_inj.1 (by have e : (s[i + 1].toNat : Int) = 110 := e1; show s[i + 1].toNat = 110; omega)
         rw [if_pos e1] at hs
         exact ⟨rfl,i + 1,10,rfl,by omega,hlt2,by rw [← hs]; simp,hes⟩
       have e1' : s[i + 1] ≠ 110 := fun h => e1 (by rw [h]; rfl)
       rw [bin_eql,condW_dec]
       rw [if_neg e1'] at hs
       refine ⟨fun e2 => ?_,fun e2 => ?_⟩
       · have e2 : s[i + 1] = 116 := UInt8.toNat_inj.1 (by have e : (s[i + 1].toNat : Int) = 116 := e2; show s[i + 1].toNat = 116; omega)
         rw [if_pos e2] at hs
         exact ⟨rfl,i + 1,9,rfl,by omega,hlt2,by rw [← hs]; simp,hes⟩
       have e2' : s[i + 1] ≠ 116 := fun h => e2 (by rw [h]; rfl)
       rw [bin_eql,condW_dec]
       rw [if_neg e2'] at hs
       refine ⟨fun e3 => ?_,fun e3 => ?_⟩
       · have e3 : s[i + 1] = 114 := UInt8.toNat_inj.1 (by have e : (s[i + 1].toNat : Int) = 114 := e3; show s[i + 1].toNat = 114; omega)
         rw [if_pos e3] at hs
         exact ⟨rfl,i + 1,13,rfl,by omega,hlt2,by rw [← hs]; simp,hes⟩
       have e3' : s[i + 1] ≠ 114 := fun h => e3 (by rw [h]; rfl)
       rw [if_neg e3'] at hs
       exact ⟨rfl,i + 1,s[i + 1],rfl,by omega,hlt2,by rw [← hs]; simp,hes⟩
     · have ec : s[i] ≠ 92 := fun h => e (by rw [h]; rfl)
       refine ⟨rfl,i,s[i],rfl,Nat.le_refl _,hlt,?_,?_⟩
       · rw [← hs]
         cases hr : s.drop (i + 1) with
         | nil => simp only [saysM]; rw [if_neg ec]; simp
         | cons x r => simp only [saysM]; rw [if_neg ec]; simp
       · cases hr : s.drop (i + 1) with
         | nil => rfl
         | cons x r => rw [hr] at hes; simp only [escs] at hes; rw [if_neg ec] at hes; exact hes
   rintro st g2 w3 ⟨rfl,j,c,rfl,hij,hj,he1,he2⟩
   simp only [List.getD_cons_zero,List.getD_cons_succ]
   refine wbyte_p (n := c.toNat) hB2 hz2 (by omega) (UInt8.toNat_lt c) fun w4 hB4 hc4 => ?_
   rw [bin_add,upi (by omega)]
   rw [UInt8.ofNat_toNat] at hB4
   exact fin (l := []) c hc4 hB4 hij hj he1 he2
 · obtain rfl : i = s.length := by omega
   rw [List.drop_length] at hs
   simp only [saysM,List.append_nil] at hs
   subst hs
   refine bstring_p hB2 hz2 fun w3 hc3 => ?_
   exact hK w3 (hx2.then hc3 fun k hk e => by omega)
end
end Go.Proofs.YtofhaneggcpdaaaGreatDoor
namespace Go.Proofs.YtofhaneggcpdaaaGreatDoor
open Go Go.Eng
set_option maxRecDepth 100000
variable [HX]
def plan5 : Plan := { js := [(45005,⟨[68],[],65⟩),(45011,⟨[62],[],59⟩),(35,⟨[],[],8⟩),(23,⟨[],[6],21⟩),(16,⟨[20],[6],20⟩)],ds := [(52,⟨[0,1,2,3,4,5,6,7,8,9,10,11,12,13,14,15,16,17,18,19,20,21,22,23,24,25,26,27,28,29,30,31,32,33],[[],[0],[0,1],[0,1,2],[0,1,2,3],[],[5],[0,1,2,3,4,5,6],[0,1,2,3,4,5,6,7],[0,1,2,3,4,5,6,7,8],[0,1,2,3,4,5,6,7,8,9],[0,1,2,3,4,5,6,7,8,9,10],[0,1,2,3,4,5,6,7,8,9,10,11],[0,1,2,3,4,5,6,7,8,9,10,11,12],[0,1,2,3,4,5,6,7,8,9,10,11,12,13],[0,1,2,3,4,5,6,7,8,9,10,11,12,13,14],[0,1,2,3,4,5,6,7,8,9,10,11,12,13,14,15],[0,1,2,3,4,5,6,7,8,9,10,11,12,13,14,15,16],[0,1,2,3,4,5,6,7,8,9,10,11,12,13,14,15,16,17],[0,1,2,3,4,5,6,7,8,9,10,11,12,13,14,15,16,17,18],[0,1,2,3,4,5,6,7,8,9,10,11,12,13,14,15,16,17,18,19],[0,1,2,3,4,5,6,7,8,9,10,11,12,13,14,15,16,17,18,19,20],[0,1,2,3,4,5,6,7,8,9,10,11,12,13,14,15,16,17,18,19,20,21],[0,1,2,3,4,5,6,7,8,9,10,11,12,13,14,15,16,17,18,19,20,21,22],[0,1,2,3,4,5,6,7,8,9,10,11,12,13,14,15,16,17,18,19,20,21,22,23],[0,1,2,3,4,5,6,7,8,9,10,11,12,13,14,15,16,17,18,19,20,21,22,23,24],[0,1,2,3,4,5,6,7,8,9,10,11,12,13,14,15,16,17,18,19,20,21,22,23,24,25],[0,1,2,3,4,5,6,7,8,9,10,11,12,13,14,15,16,17,18,19],[0,1,2,3,4,5,6,7,8,9,10,11,12,13,14,15,16,17,18,19,27],[0,1,2,3,4,5,6,7,8,9,10,11,12,13,14,15,16,17,18,19,20,21,22,23,24,25,26,27,28],[0,1,2,3,4,5,6,7,8,9,10,11,12,13,14,15,16,17,18,19,20,21,22,23,24,25,26,27,28,29],[0,1,2,3,4,5,6,7,8,9,10,11,12,13,14,15,16,17,18,19,20,21,22,23,24,25,26,27,28,29,30],[0,1,2,3,4,5,6,7,8,9,10,11,12,13,14,15,16,17,18,19,20,21,22,23,24,25,26,27,28,29,30,31],[0,1,2,3,4,5,6,7,8,9,10,11,12,13,14,15,16,17,18,19,20,21,22,23,24,25,26,27,28,29,30,31,32]]⟩)] }
def W5 (v0 v1 : Value) (w : World) (K : Value → World → Prop) : Prop :=
 callF Tryz.prog 12 [] w fun t10 w1 =>
 unW .not t10 fun t11 =>
 condW t11 (
 K (.bool false) w1) (
 semE Tryz.prog (convert 9 50 v0) w1 fun t13 w2 =>
 lensW v0 fun t15 =>
 minW t15 (.int .i64 500) fun t16 =>
 sllW 1 t13 none (some t16) none fun t17 =>
 lenlW t17 fun t19 =>
 LoopW [(.int .i64 0)] w2 fun s3 _ w4 L3 =>
 binW .lss (s3.getD 0 undef) t19 fun t21 =>
 condW t21 (
 JoinW (fun J5 =>
 ixaW none 1 t17 (s3.getD 0 undef) fun t25 =>
 ldW false 1 t25 w4 fun t26 =>
 binW .geq t26 (.int .u8 128) fun t27 =>
 condW t27 (
 ixaW none 1 t17 (s3.getD 0 undef) fun t30 =>
 stW 1 t30 (.int .u8 36) w4 fun w6 =>
 J5 [] w6) (
 J5 [] w4))
 fun s5 _ w7 =>
 binW .add (s3.getD 0 undef) (.int .i64 1) fun t31 =>
 L3 [t31] w7) (
 semQ Tryz.prog (convert 50 9 t17) w4 fun t33 =>
 putW [(.int .i64 0),(.string (ofL [])),(.slice none 0 0),(.slice none 0 0),(.int .i64 0)] [(0,1,(.int .i64 5)),(1,1,t33)] fun c8 =>
 bslW 35 1 [(.int .i64 0),(.string (ofL [])),(.slice none 0 0),(.slice none 0 0),(.int .i64 0)] [(0,5,(.agg c8.toArray))] w4 fun t35 w9 =>
 putW [(.string (ofL [])),(.int .i64 0),(.int .i64 0)] [(0,1,(.string (ofL [120])))] fun c10 =>
 bslW 40 1 [(.string (ofL [])),(.int .i64 0),(.int .i64 0)] [(0,3,(.agg c10.toArray))] w9 fun t37 w11 =>
 putW [(.string (ofL [])),(.slice none 0 0),(.slice none 0 0),(.slice none 0 0),(.int .i64 0)] [(0,1,(.string (ofL [97]))),(2,1,t37)] fun c12 =>
 bslW 38 1 [(.string (ofL [])),(.slice none 0 0),(.slice none 0 0),(.slice none 0 0),(.int .i64 0)] [(0,5,(.agg c12.toArray))] w11 fun t39 w13 =>
 bslW 3 1 [(.int .i64 0)] [(0,1,(.int .i64 0))] w13 fun t40 w14 =>
 putW [(.slice none 0 0),(.slice none 0 0),(.slice none 0 0)] [(0,1,t35),(1,1,t39),(2,1,t40)] fun c15 =>
 allocW 28 [(.slice none 0 0),(.slice none 0 0),(.slice none 0 0)] w14 fun t7 w16 =>
 stW 3 t7 (.agg c15.toArray) w16 fun w17 =>
 JoinW (fun J18 =>
 condW v1 (
 fldW 1 t7 fun t43 =>
 ldW false 1 t43 w17 fun t44 =>
 semQ Tryz.prog (convert 50 9 t17) w17 fun t46 =>
 bslW 9 1 [(.string (ofL []))] [(0,1,t46)] w17 fun t47 w19 =>
 ixaW none 5 t44 (.int .i64 0) fun t48 =>
 fldW 1 t48 fun t49 =>
 stW 1 t49 t47 w19 fun w20 =>
 J18 [] w20) (
 J18 [] w17))
 fun s18 _ w21 =>
 ldW true 3 t7 w21 fun t51 =>
 callF Tryz.prog 13 [t51] w21 fun t52 w22 =>
 callF Tryz.prog 9 [t52] w22 fun t53 w23 =>
 extW 0 t53 fun t54 =>
 extW 1 t53 fun t55 =>
 allocW 28 [(.slice none 0 0),(.slice none 0 0),(.slice none 0 0)] w23 fun t8 w24 =>
 stW 3 t8 t54 w24 fun w25 =>
 eqW .ptr true t55 (.pointer none) fun t57 =>
 GdW (isB t57 false) [undef] w25 (fun J26 =>
 fldW 0 t8 fun t59 =>
 ldW false 1 t59 w25 fun t60 =>
 lenlW t60 fun t61 =>
 binW .neq t61 (.int .i64 1) fun t62 =>
 J26 [t62] w25)
 fun s26 _ w27 =>
 pickW t57 (.bool true) (s26.getD 0 undef) fun t63 =>
 GdW (isB t63 false) [undef] w27 (fun J28 =>
 fldW 1 t8 fun t65 =>
 ldW false 1 t65 w27 fun t66 =>
 lenlW t66 fun t67 =>
 binW .neq t67 (.int .i64 1) fun t68 =>
 J28 [t68] w27)
 fun s28 _ w29 =>
 pickW t63 (.bool true) (s28.getD 0 undef) fun t69 =>
 condW t69 (
 K (.bool false) w29) (
 fldW 0 t8 fun t70 =>
 ldW false 1 t70 w29.drew fun t71 =>
 ixaW none 5 t71 (.int .i64 0) fun t72 =>
 fldW 1 t72 fun t73 =>
 ldW false 1 t73 w29.drew fun t74 =>
 semQ Tryz.prog (convert 50 9 t17) w29.drew fun t76 =>
 binW .eql t74 t76 fun t77 =>
 GqW (isB t77 true) (fun k30 => k30 v1) fun t79 =>
 GqW (isB t77 true) (fun k31 => unW .not t79 k31) fun t80 =>
 GqW (isB t77 true) (fun k32 => k32 t80) fun t81 =>
 GqW (isB t81 false) (fun k33 => fldW 1 t8 k33) fun t82 =>
 GqW (isB t81 false) (fun k34 => ldW false 1 t82 w29.drew k34) fun t83 =>
 GqW (isB t81 false) (fun k35 => ixaW none 5 t83 (.int .i64 0) k35) fun t84 =>
 GqW (isB t81 false) (fun k36 => fldW 1 t84 k36) fun t85 =>
 GqW (isB t81 false) (fun k37 => ldW false 1 t85 w29.drew k37) fun t86 =>
 GqW (isB t81 false) (fun k38 => lenlW t86 k38) fun t87 =>
 GqW (isB t81 false) (fun k39 => binW .eql t87 (.int .i64 1) k39) fun t88 =>
 GqW (isB t81 false) (fun k40 => k40 t88) fun t89 =>
 GqW (isB t89 true) (fun k41 => fldW 1 t8 k41) fun t90 =>
 GqW (isB t89 true) (fun k42 => ldW false 1 t90 w29.drew k42) fun t91 =>
 GqW (isB t89 true) (fun k43 => ixaW none 5 t91 (.int .i64 0) k43) fun t92 =>
 GqW (isB t89 true) (fun k44 => fldW 1 t92 k44) fun t93 =>
 GqW (isB t89 true) (fun k45 => ldW false 1 t93 w29.drew k45) fun t94 =>
 GqW (isB t89 true) (fun k46 => ixaW none 1 t94 (.int .i64 0) k46) fun t95 =>
 GqW (isB t89 true) (fun k47 => ldW false 1 t95 w29.drew k47) fun t96 =>
 GqW (isB t89 true) (fun k48 => k48 t17) fun t97 =>
 GqW (isB t89 true) (fun k49 => semQ Tryz.prog (convert 50 9 t97) w29.drew k49) fun t98 =>
 GqW (isB t89 true) (fun k50 => binW .eql t96 t98 k50) fun t99 =>
 GqW (isB t81 false) (fun k51 => pickW t89 t99 (.bool false) k51) fun t100 =>
 GqW (isB t77 true) (fun k52 => pickW t81 (.bool true) t100 k52) fun t101 =>
 pickW t77 t101 (.bool false) fun t102 =>
 K t102 w29.drew)))
theorem W5_ok {v0 v1 : Value} {w : World} {K : Value → World → Prop} (h : W5 v0 v1 w K) : callF Tryz.prog 5 [v0,v1] w K :=
 tie _ 5 Tryz.f5 plan5 _ w K 2 _ rfl mixed Tryz.func5 (by kernel_rfl) (by kernel_rfl) Tryz.call5 h
def plan12 : Plan := { js := [(5005,⟨[22],[],20⟩),(5010,⟨[17],[],15⟩),(5015,⟨[12],[],10⟩)],ds := [] }
def W12 (w : World) (K : Value → World → Prop) : Prop :=
 callF Tryz.prog 9 [(.string (ofL [97,32,123,120,61,49,43,121,46,122,42,50,125]))] w fun t4 w1 =>
 extW 0 t4 fun t5 =>
 extW 1 t4 fun t6 =>
 allocW 28 [(.slice none 0 0),(.slice none 0 0),(.slice none 0 0)] w1 fun t1 w2 =>
 stW 3 t1 t5 w2 fun w3 =>
 eqW .ptr false t6 (.pointer none) fun t8 =>
 GdW (isB t8 true) [undef] w3 (fun J4 =>
 ldW true 3 t1 w3 fun t10 =>
 callF Tryz.prog 13 [t10] w3 fun t11 w5 =>
 binW .eql t11 (.string (ofL [97,32,123,10,32,32,120,32,61,32,40,49,32,43,32,40,40,121,41,46,122,32,42,32,50,41,41,10,125,10])) fun t12 =>
 J4 [t12] w5)
 fun s4 _ w6 =>
 pickW t8 (s4.getD 0 undef) (.bool false) fun t13 =>
 GdW (isB t13 true) [undef] w6 (fun J7 =>
 ldW true 3 t1 w6 fun t15 =>
 callF Tryz.prog 32 [t15,(.int .i64 0)] w6 fun t16 w8 =>
 binW .eql t16 (.string (ofL [49])) fun t17 =>
 J7 [t17] w8)
 fun s7 _ w9 =>
 pickW t13 (s7.getD 0 undef) (.bool false) fun t18 =>
 GdW (isB t18 true) [undef] w9 (fun J10 =>
 ldW true 3 t1 w9 fun t20 =>
 callF Tryz.prog 32 [t20,(.int .i64 99)] w9 fun t21 w11 =>
 binW .eql t21 (.string (ofL [])) fun t22 =>
 J10 [t22] w11)
 fun s10 _ w12 =>
 pickW t18 (s10.getD 0 undef) (.bool false) fun t23 =>
 K t23 w12
theorem W12_ok {w : World} {K : Value → World → Prop} (h : W12 w K) : callF Tryz.prog 12 [] w K :=
 tie _ 12 Tryz.f12 plan12 _ w K 0 _ rfl mixed Tryz.func12 (by kernel_rfl) (by kernel_rfl) Tryz.call12 h
def plan13 : Plan := { js := [(8,⟨[9],[5],9⟩)],ds := [] }
def W13 (v0 : Value) (w : World) (K : Value → World → Prop) : Prop :=
 boxW 28 v0 w fun t1 w1 =>
 allocW 84 [(.pointer none),(.slice none 0 0)] w1 fun t3 w2 =>
 fldW 2 t1 fun t6 =>
 ldW false 1 t6 w2 fun t7 =>
 lenlW t7 fun t8 =>
 LoopW [(.int .i64 0)] w2 fun s3 _ w4 L3 =>
 binW .lss (s3.getD 0 undef) t8 fun t10 =>
 condW t10 (
 ixaW none 1 t7 (s3.getD 0 undef) fun t11 =>
 ldW false 1 t11 w4 fun t12 =>
 ldW true 3 t1 w4 fun t13 =>
 callF Tryz.prog 33 [t3,t13,t12,(.int .i64 0)] w4 fun t15 w5 =>
 binW .add (s3.getD 0 undef) (.int .i64 1) fun t16 =>
 L3 [t16] w5) (
 callF Tryz.prog 34 [t3] w4 fun t17 w6 =>
 K t17 w6)
theorem W13_ok {v0 : Value} {w : World} {K : Value → World → Prop} (h : W13 v0 w K) : callF Tryz.prog 13 [v0] w K :=
 tie _ 13 Tryz.f13 plan13 _ w K 1 _ rfl mixed Tryz.func13 (by kernel_rfl) (by kernel_rfl) Tryz.call13 h
def plan32 : Plan := { js := [(63,⟨[64],[],58⟩),(31,⟨[9],[9],29⟩),(18,⟨[6,28],[6,7,8,9],28⟩),(4006,⟨[18],[],14⟩)],ds := [(147,⟨[0,1,2,3,4,5,6,8,9,10,11,12,13,14,15],[[],[0],[0,1],[0,1,2],[0,1,2,3],[],[5],[5,6],[0,1,2,3,4,5,6,7],[0,1,2,3,4,5,6,7,8],[],[10],[10,11],[0,1,2,3,4,5,6,7,8,9,10,11,12],[0,1,2,3,4,5,6,7,8,9,10,11,12,13],[0,1,2,3,4,5,6,7,8,9,10,11,12,13,14]]⟩),(143,⟨[0,1,2,3,4,5,6,7,8,9,10,11,12,13,14],[[],[0],[0,1],[0,1,2],[],[4],[4,5],[0,1,2,3,4,5,6],[0,1,2,3,4,5,6,7],[],[9],[9,10],[0,1,2,3,4,5,6,7,8,9,10,11],[0,1,2,3,4,5,6,7,8,9,10,11,12],[0,1,2,3,4,5,6,7,8,9,10,11,12,13]]⟩),(137,⟨[0,1,2,3,4,5,6,7,8,9,10,11,12,13,14,15],[[],[0],[0,1],[0,1,2],[0,1,2,3],[],[5],[5,6],[0,1,2,3,4,5,6,7],[0,1,2,3,4,5,6,7,8],[],[10],[10,11],[0,1,2,3,4,5,6,7,8,9,10,11,12],[0,1,2,3,4,5,6,7,8,9,10,11,12,13],[0,1,2,3,4,5,6,7,8,9,10,11,12,13,14]]⟩),(113,⟨[0,1,2,3,4,5,6,7,8,9,10],[[],[0],[0,1],[0,1,2],[0,1,2,3],[],[5],[5,6],[0,1,2,3,4,5,6,7],[0,1,2,3,4,5,6,7,8],[0,1,2,3,4,5,6,7,8,9]]⟩),(107,⟨[0,1,2,3,4,5,6,7,8],[[],[0],[0,1],[0,1,2],[0,1,2,3],[],[5],[0,1,2,3,4,5,6],[0,1,2,3,4,5,6,7]]⟩),(101,⟨[0,1,2,3,4,5,6,7,8],[[],[0],[0,1],[0,1,2],[0,1,2,3],[],[5],[0,1,2,3,4,5,6],[0,1,2,3,4,5,6,7]]⟩)] }
def W32 (v0 v1 : Value) (w : World) (K : Value → World → Prop) : Prop :=
 boxW 28 v0 w fun t2 w1 =>
 binW .lss v1 (.int .i64 0) fun t12 =>
 GdW (isB t12 false) [undef] w1 (fun J2 =>
 fldW 0 t2 fun t15 =>
 ldW false 1 t15 w1 fun t16 =>
 lenlW t16 fun t17 =>
 binW .geq v1 t17 fun t18 =>
 J2 [t18] w1)
 fun s2 _ w3 =>
 pickW t12 (.bool true) (s2.getD 0 undef) fun t19 =>
 condW t19 (
 K (.string (ofL [])) w3) (
 fldW 0 t2 fun t20 =>
 ldW false 1 t20 w3 fun t21 =>
 ixaW none 5 t21 v1 fun t23 =>
 ldW true 5 t23 w3 fun t24 =>
 allocW 35 [(.int .i64 0),(.string (ofL [])),(.slice none 0 0),(.slice none 0 0),(.int .i64 0)] w3 fun t5 w4 =>
 stW 5 t5 t24 w4 fun w5 =>
 fldW 2 t5 fun t25 =>
 ldW false 1 t25 w5 fun t26 =>
 lenlW t26 fun t27 =>
 LoopW [(.slice none 0 0),(.int .i64 0)] w5 fun s6 _ w7 L6 =>
 binW .lss (s6.getD 1 undef) t27 fun t29 =>
 condW t29 (
 ixaW none 1 t26 (s6.getD 1 undef) fun t31 =>
 ldW false 1 t31 w7 fun t32 =>
 ldW true 3 t2 w7 fun t33 =>
 callF Tryz.prog 32 [t33,t32] w7 fun t35 w8 =>
 JoinW (fun J9 =>
 fldW 0 t5 fun t36 =>
 ldW false 1 t36 w8 fun t37 =>
 binW .eql t37 (.int .i64 8) fun t38 =>
 condW t38 (
 fldW 3 t5 fun t39 =>
 ldW false 1 t39 w8 fun t40 =>
 ixaW none 1 t40 (s6.getD 1 undef) fun t42 =>
 ldW false 1 t42 w8 fun t43 =>
 callF Tryz.prog 60 [t43] w8 fun t44 w10 =>
 binW .add (.string (ofL [34])) t44 fun t45 =>
 binW .add t45 (.string (ofL [34,32,61,32])) fun t46 =>
 binW .add t46 t35 fun t48 =>
 J9 [t48] w10) (
 J9 [t35] w8))
 fun s9 _ w11 =>
 bslW 9 1 [(.string (ofL []))] [(0,1,(s9.getD 0 undef))] w11 fun t51 w12 =>
 semE Tryz.prog (Builtin.append_ #[33,33] 33 #[(s6.getD 0 undef),t51]) w12 fun t52 w13 =>
 binW .add (s6.getD 1 undef) (.int .i64 1) fun t53 =>
 L6 [t52,t53] w13) (
 callF Tryz.prog 61 [(s6.getD 0 undef),(.string (ofL [44,32]))] w7 fun t55 w14 =>
 fldW 0 t5 fun t56 =>
 ldW false 1 t56 w14 fun t57 =>
 binW .eql t57 (.int .i64 1) fun t59 =>
 condW t59 (
 K (.string (ofL [110,117,108,108])) w14) (
 binW .eql t57 (.int .i64 2) fun t61 =>
 condW t61 (
 K (.string (ofL [116,114,117,101])) w14) (
 binW .eql t57 (.int .i64 3) fun t63 =>
 condW t63 (
 K (.string (ofL [102,97,108,115,101])) w14) (
 JoinW (fun J15 =>
 binW .eql t57 (.int .i64 4) fun t65 =>
 condW t65 (
 J15 [t65] w14) (
 binW .eql t57 (.int .i64 9) fun t66 =>
 J15 [t66] w14))
 fun s15 _ w16 =>
 condW (s15.getD 0 undef) (
 fldW 1 t5 fun t67 =>
 ldW false 1 t67 w16 fun t68 =>
 K t68 w16) (
 binW .eql t57 (.int .i64 5) fun t70 =>
 condW t70 (
 fldW 1 t5 fun t71 =>
 ldW false 1 t71 w16 fun t72 =>
 callF Tryz.prog 60 [t72] w16 fun t73 w17 =>
 binW .add (.string (ofL [34])) t73 fun t74 =>
 binW .add t74 (.string (ofL [34])) fun t75 =>
 K t75 w17) (
 binW .eql t57 (.int .i64 6) fun t77 =>
 condW t77 (
 ldW true 3 t2 w16 fun t78 =>
 ldW true 5 t5 w16 fun t79 =>
 callF Tryz.prog 62 [t78,t79,(s6.getD 0 undef)] w16 fun t81 w18 =>
 K t81 w18) (
 binW .eql t57 (.int .i64 7) fun t83 =>
 condW t83 (
 binW .add (.string (ofL [91])) t55 fun t85 =>
 binW .add t85 (.string (ofL [93])) fun t86 =>
 K t86 w16) (
 binW .eql t57 (.int .i64 8) fun t88 =>
 condW t88 (
 binW .add (.string (ofL [123])) t55 fun t90 =>
 binW .add t90 (.string (ofL [125])) fun t91 =>
 K t91 w16) (
 binW .eql t57 (.int .i64 10) fun t93 =>
 condW t93 (
 ixaW none 1 (s6.getD 0 undef) (.int .i64 0) fun t95 =>
 ldW false 1 t95 w16.drew fun t96 =>
 binW .add (.string (ofL [40])) t96 fun t97 =>
 binW .add t97 (.string (ofL [41,46])) fun t98 =>
 fldW 1 t5 fun t99 =>
 ldW false 1 t99 w16.drew fun t100 =>
 binW .add t98 t100 fun t101 =>
 K t101 w16.drew) (
 binW .eql t57 (.int .i64 30) fun t103 =>
 condW t103 (
 ixaW none 1 (s6.getD 0 undef) (.int .i64 0) fun t105 =>
 ldW false 1 t105 w16.drew fun t106 =>
 binW .add (.string (ofL [40])) t106 fun t107 =>
 binW .add t107 (.string (ofL [41,91,42,93,46])) fun t108 =>
 fldW 1 t5 fun t109 =>
 ldW false 1 t109 w16.drew fun t110 =>
 binW .add t108 t110 fun t111 =>
 K t111 w16.drew) (
 binW .eql t57 (.int .i64 11) fun t113 =>
 condW t113 (
 ixaW none 1 (s6.getD 0 undef) (.int .i64 0) fun t115 =>
 ldW false 1 t115 w16.drew fun t116 =>
 binW .add (.string (ofL [40])) t116 fun t117 =>
 binW .add t117 (.string (ofL [41,91])) fun t118 =>
 ixaW none 1 (s6.getD 0 undef) (.int .i64 1) fun t120 =>
 ldW false 1 t120 w16.drew fun t121 =>
 binW .add t118 t121 fun t122 =>
 binW .add t122 (.string (ofL [93])) fun t123 =>
 K t123 w16.drew) (
 binW .eql t57 (.int .i64 12) fun t125 =>
 condW t125 (
 fldW 1 t5 fun t126 =>
 ldW false 1 t126 w16 fun t127 =>
 binW .add t127 (.string (ofL [40])) fun t128 =>
 binW .add t128 t55 fun t130 =>
 binW .add t130 (.string (ofL [41])) fun t131 =>
 K t131 w16) (
 binW .eql t57 (.int .i64 13) fun t133 =>
 condW t133 (
 binW .add (.string (ofL [40,45])) t55 fun t135 =>
 binW .add t135 (.string (ofL [41])) fun t136 =>
 K t136 w16) (
 binW .eql t57 (.int .i64 14) fun t138 =>
 condW t138 (
 binW .add (.string (ofL [40,33])) t55 fun t140 =>
 binW .add t140 (.string (ofL [41])) fun t141 =>
 K t141 w16) (
 binW .eql t57 (.int .i64 28) fun t143 =>
 condW t143 (
 ixaW none 1 (s6.getD 0 undef) (.int .i64 0) fun t145 =>
 ldW false 1 t145 w16.drew fun t146 =>
 binW .add (.string (ofL [40])) t146 fun t147 =>
 binW .add t147 (.string (ofL [32,63,32])) fun t148 =>
 ixaW none 1 (s6.getD 0 undef) (.int .i64 1) fun t150 =>
 ldW false 1 t150 w16.drew fun t151 =>
 binW .add t148 t151 fun t152 =>
 binW .add t152 (.string (ofL [32,58,32])) fun t153 =>
 ixaW none 1 (s6.getD 0 undef) (.int .i64 2) fun t155 =>
 ldW false 1 t155 w16.drew fun t156 =>
 binW .add t153 t156 fun t157 =>
 binW .add t157 (.string (ofL [41])) fun t158 =>
 K t158 w16.drew) (
 binW .eql t57 (.int .i64 29) fun t160 =>
 condW t160 (
 fldW 1 t5 fun t161 =>
 ldW false 1 t161 w16.drew fun t162 =>
 binW .add (.string (ofL [91,102,111,114,32])) t162 fun t163 =>
 binW .add t163 (.string (ofL [32,105,110,32])) fun t164 =>
 ixaW none 1 (s6.getD 0 undef) (.int .i64 0) fun t166 =>
 ldW false 1 t166 w16.drew fun t167 =>
 binW .add t164 t167 fun t168 =>
 binW .add t168 (.string (ofL [32,58,32])) fun t169 =>
 ixaW none 1 (s6.getD 0 undef) (.int .i64 1) fun t171 =>
 ldW false 1 t171 w16.drew fun t172 =>
 binW .add t169 t172 fun t173 =>
 binW .add t173 (.string (ofL [93])) fun t174 =>
 K t174 w16.drew) (
 ixaW none 1 (s6.getD 0 undef) (.int .i64 0) fun t176 =>
 ldW false 1 t176 w16.drew fun t177 =>
 binW .add (.string (ofL [40])) t177 fun t178 =>
 binW .add t178 (.string (ofL [32])) fun t179 =>
 fldW 0 t5 fun t180 =>
 ldW false 1 t180 w16.drew fun t181 =>
 ixaW none 1 (s6.getD 0 undef) (.int .i64 1) fun t186 =>
 ldW false 1 t186 w16.drew fun t187 =>
 callF Tryz.prog 63 [t181] w16.drew fun t182 w19 =>
 (ldW false 1 t186 w19 fun x => x = t187) ∧
 (ldW false 1 t176 w19 fun x => x = t177) ∧
 binW .add t179 t182 fun t183 =>
 binW .add t183 (.string (ofL [32])) fun t184 =>
 binW .add t184 t187 fun t188 =>
 binW .add t188 (.string (ofL [41])) fun t189 =>
 K t189 w19))))))))))))))))))
theorem W32_ok {v0 v1 : Value} {w : World} {K : Value → World → Prop} (h : W32 v0 v1 w K) : callF Tryz.prog 32 [v0,v1] w K :=
 tie _ 32 Tryz.f32 plan32 _ w K 2 _ rfl mixed Tryz.func32 (by kernel_rfl) (by kernel_rfl) Tryz.call32 h
def plan33 : Plan := { js := [(48,⟨[70],[15],70⟩),(31,⟨[48],[13],48⟩),(12,⟨[32],[11],32⟩)],ds := [(42,⟨[0,1,2,3,4,5,6,7,8,9,11,12],[[],[],[1],[],[3],[1,2,3,4],[1,2,3,4,5],[],[],[8],[7,8,9],[1,2,3,4,5,6,7,8,9,10],[1,2,3,4,5,6,7,8,9,10,11],[0,1,2,3,4,5,6,7,8,9,10,11,12]]⟩)] }
def W33 (v0 v1 v2 v3 : Value) (w : World) (K : Value → World → Prop) : Prop :=
 boxW 28 v1 w fun t5 w1 =>
 fldW 1 t5 fun t16 =>
 ldW false 1 t16 w1 fun t17 =>
 ixaW none 5 t17 v2 fun t19 =>
 ldW true 5 t19 w1 fun t20 =>
 allocW 38 [(.string (ofL [])),(.slice none 0 0),(.slice none 0 0),(.slice none 0 0),(.int .i64 0)] w1 fun t8 w2 =>
 stW 5 t8 t20 w2 fun w3 =>
 callF Tryz.prog 64 [(.string (ofL [32,32])),v3] w3 fun t22 w4 =>
 fldW 0 t8 fun t25 =>
 ldW false 1 t25 w4 fun t26 =>
 binW .add t22 t26 fun t27 =>
 callF Tryz.prog 65 [v0,t27] w4 fun t28 w5 =>
 fldW 1 t8 fun t29 =>
 ldW false 1 t29 w5 fun t30 =>
 lenlW t30 fun t31 =>
 LoopW [(.int .i64 0)] w5 fun s6 _ w7 L6 =>
 binW .lss (s6.getD 0 undef) t31 fun t33 =>
 condW t33 (
 ixaW none 1 t30 (s6.getD 0 undef) fun t34 =>
 ldW false 1 t34 w7 fun t35 =>
 callF Tryz.prog 60 [t35] w7 fun t38 w8 =>
 binW .add (.string (ofL [32,34])) t38 fun t39 =>
 binW .add t39 (.string (ofL [34])) fun t40 =>
 callF Tryz.prog 65 [v0,t40] w8 fun t41 w9 =>
 binW .add (s6.getD 0 undef) (.int .i64 1) fun t42 =>
 L6 [t42] w9) (
 callF Tryz.prog 65 [v0,(.string (ofL [32,123,10]))] w7 fun t44 w10 =>
 fldW 2 t8 fun t45 =>
 ldW false 1 t45 w10 fun t46 =>
 lenlW t46 fun t47 =>
 LoopW [(.int .i64 0)] w10 fun s11 _ w12 L11 =>
 binW .lss (s11.getD 0 undef) t47 fun t49 =>
 condW t49 (
 ixaW none 3 t46 (s11.getD 0 undef) fun t50 =>
 ldW true 3 t50 w12 fun t51 =>
 allocW 40 [(.string (ofL [])),(.int .i64 0),(.int .i64 0)] w12 fun t13 w13 =>
 stW 3 t13 t51 w13 fun w14 =>
 binW .add t22 (.string (ofL [32,32])) fun t54 =>
 fldW 0 t13 fun t55 =>
 ldW false 1 t55 w14.drew fun t56 =>
 binW .add t54 t56 fun t57 =>
 binW .add t57 (.string (ofL [32,61,32])) fun t58 =>
 ldW true 3 t5 w14.drew fun t59 =>
 fldW 1 t13 fun t60 =>
 ldW false 1 t60 w14.drew fun t61 =>
 callF Tryz.prog 32 [t59,t61] w14.drew fun t62 w15 =>
 (ldW false 1 t55 w15 fun x => x = t56) ∧
 binW .add t58 t62 fun t63 =>
 binW .add t63 (.string (ofL [10])) fun t64 =>
 callF Tryz.prog 65 [v0,t64] w15 fun t65 w16 =>
 binW .add (s11.getD 0 undef) (.int .i64 1) fun t66 =>
 L11 [t66] w16) (
 fldW 3 t8 fun t67 =>
 ldW false 1 t67 w12 fun t68 =>
 lenlW t68 fun t69 =>
 LoopW [(.int .i64 0)] w12 fun s17 _ w18 L17 =>
 binW .lss (s17.getD 0 undef) t69 fun t71 =>
 condW t71 (
 ixaW none 1 t68 (s17.getD 0 undef) fun t72 =>
 ldW false 1 t72 w18 fun t73 =>
 ldW true 3 t5 w18 fun t75 =>
 binW .add v3 (.int .i64 1) fun t78 =>
 callF Tryz.prog 33 [v0,t75,t73,t78] w18 fun t79 w19 =>
 binW .add (s17.getD 0 undef) (.int .i64 1) fun t80 =>
 L17 [t80] w19) (
 binW .add t22 (.string (ofL [125,10])) fun t83 =>
 callF Tryz.prog 65 [v0,t83] w18 fun t84 w20 =>
 K (.tuple #[]) w20)))
theorem W33_ok {v0 v1 v2 v3 : Value} {w : World} {K : Value → World → Prop} (h : W33 v0 v1 v2 v3 w K) : callF Tryz.prog 33 [v0,v1,v2,v3] w K :=
 tie _ 33 Tryz.f33 plan33 _ w K 4 _ rfl mixed Tryz.func33 (by kernel_rfl) (by kernel_rfl) Tryz.call33 h
def plan60 : Plan := { js := [(18,⟨[5],[5],8⟩),(22,⟨[12],[],12⟩),(8,⟨[],[5],8⟩)],ds := [] }
def W60 (v0 : Value) (w : World) (K : Value → World → Prop) : Prop :=
 allocW 84 [(.pointer none),(.slice none 0 0)] w fun t3 w1 =>
 semE Tryz.prog (Instr.range 9 v0) w1 fun t7 w2 =>
 LoopW [] w2 fun s3 _ w4 L3 =>
 semE Tryz.prog (Instr.next t7 true 0) w4 fun t8 w5 =>
 extW 0 t8 fun t9 =>
 condW t9 (
 extW 2 t8 fun t10 =>
 JoinW (fun J6 =>
 JoinW (fun J7 =>
 binW .eql t10 (.int .i32 92) fun t13 =>
 condW t13 (
 J7 [t13] w5) (
 binW .eql t10 (.int .i32 34) fun t14 =>
 condW t14 (
 J7 [t14] w5) (
 binW .eql t10 (.int .i32 36) fun t15 =>
 J7 [t15] w5)))
 fun s7 _ w8 =>
 condW (s7.getD 0 undef) (
 callF Tryz.prog 89 [t3,(.int .u8 92)] w8 fun t16 w9 =>
 J6 [t10] w9) (
 binW .eql t10 (.int .i32 10) fun t18 =>
 condW t18 (
 callF Tryz.prog 89 [t3,(.int .u8 92)] w8 fun t19 w10 =>
 J6 [(.int .i32 110)] w10) (
 binW .eql t10 (.int .i32 9) fun t21 =>
 condW t21 (
 callF Tryz.prog 89 [t3,(.int .u8 92)] w8 fun t22 w11 =>
 J6 [(.int .i32 116)] w11) (
 binW .eql t10 (.int .i32 13) fun t24 =>
 condW t24 (
 callF Tryz.prog 89 [t3,(.int .u8 92)] w8 fun t25 w12 =>
 J6 [(.int .i32 114)] w12) (
 J6 [t10] w8)))))
 fun s6 _ w13 =>
 callF Tryz.prog 90 [t3,(s6.getD 0 undef)] w13 fun t27 w14 =>
 L3 [] w14) (
 callF Tryz.prog 34 [t3] w5 fun t28 w15 =>
 K t28 w15)
theorem W60_ok {v0 : Value} {w : World} {K : Value → World → Prop} (h : W60 v0 w K) : callF Tryz.prog 60 [v0] w K :=
 tie _ 60 Tryz.f60 plan60 _ w K 1 _ rfl mixed Tryz.func60 (by kernel_rfl) (by kernel_rfl) Tryz.call60 h
def plan62 : Plan := { js := [(17,⟨[],[8,9],14⟩),(10,⟨[13],[8,9],13⟩)],ds := [(24,⟨[0,1,2,3,4,5,6,7,8,9],[[],[0],[],[2],[],[2,3,4],[2,3,4,5],[0,1,2,3,4,5,6],[0,1,2,3,4,5,6,7],[0,1,2,3,4,5,6,7,8],[0,1,2,3,4,5,6,7,8,9],[0,1,2,3,4,5,6,7,8,9,10]]⟩)] }
def W62 (v0 v1 v2 : Value) (w : World) (K : Value → World → Prop) : Prop :=
 boxW 28 v0 w fun t3 w1 =>
 boxW 35 v1 w1 fun t4 w2 =>
 allocW 84 [(.pointer none),(.slice none 0 0)] w2 fun t7 w3 =>
 callF Tryz.prog 89 [t7,(.int .u8 34)] w3 fun t10 w4 =>
 lenlW v2 fun t12 =>
 LoopW [(.int .i64 0)] w4 fun s5 _ w6 L5 =>
 binW .lss (s5.getD 0 undef) t12 fun t14 =>
 condW t14 (
 JoinW (fun J7 =>
 ixaW none 1 v2 (s5.getD 0 undef) fun t16 =>
 ldW false 1 t16 w6 fun t17 =>
 fldW 3 t4 fun t18 =>
 ldW false 1 t18 w6 fun t19 =>
 ixaW none 1 t19 (s5.getD 0 undef) fun t21 =>
 ldW false 1 t21 w6 fun t22 =>
 binW .eql t22 (.string (ofL [116])) fun t23 =>
 condW t23 (
 fldW 0 t3 fun t24 =>
 ldW false 1 t24 w6.drew fun t25 =>
 fldW 2 t4 fun t26 =>
 ldW false 1 t26 w6.drew fun t27 =>
 ixaW none 1 t27 (s5.getD 0 undef) fun t29 =>
 ldW false 1 t29 w6.drew fun t30 =>
 ixaW none 5 t25 t30 fun t31 =>
 fldW 1 t31 fun t32 =>
 ldW false 1 t32 w6.drew fun t33 =>
 callF Tryz.prog 60 [t33] w6.drew fun t34 w8 =>
 callF Tryz.prog 65 [t7,t34] w8 fun t35 w9 =>
 J7 [] w9) (
 binW .add (.string (ofL [36,123])) t17 fun t37 =>
 binW .add t37 (.string (ofL [125])) fun t38 =>
 callF Tryz.prog 65 [t7,t38] w6 fun t39 w10 =>
 J7 [] w10))
 fun s7 _ w11 =>
 binW .add (s5.getD 0 undef) (.int .i64 1) fun t40 =>
 L5 [t40] w11) (
 callF Tryz.prog 89 [t7,(.int .u8 34)] w6 fun t41 w12 =>
 callF Tryz.prog 34 [t7] w12 fun t42 w13 =>
 K t42 w13)
theorem W62_ok {v0 v1 v2 : Value} {w : World} {K : Value → World → Prop} (h : W62 v0 v1 v2 w K) : callF Tryz.prog 62 [v0,v1,v2] w K :=
 tie _ 62 Tryz.f62 plan62 _ w K 3 _ rfl mixed Tryz.func62 (by kernel_rfl) (by kernel_rfl) Tryz.call62 h
def plan63 : Plan := { js := [],ds := [] }
def W63 (v0 : Value) (w : World) (K : Value → World → Prop) : Prop :=
 putW (List.replicate 13 (.string (ofL []))) [(0,1,(.string (ofL [43]))),(1,1,(.string (ofL [45]))),(2,1,(.string (ofL [42]))),(3,1,(.string (ofL [47]))),(4,1,(.string (ofL [37]))),(5,1,(.string (ofL [61,61]))),(6,1,(.string (ofL [33,61]))),(7,1,(.string (ofL [60]))),(8,1,(.string (ofL [62]))),(9,1,(.string (ofL [60,61]))),(10,1,(.string (ofL [62,61]))),(11,1,(.string (ofL [38,38]))),(12,1,(.string (ofL [124,124])))] fun c1 =>
 binW .sub v0 (.int .i64 15) fun t5 =>
 ixgW 13 false 1 (.agg c1.toArray) t5 fun t6 =>
 K t6 w
theorem W63_ok {v0 : Value} {w : World} {K : Value → World → Prop} (h : W63 v0 w K) : callF Tryz.prog 63 [v0] w K :=
 tie _ 63 Tryz.f63 plan63 _ w K 1 _ rfl mixed Tryz.func63 (by kernel_rfl) (by kernel_rfl) Tryz.call63 h
end Go.Proofs.YtofhaneggcpdaaaGreatDoor
namespace Go.Proofs.YtofhaneggcpdaaaGreatDoor
open Go Go.Eng Go.RowKit Go.Syn Go.Lex
set_option maxRecDepth 100000
variable [HX]
theorem plain_same {u : Str} (h : ∀ c ∈ u,c ≠ 92 ∧ c ≠ 34 ∧ c ≠ 36 ∧ c ≠ 10 ∧ c ≠ 9 ∧ c ≠ 13) : plainM u = u := by
 induction u with
 | nil => rfl
 | cons c u ih =>
   have h1 := h c (by simp)
   rw [plain_cons,ih fun d hd => h d (List.mem_cons_of_mem _ hd)]
   unfold plainB
   rw [if_neg (by rintro (e | e | e); exact h1.1 e; exact h1.2.1 e; exact h1.2.2.1 e),if_neg h1.2.2.2.1,if_neg h1.2.2.2.2.1,if_neg h1.2.2.2.2.2]
   rfl
theorem plain_app (a b : Str) : plainM (a ++ b) = plainM a ++ plainM b := List.flatMap_append
theorem plain_len (s : Str) : (plainM s).length ≤ 2 * s.length := by
 induction s with
 | nil => exact Nat.le_refl _
 | cons c s ih =>
   rw [plain_cons,List.length_append,List.length_cons]
   have : (plainB c).length ≤ 2 := by
     have := plain_b c
     generalize plainB c = p at this
     cases this <;> simp
   omega
theorem splain_p {s : Str} {w : World} {K : Value → World → Prop} (hs : Utf s) (hl : s.length ≤ 1000000000) (hK : ∀ w',Ext w w' → K (str (plainM s)) w') : callF Tryz.prog 60 [str s] w K := by
 refine W60_ok ?_
 unfold W60
 refine bnew (B := w.heap.size) (Nat.le_refl _) fun b w1 hbb h1 hx1 => ?_
 have hz1 := hx1.size
 have hb1 := h1.lt
 refine range_str ?_
 have hc2 : Chg (BCh w1 w.heap.size b) w1 (w1.alloc (.stringIter (ofL s) 0)) := Chg.of_ext (Chg.alloc (Chg.refl _ _) _)
 refine ⟨fun s' w4 => ∃ p,p ≤ s.length ∧ Utf (s.drop p) ∧ w4.heap[w1.heap.size]? = some (.stringIter (ofL s) p) ∧ Bld w4 w.heap.size b (plainM (s.take p)) ∧ Chg (BCh w1 w.heap.size b) w1 w4,
   fun _ w4 => match w4.heap[w1.heap.size]? with | some (.stringIter _ p) => s.length - p | _ => 0,
   ⟨0,Nat.zero_le _,by rw [List.drop_zero]; exact hs,heap_anew _ _ _ rfl,by rw [List.take_zero]; exact h1.ext (Chg.alloc (Chg.refl _ _) _),hc2⟩,?_⟩
 rintro s' g w4 ⟨p,hp,hu,hit,h4,hc4⟩
 have hz4 := hc4.size
 have hfl := plain_len (s.take p)
 have htl : (s.take p).length = p := by rw [List.length_take]; omega
 refine next_str hit (fun hpe => ?_) (fun hpl w5 hit5 hc5 hz5 => ?_)
 · rw [ext_tuple]
   refine ⟨.bool false,rfl,?_⟩
   rw [condW_false]
   obtain rfl : p = s.length := by omega
   rw [List.take_length] at h4
   refine bstring_p h4 (by omega) fun w6 hc6 => ?_
   refine hK w6 ((BCh.new hx1 (Nat.le_refl _) h1.base hc4).then hc6 fun k hk e => by omega)
 · have hne : s.drop p ≠ [] := fun e => by have := List.drop_eq_nil_iff.1 e; omega
   obtain ⟨u,r,hru,hur,hdr⟩ : ∃ u r,Rn u ∧ Utf r ∧ s.drop p = u ++ r := by
     cases hd : s.drop p with
     | nil => exact absurd hd hne
     | cons x y =>
       rw [hd] at hu
       generalize he : x :: y = z at hu
       cases hu with
       | nil => cases he
       | cons h1 h2 => exact ⟨_,_,h1,h2,rfl⟩
   have hrm : runeM s p = u.length := hru.at hdr
   have hup := hru.pos
   obtain ⟨c,hc⟩ := rune_good hpl (by omega)
   rw [hrm] at hc
   have htk : (s.drop p).take u.length = u := by rw [hdr,List.take_left]
   have hnext : s.take (p + u.length) = s.take p ++ u := by rw [List.take_add,htk]
   have hdr2 : s.drop (p + u.length) = r := drop_app hdr
   have hdec := hc.dec
   have hct := hc.top
   have hcv := hc.val
   have hcu : wrM c = u := by rw [← wr_enc (by omega),hc.bytes,htk]
   rw [hdec] at hit5
   have h5 : Bld w5 w.heap.size b (plainM (s.take p)) := h4.chg hc5 (fun e => by have := e; omega) fun k hk e => by
     obtain ⟨_,c',hc'⟩ := hk
     have e : k = w1.heap.size := e
     rw [e,hit] at hc'; cases hc'
   have hc5' : Chg (BCh w1 w.heap.size b) w1 w5 := hc4.then hc5 fun k hk e => by omega
   have hfit := hc.fits
   have fin : ∀ w6,Bld w6 w.heap.size b (plainM (s.take p) ++ plainM u) → Chg (BCh w5 w.heap.size b) w5 w6 → (fun (s' : List Value) w4 => ∃ p,p ≤ s.length ∧ Utf (s.drop p) ∧ w4.heap[w1.heap.size]? = some (.stringIter (ofL s) p) ∧ Bld w4 w.heap.size b (plainM (s.take p)) ∧ Chg (BCh w1 w.heap.size b) w1 w4) [] w6 ∧
       (match w6.heap[w1.heap.size]? with | some (.stringIter _ p) => s.length - p | _ => 0) < (match w4.heap[w1.heap.size]? with | some (.stringIter _ p) => s.length - p | _ => 0) := by
     intro w6 h6 hc6
     have hit6 := BCh.iter hc6 hit5 (by omega)
     refine ⟨⟨p + u.length,hfit,by rw [hdr2]; exact hur,hit6,?_,BCh.trans hc5' hc6⟩,?_⟩
     · rw [hnext,plain_app]; exact h6
     · rw [hit6,hit]
       show s.length - (p + u.length) < s.length - p
       omega
   rw [ext_tuple]
   refine ⟨.bool true,rfl,?_⟩
   rw [condW_true,ext_tuple]
   refine ⟨.int .i32 (c : Int),by rw [hdec]; rfl,?_⟩
   have same : c ≠ 92 → c ≠ 34 → c ≠ 36 → c ≠ 10 → c ≠ 9 → c ≠ 13 → plainM u = u := fun a1 a2 a3 a4 a5 a6 => by
     refine plain_same fun d hd => ?_
     have key : ∀ k : UInt8,k.toNat < 128 → c ≠ k.toNat → d ≠ k := fun k hk hck e => by
       subst e
       rcases hru.cases with ⟨x,hx,hxl⟩ | hh
       · subst hx
         rw [List.mem_singleton] at hd
         subst hd
         have hcx : c = d.toNat := by
           have := (hc.low rfl).1
           rw [this]
           have e := byteM_in hpl
           rw [Go.Eng.byte_at (show s.drop p = d :: r from hdr)] at e
           omega
         exact hck hcx
       · have := hh d hd
         omega
     exact ⟨key 92 (by decide) a1,key 34 (by decide) a2,key 36 (by decide) a3,key 10 (by decide) a4,key 9 (by decide) a5,key 13 (by decide) a6⟩
   refine JoinW.cut (fun st w' => ∃ (c' : Nat) (pre : Str),st = [.int .i32 (c' : Int)] ∧ (c' < 55296 ∨ 57343 < c' ∧ c' ≤ 1114111) ∧ pre.length ≤ 1 ∧ pre ++ wrM c' = plainM u ∧ Bld w' w.heap.size b (plainM (s.take p) ++ pre) ∧ Chg (BCh w5 w.heap.size b) w5 w') ?_ ?_
   · refine JoinW.cut (fun st w' => st = [.bool (decide (c = 92 ∨ c = 34 ∨ c = 36))] ∧ w' = w5) ?_ ?_
     · rw [bin_eql,condW_dec]
       refine ⟨fun h => ?_,fun h => ?_⟩
       · rw [decide_eq_true h,decide_eq_true (.inl (by omega))]; exact ⟨rfl,rfl⟩
       rw [bin_eql,condW_dec]
       refine ⟨fun h => ?_,fun h => ?_⟩
       · rw [decide_eq_true h,decide_eq_true (.inr (.inl (by omega)))]; exact ⟨rfl,rfl⟩
       rw [bin_eql]
       rw [show decide ((c : Int) = 36) = decide (c = 92 ∨ c = 34 ∨ c = 36) by rw [decide_eq_decide]; omega]
       exact ⟨rfl,rfl⟩
     rintro st g7 w8 ⟨rfl,rfl⟩
     simp only [List.getD_cons_zero]
     have wr : ∀ {c' : Nat},c' < 128 → ∀ w9,Bld w9 w.heap.size b (plainM (s.take p) ++ [UInt8.ofNat 92]) → Chg (BCh w8 w.heap.size b) w8 w9 → [92] ++ wrM c' = plainM u → ∃ (c'' : Nat) (pre : Str),[Value.int .i32 (c' : Int)] = [.int .i32 (c'' : Int)] ∧ (c'' < 55296 ∨ 57343 < c'' ∧ c'' ≤ 1114111) ∧ pre.length ≤ 1 ∧ pre ++ wrM c'' = plainM u ∧ Bld w9 w.heap.size b (plainM (s.take p) ++ pre) ∧ Chg (BCh w8 w.heap.size b) w8 w9 :=
       fun {c'} h1 w9 h2 h3 h4 => ⟨c',[92],rfl,.inl (by omega),Nat.le_refl _,h4,h2,h3⟩
     rw [condW_dec]
     refine ⟨fun h => ?_,fun h => ?_⟩
     · refine wbyte_p (n := 92) h5 (by omega) (by omega) (by omega) fun w9 h9 hc9 => ?_
       refine wr (by omega) w9 h9 hc9 ?_
       rw [← hcu]
       rcases h with rfl | rfl | rfl <;> rfl
     rw [bin_eql,condW_dec]
     refine ⟨fun h2 => ?_,fun h2 => ?_⟩
     · refine wbyte_p (n := 92) h5 (by omega) (by omega) (by omega) fun w9 h9 hc9 => ?_
       refine wr (c' := 110) (by omega) w9 h9 hc9 ?_
       rw [← hcu,show c = 10 by omega]; rfl
     rw [bin_eql,condW_dec]
     refine ⟨fun h3 => ?_,fun h3 => ?_⟩
     · refine wbyte_p (n := 92) h5 (by omega) (by omega) (by omega) fun w9 h9 hc9 => ?_
       refine wr (c' := 116) (by omega) w9 h9 hc9 ?_
       rw [← hcu,show c = 9 by omega]; rfl
     rw [bin_eql,condW_dec]
     refine ⟨fun h4 => ?_,fun h4 => ?_⟩
     · refine wbyte_p (n := 92) h5 (by omega) (by omega) (by omega) fun w9 h9 hc9 => ?_
       refine wr (c' := 114) (by omega) w9 h9 hc9 ?_
       rw [← hcu,show c = 13 by omega]; rfl
     refine ⟨c,[],rfl,by omega,Nat.zero_le _,?_,by rw [List.append_nil]; exact h5,Chg.refl _ _⟩
     rw [List.nil_append,hcu]
     exact (same (by omega) (by omega) (by omega) (by omega) (by omega) (by omega)).symm
   rintro st g6 w13 ⟨c',pre,rfl,hcv',hpl',hw,h13,hc13⟩
   simp only [List.getD_cons_zero]
   have hz13 := hc13.size
   refine wrune_p h13 (by omega) (by rw [List.length_append]; omega) hcv' fun v w14 h14 hc14 => ?_
   rw [List.append_assoc,hw] at h14
   exact fin w14 h14 (BCh.trans hc13 hc14)
end Go.Proofs.YtofhaneggcpdaaaGreatDoor
namespace Go.Proofs.YtofhaneggcpdaaaGreatDoor
open Go Go.Eng Go.RowKit Go.Syn Go.Lex
set_option maxRecDepth 100000
theorem drop_drop' (s : Str) (i j : Nat) : (s.drop i).drop j = s.drop (i + j) := List.drop_drop
section
variable [HX]
def BraC (n : Nat) : Prop := ∀ (s : Str) (w : World) (K : Value → World → Prop),s.length ≤ n → s.length ≤ 1000000 → K (i64 (braX s 0 : Nat)) w → callF Tryz.prog 102 [str s] w K
def QuoC (n : Nat) : Prop := ∀ (c : UInt8) (r : Str) (w : World) (K : Value → World → Prop),r.length < n → r.length ≤ 1000000 → K (i64 ((1 + quoX r : Nat) : Int)) w → callF Tryz.prog 130 [str (c :: r)] w K
theorem bra_step {n : Nat} (hq : QuoC n) : BraC n := by
 intro s w K hn hl hK
 refine W102_ok ?_
 unfold W102
 refine LoopW.go (fun st w' => ∃ (d : Int) (i : Nat),st = [i64 d,i64 (i : Nat)] ∧ i ≤ s.length ∧ w' = w ∧ i + braX (s.drop i) d = braX s 0 ∧ -(i : Int) ≤ d ∧ d ≤ i) (fun st _ => match st with | [_,.int _ i] => s.length - i.toNat | _ => 0) ⟨0,0,rfl,by omega,rfl,by simp,by omega,by omega⟩ ?_
 rintro st g w2 ⟨d,i,rfl,hi,rfl,hb,hd1,hd2⟩
 simp only [List.getD_cons_zero,List.getD_cons_succ]
 rw [lens_str,bin_lss,condW_dec]
 refine ⟨fun hlt => ?_,fun hge => ?_⟩
 · have hlt : i < s.length := by omega
   have hd := drop_len hlt
   rw [hd,braX_cons] at hb
   have cond : ∀ (k : Nat),k < 256 → (((s[i].toNat : Nat) : Int) = (k : Int) ↔ s[i] = UInt8.ofNat k) := fun k hk => by
     have := u8_eq s[i] k hk
     rwa [decide_eq_decide] at this
   refine JoinW.cut (fun st w' => w' = w2 ∧ ∃ (d' : Int) (j : Nat),st = [i64 d',i64 (j : Nat)] ∧ i ≤ j ∧ j < s.length ∧ j + 1 + braX (s.drop (j + 1)) d' = braX s 0 ∧ -((j + 1 : Nat) : Int) ≤ d' ∧ d' ≤ ((j + 1 : Nat) : Int)) ?_ ?_
   · refine ixs_i hlt ?_
     rw [bin_eql,condW_dec]
     refine ⟨fun e => ?_,fun e => ?_⟩
     · have e : s[i] = 123 := (cond 123 (by omega)).1 e
       rw [if_pos e] at hb
       rw [bin_add,wrap_id (by omega) (by omega)]
       exact ⟨rfl,d + 1,i,rfl,Nat.le_refl _,hlt,by omega,by omega,by omega⟩
     have e : ¬ s[i] = 123 := fun h => e ((cond 123 (by omega)).2 h)
     rw [if_neg e] at hb
     rw [bin_eql,condW_dec]
     refine ⟨fun e => ?_,fun e => ?_⟩
     · have e : s[i] = 125 := (cond 125 (by omega)).1 e
       rw [if_pos e] at hb
       rw [bin_sub,wrap_id (by omega) (by omega),bin_eql,condW_dec]
       refine ⟨fun h0 => ?_,fun h0 => ?_⟩
       · rw [if_pos h0] at hb
         rw [bin_add,upi (by omega),hb]
         exact hK
       · rw [if_neg h0] at hb
         exact ⟨rfl,d - 1,i,rfl,Nat.le_refl _,hlt,by omega,by omega,by omega⟩
     have e : ¬ s[i] = 125 := fun h => e ((cond 125 (by omega)).2 h)
     rw [if_neg e] at hb
     rw [bin_eql,condW_dec]
     refine ⟨fun e => ?_,fun e => ?_⟩
     · have e : s[i] = 34 := (cond 34 (by omega)).1 e
       rw [if_pos e] at hb
       rw [sls_str,bd_none,bd_some]
       refine ⟨by omega,by omega,?_⟩
       rw [List.take_length,Int.toNat_natCast,hd]
       refine hq _ _ _ _ (by rw [List.length_drop]; omega) (by rw [List.length_drop]; omega) ?_
       have hle := (bq_le _ (s.drop (i + 1)) (Nat.le_refl _)).2
       rw [List.length_drop] at hle
       rw [bin_sub,wrap_id (by omega) (by omega),bin_add,wrap_id (by omega) (by omega)]
       rw [drop_drop'] at hb
       refine ⟨rfl,d,i + quoX (s.drop (i + 1)),?_,by omega,?_,?_,by omega,by omega⟩
       · simp only [List.cons.injEq,Value.int.injEq,true_and,and_true]; omega
       · omega
       · rw [show i + quoX (s.drop (i + 1)) + 1 = i + 1 + quoX (s.drop (i + 1)) by omega]; omega
     have e : ¬ s[i] = 34 := fun h => e ((cond 34 (by omega)).2 h)
     rw [if_neg e] at hb
     exact ⟨rfl,d,i,rfl,Nat.le_refl _,hlt,by omega,by omega,by omega⟩
   rintro st g2 w3 ⟨rfl,d',j,rfl,hij,hj,hb',h1,h2⟩
   simp only [List.getD_cons_zero,List.getD_cons_succ]
   rw [bin_add,upi (by omega)]
   refine ⟨⟨d',j + 1,rfl,by omega,trivial,by omega,by omega,by omega⟩,?_⟩
   simp only [Int.toNat_natCast]; omega
 · obtain rfl : i = s.length := by omega
   rw [List.drop_length,braX_nil] at hb
   rw [← hb] at hK
   exact hK
theorem quo_step {n : Nat} (hbr : BraC n) : QuoC (n + 1) := by
 intro c r w K hn hl hK
 refine W130_ok ?_
 unfold W130
 have hlen : (c :: r).length = r.length + 1 := rfl
 refine LoopW.go (fun st w' => ∃ (i : Nat),st = [i64 ((i + 1 : Nat) : Int)] ∧ w' = w ∧ ((i ≤ r.length ∧ i + quoX (r.drop i) = quoX r) ∨ (i = r.length + 1 ∧ quoX r = r.length))) (fun st _ => match st with | [.int _ i] => r.length + 2 - i.toNat | _ => 0) ⟨0,rfl,rfl,.inl ⟨by omega,by simp⟩⟩ ?_
 rintro st g w2 ⟨i,rfl,rfl,hbi⟩
 simp only [List.getD_cons_zero,List.getD_cons_succ]
 rw [lens_str,bin_lss,condW_dec,hlen]
 refine ⟨fun hlt => ?_,fun hge => ?_⟩
 · have hlt : i < r.length := by omega
   obtain ⟨hi,hb⟩ := hbi.resolve_right (by omega)
   have hd := drop_len hlt
   rw [hd,quoX_cons] at hb
   have cond : ∀ (k : Nat),k < 256 → (((r[i].toNat : Nat) : Int) = (k : Int) ↔ r[i] = UInt8.ofNat k) := fun k hk => by
     have := u8_eq r[i] k hk
     rwa [decide_eq_decide] at this
   have ix : ∀ {KK : Value → Prop},KK (.int .u8 (r[i].toNat : Nat)) → ixsW (str (c :: r)) (i64 ((i + 1 : Nat) : Int)) KK := fun h => ixs_i (s := c :: r) (i := i + 1) (by rw [hlen]; omega) h
   refine JoinW.cut (fun st w' => w' = w2 ∧ ∃ (j : Nat),st = [i64 ((j + 1 : Nat) : Int)] ∧ i ≤ j ∧ ((j + 1 ≤ r.length ∧ j + 1 + quoX (r.drop (j + 1)) = quoX r) ∨ (j + 1 = r.length + 1 ∧ quoX r = r.length))) ?_ ?_
   · refine ix ?_
     rw [bin_eql,condW_dec]
     refine ⟨fun e => ?_,fun e => ?_⟩
     · have e : r[i] = 34 := (cond 34 (by omega)).1 e
       rw [if_pos e] at hb
       rw [bin_add,upi (by omega)]
       rw [← hb,show 1 + (i + 1) = i + 1 + 1 by omega] at hK
       exact hK
     have e : ¬ r[i] = 34 := fun h => e ((cond 34 (by omega)).2 h)
     rw [if_neg e] at hb
     refine ix ?_
     rw [bin_eql,condW_dec]
     refine ⟨fun e => ?_,fun e => ?_⟩
     · have e : r[i] = 92 := (cond 92 (by omega)).1 e
       rw [if_pos e] at hb
       rw [bin_add,upi (by omega)]
       refine ⟨rfl,i + 1,rfl,by omega,?_⟩
       cases hr : r.drop (i + 1) with
       | nil =>
         rw [hr] at hb
         have hle : r.length ≤ i + 1 := by
           have := congrArg List.length hr
           rw [List.length_drop,List.length_nil] at this; omega
         simp only at hb
         exact .inr ⟨by omega,by omega⟩
       | cons x rr =>
         rw [hr] at hb
         simp only at hb
         have e2 : r.drop (i + 1 + 1) = rr := by rw [← drop_drop',hr]; rfl
         have e3 := congrArg List.length hr
         rw [List.length_drop,List.length_cons] at e3
         exact .inl ⟨by omega,by rw [e2]; omega⟩
     have e : ¬ r[i] = 92 := fun h => e ((cond 92 (by omega)).2 h)
     rw [if_neg e] at hb
     rw [sls_str,bd_none,bd_some]
     refine ⟨by omega,by rw [hlen]; omega,?_⟩
     rw [List.take_length,Int.toNat_natCast,List.drop_succ_cons,hd]
     refine hasp_p ?_
     rw [pre_eq,condW_b]
     refine ⟨fun e => ?_,fun e => ?_⟩
     · rw [if_pos e] at hb
       rw [bin_add,upi (by omega),sls_str,bd_none,bd_some]
       refine ⟨by omega,by rw [hlen]; omega,?_⟩
       rw [List.take_length,Int.toNat_natCast,List.drop_succ_cons]
       refine hbr _ _ _ (by rw [List.length_drop]; omega) (by rw [List.length_drop]; omega) ?_
       have hle := braX_le (r.drop (i + 1)) 0
       rw [List.length_drop] at hle
       rw [bin_add,wrap_id (by omega) (by omega)]
       rw [drop_drop'] at hb
       refine ⟨rfl,i + braX (r.drop (i + 1)) 0,?_,by omega,.inl ⟨by omega,?_⟩⟩
       · simp only [List.cons.injEq,Value.int.injEq,true_and,and_true]; omega
       · rw [show i + braX (r.drop (i + 1)) 0 + 1 = i + 1 + braX (r.drop (i + 1)) 0 by omega]; omega
     · rw [if_neg (by rw [e]; decide)] at hb
       exact ⟨rfl,i,rfl,Nat.le_refl _,.inl ⟨by omega,by omega⟩⟩
   rintro st g2 w3 ⟨rfl,j,rfl,hij,hb'⟩
   simp only [List.getD_cons_zero,List.getD_cons_succ]
   rw [bin_add,upi (by omega)]
   refine ⟨⟨j + 1,rfl,trivial,hb'⟩,?_⟩
   simp only [Int.toNat_natCast]; omega
 · have hq : quoX r = r.length := by
     rcases hbi with ⟨hi,hb⟩ | h
     · rw [List.drop_of_length_le (by omega),quoX_nil] at hb
       omega
     · exact h.2
   rw [hq,show 1 + r.length = r.length + 1 by omega] at hK
   exact hK
theorem bra_quo : ∀ n,BraC n ∧ QuoC n
 | 0 => have hq : QuoC 0 := fun _ _ _ _ h => by omega
   ⟨bra_step hq,hq⟩
 | n + 1 => have hq := quo_step (bra_quo n).1
   ⟨bra_step hq,hq⟩
theorem braces_p {s : Str} {w : World} {K : Value → World → Prop} (hl : s.length ≤ 1000000) (hK : K (i64 (braM s : Nat)) w) : callF Tryz.prog 102 [str s] w K := (bra_quo s.length).1 s w K (Nat.le_refl _) hl hK
def insV (s : Str) : List Value := match Syn.insP s with | some (i,e) => [i64 (i : Nat),i64 (e : Nat)] | none => [i64 (-1),i64 0]
theorem insP_cons (c : UInt8) (r : Str) : Syn.insP (c :: r) = if c = 92 then (Syn.insP (r.drop 1)).map (fun x => (x.1 + 2,x.2 + 2)) else if preM [36,123] (c :: r) = true then some (0,1 + braM r) else (Syn.insP r).map fun x => (x.1 + 1,x.2 + 1) := by
 cases r with
 | nil =>
   simp only [Syn.insP,List.drop_nil,Option.map_none]
   split
   · rfl
   · simp [preM,List.isPrefixOf]
 | cons e r =>
   simp only [Syn.insP,List.drop_succ_cons,List.drop_zero]
   split
   · rfl
   · have : (c = 36 ∧ e = 123) ↔ preM [36,123] (c :: e :: r) = true := by
       simp [preM,List.isPrefixOf]
       exact ⟨fun h => ⟨h.1.symm,h.2.symm⟩,fun h => ⟨h.1.symm,h.2.symm⟩⟩
     by_cases h : c = 36 ∧ e = 123
     · rw [if_pos h,if_pos (this.1 h)]
     · rw [if_neg h,if_neg (fun x => h (this.2 x))]
theorem insertion_p {s : Str} {w : World} {K : Value → World → Prop} (hl : s.length ≤ 1000000) (hK : K (.tuple (insV s).toArray) w) : callF Tryz.prog 78 [str s] w K := by
 refine W78_ok ?_
 unfold W78
 refine LoopW.go (fun st w' => ∃ (i : Nat),st = [i64 (i : Nat)] ∧ w' = w ∧ Syn.insP s = (Syn.insP (s.drop i)).map fun x => (x.1 + i,x.2 + i)) (fun st _ => match st with | [.int _ i] => s.length + 1 - i.toNat | _ => 0) ⟨0,rfl,rfl,by rw [List.drop_zero]; cases Syn.insP s <;> rfl⟩ ?_
 rintro st g w2 ⟨i,rfl,rfl,hb⟩
 simp only [List.getD_cons_zero]
 rw [lens_str,bin_lss,condW_dec]
 unfold insV at hK
 refine ⟨fun hlt => ?_,fun hge => ?_⟩
 · have hlt : i < s.length := by omega
   have hd := drop_len hlt
   rw [hd,insP_cons] at hb
   have cond : ∀ (k : Nat),k < 256 → (((s[i].toNat : Nat) : Int) = (k : Int) ↔ s[i] = UInt8.ofNat k) := fun k hk => by
     have := u8_eq s[i] k hk
     rwa [decide_eq_decide] at this
   refine JoinW.cut (fun st w' => w' = w2 ∧ ∃ (j : Nat),st = [i64 (j : Nat)] ∧ i ≤ j ∧ j ≤ i + 1 ∧ Syn.insP s = (Syn.insP (s.drop (j + 1))).map fun x => (x.1 + (j + 1),x.2 + (j + 1))) ?_ ?_
   · refine ixs_i hlt ?_
     rw [bin_eql,condW_dec]
     refine ⟨fun e => ?_,fun e => ?_⟩
     · have e : s[i] = 92 := (cond 92 (by omega)).1 e
       rw [if_pos e,drop_drop'] at hb
       rw [bin_add,upi (by omega)]
       refine ⟨rfl,i + 1,rfl,by omega,by omega,?_⟩
       rw [hb,Option.map_map]
       congr 1
       funext x
       simp only [Function.comp,Prod.mk.injEq]
       omega
     have e : ¬ s[i] = 92 := fun h => e ((cond 92 (by omega)).2 h)
     rw [if_neg e] at hb
     rw [sls_str,bd_none,bd_some]
     refine ⟨by omega,by omega,?_⟩
     rw [List.take_length,Int.toNat_natCast,hd]
     refine hasp_p ?_
     rw [pre_eq,condW_b]
     refine ⟨fun e => ?_,fun e => ?_⟩
     · rw [if_pos e] at hb
       rw [bin_add,upi (by omega),bin_add,upi (by omega),sls_str,bd_none,bd_some]
       refine ⟨by omega,by omega,?_⟩
       rw [List.take_length,Int.toNat_natCast]
       refine braces_p (by rw [List.length_drop]; omega) ?_
       have hle := braX_le (s.drop (i + 1)) 0
       have eb : braM (s.drop (i + 1)) = braX (s.drop (i + 1)) 0 := rfl
       rw [List.length_drop] at hle
       rw [bin_add,wrap_id (by omega) (by omega)]
       rw [hb] at hK
       simp only [Option.map_some] at hK
       have e1 : ((0 + i : Nat) : Int) = (i : Int) := by omega
       have e2 : ((1 + braM (s.drop (i + 1)) + i : Nat) : Int) = ((i + 1 : Nat) : Int) + (braM (s.drop (i + 1)) : Nat) := by omega
       rw [e1,e2] at hK
       exact hK
     · rw [if_neg (by rw [e]; decide)] at hb
       refine ⟨rfl,i,rfl,by omega,by omega,?_⟩
       rw [hb,Option.map_map]
       congr 1
       funext x
       simp only [Function.comp,Prod.mk.injEq]
       omega
   rintro st g2 w3 ⟨rfl,j,rfl,hij,hj,hb'⟩
   simp only [List.getD_cons_zero]
   rw [bin_add,upi (by omega)]
   refine ⟨⟨j + 1,rfl,trivial,hb'⟩,?_⟩
   simp only [Int.toNat_natCast]; omega
 · rw [List.drop_of_length_le (by omega)] at hb
   rw [hb] at hK
   exact hK
end
end Go.Proofs.YtofhaneggcpdaaaGreatDoor
namespace Go.Proofs.YtofhaneggcpdaaaGreatDoor
open Go Go.Eng Go.RowKit Go.Syn Go.Lex
set_option maxRecDepth 100000
def signL : List Str := [[124,124],[38,38],[61,61],[33,61],[60],[62],[60,61],[62,61],[43],[45],[42],[47],[37]]
def levelGo (x : Int) : Int := if x = 0 then 27 else if x = 101 then 26 else if x = 202 then 20 else if x = 203 then 21 else if x = 304 then 22 else if x = 305 then 23 else if x = 306 then 24 else if x = 307 then 25 else if x = 408 then 15 else if x = 409 then 16 else if x = 510 then 17 else if x = 511 then 18 else if x = 512 then 19 else 0
theorem level_in : ∀ k : Fin 13,∀ n : Fin 6,levelGo ((n.val : Int) * 100 + (k.val : Int)) = joinK n.val (signL[k.val]'k.isLt) := by decide +kernel
theorem sidxF_get (x : Str) : ∀ (l : List Str) (i : Nat),(∃ k,l[k]? = some x ∧ sidxF l x i = ((i + k : Nat) : Int)) ∨ (x ∉ l ∧ sidxF l x i = -1)
 | [],i => .inr ⟨by simp,rfl⟩
 | a :: r,i => by
   simp only [sidxF]
   split
   · rename_i h
     exact .inl ⟨0,by simp [h],rfl⟩
   · rename_i h
     rcases sidxF_get x r (i + 1) with ⟨k,h1,h2⟩ | ⟨h1,h2⟩
     · exact .inl ⟨k + 1,by simpa using h1,by rw [h2]; omega⟩
     · exact .inr ⟨by simp [h,h1],h2⟩
theorem join_out {n : Nat} {x : Str} (h : x ∉ signL) : joinK n x = 0 := by
 simp only [signL,List.mem_cons,List.not_mem_nil,or_false,not_or] at h
 obtain ⟨h1,h2,h3,h4,h5,h6,h7,h8,h9,h10,h11,h12,h13⟩ := h
 unfold joinK
 simp only [if_neg h1,if_neg h2,if_neg h3,if_neg h4,if_neg h5,if_neg h6,if_neg h7,if_neg h8,if_neg h9,if_neg h10,if_neg h11,if_neg h12,if_neg h13,ite_self]
theorem level_pure {n : Nat} (hn : n ≤ 5) (x : Str) : levelGo ((n : Int) * 100 + sidxF signL x 0) = joinK n x := by
 rcases sidxF_get x signL 0 with ⟨k,h1,h2⟩ | ⟨h1,h2⟩
 · have hk : k < 13 := (List.getElem?_eq_some_iff.1 h1).1
   have := level_in ⟨k,hk⟩ ⟨n,by omega⟩
   rw [h2,Nat.zero_add,this]
   congr 1
   exact (List.getElem?_eq_some_iff.1 h1).2
 · rw [h2,join_out h1]
   have : ∀ m : Fin 6,levelGo ((m.val : Int) * 100 + -1) = 0 := by decide +kernel
   exact this ⟨n,by omega⟩
section
variable [HX]
theorem named_p {x : Str} {w : World} {K : Value → World → Prop} (hK : K (i64 (namedK x)) w) : callF Tryz.prog 151 [str x] w K := by
 refine W151_ok ?_
 unfold W151
 unfold namedK at hK
 rw [bin_seq,condW_dec]
 refine ⟨fun h => by rw [if_pos h] at hK; exact hK,fun h => ?_⟩
 rw [if_neg h] at hK
 rw [bin_seq,condW_dec]
 refine ⟨fun h => by rw [if_pos h] at hK; exact hK,fun h => ?_⟩
 rw [if_neg h] at hK
 rw [bin_seq,condW_dec]
 refine ⟨fun h => by rw [if_pos h] at hK; exact hK,fun h => ?_⟩
 rw [if_neg h] at hK
 exact hK
theorem row_any {T : TypeId} {n : Nat} {cs : List Value} {w : World} {K : Value → World → Prop} (h : ∀ v w',SlAt w' T v n cs → Ext w w' → K v w') (hn : cs.length = n) : K (.slice (some ⟨w.heap.size,0,none⟩) n n) (w.alloc (.cells cs.toArray T)) :=
 row_new fun a w' ha hz hb hx _ => h _ w' (slat_new hb hn) hx
theorem signs_row {w : World} {K : Value → World → Prop} (hK : ∀ v w',SlAt w' StT v 13 (strs signL) → Ext w w' → K v w') :
   bslW StT 13 (List.replicate 13 (.string (ofL []))) [(0,1,(.string (ofL [124,124]))),(1,1,(.string (ofL [38,38]))),(2,1,(.string (ofL [61,61]))),(3,1,(.string (ofL [33,61]))),(4,1,(.string (ofL [60]))),(5,1,(.string (ofL [62]))),(6,1,(.string (ofL [60,61]))),(7,1,(.string (ofL [62,61]))),(8,1,(.string (ofL [43]))),(9,1,(.string (ofL [45]))),(10,1,(.string (ofL [42]))),(11,1,(.string (ofL [47]))),(12,1,(.string (ofL [37])))] w K := by
 rw [bslW]
 simp only [List.replicate,put_str,put_nil,List.length_cons,List.length_nil,List.set_cons_zero,List.set_cons_succ,Nat.reduceAdd,Nat.reduceLT,true_and,Nat.zero_lt_succ]
 exact row_any hK rfl
theorem level_p {t : Tok} {n : Nat} {w : World} {K : Value → World → Prop} (hn : n ≤ 5) (hK : ∀ w',Ext w w' → K (i64 (levelK t n)) w') : callF Tryz.prog 132 [.agg (tokc t).toArray,i64 (n : Nat)] w K := by
 refine W132_ok ?_
 unfold W132
 refine box_new (z := tokc t) fun b w1 hb hz1 hbb hx1 => ?_
 unfold levelK at hK
 have ldc : ∀ {w' : World} {off : Nat} {v : Value} {KK : Value → Prop},w'.heap[b]? = some (.cells (tokc t).toArray TkT (0,0)) → (tokc t)[off]? = some v → KK v → fldW off (.pointer (some ⟨b,0,none⟩)) fun x => ldW false 1 x w' KK := fun h hv hk => by
   rw [fld_ptr,add_mk,Nat.zero_add,ld_one]
   exact ⟨_,by rw [cell_eq,h,cellO_some]; simpa using hv,hk⟩
 refine ldc hbb rfl ?_
 rw [bin_neq,condW_dec]
 refine ⟨fun h => ?_,fun h => ?_⟩
 · rw [if_neg h] at hK
   exact hK w1 hx1
 have h : t.k = 4 := by omega
 rw [if_pos h,← level_pure hn] at hK
 rw [bin_mul,wrap_id (by omega) (by omega)]
 refine signs_row fun v w2 hv hx2 => ?_
 refine ldc (hx2.at hbb id) rfl ?_
 refine index_p (l := signL) hv (by decide) ?_
 have hr : -1 ≤ sidxF signL t.t 0 ∧ sidxF signL t.t 0 ≤ 12 := by
   rcases sidxF_get t.t signL 0 with ⟨k,h1,h2⟩ | ⟨h1,h2⟩
   · have hk : k < 13 := (List.getElem?_eq_some_iff.1 h1).1
     rw [h2]; omega
   · rw [h2]; omega
 rw [bin_add,wrap_id (by omega) (by omega)]
 generalize (n : Int) * 100 + sidxF signL t.t 0 = x at *
 have hx := hK w2 (hx1.trans hx2)
 unfold levelGo at hx
 have step : ∀ {k r e : Int} {A B : Prop},((if x = k then r else e) = r → A) → (¬ x = k → B) → condW (.bool (decide (x = k))) A B := fun h1 h2 => by
   rw [condW_dec]
   exact ⟨fun e => h1 (if_pos e),h2⟩
 iterate 13
   rw [bin_eql,condW_dec]
   refine ⟨fun e => by rw [if_pos e] at hx; exact hx,fun e => ?_⟩
   rw [if_neg e] at hx
 exact hx
theorem slat_new' {w : World} {b n : Nat} {T : TypeId} {cs : List Value} (h : w.heap[b]? = some (.cells cs.toArray T (0,0))) (hn : 0 < n := by omega) : SlAt w T (.slice (some ⟨b,0,none⟩) n n) n cs :=
 ⟨_,_,rfl,Nat.le_refl _,fun e => (by cases e),fun _ => ⟨b,0,cs.toArray,_,rfl,h,fun i _ => by simp⟩⟩
section
variable {w0 w : World} {p f : Nat} {M : Lay} {vt : Value} {s : PS} {top : List Nat} {N : Int} {K : Value → World → Prop}
theorem plain_p {t : Tok} (h : PR w0 w p f M vt s top) (hx : TxOk t.t) (hl : t.t.length ≤ 1000000) (hK : ∀ l s',plainR s t = .ok l s' → ∀ w',Ext w w' → K (str l) w') (ht : ∀ c a,plainR s t = .err c a → Thr w0 f c a) :
   callF Tryz.prog 40 [.pointer (some ⟨p,0,none⟩),.agg (tokc t).toArray] w K := by
 refine W40_ok ?_
 unfold W40
 refine box_new (z := tokc t) fun b w1 hb hz1 hbb hx1 => ?_
 have h1 := h.ext hx1
 have L1 := h.loc hz1 hb hbb
 unfold plainR at hK ht
 refine JoinW.cut (fun _ w' => w' = w1 ∧ (Syn.insP t.t).isSome = false) ?_ ?_
 · refine L1.ldf rfl ?_
   refine insertion_p hl ?_
   rw [ext_tuple]
   unfold insV
   cases hi : Syn.insP t.t with
   | none =>
     refine ⟨i64 (-1),rfl,?_⟩
     rw [ext_tuple]
     refine ⟨i64 0,rfl,?_⟩
     rw [bin_geq,condW_dec]
     exact ⟨fun e => by omega,fun _ => ⟨rfl,rfl⟩⟩
   | some x =>
     refine ⟨i64 (x.1 : Nat),rfl,?_⟩
     rw [ext_tuple]
     refine ⟨i64 (x.2 : Nat),rfl,?_⟩
     rw [bin_geq,condW_dec]
     refine ⟨fun _ => ?_,fun e => by omega⟩
     refine L1.ldf rfl ?_
     exact fail_p h1 (ht _ _ (by rw [hi]; rfl))
 rintro st g w2 ⟨rfl,hi⟩
 rw [if_neg (by rw [hi]; decide)] at hK
 refine L1.ldf rfl ?_
 refine says_p ((tx_ins hx).1 (by cases hr : Syn.insP t.t with | none => rfl | some x => rw [hr] at hi; cases hi)) hl fun w3 hx3 => ?_
 exact hK _ _ rfl w3 (hx1.trans hx3)
theorem lines_step {s : PS} (h : (cur s).k = 5) : linesS (step1 (nowS s)) = linesS s := by
 have ht : (nowS s).toks = s.toks := by unfold nowS; split <;> rfl
 have hk : (tokI (nowS s)).k = 5 := h
 have hlt : (nowS s).i < (nowS s).toks.length := by
   by_cases hl : (nowS s).i < (nowS s).toks.length
   · exact hl
   · unfold tokI at hk
     rw [List.getD_eq_getElem?_getD,List.getElem?_eq_none (by omega)] at hk
     cases hk
 have hg : (nowS s).toks[(nowS s).i]? = some (tokI (nowS s)) := by unfold tokI; rw [List.getD_eq_getElem?_getD,List.getElem?_eq_getElem hlt]; rfl
 have e := lineRun_get hg
 rw [if_pos hk] at e
 have hq : s.quiet = false := by
   by_cases hq : s.quiet = true
   · exfalso
     have e2 : nowS (nowS s) = nowS s := nowS_idem s
     have hq2 : (nowS s).quiet = true := by unfold nowS; split <;> exact hq
     have e3 : (nowS (nowS s)).i = (nowS s).i + lineRun ((nowS s).toks.drop (nowS s).i) := by
       rw [nowS,if_pos hq2]
     rw [e2] at e3
     omega
   · simpa using hq
 have n1 : ∀ s : PS,s.quiet = false → nowS s = s := fun s h => by unfold nowS; rw [h]; rfl
 have h1 := n1 s hq
 rw [h1] at e ⊢
 have h2 := n1 (step1 s) hq
 unfold linesS
 rw [h1,h2]
 show ({ s with i := s.i + 1 + lineRun (s.toks.drop (s.i + 1)) } : PS) = { s with i := s.i + lineRun (s.toks.drop s.i) }
 rw [e]
 congr 1
 omega
theorem lines_stop {N : Int} {s : PS} (hs : WS N s) (h : (cur s).k ≠ 5) : linesS s = nowS s := by
 have hn := (now_go hs).ws hs
 have e := lineRun_get (tok_some hn)
 have hk : (tokI (nowS s)).k ≠ 5 := h
 rw [if_neg hk,(now_go hs).toks] at e
 unfold linesS
 rw [e]
 rfl
theorem lines_p (h : PR w0 w p f M vt s top) (hs : WS N s) (hN : N ≤ 1000000) (hl : s.toks.length ≤ 100000) (hK : ∀ w',PR w0 w' p f M vt (linesS s) top → Eff p f M M w w' → K (.tuple #[]) w') :
   callF Tryz.prog 19 [.pointer (some ⟨p,0,none⟩)] w K := by
 refine W19_ok ?_
 unfold W19
 refine LoopW.go (fun st w' => st = [] ∧ ∃ s1,PR w0 w' p f M vt s1 top ∧ WS N s1 ∧ s1.toks = s.toks ∧ linesS s1 = linesS s ∧ Eff p f M M w w') (fun _ w' => s.toks.length - psAt w' p) ⟨rfl,s,h,hs,rfl,rfl,Eff.refl _ _ _ _⟩ ?_
 rintro st g w2 ⟨rfl,s1,h2,hs1,et,el,he2⟩
 refine now_p h2 hs1 hN (by rw [et]; exact hl) fun w3 h3 he3 => ?_
 refine ⟨i64 (cur s1).k,rfl,?_⟩
 dsimp only
 rw [bin_eql,condW_dec]
 have hg := now_go hs1
 have hsn := hg.ws hs1
 refine ⟨fun hk => ?_,fun hk => ?_⟩
 · have hk0 : (cur s1).k ≠ 0 := by rw [hk]; decide
   have hst := step_go hs1 hk0
   refine h3.go (wsi hsn (by rw [hg.toks,et]; exact hl)) fun w4 h4 he4 hz4 => ?_
   refine ⟨⟨rfl,_,h4,hst.1.ws hs1,hst.1.toks.trans et,(lines_step hk).trans el,(he2.trans he3).trans he4⟩,?_⟩
   rw [h4.at_,h2.at_]
   have := hst.2
   have h5 := hst.1.lt
   rw [hst.1.toks,et] at h5
   omega
 · rw [lines_stop hs1 hk] at el
   rw [el] at h3
   exact hK w3 h3 (he2.trans he3)
theorem within_p {a : Int} {q : Bool} {fv : Value} (h : PR w0 w p f M vt s top) (hd : s.deep ≤ 24) (hbad : s.deep = 24 → Thr w0 f 7 a)
   (hf : s.deep ≠ 24 → ∀ w1,PR w0 w1 p f M vt { s with deep := s.deep + 1,quiet := q } top → Eff p f M M w w1 → callV Tryz.prog fv [] w1 fun _ w2 => ∃ M2 s2,PR w0 w2 p f M2 vt s2 top ∧ s2.deep = s.deep + 1 ∧
     ∀ w3,PR w0 w3 p f M2 vt { s2 with deep := s.deep,quiet := s.quiet } top → Eff p f M2 M2 w2 w3 → K (.tuple #[]) w3) :
   callF Tryz.prog 43 [.pointer (some ⟨p,0,none⟩),i64 a,.bool q,fv] w K := by
 refine W43_ok ?_
 unfold W43
 refine JoinW.cut (fun _ w' => w' = w ∧ s.deep ≠ 24) ?_ ?_
 · refine h.ld rfl ?_
   rw [bin_eql,condW_dec]
   refine ⟨fun e => ?_,fun e => ⟨rfl,fun h => e (by rw [h]; rfl)⟩⟩
   exact fail_p h (hbad (by omega))
 rintro st g w1 ⟨rfl,hne⟩
 refine h.ld rfl ?_
 refine h.ld rfl ?_
 rw [bin_add,upi (by omega)]
 refine h.st_deep fun w2 h2 he2 hz2 => ?_
 refine h2.st_quiet (q := q) fun w3 h3 he3 hz3 => ?_
 have hc := hf hne w3 h3 (he2.trans he3)
 refine Res.mono ?_ hc
 rintro v w4 ⟨M2,s2,h4,e4,hk⟩
 refine h4.ld rfl ?_
 rw [bin_sub,wrap_id (by omega) (by omega)]
 have e : ((s2.deep : Nat) : Int) - 1 = ((s.deep : Nat) : Int) := by omega
 rw [e]
 refine h4.st_deep fun w5 h5 he5 hz5 => ?_
 refine h5.st_quiet (q := s.quiet) fun w6 h6 he6 hz6 => ?_
 exact hk w6 h6 (he5.trans he6)
theorem put_p {M0 : Lay} {wb : World} {e : Ex} {d : List Value} (h : PR w0 w p f M vt s top) (he : Eff p f M0 M wb w) (hd : ExR w w0.heap.size e d) (hu : ∀ k ∈ ub d,Off w0 w p f M vt k) (hn : (ub d).Nodup) (hnew : ∀ k ∈ ub d,wb.heap.size ≤ k) (hlen : s.ex.length ≤ 1000000)
   (hK : ∀ M' w',PR w0 w' p f M' vt { s with ex := s.ex ++ [e] } top → Eff p f M0 M' wb w' → (∀ b T cs,Loc w0 w p f M vt b T cs → b ∉ ub d → Loc w0 w' p f M' vt b T cs) → K (i64 (s.ex.length : Nat)) w') :
   callF Tryz.prog 107 [.pointer (some ⟨p,0,none⟩),.agg d.toArray] w K := by
 refine W107_ok ?_
 unfold W107
 have hdl : d.length = 5 := by obtain ⟨va,vk,rfl,_⟩ := hd; rfl
 have hd1 : ∀ u ∈ d,one1 u = true := by
   obtain ⟨va,vk,rfl,h1,h2⟩ := hd
   obtain ⟨_,_,rfl,_⟩ := h1.sl.shape
   obtain ⟨_,_,rfl,_⟩ := h2.sl.shape
   intro u hu
   simp only [List.mem_cons,List.not_mem_nil,or_false] at hu
   rcases hu with rfl | rfl | rfl | rfl | rfl <;> rfl
 refine box_new (z := d) fun b w1 hb hz1 hbb hx1 => ?_
 have h1 := (h.ext hx1).drew
 have hx1' : Ext w w1.drew := hx1.trans (ext_drew _)
 have L1 := (h.loc hz1 hb hbb).drew
 have ldF : ∀ {w' : World},w'.heap[p]? = some (.cells [vt,i64 (s.i : Nat),i64 s.off,.pointer (some ⟨f,0,none⟩),i64 (s.deep : Nat),.bool s.quiet].toArray PsT (0,0)) → ldW false 1 (.pointer (some ((⟨p,0,none⟩ : Addr).add 3))) w' fun x => x = .pointer (some ⟨f,0,none⟩) := by
   intro w' h
   rw [ld_one]; exact ⟨_,by rw [add_mk,cell_eq,h,cellO_some]; rfl,rfl⟩
 have ldE : ∀ {w' : World} {v : Value} {r : List Value},w'.heap[f]? = some (.cells (v :: r).toArray FlT (0,0)) → w'.cell? ((⟨f,0,none⟩ : Addr).add 0) = some v := by
   intro w' v r h
   rw [add_mk,cell_eq,h,cellO_some]; rfl
 have use : ∀ k,M.vE.ownBlock = some k → k ∈ M.uses f := fun k hk => List.mem_cons_of_mem _ (ub_mem (v := M.vE) (by simp) hk)
 have nE : ¬ M.vE.ownBlock = some p := fun e => h.np (use p e)
 have nF : ¬ M.vE.ownBlock = some f := fun e => by
   have hnd := h.fr.nd
   rw [uses_E,List.nodup_cons] at hnd
   exact hnd.1 (List.mem_append_left _ (ub_one.2 e))
 have pf : p ≠ f := fun e => h.np (e ▸ List.mem_cons_self)
 have cF : ∀ {w' : World},w'.heap[p]? = some (.cells [vt,i64 (s.i : Nat),i64 s.off,.pointer (some ⟨f,0,none⟩),i64 (s.deep : Nat),.bool s.quiet].toArray PsT (0,0)) → w'.cell? ((⟨p,0,none⟩ : Addr).add 3) = some (.pointer (some ⟨f,0,none⟩)) := by
   intro w' h
   rw [add_mk,cell_eq,h,cellO_some]; rfl
 rw [nil_ptr,fld_ptr,ld_one]
 refine ⟨_,cF h1.ps,?_⟩
 rw [nil_ptr,fld_ptr,ld_one]
 refine ⟨_,cF h1.ps,?_⟩
 rw [nil_ptr,fld_ptr,ld_one]
 refine ⟨_,ldE h1.fr.hf,?_⟩
 refine ld_all L1.1 hdl ?_
 refine bsl_agg hdl rfl fun r w2 hr hz2 hrb hx2 => ?_
 have h2 := h1.ext hx2
 refine ⟨by rw [ld_one]; exact ⟨_,ldE h2.fr.hf,rfl⟩,ldF h2.ps,ldF h2.ps,?_⟩
 have hx02 : Ext w w2 := hx1'.trans hx2
 have hc0 : Chg (fun k => M.vE.ownBlock = some k) w w2 := Chg.of_ext hx02
 refine append_own3 el_ex h2.fr.oE (slat_new' (n := 1) (T := ExT) (cs := d) hrb) (by rw [hdl]) hd1 (by omega) (by omega) h2.base fun v' w3 hO3 hc3 hv3 => ?_
 have hp3 := hc3.at h2.ps nE
 have hf3 := hc3.at h2.fr.hf nF
 refine ⟨ldF hp3,?_⟩
 rw [nil_ptr,fld_ptr,add_mk,Nat.zero_add]
 obtain ⟨vp,vc,ev,_⟩ := hO3.sl.shape
 refine st_at hf3 (by rw [ev]; rfl) (by simp) fun w4 hz4 hf4 hc4 => ?_
 have hz02 := hx02.size
 obtain ⟨h4,he4,hk4⟩ := h.putE (w1 := w3) (w2 := w4) (v' := v') he hd hu hn hnew hO3 (hc0.trans hc3) (fun k hk => (hv3 k hk).imp id fun e => by omega) hc4 (by rw [hf4]; simp)
 rw [nil_ptr,fld_ptr,ld_one]
 refine ⟨_,cF h4.ps,?_⟩
 rw [nil_ptr,fld_ptr,ld_one]
 refine ⟨_,ldE h4.fr.hf,?_⟩
 dsimp only
 rw [ev,lenl_sl,bin_sub,wrap_id (by omega) (by omega)]
 have e1 : ((s.ex.length + 1 : Nat) : Int) - 1 = (s.ex.length : Nat) := by omega
 rw [e1]
 exact hK _ w4 h4 he4 hk4
end
end
end Go.Proofs.YtofhaneggcpdaaaGreatDoor
namespace Go.Proofs.YtofhaneggcpdaaaGreatDoor
open Go Go.Eng Go.RowKit Go.Syn Go.Lex
set_option maxRecDepth 100000
structure Gd (N : Int) (s : PS) (dl : Nat) : Prop where
 ws : WS N s
 hN : N ≤ 1000000
 few : s.toks.length ≤ 4097
 ts : TS s.toks
 phi : phi s ≤ 100000
 lev : s.deep + dl = 24
theorem Gd.l {N : Int} {s : PS} {dl : Nat} (h : Gd N s dl) : s.toks.length ≤ 100000 := by have := h.few; omega
theorem Gd.go {N : Int} {s s' : PS} {dl : Nat} (h : Gd N s dl) (hg : Go1 N s s') (hp : Syn.phi s' ≤ Syn.phi s) : Gd N s' dl :=
 ⟨hg.ws h.ws,h.hN,by rw [hg.toks]; exact h.few,by rw [hg.toks]; exact h.ts,Nat.le_trans hp h.phi,by rw [hg.deep]; exact h.lev⟩
theorem Gd.frame {N : Int} {s : PS} {dl : Nat} (h : Gd N s (dl + 1)) (q : Bool) : Gd N { s with deep := s.deep + 1,quiet := q } dl := ⟨ws_frame h.ws _ _,h.hN,h.few,h.ts,h.phi,by have := h.lev; show s.deep + 1 + dl = 24; omega⟩
theorem Gd.back {N : Int} {s s' : PS} {dl : Nat} {q : Bool} (h : Gd N s (dl + 1)) (h' : Gd N s' dl) : Gd N { s' with deep := s.deep,quiet := q } (dl + 1) := ⟨ws_frame h'.ws _ _,h.hN,h'.few,h'.ts,h'.phi,h.lev⟩
theorem Gd.now {N : Int} {s : PS} {dl : Nat} (h : Gd N s dl) : Gd N (nowS s) dl := h.go (now_go h.ws) (phi_now s)
theorem Gd.take {N : Int} {s : PS} {dl : Nat} (h : Gd N s dl) (w : Str) : Gd N (takeS s w).2 dl := h.go (take_go h.ws w).1 (phi_take s w).1
theorem Gd.lines {N : Int} {s : PS} {dl : Nat} (h : Gd N s dl) : Gd N (linesS s) dl := h.go (lines_go h.ws).1 (phi_lines s)
theorem Gd.next {N : Int} {s : PS} {dl : Nat} (h : Gd N s dl) : Gd N (nextS s) dl := h.go (next_go h.ws).1 (phi_next s).1
theorem Gd.step {N : Int} {s : PS} {dl : Nat} (h : Gd N s dl) (hk : (cur s).k ≠ 0) : Gd N (step1 (nowS s)) dl := h.go (step_go h.ws hk).1 (by have := (phi_go hk).2; omega)
theorem Gd.want {N : Int} {s s' : PS} {dl : Nat} (h : Gd N s dl) {w : Str} (e : wantR s w = .ok () s') : Gd N s' dl ∧ s.i < s'.i ∧ s'.ex = s.ex ∧ s'.bl = s.bl := by
 have h1 := want_sat h.ws w
 have h2 := phi_want s w
 rw [e] at h1 h2
 obtain ⟨g,x,b⟩ := h1
 exact ⟨h.go g.1 (by have h2 : Syn.phi s' + 1 ≤ Syn.phi s := h2; omega),g.2,x,b⟩
theorem Gd.kind {N : Int} {s s' : PS} {dl : Nat} {t : Tok} {k : Int} (h : Gd N s dl) (hk : k ≠ 0) (e : kindR s k = .ok t s') : Gd N s' dl ∧ s.i < s'.i ∧ s'.ex = s.ex ∧ s'.bl = s.bl ∧ t = cur s ∧ t.k = k := by
 have h1 := kind_sat h.ws k hk
 have h2 := phi_kind s k
 rw [e] at h1 h2
 obtain ⟨g,x,b,ht,hk⟩ := h1
 exact ⟨h.go g.1 h2.1,g.2,x,b,ht,hk⟩
theorem Gd.ex {N : Int} {s : PS} {dl : Nat} (h : Gd N s dl) : s.ex.length ≤ 100000 ∧ s.bl.length ≤ 100000 := by have := phi_ex s; have := h.phi; omega
structure Fine (F : PS → R Nat) : Prop where
 ok : ∀ N,EOk N F
 z : EZ F
theorem Gd.e {N : Int} {s s' : PS} {dl x : Nat} {F : PS → R Nat} (h : Gd N s dl) (hF : Fine F) (e : F s = .ok x s') : Gd N s' dl ∧ s.i < s'.i := by
 have h1 := hF.ok N s h.ws
 have h2 := hF.z s
 rw [e] at h1 h2
 exact ⟨h.go h1.1.1 h2,h1.1.2⟩
theorem Gd.at0 {N : Int} {s : PS} {dl : Nat} (h : Gd N s dl) : 0 ≤ (cur s).a ∧ (cur s).a ≤ 1000000 := by have := cur_pos h.ws; have := h.hN; omega
section
variable [HX]
def ScanC (w0 : World) (f : Nat) : Prop := ∀ (w : World) (K : Value → World → Prop) (s : Str),Chg (Of f) w0 w → s.length ≤ 1000000 →
 (∀ l,scanM s = .ok l → ∀ v w',Ext w w' → SlAt w' TkT v l.length (toks l) → (∀ k,v.ownBlock = some k → w.heap.size ≤ k ∧ k < w'.heap.size) → K (.tuple #[v,.pointer none]) w') →
 (∀ c a,scanM s = .bad c a → ∀ d w',Ext w w' → w.heap.size ≤ d → w'.heap[d]? = some (.cells [i64 c,str [],i64 a].toArray 48 (0,0)) → K (.tuple #[.slice none 0 0,.pointer (some ⟨d,0,none⟩)]) w') →
 callF Tryz.prog 17 [str s] w K
def EC (w0 : World) (f : Nat) (g : FuncId) (F : PS → R Nat) (dl : Nat) : Prop := ∀ (w : World) (p : Nat) (M : Lay) (vt : Value) (s : PS) (top : List Nat) (N : Int) (K : Value → World → Prop),PR w0 w p f M vt s top → Gd N s dl →
 (∀ x s',F s = .ok x s' → ∀ M' w',PR w0 w' p f M' vt s' top → Eff p f M M' w w' → K (i64 (x : Nat)) w') → (∀ c a,F s = .err c a → Thr w0 f c a) → callF Tryz.prog g [.pointer (some ⟨p,0,none⟩)] w K
structure Ro (w0 w : World) (p f : Nat) (M : Lay) (vt : Value) (wb : Nat) (T : TypeId) (m : Nat) (v : Value) (n : Nat) (xs : List Value) : Prop where
 own : Own w w0.heap.size T m v n xs
 off : ∀ k,v.ownBlock = some k → Off w0 w p f M vt k
 new : ∀ k,v.ownBlock = some k → wb ≤ k
section
variable {w0 w w' w1 : World} {p f b : Nat} {M M' : Lay} {vt : Value} {s : PS} {top : List Nat} {N : Int} {K : Value → World → Prop} {wb : Nat} {T : TypeId} {m : Nat} {v : Value} {n : Nat} {xs : List Value}
theorem Ro.nil (T : TypeId) (m : Nat) : Ro w0 w p f M vt wb T m (.slice none 0 0) 0 [] := ⟨⟨by simp,.inl ⟨rfl,rfl⟩⟩,fun k hk => by simp [Value.ownBlock] at hk,fun k hk => by simp [Value.ownBlock] at hk⟩
theorem Ro.eff (h : Ro w0 w p f M vt wb T m v n xs) (he : Eff p f M M' w w') : Ro w0 w' p f M' vt wb T m v n xs := ⟨he.own h.own h.off,fun k hk => (h.off k hk).eff he,h.new⟩
theorem Ro.ext (h : Ro w0 w p f M vt wb T m v n xs) (hx : Ext w w') : Ro w0 w' p f M vt wb T m v n xs := h.eff (Eff.ext hx)
theorem Ro.one (h : Ro w0 w p f M vt wb T m v n xs) (hc : Chg (One b) w w') (hb : v.ownBlock ≠ some b) : Ro w0 w' p f M vt wb T m v n xs :=
 ⟨own_at h.own hc fun k hk e => hb (by have e : k = b := e; rw [hk,e]),fun k hk => (h.off k hk).up hc.size,h.new⟩
theorem Ro.row {u : Value} (h : Ro w0 w p f M vt wb T m v n xs) (hc : Chg (fun k => u.ownBlock = some k) w w') (hb : ∀ k,v.ownBlock = some k → u.ownBlock ≠ some k) : Ro w0 w' p f M vt wb T m v n xs :=
 ⟨own_at h.own hc fun k hk e => hb k hk e,fun k hk => (h.off k hk).up hc.size,h.new⟩
theorem Loc.row {u : Value} {cs : List Value} (h : Loc w0 w p f M vt b T cs) (hc : Chg (fun k => u.ownBlock = some k) w w') (hb : u.ownBlock ≠ some b) : Loc w0 w' p f M vt b T cs := ⟨hc.at h.1 hb,h.2.up hc.size⟩
theorem PR.row {u : Value} (h : PR w0 w p f M vt s top) (hc : Chg (fun k => u.ownBlock = some k) w w') (hb : ∀ k,u.ownBlock = some k → Off w0 w p f M vt k) : PR w0 w' p f M vt s top :=
 h.keep hc (fun k hk e => by have := (hb k e).1.1; omega) (fun k hk e => (hb k e).2.2.1 hk) (fun e => (hb p e).2.1 rfl) fun k hk e => (hb k e).2.2.2 hk
theorem Ro.app {t : TypeId} {bytes : Nat} {r : Nat} {news : List Value} {ty : TypeId} (hT : ElemT Tryz.prog t T m bytes) (hR : Ro w0 w p f M vt wb T m v n xs) (hp : PR w0 w p f M vt s top) (hr : w.heap[r]? = some (.cells news.toArray T (0,0))) (hl : news.length = m) (h1 : ∀ u ∈ news,one1 u = true) (hn : n ≤ 1000000) (hby : bytes ≤ 1000) (hwb : wb ≤ w.heap.size)
   (hK : ∀ v' w',Ro w0 w' p f M vt wb T m v' (n + 1) (xs ++ news) → Chg (fun k => v.ownBlock = some k) w w' → (∀ k,v'.ownBlock = some k → v.ownBlock = some k ∨ w.heap.size ≤ k) → PR w0 w' p f M vt s top → K v' w') :
   semE Tryz.prog (Builtin.append_ #[t,t] ty #[v,.slice (some ⟨r,0,none⟩) 1 1]) w K := by
 have hb := hp.base
 have hbt : (n + 1) * bytes ≤ 140737488355328 := Nat.le_trans (Nat.mul_le_mul (show n + 1 ≤ 1000001 by omega) hby) (by decide)
 refine append_own3 hT hR.own (slat_new' (n := 1) hr) (by rw [hl]; omega) h1 (by omega) hbt hb fun v' w' hO hc hv => ?_
 refine hK v' w' ⟨hO,fun k hk => ?_,fun k hk => ?_⟩ hc hv (hp.row hc hR.off)
 · rcases hv k hk with e | e
   · exact (hR.off k e).up hc.size
   · exact hp.off_new e (own_lt hO hk).1
 · rcases hv k hk with e | e
   · exact hR.new k e
   · omega
theorem PR.inner {q : Nat} {v : Value} {q' : PS} (h : PR w0 w p f M vt s top) (hx : Ext w w1) (hq : PR w0 w' q f M' v q' top) (he : Eff q f M M' w1 w') (hqn : w.heap.size ≤ q) :
   PR w0 w' p f M' vt { s with ex := q'.ex,bl := q'.bl } top ∧ Eff p f M M' w w' := by
 have he' : Eff p f M M' w w' := Eff.anew hx he hqn
 have hz := hx.size
 have h1 := h.ext hx
 refine ⟨⟨hq.ch,hq.fr,?_,?_,fun e => ?_,h.lo,fun k hk => ⟨fun e => ?_,(h.nt k hk).2.1,Nat.lt_of_lt_of_le (h.nt k hk).2.2 he'.chg.size⟩⟩,he'⟩
 · exact he.chg.at h1.ps fun e => by
     rcases tn_use e with e | e
     · have := h.lt; omega
     · exact h.np e
 · exact slat_at h1.tk he.chg fun k hk e => by
     rcases tn_use e with e | e
     · have := (h.nt k hk).2.2; omega
     · exact (h.nt k hk).1 e
 · exact (he'.us p e).elim h.np fun e => by have := h.lt; omega
 · exact (he'.us k e).elim (h.nt k hk).1 fun e => by have := (h.nt k hk).2.2; omega
theorem inner_p {E : PS → R Nat} {dl : Nat} {t : Str} {a : Int} (hS : ScanC w0 f) (hE : EC w0 f 81 E dl) (hF : Fine E) (h : PR w0 w p f M vt s top) (hg : Gd N s dl) (h0 : 0 ≤ a) (h1 : a + t.length ≤ N) (hphi : Syn.phi s + t.length ≤ 100000)
   (hK : ∀ x s',innerR E s t a = .ok x s' → ∀ M' w',PR w0 w' p f M' vt s' top → Eff p f M M' w w' → K (i64 (x : Nat)) w') (ht : ∀ c a',innerR E s t a = .err c a' → Thr w0 f c a') :
   callF Tryz.prog 164 [.pointer (some ⟨p,0,none⟩),str t,i64 a] w K := by
 refine W164_ok ?_
 unfold W164
 have hN := hg.hN
 refine hS w _ t h.ch (by omega) (fun l hl v w1 hx1 hv hvn => ?_) (fun c b hb d w1 hx1 hd hdb => ?_)
 · rw [ext_tuple]
   refine ⟨v,rfl,?_⟩
   rw [ext_tuple]
   refine ⟨.pointer none,rfl,?_⟩
   refine JoinW.cut (fun _ w' => w' = w1) ?_ ?_
   · show condW (.bool false) _ _
     rw [condW_false]
   rintro st g w2 rfl
   have h2 := (h.ext hx1).drew
   have hx2 := hx1.trans (ext_drew w2)
   refine h2.ld rfl ?_
   refine h2.ld rfl ?_
   obtain ⟨q,cap,ev,_⟩ := hv.shape
   subst ev
   simp only [put_slice,put_int,put_ptr,put_nil,List.length_cons,List.length_nil,List.set_cons_zero,List.set_cons_succ,Nat.reduceAdd,Nat.reduceLT,true_and,Nat.zero_lt_succ]
   refine box_new (z := [.slice q l.length cap,i64 0,i64 a,.pointer (some ⟨f,0,none⟩),i64 (s.deep : Nat),.bool false]) fun qb w3 hq hz3 hqb hx3 => ?_
   have hx03 := hx2.trans hx3
   have h3 := h2.ext hx3
   have z2 : w2.drew.heap.size = w2.heap.size := rfl
   have hz1 := hx1.size
   have hq3 : PR w0 w3 qb f M (.slice q l.length cap) ⟨l,0,a,s.deep,false,s.ex,s.bl⟩ top :=
     ⟨h3.ch,h3.fr,hqb,hv.ext ((ext_drew w2).trans hx3),fun e => by have := h.fr.lt _ e; omega,by have := h.base; omega,fun k hk => by
       have hb := hvn k hk
       exact ⟨fun e => by have := h.fr.lt _ e; omega,by omega,by omega⟩⟩
   have htg := scan_tg hl h0 h1
   have hw := scan_wt hl
   have hgq : Gd N ⟨l,0,a,s.deep,false,s.ex,s.bl⟩ dl := ⟨⟨htg,List.length_pos_iff.2 htg.ne,hg.ws.pN⟩,hN,(scan_few hl).1,scan_ts hl,by
     unfold Syn.phi at hphi ⊢
     simp only [List.drop_zero]
     omega,hg.lev⟩
   unfold innerR at hK ht
   simp only [hl] at hK ht
   refine hE w3 qb M _ _ top N _ hq3 hgq (fun x q1 e1 M' w4 h4 he4 => ?_) fun c a' e1 => ht c a' (by rw [e1]; rfl)
   rw [e1] at hK ht
   simp only [R.bind] at hK ht
   obtain ⟨hg1,_⟩ := hgq.e hF e1
   refine kind_p h4 hg1.ws hN hg1.l (fun t' q2 e2 w5 h5 he5 => ?_) fun c a' e2 => ht c a' (by rw [e2])
   rw [e2] at hK
   obtain ⟨h6,he6⟩ := h.inner hx03 h5 (he4.trans he5) (by omega)
   exact hK x _ rfl M' w5 h6 he6
 · rw [ext_tuple]
   refine ⟨.slice none 0 0,rfl,?_⟩
   rw [ext_tuple]
   refine ⟨.pointer (some ⟨d,0,none⟩),rfl,?_⟩
   refine JoinW.cut (fun _ _ => False) ?_ (fun _ _ _ h => h.elim)
   show condW (.bool true) _ _
   rw [condW_true,nil_ptr,fld_ptr,ld_one]
   refine ⟨i64 c,by rw [add_mk,cell_eq,heap_drew,hdb,cellO_some]; rfl,?_⟩
   rw [nil_ptr,fld_ptr,ld_one]
   refine ⟨i64 b,by rw [add_mk,cell_eq,heap_drew,hdb,cellO_some]; rfl,?_⟩
   have hsb := scan_bad hb
   rw [bin_add,wrap_id (by omega) (by omega)]
   refine fail_p (h.ext hx1).drew (ht _ _ ?_)
   unfold innerR
   rw [hb]
end
end
end Go.Proofs.YtofhaneggcpdaaaGreatDoor
namespace Go.Proofs.YtofhaneggcpdaaaGreatDoor
open Go Go.Eng Go.RowKit Go.Syn Go.Lex
set_option maxRecDepth 100000
def insI (rest : Str) : Nat × Nat := match Syn.insP rest with | some x => x | none => (rest.length,rest.length)
def pieceS (s : PS) (rest : Str) (a : Int) : PS := if 0 < (insI rest).1 then { s with ex := s.ex ++ [⟨5,saysM (rest.take (insI rest).1),[],[],a⟩] } else s
theorem partsF_step {E : PS → R Nat} {n : Nat} {s : PS} {rest : Str} {a : Int} {av : List Nat} {ks : List Str} (hr : rest ≠ []) (hn : rest.length < n + 1) :
   partsF E (n + 1) s rest a av ks =
     (if (insI rest).1 < (insI rest).2 then (within (pieceS s rest a) (a + (insI rest).1) false fun q => innerR E q ((rest.drop ((insI rest).1 + 2)).take ((insI rest).2 - 1 - ((insI rest).1 + 2))) (a + (insI rest).1 + 2)).bind fun x s2 =>
       partsF E n s2 (rest.drop (insI rest).2) (a + (insI rest).2) ((if 0 < (insI rest).1 then av ++ [s.ex.length] else av) ++ [x]) ((if 0 < (insI rest).1 then ks ++ [[116]] else ks) ++ [[101]])
     else partsF E n (pieceS s rest a) (rest.drop (insI rest).2) (a + (insI rest).2) (if 0 < (insI rest).1 then av ++ [s.ex.length] else av) (if 0 < (insI rest).1 then ks ++ [[116]] else ks)) := by
 simp only [partsF]
 rw [if_neg hr]
 have hpos : 0 < rest.length := List.length_pos_iff.2 hr
 unfold insI pieceS insI
 cases hi : Syn.insP rest with
 | none =>
   simp only
   rw [if_neg (Nat.lt_irrefl _),if_pos hpos,if_pos hpos,if_pos hpos,List.drop_length,List.take_length]
   obtain ⟨m,rfl⟩ : ∃ m,n = m + 1 := ⟨n - 1,by omega⟩
   simp only [partsF,if_true]
 | some x => rfl
theorem insI_le {rest : Str} (hx : TxOk rest) : (insI rest).1 ≤ rest.length ∧ (insI rest).2 ≤ rest.length ∧ escs (rest.take (insI rest).1) = true ∧ TxOk (rest.drop (insI rest).2) ∧ ((insI rest).1 < (insI rest).2 → (insI rest).1 + 3 ≤ (insI rest).2) ∧ (rest ≠ [] → 0 < (insI rest).2) ∧ (insI rest).1 ≤ (insI rest).2 := by
 obtain ⟨h1,h2⟩ := tx_ins hx
 unfold insI
 cases hi : Syn.insP rest with
 | none =>
   simp only
   exact ⟨Nat.le_refl _,Nat.le_refl _,by rw [List.take_length]; exact h1 hi,by rw [List.drop_length]; exact .inl rfl,fun e => absurd e (Nat.lt_irrefl _),fun h => List.length_pos_iff.2 h,Nat.le_refl _⟩
 | some x =>
   obtain ⟨a,b,c,d⟩ := h2 x.1 x.2 hi
   simp only
   exact ⟨by omega,c,a,d,fun _ => b,fun _ => by omega,by omega⟩
section
variable [HX]
variable {w0 w w' w1 : World} {p f b : Nat} {M M' : Lay} {vt : Value} {s : PS} {top : List Nat} {N : Int} {K : Value → World → Prop}
abbrev PpT : TypeId := 58
structure TL (w0 w : World) (p f : Nat) (M : Lay) (vt : Value) (B1 b2 b7 b8 b9 : Nat) (ta : Int) (rest : Str) (a : Int) (va vk : Value) (av : List Nat) (ks : List Str) : Prop where
 l2 : Loc w0 w p f M vt b2 PpT [.pointer (some ⟨p,0,none⟩)]
 l7 : Loc w0 w p f M vt b7 ExT [i64 6,str [],va,vk,i64 ta]
 l8 : Loc w0 w p f M vt b8 StT [str rest]
 l9 : Loc w0 w p f M vt b9 IntT [i64 a]
 rA : Ro w0 w p f M vt B1 IntT 1 va av.length (ints av)
 rK : Ro w0 w p f M vt B1 StT 1 vk ks.length (strs ks)
 dd : ∀ k,va.ownBlock = some k → vk.ownBlock ≠ some k
 lt : b2 < B1 ∧ b7 < B1 ∧ b8 < B1 ∧ b9 < B1 ∧ B1 ≤ w.heap.size
 ne : b2 ≠ b7 ∧ b2 ≠ b8 ∧ b2 ≠ b9 ∧ b7 ≠ b8 ∧ b7 ≠ b9 ∧ b8 ≠ b9
section
variable {B1 b2 b7 b8 b9 : Nat} {ta : Int} {rest : Str} {a : Int} {va vk : Value} {av : List Nat} {ks : List Str}
theorem TL.eff (h : TL w0 w p f M vt B1 b2 b7 b8 b9 ta rest a va vk av ks) (he : Eff p f M M' w w') : TL w0 w' p f M' vt B1 b2 b7 b8 b9 ta rest a va vk av ks :=
 ⟨h.l2.eff he,h.l7.eff he,h.l8.eff he,h.l9.eff he,h.rA.eff he,h.rK.eff he,h.dd,⟨h.lt.1,h.lt.2.1,h.lt.2.2.1,h.lt.2.2.2.1,Nat.le_trans h.lt.2.2.2.2 he.chg.size⟩,h.ne⟩
theorem TL.ext (h : TL w0 w p f M vt B1 b2 b7 b8 b9 ta rest a va vk av ks) (hx : Ext w w') : TL w0 w' p f M vt B1 b2 b7 b8 b9 ta rest a va vk av ks := h.eff (Eff.ext hx)
theorem TL.one (h : TL w0 w p f M vt B1 b2 b7 b8 b9 ta rest a va vk av ks) (hc : Chg (One b) w w') (hb : B1 ≤ b) (hA : va.ownBlock ≠ some b) (hK : vk.ownBlock ≠ some b) : TL w0 w' p f M vt B1 b2 b7 b8 b9 ta rest a va vk av ks := by
 obtain ⟨q1,q2,q3,q4,q5⟩ := h.lt
 exact ⟨h.l2.one hc (by omega),h.l7.one hc (by omega),h.l8.one hc (by omega),h.l9.one hc (by omega),h.rA.one hc hA,h.rK.one hc hK,h.dd,⟨q1,q2,q3,q4,Nat.le_trans q5 hc.size⟩,h.ne⟩
theorem TL.noA (h : TL w0 w p f M vt B1 b2 b7 b8 b9 ta rest a va vk av ks) {k : Nat} (hk : k < B1) : va.ownBlock ≠ some k ∧ vk.ownBlock ≠ some k :=
 ⟨fun e => by have := h.rA.new k e; omega,fun e => by have := h.rK.new k e; omega⟩
theorem TL.args {w2 w3 : World} {va' : Value} {x : Nat} (h : TL w0 w p f M vt B1 b2 b7 b8 b9 ta rest a va vk av ks) (hR : Ro w0 w2 p f M vt B1 IntT 1 va' (av ++ [x]).length (ints (av ++ [x]))) (hc : Chg (fun k => va.ownBlock = some k) w w2) (hv : ∀ k,va'.ownBlock = some k → va.ownBlock = some k ∨ w.heap.size ≤ k)
   (hc3 : Chg (One b7) w2 w3) (hb : w3.heap[b7]? = some (.cells [i64 6,str [],va',vk,i64 ta].toArray ExT (0,0))) : TL w0 w3 p f M vt B1 b2 b7 b8 b9 ta rest a va' vk (av ++ [x]) ks := by
 obtain ⟨q1,q2,q3,q4,q5⟩ := h.lt
 obtain ⟨n1,n2,n3,n4,n5,n6⟩ := h.ne
 have z := hc3.size
 have o7 := ((h.l7.row hc (h.noA q2).1).2).up z
 refine ⟨(h.l2.row hc (h.noA q1).1).one hc3 n1,⟨hb,o7⟩,(h.l8.row hc (h.noA q3).1).one hc3 (Ne.symm n4),(h.l9.row hc (h.noA q4).1).one hc3 (Ne.symm n5),hR.one hc3 fun e => by have := hR.new b7 e; omega,
   (h.rK.row hc fun k hk e => h.dd k e hk).one hc3 (h.noA q2).2,fun k hk => ?_,⟨q1,q2,q3,q4,Nat.le_trans q5 (Nat.le_trans hc.size z)⟩,h.ne⟩
 rcases hv k hk with e | e
 · exact h.dd k e
 · intro e'
   have := (h.rK.off k e').1.2; omega
theorem TL.keys {w2 w3 : World} {vk' : Value} {x : Str} (h : TL w0 w p f M vt B1 b2 b7 b8 b9 ta rest a va vk av ks) (hR : Ro w0 w2 p f M vt B1 StT 1 vk' (ks ++ [x]).length (strs (ks ++ [x]))) (hc : Chg (fun k => vk.ownBlock = some k) w w2) (hv : ∀ k,vk'.ownBlock = some k → vk.ownBlock = some k ∨ w.heap.size ≤ k)
   (hc3 : Chg (One b7) w2 w3) (hb : w3.heap[b7]? = some (.cells [i64 6,str [],va,vk',i64 ta].toArray ExT (0,0))) : TL w0 w3 p f M vt B1 b2 b7 b8 b9 ta rest a va vk' av (ks ++ [x]) := by
 obtain ⟨q1,q2,q3,q4,q5⟩ := h.lt
 obtain ⟨n1,n2,n3,n4,n5,n6⟩ := h.ne
 have z := hc3.size
 have o7 := ((h.l7.row hc (h.noA q2).2).2).up z
 refine ⟨(h.l2.row hc (h.noA q1).2).one hc3 n1,⟨hb,o7⟩,(h.l8.row hc (h.noA q3).2).one hc3 (Ne.symm n4),(h.l9.row hc (h.noA q4).2).one hc3 (Ne.symm n5),(h.rA.row hc fun k hk e => h.dd k hk e).one hc3 (h.noA q2).1,
   hR.one hc3 fun e => by have := hR.new b7 e; omega,fun k hk e' => ?_,⟨q1,q2,q3,q4,Nat.le_trans q5 (Nat.le_trans hc.size z)⟩,h.ne⟩
 rcases hv k e' with e | e
 · exact h.dd k hk e
 · have := (h.rA.off k hk).1.2; omega
theorem TL.appA {x : Nat} {r : Nat} {ty : TypeId} {KW : World → Prop} (h : TL w0 w p f M vt B1 b2 b7 b8 b9 ta rest a va vk av ks) (hp : PR w0 w p f M vt s top) (hr : w.heap[r]? = some (.cells [i64 (x : Nat)].toArray IntT (0,0))) (hn : av.length ≤ 1000000)
   (hK : ∀ va' w',TL w0 w' p f M vt B1 b2 b7 b8 b9 ta rest a va' vk (av ++ [x]) ks → PR w0 w' p f M vt s top → Chg (fun k => va.ownBlock = some k ∨ k = b7) w w' → (∀ k,va'.ownBlock = some k → va.ownBlock = some k ∨ w.heap.size ≤ k) → KW w') :
   semE Tryz.prog (Builtin.append_ #[26,26] ty #[va,.slice (some ⟨r,0,none⟩) 1 1]) w fun t62 w36 => fldW 2 (.pointer (some ⟨b7,0,none⟩)) fun t63 => stW 1 t63 t62 w36 KW := by
 obtain ⟨q1,q2,q3,q4,q5⟩ := h.lt
 refine Ro.app el_int h.rA hp hr rfl (fun u hu => by simp only [List.mem_singleton] at hu; subst hu; rfl) hn (by decide) q5 fun v' w2 hR hc hv hp2 => ?_
 have e1 : (av ++ [x]).length = av.length + 1 := by simp
 have e2 : ints (av ++ [x]) = ints av ++ [i64 (x : Nat)] := by simp [ints]
 rw [← e1,← e2] at hR
 rw [fld_ptr,add_mk,Nat.zero_add]
 obtain ⟨vp,vc,ev,_⟩ := hR.own.sl.shape
 refine (h.l7.row hc (h.noA q2).1).st (by rw [ev]; rfl) (by simp) fun w3 L3 hc3 hz3 => ?_
 exact hK v' w3 (h.args hR hc hv hc3 (by rw [L3.1]; rfl)) (hp2.one hc3 ⟨⟨L3.2.1.1,by have := L3.2.1.2; omega⟩,L3.2.2⟩) ((hc.mono fun k _ e => .inl e).trans (hc3.mono fun k _ e => .inr e)) hv
theorem TL.appK {x : Str} {r : Nat} {ty : TypeId} {KW : World → Prop} (h : TL w0 w p f M vt B1 b2 b7 b8 b9 ta rest a va vk av ks) (hp : PR w0 w p f M vt s top) (hr : w.heap[r]? = some (.cells [str x].toArray StT (0,0))) (hn : ks.length ≤ 1000000)
   (hK : ∀ vk' w',TL w0 w' p f M vt B1 b2 b7 b8 b9 ta rest a va vk' av (ks ++ [x]) → PR w0 w' p f M vt s top → Chg (fun k => vk.ownBlock = some k ∨ k = b7) w w' → (∀ k,vk'.ownBlock = some k → vk.ownBlock = some k ∨ w.heap.size ≤ k) → KW w') :
   semE Tryz.prog (Builtin.append_ #[33,33] ty #[vk,.slice (some ⟨r,0,none⟩) 1 1]) w fun t62 w36 => fldW 3 (.pointer (some ⟨b7,0,none⟩)) fun t63 => stW 1 t63 t62 w36 KW := by
 obtain ⟨q1,q2,q3,q4,q5⟩ := h.lt
 refine Ro.app el_st h.rK hp hr rfl (fun u hu => by simp only [List.mem_singleton] at hu; subst hu; rfl) hn (by decide) q5 fun v' w2 hR hc hv hp2 => ?_
 have e1 : (ks ++ [x]).length = ks.length + 1 := by simp
 have e2 : strs (ks ++ [x]) = strs ks ++ [str x] := by simp [strs]
 rw [← e1,← e2] at hR
 rw [fld_ptr,add_mk,Nat.zero_add]
 obtain ⟨vp,vc,ev,_⟩ := hR.own.sl.shape
 refine (h.l7.row hc (h.noA q2).2).st (by rw [ev]; rfl) (by simp) fun w3 L3 hc3 hz3 => ?_
 exact hK v' w3 (h.keys hR hc hv hc3 (by rw [L3.1]; rfl)) (hp2.one hc3 ⟨⟨L3.2.1.1,by have := L3.2.1.2; omega⟩,L3.2.2⟩) ((hc.mono fun k _ e => .inl e).trans (hc3.mono fun k _ e => .inr e)) hv
theorem txt1_p {E : PS → R Nat} {dl i e b10 b11 : Nat} {M0 : Lay} {wb : World} (he0 : Eff p f M0 M wb w) (hw7 : wb.heap.size ≤ b7) (hwB : wb.heap.size ≤ B1) (hS : ScanC w0 f) (hE : EC w0 f 81 E dl) (hF : Fine E) (h : PR w0 w p f M vt s top) (hg : Gd N s dl) (hT : TL w0 w p f M vt B1 b2 b7 b8 b9 ta rest a va vk av ks)
   (l10 : Loc w0 w p f M vt b10 IntT [i64 (i : Nat)]) (l11 : Loc w0 w p f M vt b11 IntT [i64 (e : Nat)]) (n10 : va.ownBlock ≠ some b10 ∧ vk.ownBlock ≠ some b10 ∧ b10 ≠ b7) (n11 : va.ownBlock ≠ some b11 ∧ vk.ownBlock ≠ some b11 ∧ b11 ≠ b7)
   (hie : i + 3 ≤ e) (hel : e ≤ rest.length) (h0 : 0 ≤ a) (h1 : a + rest.length + 1 ≤ N) (hphi : Syn.phi s + (e - 1 - (i + 2)) ≤ 100000) (hn : av.length ≤ 1000000)
   (hK : ∀ x s',innerR E s ((rest.drop (i + 2)).take (e - 1 - (i + 2))) (a + i + 2) = .ok x s' → ∀ M' va' w',PR w0 w' p f M' vt s' top → Eff p f M0 M' wb w' → TL w0 w' p f M' vt B1 b2 b7 b8 b9 ta rest a va' vk (av ++ [x]) ks →
     Loc w0 w' p f M' vt b10 IntT [i64 (i : Nat)] → Loc w0 w' p f M' vt b11 IntT [i64 (e : Nat)] → (va'.ownBlock ≠ some b10 ∧ va'.ownBlock ≠ some b11) → K (.tuple #[]) w')
   (ht : ∀ c a',innerR E s ((rest.drop (i + 2)).take (e - 1 - (i + 2))) (a + i + 2) = .err c a' → Thr w0 f c a') :
   callF Tryz.prog 163 [.pointer (some ⟨b7,0,none⟩),.pointer (some ⟨b2,0,none⟩),.pointer (some ⟨b8,0,none⟩),.pointer (some ⟨b10,0,none⟩),.pointer (some ⟨b11,0,none⟩),.pointer (some ⟨b9,0,none⟩)] w K := by
 refine W163_ok ?_
 unfold W163
 have hN := hg.hN
 have T1 := hT.ext (ext_drew w)
 have h1' := h.drew
 have k10 := l10.drew
 have k11 := l11.drew
 rw [fld_ptr,add_mk,Nat.zero_add]
 refine T1.l7.ld rfl ?_
 refine T1.l2.ld rfl ?_
 refine T1.l8.ld rfl ?_
 refine k10.ld rfl ?_
 rw [bin_add,wrap_id (by omega) (by omega)]
 refine k11.ld rfl ?_
 rw [bin_sub,wrap_id (by omega) (by omega),sls_str,bd_some]
 refine ⟨by omega,by omega,?_⟩
 rw [bd_some]
 refine ⟨by omega,by omega,?_⟩
 refine T1.l9.ld rfl ?_
 refine k10.ld rfl ?_
 rw [bin_add,wrap_id (by omega) (by omega),bin_add,wrap_id (by omega) (by omega)]
 have et : (rest.take ((e : Int) - 1).toNat).drop ((i : Int) + 2).toNat = (rest.drop (i + 2)).take (e - 1 - (i + 2)) := by
   rw [show ((e : Int) - 1).toNat = e - 1 by omega,show ((i : Int) + 2).toNat = i + 2 by omega,List.drop_take]
 rw [et]
 have hlen : ((rest.drop (i + 2)).take (e - 1 - (i + 2))).length = e - 1 - (i + 2) := by rw [List.length_take,List.length_drop]; omega
 refine inner_p hS hE hF h1' hg (by omega) (by rw [hlen]; omega) (by rw [hlen]; exact hphi) (fun x s' hx M' w2 h2 he2 => ?_) ht
 have T2 := T1.eff he2
 have ld7 : ∀ {w3 : World},TL w0 w3 p f M' vt B1 b2 b7 b8 b9 ta rest a va vk av ks → ldW false 1 (.pointer (some ⟨b7,2,none⟩)) w3 fun x => x = va := fun T => T.l7.ld rfl rfl
 refine ⟨ld7 T2,?_⟩
 refine bsl_int1 fun r w3 hr hz3 hrb hx3 => ?_
 have T3 := T2.ext hx3
 refine ⟨ld7 T3,?_⟩
 refine T3.appA (h2.ext hx3) hrb hn fun va' w4 T4 h4 hc4 hv4 => ?_
 have he23 := (Eff.ext (ext_drew w)).trans (he2.x hx3)
 have z3 := he23.chg.size
 have j10 := (k10.eff he2).ext hx3
 have j11 := (k11.eff he2).ext hx3
 have b7o := T3.l7.2
 have heb : Eff p f M0 M' wb w4 := (he0.trans he23).then hc4 fun k hk e => by
   rcases e with e | e
   · have := hT.rA.new k e; omega
   · omega
 exact hK x s' hx M' va' w4 h4 heb T4 ⟨hc4.at j10.1 fun e => e.elim n10.1 n10.2.2,j10.2.up hc4.size⟩ ⟨hc4.at j11.1 fun e => e.elim n11.1 n11.2.2,j11.2.up hc4.size⟩ ⟨fun e => (hv4 _ e).elim n10.1 fun e => by have := j10.lt; omega,fun e => (hv4 _ e).elim n11.1 fun e => by have := j11.lt; omega⟩
end
end
end Go.Proofs.YtofhaneggcpdaaaGreatDoor
namespace Go.Proofs.YtofhaneggcpdaaaGreatDoor
open Go Go.Eng Go.RowKit Go.Syn Go.Lex
set_option maxRecDepth 100000
def strAt (w : World) (b : Nat) : Nat := match w.heap[b]? with | some (.cells c _ _) => (match (c[0]? : Option Value) with | some (Value.string t) => t.size | _ => 0) | _ => 0
section
variable [HX]
variable {w0 w w' w1 : World} {p f b : Nat} {M M' : Lay} {vt : Value} {s : PS} {top : List Nat} {N : Int} {K : Value → World → Prop}
theorem Loc.strat {rest : Str} (h : Loc w0 w p f M vt b StT [str rest]) : strAt w b = rest.length := by
 unfold strAt
 rw [h.1]
 simp [ofL_size]
theorem box_one {T : TypeId} {v : Value} {w : World} {K : Value → World → Prop} (h1 : one1 v = true) (h : ∀ a w',a = w.heap.size → w'.heap.size = w.heap.size + 1 → w'.heap[a]? = some (.cells [v].toArray T (0,0)) → Ext w w' → K (.pointer (some ⟨a,0,none⟩)) w') : boxW T v w K := by
 have hc : v.cells = #[v] := by cases v <;> first | rfl | (simp [one1] at h1)
 unfold boxW
 rw [hc]
 exact h _ _ rfl (by simp) (heap_anew _ _ _ rfl) (Chg.alloc (Chg.refl _ _) _)
theorem Gd.put {N : Int} {s : PS} {dl : Nat} (h : Gd N s dl) {e : Ex} (hp : Syn.phi s + 1 ≤ 100000) : Gd N { s with ex := s.ex ++ [e] } dl := ⟨⟨h.ws.tg,h.ws.lt,h.ws.pN⟩,h.hN,h.few,h.ts,Nat.le_trans (phi_put s e) hp,h.lev⟩
theorem put_text {M0 : Lay} {wb : World} {l : Str} {a : Int} (h : PR w0 w p f M vt s top) (he : Eff p f M0 M wb w) (hlen : s.ex.length ≤ 1000000)
   (hK : ∀ M' w',PR w0 w' p f M' vt { s with ex := s.ex ++ [⟨5,l,[],[],a⟩] } top → Eff p f M0 M' wb w' → (∀ b T cs,Loc w0 w p f M vt b T cs → Loc w0 w' p f M' vt b T cs) → (∀ wb T m v n xs,Ro w0 w p f M vt wb T m v n xs → Ro w0 w' p f M' vt wb T m v n xs) → w.heap.size ≤ w'.heap.size → K (i64 (s.ex.length : Nat)) w') :
   callF Tryz.prog 107 [.pointer (some ⟨p,0,none⟩),.agg [i64 5,str l,.slice none 0 0,.slice none 0 0,i64 a].toArray] w K := by
 have hub : ub [i64 5,str l,.slice none 0 0,.slice none 0 0,i64 a] = [] := rfl
 refine put_p (M0 := M) (wb := w) (e := ⟨5,l,[],[],a⟩) h (Eff.refl _ _ _ _) ⟨.slice none 0 0,.slice none 0 0,rfl,⟨by simp [ints],.inl ⟨rfl,rfl⟩⟩,⟨by simp [strs],.inl ⟨rfl,rfl⟩⟩⟩ (by rw [hub]; intro k hk; cases hk) (by rw [hub]; exact List.nodup_nil) (by rw [hub]; intro k hk; cases hk) hlen fun M' w' h' he' hl' => ?_
 exact hK M' w' h' (he.trans he') (fun b T cs hL => hl' b T cs hL (by rw [hub]; exact List.not_mem_nil)) (fun wb T m v n xs hR => hR.eff he') he'.chg.size
theorem text_p {E : PS → R Nat} {dl : Nat} {t : Tok} (hS : ScanC w0 f) (hE : ∀ d,dl = d + 1 → EC w0 f 81 E d) (hF : Fine E) (h : PR w0 w p f M vt s top) (hg : Gd N s dl) (hx : TxOk t.t) (hl : t.t.length ≤ 100000)
   (ha : 0 ≤ t.a ∧ t.a ≤ N) (hte : TextOk N t.a t.t) (hphi : Syn.phi s + wt { t with k := 3 } ≤ 100000)
   (hK : ∀ x s',textR E s t = .ok x s' → ∀ M' w',PR w0 w' p f M' vt s' top → Eff p f M M' w w' → K (i64 (x : Nat)) w') (ht : ∀ c a',textR E s t = .err c a' → Thr w0 f c a') :
   callF Tryz.prog 150 [.pointer (some ⟨p,0,none⟩),.agg (tokc t).toArray] w K := by
 refine W150_ok ?_
 unfold W150
 have hN := hg.hN
 refine box_one rfl fun b2 w1 hb2 hz1 hbb1 hx1 => ?_
 have h1 := h.ext hx1
 have L1 := h.loc hz1 hb2 hbb1
 refine box_new (z := tokc t) fun b3 w2 hb3 hz2 hbb2 hx2 => ?_
 have h2 := h1.ext hx2
 have L12 := L1.ext hx2
 have L2 := h1.loc hz2 hb3 hbb2
 have he2 : Eff p f M M w w2 := (Eff.ext hx1).x hx2
 refine L2.ldf rfl ?_
 refine insertion_p (by omega) ?_
 rw [ext_tuple]
 unfold textR at hK ht
 cases hi : Syn.insP t.t with
 | none =>
   have ei : insV t.t = [i64 (-1),i64 0] := by unfold insV; rw [hi]
   rw [ei]
   refine ⟨i64 (-1),rfl,?_⟩
   rw [ext_tuple]
   refine ⟨i64 0,rfl,?_⟩
   rw [bin_lss,condW_dec]
   refine ⟨fun _ => ?_,fun e => by omega⟩
   rw [hi] at hK ht
   simp only [Option.isSome_none,Bool.false_eq_true,if_false] at hK ht
   refine L12.drew.ld rfl ?_
   refine L2.drew.ldf rfl ?_
   rw [fld_ptr,add_mk,Nat.zero_add]
   refine L2.drew.ld rfl ?_
   refine says_p ((tx_ins hx).1 hi) (by omega) fun w3 hx3 => ?_
   have L3 := L2.drew.ext hx3
   have L13 := L12.drew.ext hx3
   refine ⟨L3.ld rfl rfl,L13.ld rfl rfl,?_⟩
   simp only [put_int,put_str,put_nil,List.length_cons,List.length_nil,List.set_cons_zero,List.set_cons_succ,Nat.reduceAdd,Nat.reduceLT,true_and,Nat.zero_lt_succ]
   have h3 := h2.drew.ext hx3
   refine put_text h3 ((he2.x (ext_drew w2)).x hx3) (by have := hg.ex; omega) fun M' w4 h4 he4 _ _ _ => ?_
   exact hK _ _ rfl M' w4 h4 he4
 | some ie =>
   have ei : insV t.t = [i64 (ie.1 : Nat),i64 (ie.2 : Nat)] := by unfold insV; rw [hi]
   rw [ei]
   refine ⟨i64 (ie.1 : Nat),rfl,?_⟩
   rw [ext_tuple]
   refine ⟨i64 (ie.2 : Nat),rfl,?_⟩
   rw [bin_lss,condW_dec]
   refine ⟨fun e => by omega,fun _ => ?_⟩
   rw [hi] at hK ht
   simp only [Option.isSome_some,if_true] at hK ht
   have hte : t.a + t.t.length + 2 ≤ N := hte.resolve_left fun e => by rw [e] at hi; cases hi
   have hwt : wt { t with k := 3 } = t.t.length + 2 := by unfold wt; rw [if_neg (by simp),if_pos ⟨rfl,by rw [hi]; rfl⟩]
   rw [hwt] at hphi
   refine L2.ldf rfl ?_
   simp only [put_int,put_str,put_nil,List.length_cons,List.length_nil,List.set_cons_zero,List.set_cons_succ,Nat.reduceAdd,Nat.reduceLT,true_and,Nat.zero_lt_succ]
   refine alloc_new fun b7 w3 hb7 hz3 hbb3 hx3 => ?_
   have h3 := h2.ext hx3
   have L3 := h2.loc hz3 hb7 hbb3
   refine st_agg_at (l := [i64 6,str [],.slice none 0 0,.slice none 0 0,i64 t.a]) hbb3 rfl rfl rfl fun w4 hz4 hbb4 hc4 => ?_
   have L4 : Loc w0 w4 p f M vt b7 ExT [i64 6,str [],.slice none 0 0,.slice none 0 0,i64 t.a] := ⟨hbb4,L3.2.up (by omega)⟩
   have h4 := h3.one hc4 L3.2
   have L14 := (L12.ext hx3).one hc4 (by omega)
   have L24 := (L2.ext hx3).one hc4 (by omega)
   have he4 : Eff p f M M w w4 := (he2.x hx3).one hc4 (by omega)
   refine JoinW.cut (fun st w' => ∃ b8 b9 B1,st = [.pointer (some ⟨b8,0,none⟩),.pointer (some ⟨b9,0,none⟩)] ∧ TL w0 w' p f M vt B1 b2 b7 b8 b9 t.a t.t (t.a + 1) (.slice none 0 0) (.slice none 0 0) [] [] ∧ PR w0 w' p f M vt s top ∧ Eff p f M M w w' ∧ w.heap.size ≤ B1 ∧ w.heap.size ≤ b8 ∧ w.heap.size ≤ b9) ?_ ?_
   · have L4d := L4.drew
     have L14d := L14.drew
     have L24d := L24.drew
     have h4d := h4.drew
     have he4d := he4.x (ext_drew w4)
     have ld1 : ∀ {w' : World},Loc w0 w' p f M vt b3 TkT (tokc t) → ldW false 1 (.pointer (some ⟨b3,1,none⟩)) w' fun x => x = str t.t := fun L => L.ld rfl rfl
     have ld2 : ∀ {w' : World},Loc w0 w' p f M vt b3 TkT (tokc t) → ldW false 1 (.pointer (some ⟨b3,2,none⟩)) w' fun x => x = i64 t.a := fun L => L.ld rfl rfl
     rw [fld_ptr,add_mk,Nat.zero_add]
     refine L24d.ld rfl ?_
     rw [fld_ptr,add_mk,Nat.zero_add]
     refine L24d.ld rfl ?_
     rw [bin_add,wrap_id (by omega) (by omega)]
     have zd : w4.drew.heap.size = w4.heap.size := rfl
     -- both orders come to two blocks
     have fin : ∀ {w5 : World} {b8 b9 : Nat},PR w0 w5 p f M vt s top → Eff p f M M w w5 → Loc w0 w5 p f M vt b2 PpT [.pointer (some ⟨p,0,none⟩)] → Loc w0 w5 p f M vt b7 ExT [i64 6,str [],.slice none 0 0,.slice none 0 0,i64 t.a] → Loc w0 w5 p f M vt b8 StT [str t.t] → Loc w0 w5 p f M vt b9 IntT [i64 (t.a + 1)] → w4.heap.size ≤ b8 → w4.heap.size ≤ b9 → b8 ≠ b9 →
         ∃ b8' b9' B1,[Value.pointer (some ⟨b8,0,none⟩),.pointer (some ⟨b9,0,none⟩)] = [.pointer (some ⟨b8',0,none⟩),.pointer (some ⟨b9',0,none⟩)] ∧ TL w0 w5 p f M vt B1 b2 b7 b8' b9' t.a t.t (t.a + 1) (.slice none 0 0) (.slice none 0 0) [] [] ∧ PR w0 w5 p f M vt s top ∧ Eff p f M M w w5 ∧ w.heap.size ≤ B1 ∧ w.heap.size ≤ b8' ∧ w.heap.size ≤ b9' := fun {w5 b8 b9} hp he l2 l7 l8 l9 g8 g9 gn =>
       ⟨b8,b9,w5.heap.size,rfl,⟨l2,l7,l8,l9,Ro.nil _ _,Ro.nil _ _,fun k hk => by simp [Value.ownBlock] at hk,⟨l2.lt,l7.lt,l8.lt,l9.lt,Nat.le_refl _⟩,⟨by omega,by omega,by omega,by omega,by omega,gn⟩⟩,hp,he,he.chg.size,by omega,by omega⟩
     refine ⟨?_,?_⟩
     · refine alloc_new fun b8 w5 hb8 hz5 hbb5 hx5 => ?_
       have L8 := h4d.loc hz5 hb8 hbb5
       have h5 := h4d.ext hx5
       have T5 := L24d.ext hx5
       refine ⟨ld2 T5,ld1 T5,?_⟩
       refine alloc_new fun b9 w6 hb9 hz6 hbb6 hx6 => ?_
       have L9 := h5.loc hz6 hb9 hbb6
       have h6 := h5.ext hx6
       have T6 := T5.ext hx6
       refine ⟨ld2 T6,ld1 T6,?_⟩
       refine (L8.ext hx6).st rfl (by simp) fun w7 L87 hc7 hz7 => ?_
       have h7 := h6.one hc7 (L8.ext hx6).2
       have T7 := T6.one hc7 (by omega)
       refine ⟨ld2 T7,?_⟩
       refine (L9.one hc7 (by omega)).st rfl (by simp) fun w8 L98 hc8 hz8 => ?_
       have h8 := h7.one hc8 (L9.one hc7 (by omega)).2
       exact fin h8 ((((he4d.x hx5).x hx6).one hc7 (by omega)).one hc8 (by omega)) ((((L14d.ext hx5).ext hx6).one hc7 (by omega)).one hc8 (by omega)) ((((L4d.ext hx5).ext hx6).one hc7 (by omega)).one hc8 (by omega)) (L87.one hc8 (by omega)) L98 (by omega) (by omega) (by omega)
     · refine alloc_new fun b9 w5 hb9 hz5 hbb5 hx5 => ?_
       have L9 := h4d.loc hz5 hb9 hbb5
       have h5 := h4d.ext hx5
       have T5 := L24d.ext hx5
       refine ⟨ld2 T5,ld1 T5,?_⟩
       refine alloc_new fun b8 w6 hb8 hz6 hbb6 hx6 => ?_
       have L8 := h5.loc hz6 hb8 hbb6
       have h6 := h5.ext hx6
       have T6 := T5.ext hx6
       refine ⟨ld2 T6,ld1 T6,?_⟩
       refine L8.st rfl (by simp) fun w7 L87 hc7 hz7 => ?_
       have h7 := h6.one hc7 L8.2
       have T7 := T6.one hc7 (by omega)
       refine ⟨ld2 T7,?_⟩
       refine ((L9.ext hx6).one hc7 (by omega)).st rfl (by simp) fun w8 L98 hc8 hz8 => ?_
       have h8 := h7.one hc8 ((L9.ext hx6).one hc7 (by omega)).2
       exact fin h8 ((((he4d.x hx5).x hx6).one hc7 (by omega)).one hc8 (by omega)) ((((L14d.ext hx5).ext hx6).one hc7 (by omega)).one hc8 (by omega)) ((((L4d.ext hx5).ext hx6).one hc7 (by omega)).one hc8 (by omega)) (L87.one hc8 (by omega)) L98 (by omega) (by omega) (by omega)
   rintro st g w5 ⟨b8,b9,B1,rfl,T5,h5,he5,hB1,hB8,hB9⟩
   simp only [List.getD_cons_zero,List.getD_cons_succ]
   clear L1 L12 L2 L3 L4 L14 L24
   have hz5 := he5.chg.size
   generalize hR : partsF E (t.t.length + 1) s t.t (t.a + 1) [] [] = R0 at hK ht
   refine LoopW.go (fun st w' => st = [] ∧ ∃ s1 M1 rest a va vk av ks n,PR w0 w' p f M1 vt s1 top ∧ Gd N s1 dl ∧ Eff p f M M1 w w' ∧ TL w0 w' p f M1 vt B1 b2 b7 b8 b9 t.a rest a va vk av ks ∧ partsF E n s1 rest a av ks = R0 ∧ rest.length < n ∧ TxOk rest ∧ 0 ≤ a ∧ a + rest.length + 1 ≤ N ∧ Syn.phi s1 + rest.length + 1 ≤ 100000 ∧ av.length + 2 * rest.length ≤ 2 * t.t.length ∧ ks.length = av.length)
     (fun _ w' => strAt w' b8) ⟨rfl,s,M,t.t,t.a + 1,_,_,[],[],t.t.length + 1,h5,hg,he5,T5,hR,by omega,hx,by omega,by omega,by omega,by simp,rfl⟩ ?_
   rintro st g2 w6 ⟨rfl,s1,M1,rest,a,va,vk,av,ks,n,h6,hg1,he6,T6,hpf,hn,hxr,ha0,haN,hph,hav,hks⟩
   have hw6 := he6.chg.size
   refine T6.l8.ld rfl ?_
   rw [bin_sne,condW_dec]
   refine ⟨fun hne => ?_,fun hne => ?_⟩
   · obtain ⟨n,rfl⟩ : ∃ m,n = m + 1 := ⟨n - 1,by omega⟩
     rw [partsF_step hne hn] at hpf
     obtain ⟨i1,i2,i3,i4,i5,i6,i7⟩ := insI_le hxr
     have i6 := i6 hne
     refine T6.l8.ld rfl ?_
     refine insertion_p (by omega) ?_
     have hlen : rest.length ≤ 100000 := by omega
     have two : ∃ u v : Int,insV rest = [i64 u,i64 v] ∧ ((Syn.insP rest = none ∧ u = -1) ∨ (Syn.insP rest ≠ none ∧ u = ((insI rest).1 : Nat) ∧ v = ((insI rest).2 : Nat))) := by
       unfold insI insV
       cases hr : Syn.insP rest with
       | none => exact ⟨-1,0,rfl,.inl ⟨rfl,rfl⟩⟩
       | some x => exact ⟨_,_,rfl,.inr ⟨by simp,rfl,rfl⟩⟩
     obtain ⟨u,v,euv,huv⟩ := two
     rw [euv,ext_tuple]
     refine ⟨i64 u,rfl,?_⟩
     rw [ext_tuple]
     refine ⟨i64 v,rfl,?_⟩
     refine alloc_new fun b10 w7 hb10 hz7 hbb7 hx7 => ?_
     have h7 := h6.ext hx7
     have T7 := T6.ext hx7
     have l10 := h6.loc hz7 hb10 hbb7
     refine alloc_new fun b11 w8 hb11 hz8 hbb8 hx8 => ?_
     have h8 := h7.ext hx8
     have T8 := T7.ext hx8
     have l11 := h7.loc hz8 hb11 hbb8
     have hB6 := T6.lt.2.2.2.2
     have nA10 : ∀ k,va.ownBlock = some k → k < w6.heap.size := fun k hk => (T6.rA.off k hk).1.2
     have nK10 : ∀ k,vk.ownBlock = some k → k < w6.heap.size := fun k hk => (T6.rK.off k hk).1.2
     have no10 : va.ownBlock ≠ some b10 ∧ vk.ownBlock ≠ some b10 := ⟨fun e => by have := nA10 _ e; omega,fun e => by have := nK10 _ e; omega⟩
     have no11 : va.ownBlock ≠ some b11 ∧ vk.ownBlock ≠ some b11 := ⟨fun e => by have := nA10 _ e; omega,fun e => by have := nK10 _ e; omega⟩
     refine (l10.ext hx8).st rfl (by simp) fun w9 l10 hc9 hz9 => ?_
     have h9 := h8.one hc9 l10.2
     have T9 := T8.one hc9 (by omega) no10.1 no10.2
     refine (l11.one hc9 (by omega)).st rfl (by simp) fun w10 l11 hc10 hz10 => ?_
     have l10 := l10.one hc10 (by omega)
     have h10 := h9.one hc10 l11.2
     have T10 := T9.one hc10 (by omega) no11.1 no11.2
     have he10 : Eff p f M M1 w w10 := (((he6.x hx7).x hx8).one hc9 (by omega)).one hc10 (by omega)
     simp only [List.set_cons_zero] at l10 l11
     refine JoinW.cut (fun _ w' => Loc w0 w' p f M1 vt b10 IntT [i64 ((insI rest).1 : Nat)] ∧ Loc w0 w' p f M1 vt b11 IntT [i64 ((insI rest).2 : Nat)] ∧ PR w0 w' p f M1 vt s1 top ∧ TL w0 w' p f M1 vt B1 b2 b7 b8 b9 t.a rest a va vk av ks ∧ Eff p f M M1 w w' ∧ w10.heap.size ≤ w'.heap.size) ?_ ?_
     · refine l10.ld rfl ?_
       rw [bin_lss,condW_dec]
       refine ⟨fun hlt => ?_,fun hge => ?_⟩
       · have hnone : Syn.insP rest = none := by
           rcases huv with h | h
           · exact h.1
           · omega
         have eI : insI rest = (rest.length,rest.length) := by unfold insI; rw [hnone]
         have T11 := T10.ext (ext_drew w10)
         refine T11.l8.ld rfl ?_
         rw [lens_str]
         refine T11.l8.ld rfl ?_
         rw [lens_str]
         refine l10.drew.st rfl (by simp) fun w12 l10 hc12 hz12 => ?_
         have h12 := h10.drew.one hc12 l10.2
         have T12 := T11.one hc12 (by omega) no10.1 no10.2
         refine ⟨T12.l8.ld rfl rfl,?_⟩
         have zd : w10.drew.heap.size = w10.heap.size := rfl
         refine (l11.drew.one hc12 (by omega)).st rfl (by simp) fun w13 l11 hc13 hz13 => ?_
         have h13 := h12.one hc13 l11.2
         have T13 := T12.one hc13 (by omega) no11.1 no11.2
         have l10 := l10.one hc13 (by omega)
         simp only [List.set_cons_zero] at l10 l11
         rw [eI]
         exact ⟨l10,l11,h13,T13,((he10.x (ext_drew _)).one hc12 (by omega)).one hc13 (by omega),by omega⟩
       · rcases huv with h | ⟨_,e1,e2⟩
         · omega
         · rw [e1] at l10; rw [e2] at l11
           exact ⟨l10,l11,h10,T10,he10,Nat.le_refl _⟩
     rintro _ g3 w14 ⟨l10,l11,h14,T14,he14,hz14⟩
     clear hc9 hc10 h7 h8 h9 h10 T7 T8 T9 T10 he10
     generalize hI : (insI rest).1 = I at *
     generalize hE' : (insI rest).2 = E' at *
     have hw14 := he14.chg.size
     -- the piece ahead of the insertion
     refine JoinW.cut (fun _ w' => ∃ M2 va2 vk2,PR w0 w' p f M2 vt (pieceS s1 rest a) top ∧ Eff p f M M2 w w' ∧ TL w0 w' p f M2 vt B1 b2 b7 b8 b9 t.a rest a va2 vk2 (if 0 < I then av ++ [s1.ex.length] else av) (if 0 < I then ks ++ [[116]] else ks) ∧ Loc w0 w' p f M2 vt b10 IntT [i64 (I : Nat)] ∧ Loc w0 w' p f M2 vt b11 IntT [i64 (E' : Nat)] ∧ (va2.ownBlock ≠ some b10 ∧ vk2.ownBlock ≠ some b10) ∧ (va2.ownBlock ≠ some b11 ∧ vk2.ownBlock ≠ some b11)) ?_ ?_
     · refine l10.ld rfl ?_
       rw [bin_gtr,condW_dec]
       unfold pieceS
       rw [hI]
       refine ⟨fun hpos => ?_,fun hpos => ?_⟩
       · have hpos : 0 < I := by omega
         simp only [if_pos hpos]
         have T15 := T14.ext (ext_drew w14)
         have h15 := h14.drew
         have l10 := l10.drew
         have l11 := l11.drew
         rw [fld_ptr,add_mk,Nat.zero_add]
         refine T15.l7.ld rfl ?_
         refine T15.l2.ld rfl ?_
         refine T15.l8.ld rfl ?_
         refine l10.ld rfl ?_
         rw [sls_str,bd_some]
         refine ⟨by omega,by omega,?_⟩
         rw [bd_none,List.drop_zero,Int.toNat_natCast]
         refine T15.l9.ld rfl ?_
         refine says_p i3 (by rw [List.length_take]; omega) fun w16 hx16 => ?_
         have T16 := T15.ext hx16
         have h16 := h15.ext hx16
         have l10 := l10.ext hx16
         have l11 := l11.ext hx16
         refine ⟨T16.l9.ld rfl rfl,T16.l2.ld rfl rfl,T16.l7.ld rfl rfl,?_⟩
         simp only [put_int,put_str,put_nil,List.length_cons,List.length_nil,List.set_cons_zero,List.set_cons_succ,Nat.reduceAdd,Nat.reduceLT,true_and,Nat.zero_lt_succ]
         have he16 := (he14.x (ext_drew w14)).x hx16
         refine put_text h16 he16 (by have := hg1.ex; omega) fun M2 w17 h17 he17 hl17 hr17 hz17 => ?_
         have T17 : TL w0 w17 p f M2 vt B1 b2 b7 b8 b9 t.a rest a va vk av ks := ⟨hl17 _ _ _ T16.l2,hl17 _ _ _ T16.l7,hl17 _ _ _ T16.l8,hl17 _ _ _ T16.l9,hr17 _ _ _ _ _ _ T16.rA,hr17 _ _ _ _ _ _ T16.rK,T16.dd,⟨T16.lt.1,T16.lt.2.1,T16.lt.2.2.1,T16.lt.2.2.2.1,Nat.le_trans T16.lt.2.2.2.2 hz17⟩,T16.ne⟩
         have l10 := hl17 _ _ _ l10
         have l11 := hl17 _ _ _ l11
         refine ⟨T17.l7.ld rfl rfl,?_⟩
         refine bsl_int1 fun r w18 hr hz18 hrb hx18 => ?_
         have T18 := T17.ext hx18
         refine ⟨T18.l7.ld rfl rfl,?_⟩
         refine T18.appA (h17.ext hx18) hrb (by omega) fun va2 w19 T19 h19 hc19 hv19 => ?_
         have n7 := T18.lt.2.1
         have l10' : Loc w0 w19 p f M2 vt b10 IntT [i64 (I : Nat)] := ⟨hc19.at (l10.ext hx18).1 fun e => e.elim no10.1 (by omega),(l10.ext hx18).2.up hc19.size⟩
         have l11' : Loc w0 w19 p f M2 vt b11 IntT [i64 (E' : Nat)] := ⟨hc19.at (l11.ext hx18).1 fun e => e.elim no11.1 (by omega),(l11.ext hx18).2.up hc19.size⟩
         have a10 : va2.ownBlock ≠ some b10 := fun e => (hv19 _ e).elim no10.1 fun e => by have := (l10.ext hx18).lt; omega
         have a11 : va2.ownBlock ≠ some b11 := fun e => (hv19 _ e).elim no11.1 fun e => by have := (l11.ext hx18).lt; omega
         have hw16 := he16.chg.size
         have he19 : Eff p f M M2 w w19 := (he17.x hx18).then hc19 fun k hk e => by
           rcases e with e | e
           · have := T6.rA.new k e; omega
           · omega
         rw [fld_ptr,add_mk,Nat.zero_add]
         refine T19.l7.ld rfl ?_
         refine bsl_str fun r2 w20 hr2 hz20 hrb2 hx20 => ?_
         have T20 := T19.ext hx20
         refine T20.appK (h19.ext hx20) hrb2 (by omega) fun vk2 w21 T21 h21 hc21 hv21 => ?_
         have hw19 := he19.chg.size
         refine ⟨M2,va2,vk2,h21,(he19.x hx20).then hc21 fun k hk e => ?_,T21,⟨hc21.at (l10'.ext hx20).1 fun e => e.elim no10.2 (by omega),(l10'.ext hx20).2.up hc21.size⟩,⟨hc21.at (l11'.ext hx20).1 fun e => e.elim no11.2 (by omega),(l11'.ext hx20).2.up hc21.size⟩,
           ⟨a10,fun e => (hv21 _ e).elim no10.2 fun e => by have := (l10'.ext hx20).lt; omega⟩,⟨a11,fun e => (hv21 _ e).elim no11.2 fun e => by have := (l11'.ext hx20).lt; omega⟩⟩
         rcases e with e | e
         · have := T6.rK.new k e; omega
         · omega
       · simp only [if_neg (show ¬ 0 < I by omega)]
         exact ⟨M1,va,vk,h14,he14,T14,l10,l11,no10,no11⟩
     rintro _ g4 w15 ⟨M2,va2,vk2,h15,he15,T15,l10,l11,no10,no11⟩
     have hg2 : Gd N (pieceS s1 rest a) dl ∧ Syn.phi (pieceS s1 rest a) ≤ Syn.phi s1 + I := by
       unfold pieceS
       rw [hI]
       split
       · have hp := phi_put s1 ⟨5,saysM (rest.take I),[],[],a⟩
         have hp : Syn.phi { s1 with ex := s1.ex ++ [⟨5,saysM (rest.take I),[],[],a⟩] } ≤ Syn.phi s1 + 1 := hp
         exact ⟨hg1.put (by omega),by omega⟩
       · exact ⟨hg1,by omega⟩
     obtain ⟨hg2,hp2⟩ := hg2
     have hav2 : (if 0 < I then av ++ [s1.ex.length] else av).length ≤ av.length + (if 0 < I then 1 else 0) := by split <;> simp
     have hks2 : (if 0 < I then ks ++ [[116]] else ks).length = (if 0 < I then av ++ [s1.ex.length] else av).length := by split <;> simp [hks]
     generalize (if 0 < I then av ++ [s1.ex.length] else av) = av2 at *
     generalize (if 0 < I then ks ++ [[116]] else ks) = ks2 at *
     generalize pieceS s1 rest a = s2 at *
     have hw15 := he15.chg.size
     -- the insertion
     refine JoinW.cut (fun _ w' => ∃ s3 M3 va3 vk3 av3 ks3,PR w0 w' p f M3 vt s3 top ∧ Gd N s3 dl ∧ Eff p f M M3 w w' ∧ TL w0 w' p f M3 vt B1 b2 b7 b8 b9 t.a rest a va3 vk3 av3 ks3 ∧ Loc w0 w' p f M3 vt b11 IntT [i64 (E' : Nat)] ∧ partsF E n s3 (rest.drop E') (a + E') av3 ks3 = R0 ∧ Syn.phi s3 + (rest.length - E') + 1 ≤ 100000 ∧ av3.length + 2 * (rest.length - E') ≤ 2 * t.t.length ∧ ks3.length = av3.length) ?_ ?_
     · refine l10.ld rfl ?_
       refine l11.ld rfl ?_
       rw [bin_lss,condW_dec]
       refine ⟨fun hlt => ?_,fun hge => ?_⟩
       · have hlt : I < E' := by omega
         have i5 := i5 hlt
         rw [if_pos hlt] at hpf
         refine T15.l2.ld rfl ?_
         refine T15.l9.ld rfl ?_
         refine l10.ld rfl ?_
         rw [bin_add,wrap_id (by omega) (by omega)]
         have hlev := hg2.lev
         have hsat := fun (d : Nat) (hd : dl = d + 1) => inner_sat (hF.ok N) (s := { s2 with deep := s2.deep + 1,quiet := false }) (ws_frame hg2.ws _ _) (t := (rest.drop (I + 2)).take (E' - 1 - (I + 2))) (a := a + I + 2) (by omega) (by rw [List.length_take,List.length_drop]; omega)
         refine within_p h15 (by omega) (fun hd => ht 7 (a + I) ?_) fun hd w16 h16 he16 => ?_
         · rw [← hpf]
           unfold within
           rw [if_pos hd]
           rfl
         obtain ⟨d,rfl⟩ : ∃ d,dl = d + 1 := ⟨dl - 1,by omega⟩
         have hgi := hg2.frame false
         have hwin : within s2 (a + I) false (fun q => innerR E q ((rest.drop (I + 2)).take (E' - 1 - (I + 2))) (a + I + 2)) = (innerR E { s2 with deep := s2.deep + 1,quiet := false } ((rest.drop (I + 2)).take (E' - 1 - (I + 2))) (a + I + 2)).bind fun x s' => .ok x { s' with deep := s2.deep,quiet := s2.quiet } := by
           unfold within
           rw [if_neg hd]
         rw [hwin] at hpf
         refine callV_cap' (caps := [.pointer (some ⟨b7,0,none⟩),.pointer (some ⟨b2,0,none⟩),.pointer (some ⟨b8,0,none⟩),.pointer (some ⟨b10,0,none⟩),.pointer (some ⟨b11,0,none⟩),.pointer (some ⟨b9,0,none⟩)]) ?_
         have n7 := T15.lt.2.1
         have hphi' : Syn.phi { s2 with deep := s2.deep + 1,quiet := false } = Syn.phi s2 := rfl
         refine txt1_p (he15.trans he16) (by omega) hB1 hS (hE d rfl) hF h16 hgi (T15.eff he16) (l10.eff he16) (l11.eff he16) ⟨no10.1,no10.2,by omega⟩ ⟨no11.1,no11.2,by omega⟩ i5 i2 ha0 haN (by show Syn.phi s2 + _ ≤ _; omega) (by split at hav2 <;> omega) (fun x s' hx' M3 va3 w17 h17 he17 T17 k10 k11 hno => ?_) fun c a' hx' => ht c a' ?_
         · rw [hx'] at hpf
           simp only [R.bind] at hpf
           have hs1 := hsat d rfl
           have hs2 := phi_inner hF.z { s2 with deep := s2.deep + 1,quiet := false } ((rest.drop (I + 2)).take (E' - 1 - (I + 2))) (a + I + 2)
           rw [hx'] at hs1 hs2
           have hs2 : Syn.phi s' ≤ Syn.phi s2 + ((rest.drop (I + 2)).take (E' - 1 - (I + 2))).length := hs2
           rw [List.length_take,List.length_drop] at hs2
           have hgs' : Gd N s' d := ⟨hs1.1.ws hgi.ws,hN,by rw [hs1.1.toks]; exact hgi.few,by rw [hs1.1.toks]; exact hgi.ts,by omega,by rw [hs1.1.deep]; exact hgi.lev⟩
           refine ⟨M3,s',h17,hs1.1.deep,fun w18 h18 he18 => ?_⟩
           have T18 := T17.eff he18
           rw [fld_ptr,add_mk,Nat.zero_add]
           refine T18.l7.ld rfl ?_
           refine bsl_str fun r2 w20 hr2 hz20 hrb2 hx20 => ?_
           have T20 := T18.ext hx20
           have k11 := (k11.eff he18).ext hx20
           refine T20.appK (h18.ext hx20) hrb2 (by split at hav2 <;> omega) fun vk3 w21 T21 h21 hc21 hv21 => ?_
           refine ⟨_,M3,va3,vk3,av2 ++ [x],ks2 ++ [[101]],h21,hg2.back hgs',((he17.trans he18).x hx20).then hc21 fun k hk e => ?_,T21,⟨hc21.at k11.1 fun e => e.elim no11.2 (by omega),k11.2.up hc21.size⟩,hpf,?_,?_,by simp [hks2]⟩
           · rcases e with e | e
             · have := T17.rK.new k e; omega
             · omega
           · show Syn.phi s' + _ + 1 ≤ _
             omega
           · simp only [List.length_append,List.length_cons,List.length_nil]
             split at hav2 <;> omega
         · rw [hx'] at hpf
           rw [← hpf]
           rfl
       · have hge : ¬ I < E' := by omega
         rw [if_neg hge] at hpf
         refine ⟨s2,M2,va2,vk2,av2,ks2,h15,hg2,he15,T15,l11,hpf,by omega,?_,hks2⟩
         split at hav2 <;> omega
     rintro _ g5 w22 ⟨s3,M3,va3,vk3,av3,ks3,h22,hg3,he22,T22,l11,hpf3,hp3,hav3,hks3⟩
     have T23 := T22.ext (ext_drew w22)
     have l11 := l11.drew
     have h23 := h22.drew
     have hw22 := he22.chg.size
     refine T23.l8.ld rfl ?_
     refine l11.ld rfl ?_
     rw [sls_str,bd_none,bd_some]
     refine ⟨by omega,by omega,?_⟩
     rw [List.take_length,Int.toNat_natCast]
     refine T23.l9.ld rfl ?_
     refine l11.ld rfl ?_
     rw [bin_add,wrap_id (by omega) (by omega)]
     obtain ⟨q1,q2,q3,q4,q5⟩ := T23.lt
     obtain ⟨m1,m2,m3,m4,m5,m6⟩ := T23.ne
     refine T23.l8.st rfl (by simp) fun w24 l8 hc24 hz24 => ?_
     have h24 := h23.one hc24 l8.2
     have l9 := T23.l9.one hc24 (Ne.symm m6)
     have l11 := l11.one hc24 (by omega)
     refine ⟨l11.ld rfl rfl,l9.ld rfl rfl,?_⟩
     refine l9.st rfl (by simp) fun w25 l9 hc25 hz25 => ?_
     have h25 := h24.one hc25 l9.2
     have l8 := l8.one hc25 m6
     simp only [List.set_cons_zero] at l8 l9
     have T25 : TL w0 w25 p f M3 vt B1 b2 b7 b8 b9 t.a (rest.drop E') (a + E') va3 vk3 av3 ks3 :=
       ⟨(T23.l2.one hc24 m2).one hc25 m3,(T23.l7.one hc24 m4).one hc25 m5,l8,l9,(T23.rA.one hc24 (T23.noA q3).1).one hc25 (T23.noA q4).1,(T23.rK.one hc24 (T23.noA q3).2).one hc25 (T23.noA q4).2,T23.dd,⟨q1,q2,q3,q4,by omega⟩,T23.ne⟩
     have zd : w22.drew.heap.size = w22.heap.size := rfl
     refine ⟨⟨rfl,s3,M3,rest.drop E',a + E',va3,vk3,av3,ks3,n,h25,hg3,((he22.x (ext_drew _)).one hc24 (by omega)).one hc25 (by omega),T25,hpf3,?_,i4,by omega,?_,?_,?_,hks3⟩,?_⟩
     · rw [List.length_drop]; omega
     · rw [List.length_drop]; omega
     · rw [List.length_drop]; exact hp3
     · rw [List.length_drop]; exact hav3
     · rw [T25.l8.strat,T6.l8.strat,List.length_drop]; omega
   · have hnil : rest = [] := by
       by_cases h : rest = []
       · exact h
       · exact absurd h hne
     subst hnil
     obtain ⟨n,rfl⟩ : ∃ m,n = m + 1 := ⟨n - 1,by omega⟩
     simp only [partsF,if_true] at hpf
     rw [← hpf] at hK ht
     refine T6.l2.ld rfl ?_
     refine ld_all T6.l7.1 rfl ?_
     have hub : ∀ k,k ∈ ub [i64 6,str [],va,vk,i64 t.a] ↔ va.ownBlock = some k ∨ vk.ownBlock = some k := fun k => by
       rw [show [i64 6,str [],va,vk,i64 t.a] = [i64 6,str []] ++ ([va] ++ ([vk] ++ [i64 t.a])) from rfl]
       simp only [ub_app,List.mem_append,ub_one]
       simp [ub,Value.ownBlock]
     have hnd : (ub [i64 6,str [],va,vk,i64 t.a]).Nodup := by
       rw [show [i64 6,str [],va,vk,i64 t.a] = [i64 6,str []] ++ ([va] ++ ([vk] ++ [i64 t.a])) from rfl]
       simp only [ub_app]
       rw [show ub [i64 6,str []] = [] from rfl,show ub [i64 t.a] = [] from rfl,List.nil_append,List.append_nil]
       exact List.nodup_append.2 ⟨ub_nodup1 _,ub_nodup1 _,fun x hx y hy e => by subst e; exact T6.dd x (ub_one.1 hx) (ub_one.1 hy)⟩
     refine put_p (e := ⟨6,[],av,ks,t.a⟩) h6 he6 ⟨va,vk,rfl,T6.rA.own,T6.rK.own⟩ (fun k hk => ((hub k).1 hk).elim (T6.rA.off k) (T6.rK.off k)) hnd (fun k hk => ?_) (by have := hg1.ex; omega) fun M' w7 h7 he7 _ => ?_
     · rcases (hub k).1 hk with e | e
       · have := T6.rA.new k e; omega
       · have := T6.rK.new k e; omega
     · exact hK _ _ rfl M' w7 h7 he7
end
end Go.Proofs.YtofhaneggcpdaaaGreatDoor
namespace Go.Proofs.YtofhaneggcpdaaaGreatDoor
open Go Go.Eng Go.RowKit Go.Syn Go.Lex
set_option maxRecDepth 100000
section
variable [HX]
structure ER (w0 w : World) (p f : Nat) (M : Lay) (vt : Value) (wb : Nat) (e : Ex) (va vk : Value) : Prop where
 rA : Ro w0 w p f M vt wb IntT 1 va e.args.length (ints e.args)
 rK : Ro w0 w p f M vt wb StT 1 vk e.keys.length (strs e.keys)
 dd : ∀ k,va.ownBlock = some k → vk.ownBlock ≠ some k
def exc (e : Ex) (va vk : Value) : List Value := [i64 e.k,str e.t,va,vk,i64 e.a]
section
variable {w0 w w' w1 : World} {p f b : Nat} {M M' M0 : Lay} {vt : Value} {s : PS} {top : List Nat} {N : Int} {K : Value → World → Prop} {e : Ex} {va vk : Value} {wbn : Nat} {wb : World} {dl : Nat}
theorem exc_one (h : ER w0 w p f M vt wbn e va vk) : (exc e va vk).all one1 = true := by
 obtain ⟨_,_,e1,_⟩ := h.rA.own.sl.shape
 obtain ⟨_,_,e2,_⟩ := h.rK.own.sl.shape
 subst e1 e2
 rfl
theorem ER.eff (h : ER w0 w p f M vt wbn e va vk) (he : Eff p f M M' w w') : ER w0 w' p f M' vt wbn e va vk := ⟨h.rA.eff he,h.rK.eff he,h.dd⟩
theorem ER.one (h : ER w0 w p f M vt wbn e va vk) (hc : Chg (One b) w w') (hA : va.ownBlock ≠ some b) (hK : vk.ownBlock ≠ some b) : ER w0 w' p f M vt wbn e va vk := ⟨h.rA.one hc hA,h.rK.one hc hK,h.dd⟩
theorem Ro.le {T : TypeId} {m n : Nat} {v : Value} {xs : List Value} {k : Nat} (h : Ro w0 w p f M vt wbn T m v n xs) (hk : k ≤ wbn) : Ro w0 w p f M vt k T m v n xs := ⟨h.own,h.off,fun j hj => Nat.le_trans hk (h.new j hj)⟩
theorem ER.le {k : Nat} (h : ER w0 w p f M vt wbn e va vk) (hk : k ≤ wbn) : ER w0 w p f M vt k e va vk := ⟨h.rA.le hk,h.rK.le hk,h.dd⟩
theorem ER.noK (hk : e.keys = []) (h : Ro w0 w p f M vt wbn IntT 1 va e.args.length (ints e.args)) : ER w0 w p f M vt wbn e va (.slice none 0 0) := ⟨h,by rw [hk]; exact Ro.nil _ _,fun k _ => by simp [Value.ownBlock]⟩
theorem ER.leaf (h1 : e.args = []) (h2 : e.keys = []) : ER w0 w p f M vt wbn e (.slice none 0 0) (.slice none 0 0) := ⟨by rw [h1]; exact Ro.nil _ _,by rw [h2]; exact Ro.nil _ _,fun k hk => by simp [Value.ownBlock] at hk⟩
theorem ub_exc (e : Ex) (va vk : Value) : ub (exc e va vk) = ub [va] ++ ub [vk] := by
 rw [show exc e va vk = [i64 e.k,str e.t] ++ ([va] ++ ([vk] ++ [i64 e.a])) from rfl]
 simp only [ub_app]
 rw [show ub [i64 e.k,str e.t] = [] from rfl,show ub [i64 e.a] = [] from rfl,List.nil_append,List.append_nil]
theorem put_e (h : PR w0 w p f M vt s top) (he : Eff p f M0 M wb w) (hE : ER w0 w p f M vt wb.heap.size e va vk) (hg : Gd N s dl)
   (hK : ∀ M' w',PR w0 w' p f M' vt { s with ex := s.ex ++ [e] } top → Eff p f M0 M' wb w' → (∀ b T cs,Loc w0 w p f M vt b T cs → va.ownBlock ≠ some b → vk.ownBlock ≠ some b → Loc w0 w' p f M' vt b T cs) → K (i64 (s.ex.length : Nat)) w') :
   callF Tryz.prog 107 [.pointer (some ⟨p,0,none⟩),.agg (exc e va vk).toArray] w K := by
 have hub : ∀ k,k ∈ ub (exc e va vk) ↔ va.ownBlock = some k ∨ vk.ownBlock = some k := fun k => by rw [ub_exc,List.mem_append,ub_one,ub_one]
 have hnd : (ub (exc e va vk)).Nodup := by
   rw [ub_exc]
   exact List.nodup_append.2 ⟨ub_nodup1 _,ub_nodup1 _,fun x hx y hy e => by subst e; exact hE.dd x (ub_one.1 hx) (ub_one.1 hy)⟩
 refine put_p (e := e) h he ⟨va,vk,rfl,hE.rA.own,hE.rK.own⟩ (fun k hk => ((hub k).1 hk).elim (hE.rA.off k) (hE.rK.off k)) hnd (fun k hk => ((hub k).1 hk).elim (hE.rA.new k) (hE.rK.new k)) (by have := hg.ex; omega) fun M' w' h' he' hl => ?_
 exact hK M' w' h' he' fun b T cs hL h1 h2 => hl b T cs hL fun hm => ((hub b).1 hm).elim h1 h2
theorem args_p {E : PS → R Nat} {x : Str} (hE : EC w0 f 81 E dl) (hF : Fine E) (h : PR w0 w p f M vt s top) (hg : Gd N s dl)
   (hK : ∀ l s',argsR E x s = .ok l s' → ∀ M' v w',PR w0 w' p f M' vt s' top → Gd N s' dl → Eff p f M M' w w' → Ro w0 w' p f M' vt w.heap.size IntT 1 v l.length (ints l) → K v w') (ht : ∀ c a',argsR E x s = .err c a' → Thr w0 f c a') :
   callF Tryz.prog 153 [.pointer (some ⟨p,0,none⟩),str x] w K := by
 refine W153_ok ?_
 unfold W153
 unfold argsR at hK ht
 generalize hR : argsF E x (s.toks.length + 1) s [] = R0 at hK ht
 have hN := hg.hN
 refine LoopW.go (fun st w' => ∃ v s1 M1 out n,st = [v] ∧ PR w0 w' p f M1 vt s1 top ∧ Gd N s1 dl ∧ Eff p f M M1 w w' ∧ Ro w0 w' p f M1 vt w.heap.size IntT 1 v out.length (ints out) ∧ argsF E x n s1 out = R0 ∧ s1.toks.length < n + s1.i ∧ out.length ≤ s1.i ∧ s1.toks.length = s.toks.length) (fun _ w' => s.toks.length - psAt w' p)
   ⟨_,s,M,[],s.toks.length + 1,rfl,h,hg,Eff.refl _ _ _ _,Ro.nil _ _,hR,by omega,by simp,rfl⟩ ?_
 rintro st g w2 ⟨v,s1,M1,out,n,rfl,h2,hg2,he2,hr2,hF2,hn,ho,htl⟩
 have hlt2 := hg2.ws.lt
 obtain ⟨n,rfl⟩ : ∃ m,n = m + 1 := ⟨n - 1,by omega⟩
 simp only [List.getD_cons_zero]
 refine take_p h2 hg2.ws hN hg2.l fun w3 h3 he3 => ?_
 simp only [argsF] at hF2
 have hg3 := hg2.take x
 have tg := take_go hg2.ws x
 have hr3 := hr2.eff he3
 have he23 := he2.trans he3
 have hw3 := he23.chg.size
 -- one more
 have more : ∀ {s4 : PS} {w4 : World},PR w0 w4 p f M1 vt s4 top → Gd N s4 dl → Eff p f M M1 w w4 → Ro w0 w4 p f M1 vt w.heap.size IntT 1 v out.length (ints out) → ((E s4).bind fun x' s' => argsF E x n s' (out ++ [x'])) = R0 → s1.i ≤ s4.i → s4.toks.length = s.toks.length →
     callF Tryz.prog 81 [.pointer (some ⟨p,0,none⟩)] w4 fun t20 w8 => bslW IntT 1 [(.int .i64 0)] [(0,1,t20)] w8 fun t21 w9 => semE Tryz.prog (Builtin.append_ #[26,26] 26 #[v,t21]) w9 fun t22 w10 =>
       (∃ v s1 M1 out n,[t22] = [v] ∧ PR w0 w10 p f M1 vt s1 top ∧ Gd N s1 dl ∧ Eff p f M M1 w w10 ∧ Ro w0 w10 p f M1 vt w.heap.size IntT 1 v out.length (ints out) ∧ argsF E x n s1 out = R0 ∧ s1.toks.length < n + s1.i ∧ out.length ≤ s1.i ∧ s1.toks.length = s.toks.length) ∧ s.toks.length - psAt w10 p < s.toks.length - psAt w2 p := fun {s4 w4} h4 hg4 he4 hr4 hF4 hi4 ht4 => by
   refine hE w4 p M1 vt s4 top N _ h4 hg4 (fun y s5 e5 M5 w5 h5 he5 => ?_) fun c a' e5 => ht c a' (by rw [← hF4,e5]; rfl)
   rw [e5] at hF4
   simp only [R.bind] at hF4
   obtain ⟨hg5,hi5⟩ := hg4.e hF e5
   have htk : s5.toks.length = s4.toks.length := by
     have := hF.ok N s4 hg4.ws
     rw [e5] at this
     exact congrArg List.length this.1.1.toks
   refine bsl_int1 fun r w6 hr hz6 hrb hx6 => ?_
   have h6 := h5.ext hx6
   have hr6 := (hr4.eff he5).ext hx6
   have he46 := (he4.trans he5).x hx6
   refine Ro.app el_int hr6 h6 hrb rfl (fun u hu => by simp only [List.mem_singleton] at hu; subst hu; rfl) (by have := hg4.few; have := hg4.ws.lt; omega) (by decide) he46.chg.size fun v' w7 hR7 hc7 hv7 h7 => ?_
   have hlt5 := hg5.ws.lt
   refine ⟨⟨v',s5,M5,out ++ [y],n,rfl,h7,hg5,he46.then hc7 fun k hk e => by have := hr6.new k e; omega,?_,hF4,by omega,by rw [List.length_append,List.length_cons,List.length_nil]; omega,by omega⟩,?_⟩
   · rw [List.length_append,List.length_cons,List.length_nil,ints_app]
     exact hR7
   · rw [h7.at_,h2.at_]; omega
 have ht3 : (takeS s1 x).2.toks.length = s.toks.length := by rw [tg.1.toks]; exact htl
 rw [un_not,condW_b]
 refine ⟨fun hnt => ?_,fun hyt => ?_⟩
 · have hnt : (takeS s1 x).1 = false := by simpa using hnt
   rw [if_neg (by rw [hnt]; decide)] at hF2
   by_cases hout : out = []
   · rw [if_pos hout] at hF2
     refine JoinW.cut (fun _ w' => w' = w3) ?_ ?_
     · rw [lenl_at hr3.own.sl,bin_gtr,condW_dec]
       exact ⟨fun e => by rw [hout] at e; simp at e,fun _ => rfl⟩
     rintro _ g2 w4 rfl
     exact more h3 hg3 he23 hr3 hF2 tg.1.le ht3
   · rw [if_neg hout] at hF2
     have hpos : 0 < out.length := List.length_pos_iff.2 hout
     refine JoinW.cut (fun _ w' => ∃ s4,PR w0 w' p f M1 vt s4 top ∧ Gd N s4 dl ∧ Eff p f M M1 w w' ∧ Ro w0 w' p f M1 vt w.heap.size IntT 1 v out.length (ints out) ∧ ((E s4).bind fun x' s' => argsF E x n s' (out ++ [x'])) = R0 ∧ s1.i ≤ s4.i ∧ s4.toks.length = s.toks.length) ?_ ?_
     · rw [lenl_at hr3.own.sl,bin_gtr,condW_dec]
       refine ⟨fun _ => ?_,fun e => absurd (by omega) e⟩
       refine want_p h3 hg3.ws hN hg3.l (fun s4 e4 w4 h4 he4 => ?_) fun c a' e4 => ht c a' (by rw [← hF2,e4]; rfl)
       rw [e4] at hF2
       simp only [R.bind] at hF2
       obtain ⟨hg4,hi4,_⟩ := hg3.want e4
       have hto4 := want_sat hg3.ws [44]
       rw [e4] at hto4
       refine take_p h4 hg4.ws hN hg4.l fun w5 h5 he5 => ?_
       have hr5 := (hr3.eff he4).eff he5
       have he25 := (he23.trans he4).trans he5
       have tg5 := take_go hg4.ws x
       rw [condW_b]
       refine ⟨fun hy => ?_,fun hy => ?_⟩
       · rw [if_pos hy] at hF2
         exact hK out _ hF2.symm M1 v w5 h5 (hg4.take x) he25 hr5
       · rw [if_neg (by rw [hy]; decide)] at hF2
         exact ⟨_,h5,hg4.take x,he25,hr5,hF2,by have := tg.1.le; have := tg5.1.le; omega,by rw [tg5.1.toks,hto4.1.1.toks]; exact ht3⟩
     rintro _ g2 w4 ⟨s4,h4,hg4,he4,hr4,hF4,hi4,ht4⟩
     exact more h4 hg4 he4 hr4 hF4 hi4 ht4
 · have hyt : (takeS s1 x).1 = true := by simpa using hyt
   rw [if_pos hyt] at hF2
   exact hK out _ hF2.symm M1 v w3 h3 hg3 he23 hr3
end
end
end Go.Proofs.YtofhaneggcpdaaaGreatDoor
namespace Go.Proofs.YtofhaneggcpdaaaGreatDoor
open Go Go.Eng Go.RowKit Go.Syn Go.Lex
set_option maxRecDepth 100000
section
variable [HX]
variable {w0 w w' w1 : World} {p f b : Nat} {M M' M0 : Lay} {vt : Value} {s : PS} {top : List Nat} {N : Int} {K : Value → World → Prop} {e : Ex} {va vk : Value} {wbn : Nat} {wb : World} {dl : Nat}
theorem ret_ex {cs : List Value} (hp : PR w0 w p f M vt s top) (hL : Loc w0 w p f M vt b ExT cs) (hc : cs.length = 5) (hE : ER w0 w p f M vt wbn e va vk) (hA : va.ownBlock ≠ some b) (hK' : vk.ownBlock ≠ some b)
   (hK : ∀ w',PR w0 w' p f M vt s top → Chg (One b) w w' → ER w0 w' p f M vt wbn e va vk → K (.agg (exc e va vk).toArray) w') :
   stW 5 (.pointer (some ⟨b,0,none⟩)) (.agg (exc e va vk).toArray) w fun w5 => ldW true 5 (.pointer (some ⟨b,0,none⟩)) w5 fun r6 => K r6 w5 :=
 ret_agg hL.1 rfl hc (exc_one hE) fun w' hcw => hK w' (hp.one hcw hL.2) hcw (hE.one hcw hA hK')
theorem app_arg {x r : Nat} {ty : TypeId} {k a : Int} {l : Str} {av : List Nat} {KW : World → Prop} (hL : Loc w0 w p f M vt b ExT [i64 k,str l,va,vk,i64 a]) (hR : Ro w0 w p f M vt wbn IntT 1 va av.length (ints av)) (hp : PR w0 w p f M vt s top) (hr : w.heap[r]? = some (.cells [i64 (x : Nat)].toArray IntT (0,0)))
   (hn : av.length ≤ 1000000) (hB : b < wbn) (hw : wbn ≤ w.heap.size)
   (hK : ∀ va' w',Loc w0 w' p f M vt b ExT [i64 k,str l,va',vk,i64 a] → Ro w0 w' p f M vt wbn IntT 1 va' (av ++ [x]).length (ints (av ++ [x])) → PR w0 w' p f M vt s top → Chg (fun k => va.ownBlock = some k ∨ k = b) w w' → (∀ k,va'.ownBlock = some k → va.ownBlock = some k ∨ w.heap.size ≤ k) → KW w') :
   semE Tryz.prog (Builtin.append_ #[26,26] ty #[va,.slice (some ⟨r,0,none⟩) 1 1]) w fun t62 w36 => fldW 2 (.pointer (some ⟨b,0,none⟩)) fun t63 => stW 1 t63 t62 w36 KW := by
 refine Ro.app el_int hR hp hr rfl (fun u hu => by simp only [List.mem_singleton] at hu; subst hu; rfl) hn (by decide) hw fun v' w2 hR2 hc hv hp2 => ?_
 have e1 : (av ++ [x]).length = av.length + 1 := by simp
 rw [← e1,show ints av ++ [i64 (x : Nat)] = ints (av ++ [x]) from by simp [ints]] at hR2
 rw [fld_ptr,add_mk,Nat.zero_add]
 obtain ⟨vp,vc,ev,_⟩ := hR2.own.sl.shape
 refine (hL.row hc fun e => by have := hR.new b e; omega).st (by rw [ev]; rfl) (by simp) fun w3 L3 hc3 hz3 => ?_
 exact hK v' w3 L3 (hR2.one hc3 fun e => by have := hR2.new b e; omega) (hp2.one hc3 L3.2) ((hc.mono fun k _ e => .inl e).trans (hc3.mono fun k _ e => .inr e)) hv
theorem list_p {E : PS → R Nat} {t : Tok} (hE : EC w0 f 81 E dl) (hF : Fine E) (h : PR w0 w p f M vt s top) (hg : Gd N s dl) (hc0 : (cur s).k ≠ 0) (hnow : nowS s = s)
   (hK : ∀ e s',listR E s t.a = .ok e s' → ∀ M' va vk w',PR w0 w' p f M' vt s' top → Gd N s' dl → Eff p f M M' w w' → ER w0 w' p f M' vt w.heap.size e va vk → K (.agg (exc e va vk).toArray) w') (ht : ∀ c a',listR E s t.a = .err c a' → Thr w0 f c a') :
   callF Tryz.prog 156 [.pointer (some ⟨p,0,none⟩),.agg (tokc t).toArray] w K := by
 refine W156_ok ?_
 unfold W156
 have hN := hg.hN
 have hg1 : Gd N (step1 s) dl := by have := hg.step hc0; rw [hnow] at this; exact this
 refine box_new (z := tokc t) fun b3 w1 hb3 hz1 hbb1 hx1 => ?_
 have h1 := h.ext hx1
 have L3 := h.loc hz1 hb3 hbb1
 refine alloc_new fun b4 w2 hb4 hz2 hbb2 hx2 => ?_
 have h2 := h1.ext hx2
 have L4 := h1.loc hz2 hb4 hbb2
 have L3 := L3.ext hx2
 have he2 : Eff p f M M w w2 := (Eff.ext hx1).x hx2
 refine h2.go (wsi hg.ws hg.l) fun w3 h3 he3 hz3 => ?_
 have L3 := L3.eff he3
 have L4 := L4.eff he3
 have he3 := he2.trans he3
 refine now_p h3 hg1.ws hN hg1.l fun w4 h4 he4 => ?_
 have L3 := L3.eff he4
 have L4 := L4.eff he4
 have he4 := he3.trans he4
 have lt3 := L3.lt
 have lt4 := L4.lt
 refine alloc_new fun b5 w5 hb5 hz5 hbb5 hx5 => ?_
 have h5 := h4.ext hx5
 have L5 := h4.loc hz5 hb5 hbb5
 have L3 := L3.ext hx5
 have L4 := L4.ext hx5
 have he5 := he4.x hx5
 have hw4 := he4.chg.size
 refine st_agg_at (l := tokc (cur (step1 s))) L5.1 rfl rfl rfl fun w6 hz6 hb6 hc6 => ?_
 have L5 : Loc w0 w6 p f M vt b5 TkT (tokc (cur (step1 s))) := ⟨hb6,L5.2.up (by omega)⟩
 have h6 := h5.one hc6 L5.2
 have L3 := L3.one hc6 (by omega)
 have L4 := L4.one hc6 (by omega)
 have he6 := he5.one hc6 (by omega)
 have hw6 := he6.chg.size
 have hgn := hg1.now
 refine L5.ldf rfl ?_
 rw [bin_neq]
 simp only [isB_f]
 refine GdW.look (decide ((cur (step1 s)).t ≠ kFor)) (fun _ J hJ => ?_) fun g => ?_
 · refine L5.ldf rfl ?_
   rw [bin_sne]
   exact hJ
 simp only [List.getD_cons_zero]
 rw [pick_gd_or,condW_b]
 unfold listR at hK ht
 simp only at hK ht
 refine ⟨fun hcc => ?_,fun hcc => ?_⟩
 · have hc : (cur (step1 s)).k ≠ 1 ∨ (cur (step1 s)).t ≠ kFor := by simpa using hcc
   rw [if_pos hc] at hK ht
   have L3 := L3.drew
   rw [fld_ptr,add_mk,Nat.zero_add]
   refine L3.ld rfl ?_
   refine args_p hE hF h6.drew hgn (fun l s' el M' v w7 h7 hg7 he7 hr7 => ?_) fun c a' el => ht c a' (by rw [el]; rfl)
   rw [el] at hK
   simp only [R.bind] at hK
   have L3 := L3.eff he7
   refine ⟨L3.ld rfl rfl,?_⟩
   obtain ⟨q,cap,ev,_⟩ := hr7.own.sl.shape
   subst ev
   simp only [put_int,put_slice,put_nil,List.length_cons,List.length_nil,List.set_cons_zero,List.set_cons_succ,Nat.reduceAdd,Nat.reduceLT,true_and,Nat.zero_lt_succ]
   have zd : w6.drew.heap.size = w6.heap.size := rfl
   have hER : ER w0 w7 p f M' vt w6.heap.size ⟨7,[],l,[],t.a⟩ (.slice q l.length cap) (.slice none 0 0) := ER.noK rfl hr7
   refine ret_ex (e := ⟨7,[],l,[],t.a⟩) h7 (L4.drew.eff he7) rfl hER (fun e => by have := hr7.new _ e; omega) (by simp [Value.ownBlock]) fun w8 h8 hc8 hE8 => ?_
   exact hK _ _ rfl M' _ _ w8 h8 hg7 (((he6.x (ext_drew w6)).trans he7).one hc8 (by omega)) (hE8.le (by omega))
 · have hc : ¬ ((cur (step1 s)).k ≠ 1 ∨ (cur (step1 s)).t ≠ kFor) := by simpa using hcc
   rw [if_neg hc] at hK ht
   have hk1 : (cur (step1 s)).k ≠ 0 := fun e => hc (.inl (by rw [e]; decide))
   have hgs := hg1.step hk1
   refine h6.go (wsi hgn.ws hgn.l) fun w7 h7 he7 hz7 => ?_
   have L3 := L3.eff he7
   have L4 := L4.eff he7
   have he7 := he6.trans he7
   -- the name
   refine JoinW.cut (fun st w' => ∃ b6 u s2,st = [.pointer (some ⟨b6,0,none⟩)] ∧ kindR (step1 (nowS (step1 s))) 1 = .ok u s2 ∧ PR w0 w' p f M vt s2 top ∧ Gd N s2 dl ∧ Eff p f M M w w' ∧ Loc w0 w' p f M vt b6 ExT [i64 29,str u.t,.slice none 0 0,.slice none 0 0,i64 t.a] ∧ Loc w0 w' p f M vt b4 ExT [.int .i64 0,.string (ofL []),.slice none 0 0,.slice none 0 0,.int .i64 0] ∧ b4 < b6 ∧ w.heap.size ≤ b6) ?_ ?_
   · have L3 := L3.drew
     have L4 := L4.drew
     have h7 := h7.drew
     have he7 := he7.x (ext_drew w7)
     have zd : w7.drew.heap.size = w7.heap.size := rfl
     have ld3 : ∀ {w' : World},Loc w0 w' p f M vt b3 TkT (tokc t) → ldW false 1 (.pointer (some ⟨b3,2,none⟩)) w' fun x => x = i64 t.a := fun L => L.ld rfl rfl
     rw [fld_ptr,add_mk,Nat.zero_add]
     refine L3.ld rfl ?_
     refine ⟨?_,?_⟩
     · refine kind_p h7 hgs.ws hN hgs.l (fun u s2 eu w8 h8 he8 => ?_) fun c a' eu => ht c a' (by rw [eu]; rfl)
       have L3 := L3.eff he8
       have L4 := L4.eff he8
       have he8 := he7.trans he8
       refine ⟨ld3 L3,str u.t,rfl,?_⟩
       simp only [put_int,put_str,put_nil,List.length_cons,List.length_nil,List.set_cons_zero,List.set_cons_succ,Nat.reduceAdd,Nat.reduceLT,true_and,Nat.zero_lt_succ]
       refine alloc_new fun b6 w9 hb6' hz9 hbb9 hx9 => ?_
       have L6 := h8.loc hz9 hb6' hbb9
       refine ⟨ld3 (L3.ext hx9),?_⟩
       refine st_agg_at (l := [i64 29,str u.t,.slice none 0 0,.slice none 0 0,i64 t.a]) L6.1 rfl rfl rfl fun w10 hz10 hbb10 hc10 => ?_
       have lt4' := L4.lt
       have hw8 := he8.chg.size
       exact ⟨b6,u,s2,rfl,eu,(h8.ext hx9).one hc10 L6.2,(hgs.kind (by decide) eu).1,(he8.x hx9).one hc10 (by omega),⟨hbb10,L6.2.up (by omega)⟩,(L4.ext hx9).one hc10 (by omega),by omega,by omega⟩
     · refine alloc_new fun b6 w9 hb6' hz9 hbb9 hx9 => ?_
       have L6 := h7.loc hz9 hb6' hbb9
       have L3 := L3.ext hx9
       have lt4' := L4.lt
       have hw8 := he7.chg.size
       refine ⟨ld3 L3,?_⟩
       refine kind_p (h7.ext hx9) hgs.ws hN hgs.l (fun u s2 eu w8 h8 he8 => ?_) fun c a' eu => ht c a' (by rw [eu]; rfl)
       have L3 := L3.eff he8
       have L4 := (L4.ext hx9).eff he8
       have L6 := L6.eff he8
       have he8 := (he7.x hx9).trans he8
       refine ⟨ld3 L3,str u.t,rfl,?_⟩
       simp only [put_int,put_str,put_nil,List.length_cons,List.length_nil,List.set_cons_zero,List.set_cons_succ,Nat.reduceAdd,Nat.reduceLT,true_and,Nat.zero_lt_succ]
       refine st_agg_at (l := [i64 29,str u.t,.slice none 0 0,.slice none 0 0,i64 t.a]) L6.1 rfl rfl rfl fun w10 hz10 hbb10 hc10 => ?_
       exact ⟨b6,u,s2,rfl,eu,h8.one hc10 L6.2,(hgs.kind (by decide) eu).1,he8.one hc10 (by omega),⟨hbb10,L6.2.up (by omega)⟩,L4.one hc10 (by omega),by omega,by omega⟩
   rintro st g2 w8 ⟨b6,u,s2,rfl,eu,h8,hg8,he8,L6,L4,hb46,hwb6⟩
   simp only [List.getD_cons_zero]
   rw [eu] at hK ht
   simp only [R.bind] at hK ht
   -- in
   refine JoinW.cut (fun _ w' => ∃ v s3,kindR s2 1 = .ok v s3 ∧ v.t = kIn ∧ PR w0 w' p f M vt s3 top ∧ Gd N s3 dl ∧ Eff p f M M w8 w') ?_ ?_
   · refine kind_p h8 hg8.ws hN hg8.l (fun v s3 ev w9 h9 he9 => ?_) fun c a' ev => ht c a' (by rw [ev])
     refine alloc_new fun b7 w10 hb7 hz10 hbb10 hx10 => ?_
     have h10 := h9.ext hx10
     have L7 := h9.loc hz10 hb7 hbb10
     refine st_agg_at (l := tokc v) L7.1 rfl rfl rfl fun w11 hz11 hbb11 hc11 => ?_
     have L7 : Loc w0 w11 p f M vt b7 TkT (tokc v) := ⟨hbb11,L7.2.up (by omega)⟩
     have h11 := h10.one hc11 L7.2
     have z9 := he9.chg.size
     refine L7.ldf rfl ?_
     rw [bin_sne,condW_dec]
     refine ⟨fun hne => ?_,fun hne => ⟨v,s3,ev,?_,h11,(hg8.kind (by decide) ev).1,(he9.x hx10).one hc11 (by omega)⟩⟩
     · refine L7.ldf rfl ?_
       exact fail_p h11 (ht _ _ (by rw [ev]; simp only; exact if_pos hne))
     · by_cases h : v.t = [105,110]
       · exact h
       · exact absurd h hne
   rintro _ g3 w9 ⟨v,s3,ev,hvt,h9,hg9,he9⟩
   rw [ev] at hK ht
   simp only [if_neg (show ¬ v.t ≠ kIn from fun h => h hvt)] at hK ht
   have L6 := (L6.eff he9).drew
   have L4 := (L4.eff he9).drew
   have h9 := h9.drew
   have he9 := (he8.trans he9).x (ext_drew w9)
   have zd : w9.drew.heap.size = w9.heap.size := rfl
   have hw9 := he9.chg.size
   have lt6 := L6.lt
   rw [fld_ptr,add_mk,Nat.zero_add]
   refine L6.ld rfl ?_
   -- the list
   refine hE w9.drew p M vt s3 top N _ h9 hg9 (fun x s4 ex M4 w10 h10 he10 => ?_) fun c a' ex => ht c a' (by rw [ex])
   rw [ex] at hK ht
   simp only at hK ht
   obtain ⟨hg10,_⟩ := hg9.e hF ex
   have L6 := L6.eff he10
   have L4 := L4.eff he10
   have he10 := he9.trans he10
   refine ⟨L6.ld rfl rfl,?_⟩
   refine bsl_int1 fun r w11 hr hz11 hrb hx11 => ?_
   have L6 := L6.ext hx11
   have L4 := L4.ext hx11
   have h11 := h10.ext hx11
   have he11 := he10.x hx11
   have hw11 := he11.chg.size
   have lt6 := L6.lt
   have lt4 := L4.lt
   refine ⟨L6.ld rfl rfl,?_⟩
   refine app_arg (wbn := w11.heap.size) (av := []) L6 (Ro.nil _ _) h11 hrb (by simp) lt6 (Nat.le_refl _) fun va1 w12 L6 hR12 h12 hc12 hv12 => ?_
   have he12 := he11.then hc12 fun k hk e => by
     rcases e with e | e
     · simp [Value.ownBlock] at e
     · omega
   have hw12 := he12.chg.size
   have L4 : Loc w0 w12 p f M4 vt b4 ExT [.int .i64 0,.string (ofL []),.slice none 0 0,.slice none 0 0,.int .i64 0] := ⟨hc12.at L4.1 fun e => e.elim (by simp [Value.ownBlock]) (by omega),L4.2.up hc12.size⟩
   have hz12 := hc12.size
   -- :
   refine want_p h12 hg10.ws hN hg10.l (fun s5 e5 w13 h13 he13 => ?_) fun c a' e5 => ht c a' (by rw [e5])
   rw [e5] at hK ht
   simp only at hK ht
   obtain ⟨hg13,_⟩ := hg10.want e5
   have L6 := (L6.eff he13).drew
   have L4 := (L4.eff he13).drew
   have hR13 := (hR12.eff he13).ext (ext_drew w13)
   have h13 := h13.drew
   have zd13 : w13.drew.heap.size = w13.heap.size := rfl
   have hz13 := he13.chg.size
   have he13 := (he12.trans he13).x (ext_drew w13)
   rw [fld_ptr,add_mk,Nat.zero_add]
   refine L6.ld rfl ?_
   refine hE w13.drew p M4 vt s5 top N _ h13 hg13 (fun y s6 ey M6 w14 h14 he14 => ?_) fun c a' ey => ht c a' (by rw [ey])
   rw [ey] at hK ht
   simp only at hK ht
   obtain ⟨hg14,_⟩ := hg13.e hF ey
   have L6 := L6.eff he14
   have L4 := L4.eff he14
   have hR14 := hR13.eff he14
   have hz14 := he14.chg.size
   have he14 := he13.trans he14
   refine ⟨L6.ld rfl rfl,?_⟩
   refine bsl_int1 fun r2 w15 hr2 hz15 hrb2 hx15 => ?_
   have L6 := L6.ext hx15
   have L4 := L4.ext hx15
   have h15 := h14.ext hx15
   have he15 := he14.x hx15
   refine ⟨L6.ld rfl rfl,?_⟩
   refine app_arg (wbn := w11.heap.size) (av := [x]) L6 (hR14.ext hx15) h15 hrb2 (by simp) (by omega) (by omega) fun va2 w16 L6 hR16 h16 hc16 hv16 => ?_
   have he16 := he15.then hc16 fun k hk e => by
     rcases e with e | e
     · have := hR14.new k e; omega
     · omega
   have L4 : Loc w0 w16 p f M6 vt b4 ExT [.int .i64 0,.string (ofL []),.slice none 0 0,.slice none 0 0,.int .i64 0] := ⟨hc16.at L4.1 fun e => e.elim (fun e => by have := hR14.new _ e; omega) (by omega),L4.2.up hc16.size⟩
   -- ]
   refine want_p h16 hg14.ws hN hg14.l (fun s7 e7 w17 h17 he17 => ?_) fun c a' e7 => ht c a' (by rw [e7])
   rw [e7] at hK
   simp only at hK
   obtain ⟨hg17,_⟩ := hg14.want e7
   have L6 := L6.eff he17
   have L4 := L4.eff he17
   have hR17 := hR16.eff he17
   have he17 := he16.trans he17
   refine ld_all L6.1 rfl ?_
   refine ret_ex (e := ⟨29,u.t,[x,y],[],t.a⟩) h17 L4 rfl (ER.noK rfl hR17) (fun e => by have := hR17.new _ e; omega) (by simp [Value.ownBlock]) fun w18 h18 hc18 hE18 => ?_
   exact hK _ _ rfl M6 _ _ w18 h18 hg17 (he17.one hc18 (by omega)) (hE18.le (by omega))
end
end Go.Proofs.YtofhaneggcpdaaaGreatDoor
namespace Go.Proofs.YtofhaneggcpdaaaGreatDoor
open Go Go.Eng Go.RowKit Go.Syn Go.Lex
set_option maxRecDepth 100000
theorem Gd.tx {N : Int} {s : PS} {dl : Nat} (h : Gd N s dl) (hk : (cur s).k = 3) : TxOk (cur s).t ∧ (cur s).t.length ≤ 100000 := by
 have hn := h.now
 have hm := List.mem_of_getElem? (tok_some hn.ws)
 have := hn.ts _ hm (show (tokI (nowS s)).k = 3 from hk)
 exact this
section
variable [HX]
variable {w0 w w' w1 : World} {p f b : Nat} {M M' M0 : Lay} {vt : Value} {s : PS} {top : List Nat} {N : Int} {K : Value → World → Prop} {e : Ex} {va vk : Value} {wbn : Nat} {wb : World} {dl : Nat}
theorem object_p {E : PS → R Nat} {t : Tok} (hE : EC w0 f 81 E dl) (hF : Fine E) (h : PR w0 w p f M vt s top) (hg : Gd N s dl) (hc0 : (cur s).k ≠ 0) (hnow : nowS s = s)
   (hK : ∀ e s',objR E s t.a = .ok e s' → ∀ M' va vk w',PR w0 w' p f M' vt s' top → Gd N s' dl → Eff p f M M' w w' → ER w0 w' p f M' vt w.heap.size e va vk → K (.agg (exc e va vk).toArray) w') (ht : ∀ c a',objR E s t.a = .err c a' → Thr w0 f c a') :
   callF Tryz.prog 158 [.pointer (some ⟨p,0,none⟩),.agg (tokc t).toArray] w K := by
 refine W158_ok ?_
 unfold W158
 have hN := hg.hN
 have hg1 : Gd N (step1 s) dl := by have := hg.step hc0; rw [hnow] at this; exact this
 refine box_new (z := tokc t) fun b3 w1 hb3 hz1 hbb1 hx1 => ?_
 have h1 := h.ext hx1
 have L3 := h.loc hz1 hb3 hbb1
 refine alloc_new fun b4 w2 hb4 hz2 hbb2 hx2 => ?_
 have h2 := h1.ext hx2
 have L4 := h1.loc hz2 hb4 hbb2
 have L3 := L3.ext hx2
 have he2 : Eff p f M M w w2 := (Eff.ext hx1).x hx2
 refine h2.go (wsi hg.ws hg.l) fun w3 h3 he3 hz3 => ?_
 have L3 := L3.eff he3
 have L4 := L4.eff he3
 have he3 := he2.trans he3
 refine L3.ldf rfl ?_
 simp only [put_int,put_str,put_nil,List.length_cons,List.length_nil,List.set_cons_zero,List.set_cons_succ,Nat.reduceAdd,Nat.reduceLT,true_and,Nat.zero_lt_succ]
 have lt4 := L4.lt
 refine alloc_new fun b5 w4 hb5 hz4 hbb4 hx4 => ?_
 have L5 := h3.loc hz4 hb5 hbb4
 have h4 := h3.ext hx4
 have L4 := L4.ext hx4
 refine st_agg_at (l := [i64 8,str [],.slice none 0 0,.slice none 0 0,i64 t.a]) L5.1 rfl rfl rfl fun w5 hz5 hbb5 hc5 => ?_
 have L5 : Loc w0 w5 p f M vt b5 ExT [i64 8,str [],.slice none 0 0,.slice none 0 0,i64 t.a] := ⟨hbb5,L5.2.up (by omega)⟩
 have h5 := h4.one hc5 L5.2
 have L4 := L4.one hc5 (by omega)
 have he5 : Eff p f M M w w5 := (he3.x hx4).one hc5 (by have := he3.chg.size; omega)
 refine lines_p h5 hg1.ws hN hg1.l fun w6 h6 he6 => ?_
 have L4 := L4.eff he6
 have L5 := L5.eff he6
 have he6 := he5.trans he6
 have hg6 := hg1.lines
 unfold objR at hK ht
 generalize hR : objF E t.a (s.toks.length + 1) (linesS (step1 s)) [] [] = R0 at hK ht
 have hw6 := he6.chg.size
 obtain ⟨B1,hB1⟩ : ∃ B1,B1 = w6.heap.size := ⟨_,rfl⟩
 have lt5 := L5.lt
 have lt4 := L4.lt
 have hw3 := he3.chg.size
 have htl0 : (linesS (step1 s)).toks.length = s.toks.length := congrArg List.length ((lines_go hg1.ws).1.toks)
 refine LoopW.go (fun st w' => st = [] ∧ ∃ s1 M1 av ks va vk n,PR w0 w' p f M1 vt s1 top ∧ Gd N s1 dl ∧ Eff p f M M1 w w' ∧ Loc w0 w' p f M1 vt b5 ExT [i64 8,str [],va,vk,i64 t.a] ∧ Loc w0 w' p f M1 vt b4 ExT [.int .i64 0,.string (ofL []),.slice none 0 0,.slice none 0 0,.int .i64 0] ∧
     Ro w0 w' p f M1 vt B1 IntT 1 va av.length (ints av) ∧ Ro w0 w' p f M1 vt B1 StT 1 vk ks.length (strs ks) ∧ (∀ k,va.ownBlock = some k → vk.ownBlock ≠ some k) ∧ B1 ≤ w'.heap.size ∧ objF E t.a n s1 av ks = R0 ∧ s1.toks.length < n + s1.i ∧ av.length ≤ s1.i ∧ ks.length = av.length ∧ s1.toks.length = s.toks.length) (fun _ w' => s.toks.length - psAt w' p)
   ⟨rfl,_,M,[],[],_,_,s.toks.length + 1,h6,hg6,he6,L5,L4,Ro.nil _ _,Ro.nil _ _,fun k hk => by simp [Value.ownBlock] at hk,by omega,hR,by omega,by simp,rfl,htl0⟩ ?_
 rintro st g w7 ⟨rfl,s1,M1,av,ks,va,vk,n,h7,hg7,he7,L5,L4,rA,rK,dd,hz7,hob,hn,hav,hks,htl⟩
 have hlt7 := hg7.ws.lt
 obtain ⟨n,rfl⟩ : ∃ m,n = m + 1 := ⟨n - 1,by omega⟩
 refine take_p h7 hg7.ws hN hg7.l fun w8 h8 he8 => ?_
 have L4 := L4.eff he8
 have L5 := L5.eff he8
 have rA := rA.eff he8
 have rK := rK.eff he8
 have hz8 := he8.chg.size
 have he8 := he7.trans he8
 have hg8 := hg7.take [125]
 have tg := take_go hg7.ws [125]
 have tgt := congrArg List.length tg.1.toks
 simp only [objF] at hob
 rw [un_not,condW_b]
 refine ⟨fun hnt => ?_,fun hyt => ?_⟩
 · have hnt : (takeS s1 [125]).1 = false := by simpa using hnt
   rw [if_neg (by rw [hnt]; decide)] at hob
   generalize hs2 : (takeS s1 [125]).2 = s2 at *
   refine next_p h8 hg8.ws hN hg8.l fun w9 h9 he9 => ?_
   have L4 := L4.eff he9
   have L5 := L5.eff he9
   have rA := rA.eff he9
   have rK := rK.eff he9
   have hz9 := he9.chg.size
   have he9 := he8.trans he9
   have hg9 := hg8.next
   have ng := next_go hg8.ws
   have ngt := congrArg List.length ng.1.toks
   have hc2 := hg8.at0
   have lt5 := L5.lt
   have lt4 := L4.lt
   refine alloc_new fun b6 w10 hb6 hz10 hbb10 hx10 => ?_
   have L6 := h9.loc hz10 hb6 hbb10
   have h10 := h9.ext hx10
   have L4 := L4.ext hx10
   have L5 := L5.ext hx10
   have nA6 : va.ownBlock ≠ some b6 := fun e => by have := (rA.off _ e).1.2; omega
   have nK6 : vk.ownBlock ≠ some b6 := fun e => by have := (rK.off _ e).1.2; omega
   have rA := rA.ext hx10
   have rK := rK.ext hx10
   refine st_agg_at (l := tokc (cur s2)) L6.1 rfl rfl rfl fun w11 hz11 hbb11 hc11 => ?_
   have L6 : Loc w0 w11 p f M1 vt b6 TkT (tokc (cur s2)) := ⟨hbb11,L6.2.up (by omega)⟩
   have h11 := h10.one hc11 L6.2
   have L4 := L4.one hc11 (by omega)
   have L5 := L5.one hc11 (by omega)
   have rA := rA.one hc11 nA6
   have rK := rK.one hc11 nK6
   have he11 : Eff p f M M1 w w11 := (he9.x hx10).one hc11 (by have := he9.chg.size; omega)
   have hw11 := he11.chg.size
   -- the key
   refine JoinW.cut (fun _ w' => ∃ k s3,(if (cur s2).k = 3 then plainR (nextS s2) (cur s2) else if (cur s2).k = 1 then .ok (cur s2).t (nextS s2) else .err 50 (cur s2).a) = .ok k s3 ∧ s3 = nextS s2 ∧ PR w0 w' p f M1 vt (nextS s2) top ∧ Loc w0 w' p f M1 vt b6 TkT [i64 (cur s2).k,str k,i64 (cur s2).a] ∧ Eff p f M M1 w w' ∧ Loc w0 w' p f M1 vt b5 ExT [i64 8,str [],va,vk,i64 t.a] ∧ Loc w0 w' p f M1 vt b4 ExT [.int .i64 0,.string (ofL []),.slice none 0 0,.slice none 0 0,.int .i64 0] ∧ Ro w0 w' p f M1 vt B1 IntT 1 va av.length (ints av) ∧ Ro w0 w' p f M1 vt B1 StT 1 vk ks.length (strs ks) ∧ w11.heap.size ≤ w'.heap.size) ?_ ?_
   · refine L6.ldf rfl ?_
     rw [bin_eql,condW_dec]
     refine ⟨fun hk3 => ?_,fun hk3 => ?_⟩
     · have htx := hg8.tx hk3
       rw [if_pos hk3] at hob
       refine ld_all L6.1 rfl ?_
       refine plain_p h11 htx.1 (by omega) (fun l s3 el w12 hx12 => ?_) fun c a' el => ht c a' (by rw [← hob,el]; rfl)
       rw [fld_ptr,add_mk,Nat.zero_add]
       refine (L6.ext hx12).st rfl (by simp [tokc]) fun w13 L6 hc13 hz13 => ?_
       have h13 := (h11.ext hx12).one hc13 L6.2
       have e3 : s3 = nextS s2 := by
         unfold plainR at el
         split at el
         · cases el
         · injection el with _ el; exact el.symm
       exact ⟨l,s3,by rw [if_pos hk3]; exact el,e3,h13,L6,(he11.x hx12).one hc13 (by have := he9.chg.size; omega),(L5.ext hx12).one hc13 (by omega),(L4.ext hx12).one hc13 (by omega),(rA.ext hx12).one hc13 nA6,(rK.ext hx12).one hc13 nK6,by have := hx12.size; omega⟩
     · rw [bin_eql,condW_dec]
       refine ⟨fun hk1 => ?_,fun hk1 => ?_⟩
       · exact ⟨_,_,by rw [if_neg hk3,if_pos hk1],rfl,h11,L6,he11,L5,L4,rA,rK,Nat.le_refl _⟩
       · refine L6.ldf rfl ?_
         refine fail_p h11 (ht 50 (cur s2).a ?_)
         rw [← hob,if_neg hk3,if_neg hk1]
         rfl
   rintro _ g2 w12 ⟨k,s3,ek,rfl,h12,L6,he12,L5,L4,rA,rK,hz12⟩
   rw [ek] at hob
   simp only [R.bind] at hob
   -- is it there?
   refine JoinW.cut (fun _ w' => w' = w12 ∧ ks.contains k = false) ?_ ?_
   · rw [fld_ptr,add_mk,Nat.zero_add]
     refine L5.ld rfl ?_
     refine L6.ldf rfl ?_
     refine containss_p rK.own.sl (by have := hg7.few; omega) ?_
     rw [condW_dec]
     refine ⟨fun hm => ?_,fun hm => ⟨rfl,by simpa using hm⟩⟩
     refine L6.ldf rfl ?_
     refine fail_p h12 (ht 2 (cur s2).a ?_)
     rw [← hob,if_pos (by simpa using hm)]
   rintro _ g3 w13 ⟨rfl,hnk⟩
   rw [if_neg (by rw [hnk]; decide)] at hob
   -- =
   refine want_p h12 hg9.ws hN hg9.l (fun s4 e4 w14 h14 he14 => ?_) fun c a' e4 => ht c a' (by rw [← hob,e4])
   rw [e4] at hob
   simp only at hob
   obtain ⟨hg14,hi14,_⟩ := hg9.want e4
   have w14s := want_sat hg9.ws [61]
   rw [e4] at w14s
   have w14t := congrArg List.length w14s.1.1.toks
   have L4 := (L4.eff he14).drew
   have L5 := (L5.eff he14).drew
   have L6 := (L6.eff he14).drew
   have rA := (rA.eff he14).ext (ext_drew w14)
   have rK := (rK.eff he14).ext (ext_drew w14)
   have hz14 := he14.chg.size
   have zd14 : w14.drew.heap.size = w14.heap.size := rfl
   have he14 := (he12.trans he14).x (ext_drew w14)
   have h14 := h14.drew
   rw [fld_ptr,add_mk,Nat.zero_add]
   refine L5.ld rfl ?_
   refine L6.ldf rfl ?_
   rw [fld_ptr,add_mk,Nat.zero_add]
   refine L5.ld rfl ?_
   refine bsl_str fun r w15 hr hz15 hrb hx15 => ?_
   have L4 := L4.ext hx15
   have L5 := L5.ext hx15
   have rA := rA.ext hx15
   have rK := rK.ext hx15
   have h15 := h14.ext hx15
   have he15 := he14.x hx15
   have hw15 := he15.chg.size
   refine ⟨L5.ld rfl rfl,L5.ld rfl rfl,?_⟩
   refine Ro.app el_st rK h15 hrb rfl (fun u hu => by simp only [List.mem_singleton] at hu; subst hu; rfl) (by have := hg7.few; omega) (by decide) (by omega) fun vk' w16 rK' hc16 hv16 h16 => ?_
   have L5 := L5.row hc16 fun e => by have := rK.new b5 e; omega
   have L4 := L4.row hc16 fun e => by have := rK.new b4 e; omega
   have dd' : ∀ k,va.ownBlock = some k → vk'.ownBlock ≠ some k := fun k hk e => (hv16 k e).elim (dd k hk) fun e => by have := (rA.off k hk).1.2; omega
   have rA := rA.row hc16 dd
   have he16 := he15.then hc16 fun k hk e => by have := rK.new k e; omega
   have hz16 := hc16.size
   refine ⟨L5.ld rfl rfl,?_⟩
   rw [fld_ptr,add_mk,Nat.zero_add]
   -- the value
   refine hE w16 p M1 vt s4 top N _ h16 hg14 (fun x s5 ex M5 w17 h17 he17 => ?_) fun c a' ex => ht c a' (by rw [← hob,ex])
   rw [ex] at hob
   simp only at hob
   obtain ⟨hg17,hi17⟩ := hg14.e hF ex
   have e17t := hF.ok N s4 hg14.ws
   rw [ex] at e17t
   have e17t := congrArg List.length e17t.1.1.toks
   have L4 := L4.eff he17
   have L5 := L5.eff he17
   have rA := rA.eff he17
   have rK := rK'.eff he17
   have hz17 := he17.chg.size
   have he17 := he16.trans he17
   refine ⟨L5.ld rfl rfl,?_⟩
   refine bsl_int1 fun r2 w18 hr2 hz18 hrb2 hx18 => ?_
   have L4 := L4.ext hx18
   have L5 := L5.ext hx18
   have rA := rA.ext hx18
   have rK := rK.ext hx18
   have h18 := h17.ext hx18
   have he18 := he17.x hx18
   have hw18 := he18.chg.size
   refine ⟨L5.ld rfl rfl,?_⟩
   refine Ro.app el_int rA h18 hrb2 rfl (fun u hu => by simp only [List.mem_singleton] at hu; subst hu; rfl) (by have := hg7.few; omega) (by decide) (by omega) fun va' w19 rA' hc19 hv19 h19 => ?_
   have L5 := L5.row hc19 fun e => by have := rA.new b5 e; omega
   have L4 := L4.row hc19 fun e => by have := rA.new b4 e; omega
   have dd2 : ∀ k,va'.ownBlock = some k → vk'.ownBlock ≠ some k := fun k hk e => (hv19 k hk).elim (fun h => dd' k h e) fun h => by have := (rK.off k e).1.2; omega
   have rK := rK.row hc19 fun k hk e => dd' k e hk
   have he19 := he18.then hc19 fun k hk e => by have := rA.new k e; omega
   have hz19 := hc19.size
   obtain ⟨vp,vc,ev,_⟩ := rK.own.sl.shape
   refine L5.st (by rw [ev]; rfl) (by simp) fun w20 L5 hc20 hz20 => ?_
   have h20 := h19.one hc20 L5.2
   have L4 := L4.one hc20 (by omega)
   have nA5 : va'.ownBlock ≠ some b5 := fun e => by have := rA'.new b5 e; omega
   have nK5 : vk'.ownBlock ≠ some b5 := fun e => by have := rK.new b5 e; omega
   have rA := rA'.one hc20 nA5
   have rK := rK.one hc20 nK5
   rw [fld_ptr,add_mk,Nat.zero_add]
   obtain ⟨vp2,vc2,ev2,_⟩ := rA.own.sl.shape
   refine L5.st (by rw [ev2]; rfl) (by simp) fun w21 L5 hc21 hz21 => ?_
   have h21 := h20.one hc21 L5.2
   have L4 := L4.one hc21 (by omega)
   have rA := rA.one hc21 nA5
   have rK := rK.one hc21 nK5
   have hw5 : w.heap.size ≤ b5 := by omega
   have he21 := (he19.one hc20 hw5).one hc21 hw5
   simp only [List.set_cons_zero,List.set_cons_succ] at L5
   have hg5 := hg17.take [44]
   have tg5 := take_go hg17.ws [44]
   have tg5t := congrArg List.length tg5.1.toks
   -- ,or a line's end,or }
   refine JoinW.cut (fun _ w' => ∃ s6,(s6 = (takeS s5 [44]).2 ∨ s6 = nowS (takeS s5 [44]).2) ∧ objF E t.a n (linesS s6) (av ++ [x]) (ks ++ [k]) = R0 ∧ PR w0 w' p f M5 vt s6 top ∧ Eff p f M5 M5 w21 w') ?_ ?_
   · refine take_p h21 hg17.ws hN hg17.l fun w22 h22 he22 => ?_
     rw [un_not]
     simp only [isB_t]
     by_cases hy : (takeS s5 [44]).1 = true
     · rw [hy,Bool.not_true,GdW_f]
       intro g4
       rw [pick_f]
       simp only [isB_t,GdW_f]
       intro g5
       rw [pick_f,condW_false]
       rw [if_neg (fun h => by rw [hy] at h; exact absurd h.1 (by decide)),if_pos hy] at hob
       exact ⟨_,.inl rfl,hob,h22,he22⟩
     · have hy : (takeS s5 [44]).1 = false := by simpa using hy
       rw [hy,Bool.not_false]
       have hyn : (if (takeS s5 [44]).1 = true then (takeS s5 [44]).2 else nowS (takeS s5 [44]).2) = nowS (takeS s5 [44]).2 := if_neg (by rw [hy]; decide)
       rw [hyn] at hob
       refine GdW.act (decide ((cur (takeS s5 [44]).2).k ≠ 5)) (fun w' => PR w0 w' p f M5 vt (nowS (takeS s5 [44]).2) top ∧ Eff p f M5 M5 w21 w') (fun e => by cases e) (fun _ J hJ => ?_) fun g4 w23 hR23 => ?_
       · refine now_p h22 hg5.ws hN hg5.l fun w23 h23 he23 => ?_
         refine ⟨i64 (cur (takeS s5 [44]).2).k,rfl,?_⟩
         dsimp only
         rw [bin_neq]
         exact hJ w23 ⟨h23,he22.trans he23⟩
       simp only [List.getD_cons_zero,cond_true,pick_t]
       obtain ⟨h23,he23⟩ := hR23
       have hgn := hg5.now
       by_cases h5 : (cur (takeS s5 [44]).2).k ≠ 5
       · rw [decide_eq_true h5]
         simp only [isB_t]
         refine GdW.act (!isS (nowS (takeS s5 [44]).2) [125]) (fun w' => PR w0 w' p f M5 vt (nowS (takeS s5 [44]).2) top ∧ Eff p f M5 M5 w21 w') (fun e => by cases e) (fun _ J hJ => ?_) fun g5 w24 hR24 => ?_
         · refine bsl_str fun b w24 hb hz24 hbb hx24 => ?_
           have h24 := h23.ext hx24
           have L := h23.loc hz24 hb hbb
           refine is_p h24 hgn.ws hN hgn.l ⟨slat_new hbb rfl,fun k hk => by simp only [Value.ownBlock,Option.some.injEq] at hk; subst hk; exact L.2⟩ fun w25 h25 he25 => ?_
           rw [un_not]
           rw [nowS_idem] at h25
           exact hJ w25 ⟨h25,(he23.x hx24).trans he25⟩
         obtain ⟨h24,he24⟩ := hR24
         simp only [List.getD_cons_zero,cond_true,pick_t]
         rw [condW_b]
         refine ⟨fun hn' => ?_,fun hn' => ?_⟩
         · have hn' : isS (nowS (takeS s5 [44]).2) [125] = false := by simpa using hn'
           refine now_p h24 hgn.ws hN hgn.l fun w25 h25 he25 => ?_
           refine ⟨i64 (cur (nowS (takeS s5 [44]).2)).a,rfl,?_⟩
           refine fail_p h25 (ht 50 _ ?_)
           rw [← hob,if_pos ⟨hy,h5,hn'⟩]
         · have hn' : isS (nowS (takeS s5 [44]).2) [125] = true := by simpa using hn'
           rw [if_neg (fun h => by rw [h.2.2] at hn'; cases hn')] at hob
           exact ⟨_,.inr rfl,hob,h24,he24⟩
       · rw [decide_eq_false h5]
         simp only [isB_t,GdW_f]
         intro g5
         rw [pick_f,condW_false]
         rw [if_neg (fun h => h5 h.2.1)] at hob
         exact ⟨_,.inr rfl,hob,h23,he23⟩
   rintro _ g4 w22 ⟨s6,es6,hob6,h22,he22⟩
   have hg6 : Gd N s6 dl ∧ (takeS s5 [44]).2.i ≤ s6.i ∧ s6.toks = (takeS s5 [44]).2.toks := by
     rcases es6 with rfl | rfl
     · exact ⟨hg5,Nat.le_refl _,rfl⟩
     · exact ⟨hg5.now,now_i _,(now_go hg5.ws).toks⟩
   obtain ⟨hg6,hi6,et6⟩ := hg6
   have et6 := congrArg List.length et6
   refine lines_p h22 hg6.ws hN hg6.l fun w23 h23 he23 => ?_
   have lg := lines_go hg6.ws
   have lgt := congrArg List.length lg.1.toks
   have he223 := he22.trans he23
   have hz22 := he223.chg.size
   have i1 := tg.1.le
   have i2 := ng.1.le
   have i3 := tg5.1.le
   have i4 := lg.1.le
   have hg23 := hg6.lines
   have hlt23 := hg23.ws.lt
   refine ⟨⟨rfl,linesS s6,M5,av ++ [x],ks ++ [k],va',vk',n,h23,hg23,he21.trans he223,L5.eff he223,L4.eff he223,?_,?_,dd2,by omega,hob6,by omega,?_,by simp [hks],by omega⟩,?_⟩
   · rw [List.length_append,List.length_cons,List.length_nil,ints_app]
     exact rA.eff he223
   · rw [List.length_append,List.length_cons,List.length_nil,strs_app]
     exact rK.eff he223
   · rw [List.length_append,List.length_cons,List.length_nil]; omega
   · rw [h23.at_,h7.at_]; omega
 · have hyt : (takeS s1 [125]).1 = true := by simpa using hyt
   rw [if_pos hyt] at hob
   refine ld_all L5.1 rfl ?_
   have hE8 : ER w0 w8 p f M1 vt B1 ⟨8,[],av,ks,t.a⟩ va vk := ⟨rA,rK,dd⟩
   refine ret_ex (e := ⟨8,[],av,ks,t.a⟩) h8 L4 rfl hE8 (fun e => by have := rA.new b4 e; omega) (fun e => by have := rK.new b4 e; omega) fun w9 h9 hc9 hE9 => ?_
   exact hK _ _ hob.symm M1 _ _ w9 h9 hg8 (he8.one hc9 (by omega)) (hE9.le (by omega))
end
end Go.Proofs.YtofhaneggcpdaaaGreatDoor
namespace Go.Proofs.YtofhaneggcpdaaaGreatDoor
open Go Go.Eng Go.RowKit Go.Syn Go.Lex
set_option maxRecDepth 100000
theorem win_ok {α : Type} {s : PS} {a : Int} {q : Bool} {f : PS → R α} (hd : s.deep ≠ 24) : within s a q f = (f { s with deep := s.deep + 1,quiet := q }).bind fun x s' => .ok x { s' with deep := s.deep,quiet := s.quiet } := by
 unfold within; rw [if_neg hd]
theorem win_bad {α : Type} {s : PS} {a : Int} {q : Bool} {f : PS → R α} (hd : s.deep = 24) : within s a q f = .err 7 a := by
 unfold within; rw [if_pos hd]
theorem is_now (s : PS) (w : Str) : isS (nowS s) w = isS s w := by unfold isS; rw [cur_now]
section
variable [HX]
variable {w0 w w' w1 : World} {p f b : Nat} {M M' M0 : Lay} {vt : Value} {s : PS} {top : List Nat} {N : Int} {K : Value → World → Prop} {e : Ex} {va vk : Value} {wbn : Nat} {wb : World} {dl : Nat}
theorem Gd.sign {x : Str} (hg : Gd N s (dl + 1)) (hi : isS s x = true) (q : Bool) :
   Gd N { nowS s with deep := (nowS s).deep + 1,quiet := q } dl ∧ nowS { nowS s with deep := (nowS s).deep + 1,quiet := q } = { nowS s with deep := (nowS s).deep + 1,quiet := q } ∧ (cur { nowS s with deep := (nowS s).deep + 1,quiet := q }).k ≠ 0 ∧ Gd N (step1 { nowS s with deep := (nowS s).deep + 1,quiet := q }) dl := by
 have h1 := hg.now.frame q
 obtain ⟨a,b,c⟩ := sign_here hg.ws hi ((nowS s).deep + 1) q
 have h2 := h1.step b
 rw [a] at h2
 exact ⟨h1,a,b,h2⟩
theorem isq_p {x : Str} {KK : Value → World → Prop} (h : PR w0 w p f M vt s top) (hg : Gd N s dl) (hK : ∀ w',PR w0 w' p f M vt (nowS s) top → Eff p f M M w w' → KK (.bool (isS s x)) w') :
   bslW StT 1 [(.string (ofL []))] [(0,1,str x)] w fun t60 w17 => callF Tryz.prog 42 [.pointer (some ⟨p,0,none⟩),t60] w17 KK := by
 refine bsl_str fun b w1 hb hz1 hbb hx1 => ?_
 have L1 := h.loc hz1 hb hbb
 refine is_p (h.ext hx1) hg.ws hg.hN hg.l ⟨slat_new hbb rfl,fun k hk => by simp only [Value.ownBlock,Option.some.injEq] at hk; subst hk; exact L1.2⟩ fun w2 h2 he2 => hK w2 h2 ((Eff.ext hx1).trans he2)
theorem atom_p {E : PS → R Nat} (hS : ScanC w0 f) (hE : ∀ d,dl = d + 1 → EC w0 f 81 E d) (hF : Fine E) : EC w0 f 146 (atomR E) dl := by
 intro w p M vt s top N K h hg hK ht
 refine W146_ok ?_
 unfold W146
 have hN := hg.hN
 have hat := hg.at0
 refine box_one rfl fun b1 w1 hb1 hz1 hbb1 hx1 => ?_
 have h1 := h.ext hx1
 have L1 := h.loc hz1 hb1 hbb1
 refine L1.ld rfl ?_
 refine now_p h1 hg.ws hN hg.l fun w2 h2 he2 => ?_
 have L1 := L1.eff he2
 have he2 := (Eff.ext hx1).trans he2
 have lt1 := L1.lt
 refine alloc_new fun b3 w3 hb3 hz3 hbb3 hx3 => ?_
 have h3 := h2.ext hx3
 have L3 := h2.loc hz3 hb3 hbb3
 have L1 := L1.ext hx3
 refine st_agg_at (l := tokc (cur s)) L3.1 rfl rfl rfl fun w4 hz4 hbb4 hc4 => ?_
 have L3 : Loc w0 w4 p f M vt b3 TkT (tokc (cur s)) := ⟨hbb4,L3.2.up (by omega)⟩
 have h4 := h3.one hc4 L3.2
 have L1 := L1.one hc4 (by omega)
 have hw2 := he2.chg.size
 have he4 := (he2.x hx3).one hc4 (by omega)
 refine L3.ldf rfl ?_
 simp only [put_int,put_str,put_nil,List.length_cons,List.length_nil,List.set_cons_zero,List.set_cons_succ,Nat.reduceAdd,Nat.reduceLT,true_and,Nat.zero_lt_succ]
 have lt3 := L3.lt
 refine alloc_new fun b4 w5 hb4 hz5 hbb5 hx5 => ?_
 have h5 := h4.ext hx5
 have L4 := h4.loc hz5 hb4 hbb5
 have L1 := L1.ext hx5
 have L3 := L3.ext hx5
 refine st_agg_at (l := [i64 0,str [],.slice none 0 0,.slice none 0 0,i64 (cur s).a]) L4.1 rfl rfl rfl fun w6 hz6 hbb6 hc6 => ?_
 have L4 : Loc w0 w6 p f M vt b4 ExT [i64 0,str [],.slice none 0 0,.slice none 0 0,i64 (cur s).a] := ⟨hbb6,L4.2.up (by omega)⟩
 have h6 := h5.one hc6 L4.2
 have L1 := L1.one hc6 (by omega)
 have L3 := L3.one hc6 (by omega)
 have he6 := (he4.x hx5).one hc6 (by omega)
 have hw6 := he6.chg.size
 have hgn := hg.now
 have hi1 := wsi hgn.ws hgn.l
 have hb14 : b1 ≠ b4 := by omega
 have hb34 : b3 ≠ b4 := by omega
 have hwb4 : w.heap.size ≤ b4 := by omega
 have hlev := hgn.lev
 have hd24 : (nowS s).deep ≤ 24 := by omega
 refine JoinW.cut (fun _ w' => ∃ M1 s1 e va vk,PR w0 w' p f M1 vt s1 top ∧ Gd N s1 dl ∧ Eff p f M M1 w w' ∧ Loc w0 w' p f M1 vt b1 PpT [.pointer (some ⟨p,0,none⟩)] ∧ Loc w0 w' p f M1 vt b4 ExT (exc e va vk) ∧ ER w0 w' p f M1 vt w.heap.size e va vk ∧ atomR E s = putR s1 e) ?_ ?_
 · unfold atomR at hK ht ⊢
   simp only at hK ht ⊢
   refine L3.ldf rfl ?_
   rw [bin_eql,condW_dec]
   refine ⟨fun hk => ?_,fun hk => ?_⟩
   · -- a number
     have hk0 : (cur s).k ≠ 0 := by rw [hk]; decide
     refine L1.ld rfl ?_
     refine h6.go hi1 fun w7 h7 he7 hz7 => ?_
     have L1 := L1.eff he7
     have L3 := (L3.eff he7).drew
     have L4 := (L4.eff he7).drew
     have h7 := h7.drew
     have he7 := (he6.trans he7).x (ext_drew w7)
     rw [fld_ptr,add_mk,Nat.zero_add]
     refine L3.ld rfl ?_
     rw [fld_ptr,add_mk,Nat.zero_add]
     refine L4.st rfl (by simp) fun w8 L4 hc8 hz8 => ?_
     have L3 := L3.one hc8 hb34
     refine ⟨L3.ld rfl rfl,?_⟩
     rw [fld_ptr,add_mk,Nat.zero_add]
     refine L4.st rfl (by simp) fun w9 L4 hc9 hz9 => ?_
     have h9 := (h7.one hc8 L4.2).one hc9 L4.2
     refine ⟨M,_,⟨4,(cur s).t,[],[],(cur s).a⟩,.slice none 0 0,.slice none 0 0,h9,hg.step hk0,(he7.one hc8 hwb4).one hc9 hwb4,(L1.drew.one hc8 hb14).one hc9 hb14,L4,ER.leaf rfl rfl,by rw [if_pos hk]⟩
   rw [if_neg hk] at hK ht ⊢
   refine L3.ldf rfl ?_
   rw [bin_eql,condW_dec]
   refine ⟨fun hk3 => ?_,fun hk3 => ?_⟩
   · -- a text
     rw [if_pos hk3] at hK ht
     have hk0 : (cur s).k ≠ 0 := by rw [hk3]; decide
     refine L1.ld rfl ?_
     refine h6.go hi1 fun w7 h7 he7 hz7 => ?_
     have L1 := L1.eff he7
     have L3 := L3.eff he7
     have he7 := he6.trans he7
     refine L1.ld rfl ?_
     refine ld_all L3.1 rfl ?_
     have htx := hg.tx hk3
     have hcp := cur_pos hg.ws
     have hph := (phi_go hk0).1
     have hwt : wt { cur s with k := 3 } = wt (tokI (nowS s)) := by
       have e3 : (tokI (nowS s)).k = 3 := hk3
       unfold wt
       simp only [e3]
       rfl
     refine text_p hS hE hF h7 (hg.step hk0) htx.1 htx.2 ⟨hcp.1,hcp.2.1⟩ (hcp.2.2.2.1 hk3) (by rw [hwt]; have := hg.phi; omega) (fun x s' ex M' w8 h8 he8 => ?_) fun c a' ex => ht c a' ex
     exact hK x s' ex M' w8 h8 (he7.trans he8)
   rw [if_neg hk3] at hK ht ⊢
   refine L3.ldf rfl ?_
   rw [bin_eql]
   simp only [isB_t]
   refine GdW.look (decide ((cur s).t ≠ kFor)) (fun _ J hJ => ?_) fun g => ?_
   · refine L3.ldf rfl ?_
     rw [bin_sne]
     exact hJ
   simp only [List.getD_cons_zero]
   rw [pick_gd_and,condW_b]
   refine ⟨fun hcc => ?_,fun hcc => ?_⟩
   · -- a name,or a call
     have hc : (cur s).k = 1 ∧ (cur s).t ≠ kFor := by simpa using hcc
     rw [if_pos hc] at hK ht ⊢
     have hk0 : (cur s).k ≠ 0 := by rw [hc.1]; decide
     have hgs := hg.step hk0
     refine L1.ld rfl ?_
     refine h6.go hi1 fun w7 h7 he7 hz7 => ?_
     have L1 := L1.eff he7
     have L3 := L3.eff he7
     have L4 := L4.eff he7
     have he7 := he6.trans he7
     refine L1.ld rfl ?_
     refine isq_p h7 hgs fun w8 h8 he8 => ?_
     have L1 := L1.eff he8
     have L3 := L3.eff he8
     have L4 := L4.eff he8
     have he8 := he7.trans he8
     rw [un_not,condW_b]
     refine ⟨fun hn => ?_,fun hy => ?_⟩
     · have hn : isS (step1 (nowS s)) [40] = false := by simpa using hn
       rw [if_neg (by rw [hn]; decide)]
       refine L3.ldf rfl ?_
       refine named_p ?_
       rw [fld_ptr,add_mk,Nat.zero_add]
       refine L4.st rfl (by simp) fun w9 L4 hc9 hz9 => ?_
       have h9 := h8.one hc9 L4.2
       have L1 := L1.one hc9 hb14
       have L3 := L3.one hc9 hb34
       have he9 := he8.one hc9 hwb4
       refine L4.ldf rfl ?_
       rw [bin_eql,condW_dec]
       refine ⟨fun h9k => ?_,fun h9k => ?_⟩
       · refine L3.ldf rfl ?_
         rw [fld_ptr,add_mk,Nat.zero_add]
         refine L4.st rfl (by simp) fun w10 L4 hc10 hz10 => ?_
         refine ⟨M,_,⟨namedK (cur s).t,(cur s).t,[],[],(cur s).a⟩,.slice none 0 0,.slice none 0 0,h9.one hc10 L4.2,hgs.now,he9.one hc10 hwb4,L1.one hc10 hb14,L4,ER.leaf rfl rfl,by rw [if_pos h9k]⟩
       · refine ⟨M,_,⟨namedK (cur s).t,[],[],[],(cur s).a⟩,.slice none 0 0,.slice none 0 0,h9,hgs.now,he9,L1,L4,ER.leaf rfl rfl,by rw [if_neg h9k]⟩
     · have hy : isS (step1 (nowS s)) [40] = true := by simpa using hy
       rw [if_pos hy] at hK ht ⊢
       have L1 := L1.drew
       have L3 := L3.drew
       have L4 := L4.drew
       have h8 := h8.drew
       have he8 := he8.x (ext_drew w8)
       rw [fld_ptr,add_mk,Nat.zero_add]
       refine L3.ld rfl ?_
       rw [fld_ptr,add_mk,Nat.zero_add]
       refine L4.st rfl (by simp) fun w9 L4 hc9 hz9 => ?_
       have h9 := h8.one hc9 L4.2
       have L1 := L1.one hc9 hb14
       have L3 := L3.one hc9 hb34
       have he9 := he8.one hc9 hwb4
       refine ⟨L3.ld rfl rfl,?_⟩
       rw [fld_ptr,add_mk,Nat.zero_add]
       refine L4.st rfl (by simp) fun w10 L4 hc10 hz10 => ?_
       have h10 := (h9.one hc10 L4.2).drew
       have L1 := (L1.one hc10 hb14).drew
       have L4 := L4.drew
       have he10 := (he9.one hc10 hwb4).x (ext_drew w10)
       simp only [List.set_cons_zero,List.set_cons_succ] at L4
       refine L1.ld rfl ?_
       refine L1.ld rfl ?_
       have hgq := hgs.now
       refine now_p h10 hgq.ws hN hgq.l fun w11 h11 he11 => ?_
       rw [nowS_idem] at h11
       rw [cur_now]
       have L1 := L1.eff he11
       have L4 := L4.eff he11
       have he11 := he10.trans he11
       refine ⟨L1.ld rfl rfl,i64 (cur (step1 (nowS s))).a,rfl,?_⟩
       have hql := hgq.lev
       refine within_p h11 (by omega) (fun hd => ht 7 _ (by rw [win_bad hd]; rfl)) fun hd w12 h12 he12 => ?_
       obtain ⟨d,rfl⟩ : ∃ d,dl = d + 1 := ⟨dl - 1,by omega⟩
       rw [win_ok hd] at ht ⊢
       obtain ⟨q1,q2,q3,q4⟩ := hgs.sign hy true
       have L1 := L1.eff he12
       have L4 := L4.eff he12
       have he12 := he11.trans he12
       refine callV_cap' (caps := [.pointer (some ⟨b1,0,none⟩),.pointer (some ⟨b4,0,none⟩)]) ?_
       refine W152_ok ?_
       unfold W152
       refine L1.ld rfl ?_
       refine h12.go (wsi q1.ws q1.l) fun w13 h13 he13 hz13 => ?_
       have L1 := L1.eff he13
       have L4 := L4.eff he13
       have he13 := he12.trans he13
       refine L1.ld rfl ?_
       have lt4' := L4.lt
       refine args_p (hE d rfl) hF h13 q4 (fun l s' el M' v w14 h14 hg14 he14 hr14 => ?_) fun c a' el => ht c a' (by rw [el]; rfl)
       have L1 := L1.eff he14
       have L4 := L4.eff he14
       have hw13 := he13.chg.size
       obtain ⟨vp,vc,ev,_⟩ := hr14.own.sl.shape
       have nv4 : v.ownBlock ≠ some b4 := fun e => by have := hr14.new b4 e; omega
       rw [fld_ptr,add_mk,Nat.zero_add]
       refine L4.st (by rw [ev]; rfl) (by simp) fun w15 L4 hc15 hz15 => ?_
       have h15 := h14.one hc15 L4.2
       have L1 := L1.one hc15 hb14
       have hr15 := hr14.one hc15 nv4
       have he15 := (he13.trans he14).one hc15 hwb4
       have hg14l := hg14.lev
       refine ⟨M',s',h15,by omega,fun w16 h16 he16 => ?_⟩
       refine ⟨M',_,⟨12,(cur s).t,l,[],(cur s).a⟩,v,.slice none 0 0,h16,hgs.now.back hg14,he15.trans he16,L1.eff he16,L4.eff he16,(ER.noK rfl (hr15.le (by omega))).eff he16,by rw [el]; rfl⟩
   · -- brackets
     have hc : ¬ ((cur s).k = 1 ∧ (cur s).t ≠ kFor) := by simpa using hcc
     rw [if_neg hc] at hK ht ⊢
     simp only [is_now] at hK ht ⊢
     have ret5 : ∀ {w7 w8 : World} {M' : Lay} {s' : PS} {e : Ex} {va vk : Value},PR w0 w7 p f M' vt s' top → Loc w0 w7 p f M' vt b1 PpT [.pointer (some ⟨p,0,none⟩)] → Loc w0 w7 p f M' vt b4 ExT [i64 0,str [],.slice none 0 0,.slice none 0 0,i64 (cur s).a] → ER w0 w7 p f M' vt w8.heap.size e va vk → b4 < w8.heap.size → w.heap.size ≤ w8.heap.size → ∀ {KW : World → Prop},
         (∀ w9,PR w0 w9 p f M' vt s' top → Chg (One b4) w7 w9 → Loc w0 w9 p f M' vt b1 PpT [.pointer (some ⟨p,0,none⟩)] → Loc w0 w9 p f M' vt b4 ExT (exc e va vk) → ER w0 w9 p f M' vt w.heap.size e va vk → KW w9) → stW 5 (.pointer (some ⟨b4,0,none⟩)) (.agg (exc e va vk).toArray) w7 KW := fun {w7 w8 M' s' e va vk} h7 L1 L4 hE7 hb hw {KW} hKW => by
       refine st_agg_at (l := exc e va vk) L4.1 rfl rfl (exc_one hE7) fun w9 hz9 hb9 hc9 => ?_
       exact hKW w9 (h7.one hc9 L4.2) hc9 (L1.one hc9 hb14) ⟨hb9,L4.2.up (by omega)⟩ ((hE7.one hc9 (fun e => by have := hE7.rA.new b4 e; omega) (fun e => by have := hE7.rK.new b4 e; omega)).le hw)
     refine L1.ld rfl ?_
     refine isq_p h6 hgn fun w7 h7 he7 => ?_
     rw [nowS_idem] at h7
     have L1 := L1.eff he7
     have L3 := L3.eff he7
     have L4 := L4.eff he7
     have he7 := he6.trans he7
     rw [is_now,condW_b]
     refine ⟨fun hi => ?_,fun hi => ?_⟩
     · rw [if_pos hi] at hK ht
       have lt1 := L1.lt
       have hw7 := he7.chg.size
       refine alloc_new fun b5 w8 hb5 hz8 hbb8 hx8 => ?_
       have h8 := h7.ext hx8
       have L5 := h7.loc hz8 hb5 hbb8
       refine L5.st rfl (by simp) fun w9 L5 hc9 hz9 => ?_
       have h9 := h8.one hc9 L5.2
       have L1 := (L1.ext hx8).one hc9 (by omega)
       have L3 := (L3.ext hx8).one hc9 (by have := L3.lt; omega)
       have he9 := (he7.x hx8).one hc9 (by omega)
       refine L1.ld rfl ?_
       refine L3.ldf rfl ?_
       refine within_p h9 hd24 (fun hd => ht 7 _ (by rw [win_bad hd])) fun hd w10 h10 he10 => ?_
       obtain ⟨d,rfl⟩ : ∃ d,dl = d + 1 := ⟨dl - 1,by omega⟩
       rw [win_ok hd] at ht hK
       obtain ⟨q1,q2,q3,q4⟩ := hg.sign hi true
       have L1 := L1.eff he10
       have L5 := L5.eff he10
       have he10 := he9.trans he10
       refine callV_cap' (caps := [.pointer (some ⟨b1,0,none⟩),.pointer (some ⟨b5,0,none⟩)]) ?_
       refine W154_ok ?_
       unfold W154
       refine L1.ld rfl ?_
       refine h10.go (wsi q1.ws q1.l) fun w11 h11 he11 hz11 => ?_
       have L1 := L1.eff he11
       have L5 := L5.eff he11
       have he11 := he10.trans he11
       refine L1.ld rfl ?_
       refine hE d rfl w11 p M vt _ top N _ h11 q4 (fun x s' ex M' w12 h12 he12 => ?_) fun c a' ex => ht c a' (by rw [ex]; rfl)
       obtain ⟨g12,_⟩ := q4.e hF ex
       rw [ex] at hK ht
       simp only [R.bind] at hK ht
       have L1 := L1.eff he12
       have L5 := L5.eff he12
       have he12 := he11.trans he12
       refine L5.st rfl (by simp) fun w13 L5 hc13 hz13 => ?_
       have h13 := h12.one hc13 L5.2
       have L1 := L1.one hc13 (by omega)
       have he13 := he12.one hc13 (by omega)
       refine L1.ld rfl ?_
       refine want_p h13 g12.ws hN g12.l (fun s3 e3 w14 h14 he14 => ?_) fun c a' e3 => ht c a' (by rw [e3])
       rw [e3] at hK
       simp only at hK
       obtain ⟨g14,_⟩ := g12.want e3
       have g14l := g14.lev
       refine ⟨M',s3,h14,by omega,fun w15 h15 he15 => ?_⟩
       refine ((L5.eff he14).eff he15).ld rfl ?_
       exact hK x _ rfl M' w15 h15 ((he13.trans he14).trans he15)
     rw [if_neg (by rw [hi]; decide)] at hK ht ⊢
     refine L1.ld rfl ?_
     refine isq_p h7 hgn fun w8 h8 he8 => ?_
     rw [nowS_idem] at h8
     have L1 := L1.eff he8
     have L3 := L3.eff he8
     have L4 := L4.eff he8
     have he8 := he7.trans he8
     rw [is_now,condW_b]
     refine ⟨fun hi => ?_,fun hi => ?_⟩
     · rw [if_pos hi] at hK ht ⊢
       refine L1.ld rfl ?_
       refine L3.ldf rfl ?_
       refine within_p h8 hd24 (fun hd => ht 7 _ (by rw [win_bad hd]; rfl)) fun hd w10 h10 he10 => ?_
       obtain ⟨d,rfl⟩ : ∃ d,dl = d + 1 := ⟨dl - 1,by omega⟩
       rw [win_ok hd] at ht ⊢
       obtain ⟨q1,q2,q3,q4⟩ := hg.sign hi true
       have L1 := L1.eff he10
       have L3 := L3.eff he10
       have L4 := L4.eff he10
       have he10 := he8.trans he10
       refine callV_cap' (caps := [.pointer (some ⟨b1,0,none⟩),.pointer (some ⟨b3,0,none⟩),.pointer (some ⟨b4,0,none⟩)]) ?_
       refine W155_ok ?_
       unfold W155
       refine L1.ld rfl ?_
       refine ld_all L3.1 rfl ?_
       have lt4' := L4.lt
       refine list_p (hE d rfl) hF h10 q1 q3 q2 (fun e s' el M' va vk w12 h12 g12 he12 hE12 => ?_) fun c a' el => ht c a' (by rw [el]; rfl)
       refine ret5 h12 (L1.eff he12) (L4.eff he12) hE12 lt4' he10.chg.size fun w13 h13 hc13 L1 L4 hE13 => ?_
       have g12l := g12.lev
       refine ⟨M',s',h13,by omega,fun w14 h14 he14 => ?_⟩
       exact ⟨M',_,e,va,vk,h14,hgn.back g12,((he10.trans he12).one hc13 hwb4).trans he14,L1.eff he14,L4.eff he14,hE13.eff he14,by rw [el]; rfl⟩
     rw [if_neg (by rw [hi]; decide)] at hK ht ⊢
     refine L1.ld rfl ?_
     refine isq_p h8 hgn fun w9 h9 he9 => ?_
     rw [nowS_idem] at h9
     have L1 := L1.eff he9
     have L3 := L3.eff he9
     have L4 := L4.eff he9
     have he9 := he8.trans he9
     rw [is_now,condW_b]
     refine ⟨fun hi => ?_,fun hi => ?_⟩
     · rw [if_pos hi] at hK ht ⊢
       refine L1.ld rfl ?_
       refine L3.ldf rfl ?_
       refine within_p h9 hd24 (fun hd => ht 7 _ (by rw [win_bad hd]; rfl)) fun hd w10 h10 he10 => ?_
       obtain ⟨d,rfl⟩ : ∃ d,dl = d + 1 := ⟨dl - 1,by omega⟩
       rw [win_ok hd] at ht ⊢
       obtain ⟨q1,q2,q3,q4⟩ := hg.sign hi false
       have L1 := L1.eff he10
       have L3 := L3.eff he10
       have L4 := L4.eff he10
       have he10 := he9.trans he10
       refine callV_cap' (caps := [.pointer (some ⟨b1,0,none⟩),.pointer (some ⟨b3,0,none⟩),.pointer (some ⟨b4,0,none⟩)]) ?_
       refine W157_ok ?_
       unfold W157
       refine L1.ld rfl ?_
       refine ld_all L3.1 rfl ?_
       have lt4' := L4.lt
       refine object_p (hE d rfl) hF h10 q1 q3 q2 (fun e s' el M' va vk w12 h12 g12 he12 hE12 => ?_) fun c a' el => ht c a' (by rw [el]; rfl)
       refine ret5 h12 (L1.eff he12) (L4.eff he12) hE12 lt4' he10.chg.size fun w13 h13 hc13 L1 L4 hE13 => ?_
       have g12l := g12.lev
       refine ⟨M',s',h13,by omega,fun w14 h14 he14 => ?_⟩
       exact ⟨M',_,e,va,vk,h14,hgn.back g12,((he10.trans he12).one hc13 hwb4).trans he14,L1.eff he14,L4.eff he14,hE13.eff he14,by rw [el]; rfl⟩
     · rw [if_neg (by rw [hi]; decide)] at ht
       refine L3.ldf rfl ?_
       exact fail_p h9 (ht _ _ rfl)
 · rintro _ g w7 ⟨M1,s1,e,va,vk,h7,hg7,he7,L1,L4,hE7,ea⟩
   rw [ea] at hK
   refine L1.ld rfl ?_
   refine ld_all L4.1 rfl ?_
   refine put_e h7 he7 hE7 hg7 fun M' w8 h8 he8 _ => ?_
   exact hK _ _ rfl M' w8 h8 he8
end
end Go.Proofs.YtofhaneggcpdaaaGreatDoor
namespace Go.Proofs.YtofhaneggcpdaaaGreatDoor
open Go Go.Eng Go.RowKit Go.Syn Go.Lex
set_option maxRecDepth 100000
section
variable [HX]
variable {w0 w w' w1 : World} {p f b : Nat} {M M' M0 : Lay} {vt : Value} {s : PS} {top : List Nat} {N : Int} {K : Value → World → Prop} {e : Ex} {va vk : Value} {wbn : Nat} {wb : World} {dl : Nat}
theorem PR.row_new {l : List Nat} (h : PR w0 w p f M vt s top) {r : Nat} (hr : r = w.heap.size) (hz : w'.heap.size = w.heap.size + 1) (hb : w'.heap[r]? = some (.cells (ints l).toArray IntT (0,0))) (hl : l.length ≤ 1000000) :
   Ro w0 w' p f M vt w.heap.size IntT 1 (.slice (some ⟨r,0,none⟩) l.length l.length) l.length (ints l) :=
 ⟨own_of hb (by have := h.base; omega) (ints_len l) hl,fun k hk => by simp only [Value.ownBlock,Option.some.injEq] at hk; subst hk; exact h.off_new (by omega) (by omega),fun k hk => by simp only [Value.ownBlock,Option.some.injEq] at hk; omega⟩
theorem post_p {E : PS → R Nat} (hS : ScanC w0 f) (hE : ∀ d,dl = d + 1 → EC w0 f 81 E d) (hF : Fine E) : EC w0 f 142 (postR E) dl := by
 intro w p M vt s top N K h hg hK ht
 refine W142_ok ?_
 unfold W142
 have hN := hg.hN
 refine box_one rfl fun b1 w1 hb1 hz1 hbb1 hx1 => ?_
 have h1 := h.ext hx1
 have L1 := h.loc hz1 hb1 hbb1
 refine L1.ld rfl ?_
 unfold postR at hK ht
 refine atom_p hS hE hF w1 p M vt s top N _ h1 hg (fun x s1 ex M1 w2 h2 he2 => ?_) fun c a' ex => ht c a' (by rw [ex]; rfl)
 rw [ex] at hK ht
 simp only [R.bind] at hK ht
 have hA : Fine (atomR E) := ⟨fun N => atom_sat (hF.ok N),phi_atom hF.z⟩
 obtain ⟨hg1,hi1⟩ := hg.e hA ex
 have etl := (hA.ok N) s hg.ws
 rw [ex] at etl
 have etl := congrArg List.length etl.1.1.toks
 have L1 := L1.eff he2
 have he2 := (Eff.ext hx1).trans he2
 generalize hR : postF E (s.toks.length + 1) s1 x = R0 at hK ht
 refine LoopW.go (fun st w' => ∃ s1 M1 x n,st = [i64 ((x : Nat) : Int)] ∧ PR w0 w' p f M1 vt s1 top ∧ Gd N s1 dl ∧ Eff p f M M1 w w' ∧ Loc w0 w' p f M1 vt b1 PpT [.pointer (some ⟨p,0,none⟩)] ∧ postF E n s1 x = R0 ∧ s1.toks.length < n + s1.i ∧ s1.toks.length = s.toks.length) (fun _ w' => s.toks.length - psAt w' p)
   ⟨s1,M1,x,s.toks.length + 1,rfl,h2,hg1,he2,L1,hR,by have := hg1.ws.lt; omega,etl⟩ ?_
 clear he2 L1 h2 ex hg1 hi1 etl hR
 rintro st g w2 ⟨s2,M2,y,n,rfl,h2,hg2,he2,L1,hpf,hn,htl⟩
 simp only [List.getD_cons_zero]
 have hlt2 := hg2.ws.lt
 have hat := hg2.at0
 obtain ⟨n,rfl⟩ : ∃ m,n = m + 1 := ⟨n - 1,by omega⟩
 simp only [postF] at hpf
 refine L1.ld rfl ?_
 refine now_p h2 hg2.ws hN hg2.l fun w3 h3 he3 => ?_
 have L1 := L1.eff he3
 have he3 := he2.trans he3
 have hgn := hg2.now
 have lt1 := L1.lt
 have hw3 := he3.chg.size
 refine alloc_new fun b4 w4 hb4 hz4 hbb4 hx4 => ?_
 have h4 := h3.ext hx4
 have L4 := h3.loc hz4 hb4 hbb4
 have L1 := L1.ext hx4
 refine st_agg_at (l := tokc (cur s2)) L4.1 rfl rfl rfl fun w5 hz5 hbb5 hc5 => ?_
 have L4 : Loc w0 w5 p f M2 vt b4 TkT (tokc (cur s2)) := ⟨hbb5,L4.2.up (by omega)⟩
 have h5 := h4.one hc5 L4.2
 have L1 := L1.one hc5 (by omega)
 have he5 := (he3.x hx4).one hc5 (by omega)
 have hwb1 : b1 = w.heap.size := hb1
 -- the expression is put,and on
 have fin : ∀ {w6 : World} {M6 : Lay} {s6 : PS} {e : Ex} {va : Value},PR w0 w6 p f M6 vt s6 top → Gd N s6 dl → Eff p f M M6 w w6 → Loc w0 w6 p f M6 vt b1 PpT [.pointer (some ⟨p,0,none⟩)] → Ro w0 w6 p f M6 vt w1.heap.size IntT 1 va e.args.length (ints e.args) → e.keys = [] → s2.i < s6.i → Syn.phi s6 + 1 ≤ Syn.phi s2 → s6.toks.length = s.toks.length → ((putR s6 e).bind fun y s3 => postF E n s3 y) = R0 →
     callF Tryz.prog 107 [.pointer (some ⟨p,0,none⟩),.agg (exc e va (.slice none 0 0)).toArray] w6 fun t24 w12 => (∃ s1 M1 x n,[t24] = [i64 ((x : Nat) : Int)] ∧ PR w0 w12 p f M1 vt s1 top ∧ Gd N s1 dl ∧ Eff p f M M1 w w12 ∧ Loc w0 w12 p f M1 vt b1 PpT [.pointer (some ⟨p,0,none⟩)] ∧ postF E n s1 x = R0 ∧ s1.toks.length < n + s1.i ∧ s1.toks.length = s.toks.length) ∧ s.toks.length - psAt w12 p < s.toks.length - psAt w2 p := fun {w6 M6 s6 e va} h6 hg6 he6 L1 hr hk hi hph htl6 hp6 => by
   refine put_e h6 he6 (ER.noK hk (hr.le (by omega))) hg6 fun M' w7 h7 he7 hl7 => ?_
   have hlt6 := hg6.ws.lt
   refine ⟨⟨_,M',_,n,rfl,h7,?_,he7,hl7 _ _ _ L1 (fun e => by have := hr.new b1 e; omega) (by simp [Value.ownBlock]),hp6,by show s6.toks.length < n + s6.i; omega,htl6⟩,?_⟩
   · exact hg6.put (by have := hg2.phi; omega)
   · rw [h7.at_,h2.at_]
     show s.toks.length - s6.i < _
     omega
 have hn1 := now_go hg2.ws
 have hn1t := congrArg List.length hn1.toks
 refine L1.ld rfl ?_
 refine take_p h5 hgn.ws hN hgn.l fun w6 h6 he6 => ?_
 have L1 := L1.eff he6
 have L4 := L4.eff he6
 have he6 := he5.trans he6
 have tg := take_go hgn.ws [46]
 have tgt := congrArg List.length tg.1.toks
 have hg6 := hgn.take [46]
 have tp := phi_take (nowS s2) [46]
 have np := phi_now s2
 rw [condW_b]
 refine ⟨fun hy => ?_,fun hn' => ?_⟩
 · -- an attribute
   rw [if_pos hy] at hpf
   have tp := tp.2 hy
   have ti := tg.2.1 hy
   have L1 := L1.drew
   have L4 := L4.drew
   have h6 := h6.drew
   have he6 := he6.x (ext_drew w6)
   have ld1 : ∀ {w' : World} {M' : Lay},Loc w0 w' p f M' vt b1 PpT [.pointer (some ⟨p,0,none⟩)] → ldW false 1 (.pointer (some ⟨b1,0,none⟩)) w' fun x => x = .pointer (some ⟨p,0,none⟩) := fun L => L.ld rfl rfl
   have ld4 : ∀ {w' : World} {M' : Lay},Loc w0 w' p f M' vt b4 TkT (tokc (cur s2)) → ldW false 1 (.pointer (some ⟨b4,2,none⟩)) w' fun x => x = i64 (cur s2).a := fun L => L.ld rfl rfl
   refine L1.ld rfl ?_
   refine L1.ld rfl ?_
   rw [fld_ptr,add_mk,Nat.zero_add]
   refine L4.ld rfl ?_
   have hw6 := he6.chg.size
   have hz1' : w1.heap.size ≤ w6.drew.heap.size := by have := he6.chg.size; have := L1.lt; omega
   have kd : ∀ {w' : World} {KK : Value → World → Prop},PR w0 w' p f M2 vt (takeS (nowS s2) [46]).2 top → (∀ u s7,kindR (takeS (nowS s2) [46]).2 1 = .ok u s7 → ∀ w'',PR w0 w'' p f M2 vt s7 top → Eff p f M2 M2 w' w'' → KK (.agg (tokc u).toArray) w'') → callF Tryz.prog 39 [.pointer (some ⟨p,0,none⟩),.int .i64 1] w' KK := fun {w' KK} h hKK =>
     kind_p h hg6.ws hN hg6.l hKK fun c a' eu => ht c a' (by rw [← hpf,eu]; rfl)
   have done : ∀ {u : Tok} {s7 : PS},kindR (takeS (nowS s2) [46]).2 1 = .ok u s7 → Gd N s7 dl ∧ s2.i < s7.i ∧ Syn.phi s7 + 1 ≤ Syn.phi s2 ∧ s7.toks.length = s.toks.length ∧ ((putR s7 ⟨10,u.t,[y],[],(cur s2).a⟩).bind fun y s3 => postF E n s3 y) = R0 := fun {u s7} eu => by
     have hk := hg6.kind (by decide) eu
     have hks := kind_sat hg6.ws 1 (by decide)
     have hkp := phi_kind (takeS (nowS s2) [46]).2 1
     rw [eu] at hks hkp hpf
     have hkt := congrArg List.length hks.1.1.toks
     have hkp := hkp.1
     have h1 := hn1.le
     exact ⟨hk.1,by have := hk.2.1; omega,by omega,by omega,hpf⟩
   refine ⟨?_,?_,?_,?_,?_,?_⟩
   · refine kd h6 fun u s7 eu w7 h7 he7 => ?_
     have L1 := L1.eff he7
     have L4 := L4.eff he7
     have he7' := he6.trans he7
     refine ⟨ld4 L4,ld1 L1,str u.t,rfl,ld4 L4,ld1 L1,?_⟩
     refine bsl_int1 fun r w8 hr hz8 hrb hx8 => ?_
     refine ⟨ld4 (L4.ext hx8),ld1 (L1.ext hx8),?_⟩
     simp only [put_int,put_str,put_slice,put_nil,List.length_cons,List.length_nil,List.set_cons_zero,List.set_cons_succ,Nat.reduceAdd,Nat.reduceLT,true_and,Nat.zero_lt_succ]
     obtain ⟨d1,d2,d3,d4,d5⟩ := done eu
     exact fin (e := ⟨10,u.t,[y],[],(cur s2).a⟩) (h7.ext hx8) d1 (he7'.x hx8) (L1.ext hx8) ((h7.row_new (l := [y]) hr hz8 hrb (by simp)).le (by have := he7.chg.size; omega)) rfl d2 d3 d4 d5
   · exact ld4 L4
   · exact ld1 L1
   · exact ld1 L1
   · refine kd h6 fun u s7 eu w7 h7 he7 => ?_
     have L1 := L1.eff he7
     have L4 := L4.eff he7
     have he7' := he6.trans he7
     refine ⟨ld4 L4,ld1 L1,str u.t,rfl,?_⟩
     refine bsl_int1 fun r w8 hr hz8 hrb hx8 => ?_
     refine ⟨ld4 (L4.ext hx8),ld1 (L1.ext hx8),?_⟩
     simp only [put_int,put_str,put_slice,put_nil,List.length_cons,List.length_nil,List.set_cons_zero,List.set_cons_succ,Nat.reduceAdd,Nat.reduceLT,true_and,Nat.zero_lt_succ]
     obtain ⟨d1,d2,d3,d4,d5⟩ := done eu
     exact fin (e := ⟨10,u.t,[y],[],(cur s2).a⟩) (h7.ext hx8) d1 (he7'.x hx8) (L1.ext hx8) ((h7.row_new (l := [y]) hr hz8 hrb (by simp)).le (by have := he7.chg.size; omega)) rfl d2 d3 d4 d5
   · refine bsl_int1 fun r w8 hr hz8 hrb hx8 => ?_
     have L1 := L1.ext hx8
     have L4 := L4.ext hx8
     have rw8 := h6.row_new (l := [y]) hr hz8 hrb (by simp)
     refine ⟨ld4 L4,ld1 L1,ld1 L1,?_⟩
     refine kd (h6.ext hx8) fun u s7 eu w7 h7 he7 => ?_
     have L1 := L1.eff he7
     have L4 := L4.eff he7
     refine ⟨ld4 L4,ld1 L1,str u.t,rfl,?_⟩
     simp only [put_int,put_str,put_slice,put_nil,List.length_cons,List.length_nil,List.set_cons_zero,List.set_cons_succ,Nat.reduceAdd,Nat.reduceLT,true_and,Nat.zero_lt_succ]
     obtain ⟨d1,d2,d3,d4,d5⟩ := done eu
     exact fin (e := ⟨10,u.t,[y],[],(cur s2).a⟩) h7 d1 ((he6.x hx8).trans he7) L1 ((rw8.eff he7).le (by omega)) rfl d2 d3 d4 d5
 · have hn' : (takeS (nowS s2) [46]).1 = false := by simpa using hn'
   rw [if_neg (by rw [hn']; decide)] at hpf
   have e6 : (takeS (nowS s2) [46]).2 = nowS s2 := by
     unfold takeS at hn' ⊢
     split
     · rename_i hi; rw [if_pos hi] at hn'; cases hn'
     · exact nowS_idem s2
   rw [e6] at h6
   refine L1.ld rfl ?_
   refine isq_p h6 hgn fun w7 h7 he7 => ?_
   rw [nowS_idem] at h7
   have L1 := L1.eff he7
   have L4 := L4.eff he7
   have he7 := he6.trans he7
   simp only [is_now] at hpf ⊢
   rw [condW_b]
   refine ⟨fun hi => ?_,fun hi => ?_⟩
   · rw [if_pos hi] at hpf
     have hw7 := he7.chg.size
     have lt1 := L1.lt
     have lt4 := L4.lt
     refine alloc_new fun b5 w8 hb5 hz8 hbb8 hx8 => ?_
     have h8 := h7.ext hx8
     have L5 := h7.loc hz8 hb5 hbb8
     have L1 := L1.ext hx8
     have L4 := L4.ext hx8
     refine alloc_new fun b6 w9 hb6 hz9 hbb9 hx9 => ?_
     have h9 := h8.ext hx9
     have L6 := h8.loc hz9 hb6 hbb9
     have L1 := L1.ext hx9
     have L4 := L4.ext hx9
     have L5 := L5.ext hx9
     refine L5.st rfl (by simp) fun w10 L5 hc10 hz10 => ?_
     have h10 := h9.one hc10 L5.2
     have L1 := L1.one hc10 (by omega)
     have L4 := L4.one hc10 (by omega)
     have L6 := L6.one hc10 (by omega)
     refine L6.st rfl (by simp) fun w11 L6 hc11 hz11 => ?_
     have h11 := h10.one hc11 L6.2
     have L1 := L1.one hc11 (by omega)
     have L4 := L4.one hc11 (by omega)
     have L5 := L5.one hc11 (by omega)
     have he11 := (((he7.x hx8).x hx9).one hc10 (by omega)).one hc11 (by omega)
     refine L1.ld rfl ?_
     refine L4.ldf rfl ?_
     have hlev := hgn.lev
     refine within_p h11 (by omega) (fun hd => ht 7 _ (by rw [← hpf,win_bad hd]; rfl)) fun hd w12 h12 he12 => ?_
     obtain ⟨d,rfl⟩ : ∃ d,dl = d + 1 := ⟨dl - 1,by omega⟩
     rw [win_ok hd] at hpf
     obtain ⟨q1,q2,q3,q4⟩ := hg2.sign hi true
     have L1 := L1.eff he12
     have L4 := L4.eff he12
     have L5 := L5.eff he12
     have L6 := L6.eff he12
     have he12 := he11.trans he12
     refine callV_cap' (caps := [.pointer (some ⟨b1,0,none⟩),.pointer (some ⟨b6,0,none⟩),.pointer (some ⟨b5,0,none⟩)]) ?_
     refine W147_ok ?_
     unfold W147
     refine L1.ld rfl ?_
     refine h12.go (wsi q1.ws q1.l) fun w13 h13 he13 hz13 => ?_
     have L1 := L1.eff he13
     have L4 := L4.eff he13
     have L5 := L5.eff he13
     have L6 := L6.eff he13
     have he13 := he12.trans he13
     generalize hq0 : ({ nowS s2 with deep := (nowS s2).deep + 1,quiet := true } : PS) = q0 at *
     have hq0' : ∀ x : PS,x = (⟨(nowS s2).toks,(nowS s2).i,(nowS s2).off,(nowS s2).deep + 1,true,(nowS s2).ex,(nowS s2).bl⟩ : PS) → x = q0 := fun x hx => hx.trans hq0
     have q0p : Syn.phi q0 = Syn.phi (nowS s2) := by rw [← hq0]; rfl
     have q0i : q0.i = (nowS s2).i := by rw [← hq0]
     have q0t : q0.toks = (nowS s2).toks := by rw [← hq0]
     have st0 := step_go q1.ws q3
     rw [q2] at st0
     have sp0 := (phi_go q3).2
     rw [q2] at sp0
     have q4l := q4.lev
     have n1le := hn1.le
     have tg5 := take_go q4.ws [42]
     have tp5 := phi_take (step1 q0) [42]
     have g5 := q4.take [42]
     have tg5t := congrArg List.length tg5.1.toks
     have st0t := congrArg List.length st0.1.toks
     have q0tl := congrArg List.length q0t
     -- behind the closing bracket
     refine JoinW.cut (fun _ w' => ∃ M6 o s6,(((if (takeS (step1 q0) [42]).1 = true then .ok none (takeS (step1 q0) [42]).2 else (E (takeS (step1 q0) [42]).2).bind fun y q1 => .ok (some y) q1) : R (Option Nat)) = .ok o s6) ∧ PR w0 w' p f M6 vt s6 top ∧ Gd N s6 d ∧ Eff p f M M6 w w' ∧ Loc w0 w' p f M6 vt b1 PpT [.pointer (some ⟨p,0,none⟩)] ∧ Loc w0 w' p f M6 vt b4 TkT (tokc (cur s2)) ∧ Loc w0 w' p f M6 vt b6 4 [.bool o.isNone] ∧ Loc w0 w' p f M6 vt b5 IntT [i64 ((o.getD 0 : Nat) : Int)] ∧ s6.i ≥ (step1 q0).i ∧ Syn.phi s6 ≤ Syn.phi (step1 q0) ∧ s6.toks.length = s.toks.length) ?_ ?_
     · refine L1.ld rfl ?_
       refine take_p h13 q4.ws hN q4.l fun w14 h14 he14 => ?_
       have L1 := L1.eff he14
       have L4 := L4.eff he14
       have L5 := L5.eff he14
       have L6 := L6.eff he14
       have he14 := he13.trans he14
       refine L6.st rfl (by simp) fun w15 L6 hc15 hz15 => ?_
       have h15 := h14.one hc15 L6.2
       have L1 := L1.one hc15 (by omega)
       have L4 := L4.one hc15 (by omega)
       have L5 := L5.one hc15 (by omega)
       have he15 := he14.one hc15 (by omega)
       refine L6.ld rfl ?_
       rw [un_not,condW_b]
       refine ⟨fun hns => ?_,fun hsp => ?_⟩
       · have hns : (takeS (step1 q0) [42]).1 = false := by simpa using hns
         rw [hns] at L6
         refine L1.ld rfl ?_
         refine hE d rfl w15 p M2 vt _ top N _ h15 g5 (fun z s6 ez M6 w16 h16 he16 => ?_) fun c a' ez => ht c a' ?_
         · obtain ⟨g6,i6⟩ := g5.e hF ez
           have ep := hF.z (takeS (step1 q0) [42]).2
           have eo := hF.ok N _ g5.ws
           rw [ez] at ep eo
           have eot := congrArg List.length eo.1.1.toks
           have ep : Syn.phi s6 ≤ Syn.phi (takeS (step1 q0) [42]).2 := ep
           have L1 := L1.eff he16
           have L4 := L4.eff he16
           have L5 := L5.eff he16
           have L6 := L6.eff he16
           refine L5.st rfl (by simp) fun w17 L5 hc17 hz17 => ?_
           refine ⟨M6,some z,s6,?_,h16.one hc17 L5.2,g6,(he15.trans he16).one hc17 (by omega),L1.one hc17 (by omega),L4.one hc17 (by omega),L6.one hc17 (by omega),L5,by have := tg5.1.le; omega,by have := tp5.1; omega,by omega⟩
           rw [if_neg (by rw [hns]; decide),ez]; rfl
         · rw [← hpf]
           rw [if_neg (by rw [hns]; decide),ez]; rfl
       · have hsp : (takeS (step1 q0) [42]).1 = true := by simpa using hsp
         rw [hsp] at L6
         exact ⟨M2,none,_,by rw [if_pos hsp],h15,g5,he15,L1,L4,L6,L5,tg5.1.le,tp5.1,by omega⟩
     rintro _ g2 w14 ⟨M6,o,s6,eo,h14,g6,he14,L1,L4,L6,L5,i6,p6,t6⟩
     have hpf2 : ((wantR s6 [93]).bind fun _ q2 => .ok o q2) = (if (takeS (step1 q0) [42]).1 = true then (wantR (takeS (step1 q0) [42]).2 [93]).bind fun _ q2 => .ok none q2 else (E (takeS (step1 q0) [42]).2).bind fun y q1 => (wantR q1 [93]).bind fun _ q2 => .ok (some y) q2) := by
       by_cases hsp : (takeS (step1 q0) [42]).1 = true
       · rw [if_pos hsp] at eo ⊢
         injection eo with e1 e2
         subst e1 e2
         rfl
       · rw [if_neg hsp] at eo ⊢
         cases hez : E (takeS (step1 q0) [42]).2 with
         | err c a => rw [hez] at eo; cases eo
         | ok z s7 =>
           rw [hez] at eo
           simp only [R.bind] at eo
           injection eo with e1 e2
           subst e1 e2
           rfl
     rw [← hpf2] at hpf
     refine L1.ld rfl ?_
     refine want_p h14 g6.ws hN g6.l (fun s7 e7 w15 h15 he15 => ?_) fun c a' e7 => ht c a' (by rw [← hpf,e7]; rfl)
     rw [e7] at hpf
     simp only [R.bind] at hpf
     obtain ⟨g7,i7,_⟩ := g6.want e7
     have w7 := phi_want s6 [93]
     have w7s := want_sat g6.ws [93]
     rw [e7] at w7 w7s
     have w7 : Syn.phi s7 + 1 ≤ Syn.phi s6 := w7
     have w7t := congrArg List.length w7s.1.1.toks
     have g7l := g7.lev
     have L1 := L1.eff he15
     have L4 := L4.eff he15
     have L5 := L5.eff he15
     have L6 := L6.eff he15
     have he15 := he14.trans he15
     refine ⟨M6,s7,h15,by omega,fun w16 h16 he16 => ?_⟩
     have L1 := L1.eff he16
     have L4 := L4.eff he16
     have L5 := L5.eff he16
     have L6 := L6.eff he16
     have he16 := he15.trans he16
     have g8 : Gd N { s7 with deep := (nowS s2).deep,quiet := (nowS s2).quiet } (d + 1) := hgn.back g7
     have st1i : (step1 q0).i = (nowS s2).i + 1 := by show q0.i + 1 = _; rw [q0i]
     refine L6.ld rfl ?_
     rw [un_not,condW_b]
     cases o with
     | some z =>
       refine ⟨fun _ => ?_,fun e => by cases e⟩
       simp only at hpf
       refine L1.ld rfl ?_
       refine L5.ld rfl ?_
       have hz1' : w1.heap.size ≤ w16.heap.size := by have := L1.lt; omega
       refine bsl_int2 fun r w17 hr hz17 hrb hx17 => ?_
       refine (L4.ext hx17).ldf rfl ?_
       simp only [put_int,put_str,put_slice,put_nil,List.length_cons,List.length_nil,List.set_cons_zero,List.set_cons_succ,Nat.reduceAdd,Nat.reduceLT,true_and,Nat.zero_lt_succ]
       refine fin (e := ⟨11,[],[y,z],[],(cur s2).a⟩) (h16.ext hx17) g8 (he16.x hx17) (L1.ext hx17) ((h16.row_new (l := [y,z]) hr hz17 hrb (by simp)).le hz1') rfl ?_ ?_ ?_ hpf
       · show s2.i < s7.i; omega
       · show Syn.phi s7 + 1 ≤ _; omega
       · show s7.toks.length = _; omega
     | none =>
       refine ⟨fun e => (by cases e),fun _ => ?_⟩
       simp only at hpf
       refine L1.ld rfl ?_
       refine want_p h16 g8.ws hN g8.l (fun s9 e9 w17 h17 he17 => ?_) fun c a' e9 => ht c a' (by rw [← hpf,e9])
       rw [e9] at hpf
       simp only [R.bind] at hpf
       obtain ⟨g9,i9,_⟩ := g8.want e9
       generalize hs8 : ({ s7 with deep := (nowS s2).deep,quiet := (nowS s2).quiet } : PS) = s8 at *
       have s8p : Syn.phi s8 = Syn.phi s7 := by rw [← hs8]; rfl
       have s8i : s8.i = s7.i := by rw [← hs8]
       have s8t : s8.toks = s7.toks := by rw [← hs8]
       have s8t := congrArg List.length s8t
       have w9 := phi_want s8 [46]
       have w9s := want_sat g8.ws [46]
       rw [e9] at w9 w9s
       have w9 : Syn.phi s9 + 1 ≤ Syn.phi s8 := w9
       have w9t := congrArg List.length w9s.1.1.toks
       have L1 := (L1.eff he17).drew
       have L4 := (L4.eff he17).drew
       have h17 := h17.drew
       have he17' := (he16.trans he17).x (ext_drew w17)
       have hz1' : w1.heap.size ≤ w17.drew.heap.size := by have := L1.lt; omega
       have ld1 : ∀ {w' : World} {M' : Lay},Loc w0 w' p f M' vt b1 PpT [.pointer (some ⟨p,0,none⟩)] → ldW false 1 (.pointer (some ⟨b1,0,none⟩)) w' fun x => x = .pointer (some ⟨p,0,none⟩) := fun L => L.ld rfl rfl
       have ld4 : ∀ {w' : World} {M' : Lay},Loc w0 w' p f M' vt b4 TkT (tokc (cur s2)) → ldW false 1 (.pointer (some ⟨b4,2,none⟩)) w' fun x => x = i64 (cur s2).a := fun L => L.ld rfl rfl
       refine L1.ld rfl ?_
       refine L1.ld rfl ?_
       rw [fld_ptr,add_mk,Nat.zero_add]
       refine L4.ld rfl ?_
       have kd : ∀ {w' : World} {KK : Value → World → Prop},PR w0 w' p f M6 vt s9 top → (∀ u s7,kindR s9 1 = .ok u s7 → ∀ w'',PR w0 w'' p f M6 vt s7 top → Eff p f M6 M6 w' w'' → KK (.agg (tokc u).toArray) w'') → callF Tryz.prog 39 [.pointer (some ⟨p,0,none⟩),.int .i64 1] w' KK := fun {w' KK} h hKK =>
         kind_p h g9.ws hN g9.l hKK fun c a' eu => ht c a' (by rw [← hpf,eu])
       have done : ∀ {u : Tok} {sa : PS},kindR s9 1 = .ok u sa → Gd N sa (d + 1) ∧ s2.i < sa.i ∧ Syn.phi sa + 1 ≤ Syn.phi s2 ∧ sa.toks.length = s.toks.length ∧ ((putR sa ⟨30,u.t,[y],[],(cur s2).a⟩).bind fun y s3 => postF E n s3 y) = R0 := fun {u sa} eu => by
         have hk := g9.kind (by decide) eu
         have hks := kind_sat g9.ws 1 (by decide)
         have hkp := phi_kind s9 1
         rw [eu] at hks hkp hpf
         have hkt := congrArg List.length hks.1.1.toks
         have hkp := hkp.1
         exact ⟨hk.1,by have := hk.2.1; omega,by omega,by omega,hpf⟩
       refine ⟨?_,?_,?_,?_,?_,?_⟩
       · refine kd h17 fun u sa eu wa ha hea => ?_
         have L1 := L1.eff hea
         have L4 := L4.eff hea
         refine ⟨ld4 L4,ld1 L1,str u.t,rfl,ld4 L4,ld1 L1,?_⟩
         refine bsl_int1 fun r wb hr hzb hrb hxb => ?_
         refine ⟨ld4 (L4.ext hxb),ld1 (L1.ext hxb),?_⟩
         simp only [put_int,put_str,put_slice,put_nil,List.length_cons,List.length_nil,List.set_cons_zero,List.set_cons_succ,Nat.reduceAdd,Nat.reduceLT,true_and,Nat.zero_lt_succ]
         obtain ⟨d1,d2,d3,d4,d5⟩ := done eu
         exact fin (e := ⟨30,u.t,[y],[],(cur s2).a⟩) (ha.ext hxb) d1 ((he17'.trans hea).x hxb) (L1.ext hxb) ((ha.row_new (l := [y]) hr hzb hrb (by simp)).le (by have := hea.chg.size; omega)) rfl d2 d3 d4 d5
       · exact ld4 L4
       · exact ld1 L1
       · exact ld1 L1
       · refine kd h17 fun u sa eu wa ha hea => ?_
         have L1 := L1.eff hea
         have L4 := L4.eff hea
         refine ⟨ld4 L4,ld1 L1,str u.t,rfl,?_⟩
         refine bsl_int1 fun r wb hr hzb hrb hxb => ?_
         refine ⟨ld4 (L4.ext hxb),ld1 (L1.ext hxb),?_⟩
         simp only [put_int,put_str,put_slice,put_nil,List.length_cons,List.length_nil,List.set_cons_zero,List.set_cons_succ,Nat.reduceAdd,Nat.reduceLT,true_and,Nat.zero_lt_succ]
         obtain ⟨d1,d2,d3,d4,d5⟩ := done eu
         exact fin (e := ⟨30,u.t,[y],[],(cur s2).a⟩) (ha.ext hxb) d1 ((he17'.trans hea).x hxb) (L1.ext hxb) ((ha.row_new (l := [y]) hr hzb hrb (by simp)).le (by have := hea.chg.size; omega)) rfl d2 d3 d4 d5
       · refine bsl_int1 fun r wb hr hzb hrb hxb => ?_
         have L1 := L1.ext hxb
         have L4 := L4.ext hxb
         have rwb := h17.row_new (l := [y]) hr hzb hrb (by simp)
         refine ⟨ld4 L4,ld1 L1,ld1 L1,?_⟩
         refine kd (h17.ext hxb) fun u sa eu wa ha hea => ?_
         have L1 := L1.eff hea
         have L4 := L4.eff hea
         refine ⟨ld4 L4,ld1 L1,str u.t,rfl,?_⟩
         simp only [put_int,put_str,put_slice,put_nil,List.length_cons,List.length_nil,List.set_cons_zero,List.set_cons_succ,Nat.reduceAdd,Nat.reduceLT,true_and,Nat.zero_lt_succ]
         obtain ⟨d1,d2,d3,d4,d5⟩ := done eu
         exact fin (e := ⟨30,u.t,[y],[],(cur s2).a⟩) ha d1 ((he17'.x hxb).trans hea) L1 ((rwb.eff hea).le (by omega)) rfl d2 d3 d4 d5
   · have hi : isS s2 [91] = false := by simpa using hi
     rw [if_neg (by rw [hi]; decide)] at hpf
     exact hK y _ hpf.symm M2 w7 h7 he7
end
end Go.Proofs.YtofhaneggcpdaaaGreatDoor
namespace Go.Proofs.YtofhaneggcpdaaaGreatDoor
open Go Go.Eng Go.RowKit Go.Syn Go.Lex
set_option maxRecDepth 100000
section
variable [HX]
variable {w0 w w' w1 : World} {p f b : Nat} {M M' M0 : Lay} {vt : Value} {s : PS} {top : List Nat} {N : Int} {K : Value → World → Prop} {e : Ex} {va vk : Value} {wbn : Nat} {wb : World} {dl : Nat}
theorem sign_p {E S : PS → R Nat} (hS : ScanC w0 f) (hE : ∀ d,dl = d + 1 → EC w0 f 81 E d) (hG : ∀ d,dl = d + 1 → EC w0 f 131 S d) (hF : Fine E) (hFS : Fine S) : EC w0 f 131 (signR E S) dl := by
 intro w p M vt s top N K h hg hK ht
 refine W131_ok ?_
 unfold W131
 have hN := hg.hN
 refine box_one rfl fun b1 w1 hb1 hz1 hbb1 hx1 => ?_
 have h1 := h.ext hx1
 have L1 := h.loc hz1 hb1 hbb1
 refine L1.ld rfl ?_
 refine now_p h1 hg.ws hN hg.l fun w2 h2 he2 => ?_
 have L1 := L1.eff he2
 have he2 := (Eff.ext hx1).trans he2
 have lt1 := L1.lt
 have hgn := hg.now
 refine alloc_new fun b3 w3 hb3 hz3 hbb3 hx3 => ?_
 have h3 := h2.ext hx3
 have L3 := h2.loc hz3 hb3 hbb3
 have L1 := L1.ext hx3
 refine st_agg_at (l := tokc (cur s)) L3.1 rfl rfl rfl fun w4 hz4 hbb4 hc4 => ?_
 have L3 : Loc w0 w4 p f M vt b3 TkT (tokc (cur s)) := ⟨hbb4,L3.2.up (by omega)⟩
 have h4 := h3.one hc4 L3.2
 have L1 := L1.one hc4 (by omega)
 have hw2 := he2.chg.size
 have he4 := (he2.x hx3).one hc4 (by omega)
 refine JoinW.cut (fun st w' => ∃ (k : Int) (x : Str),st = [i64 k] ∧ isS s x = true ∧ signR E S s = ((within (nowS s) (cur s).a (nowS s).quiet fun q => S (step1 q)).bind fun x s2 => putR s2 ⟨k,[],[x],[],(cur s).a⟩) ∧ PR w0 w' p f M vt (nowS s) top ∧ Eff p f M M w w' ∧ Loc w0 w' p f M vt b1 PpT [.pointer (some ⟨p,0,none⟩)] ∧ Loc w0 w' p f M vt b3 TkT (tokc (cur s))) ?_ ?_
 · unfold signR at hK ht ⊢
   simp only [is_now] at hK ht ⊢
   refine L1.ld rfl ?_
   refine isq_p h4 hgn fun w5 h5 he5 => ?_
   rw [nowS_idem] at h5
   have L1 := L1.eff he5
   have L3 := L3.eff he5
   have he5 := he4.trans he5
   rw [is_now,condW_b]
   refine ⟨fun hi => ⟨14,[33],rfl,hi,by rw [if_pos hi],h5,he5,L1,L3⟩,fun hi => ?_⟩
   rw [if_neg (by rw [hi]; decide)] at hK ht ⊢
   refine L1.ld rfl ?_
   refine isq_p h5 hgn fun w6 h6 he6 => ?_
   rw [nowS_idem] at h6
   have L1 := L1.eff he6
   have L3 := L3.eff he6
   have he6 := he5.trans he6
   rw [is_now,condW_b]
   refine ⟨fun hi => ⟨13,[45],rfl,hi,by rw [if_pos hi],h6,he6,L1,L3⟩,fun hi => ?_⟩
   rw [if_neg (by rw [hi]; decide)] at hK ht
   refine L1.ld rfl ?_
   exact post_p hS hE hF w6 p M vt _ top N _ h6 hgn (fun x s' ex M' w7 h7 he7 => hK x s' ex M' w7 h7 (he6.trans he7)) ht
 rintro st g w5 ⟨k,x,rfl,hi,es,h5,he5,L1,L3⟩
 rw [es] at hK ht
 simp only [List.getD_cons_zero]
 have hw5 := he5.chg.size
 have lt1 := L1.lt
 have lt3 := L3.lt
 refine alloc_new fun b5 w6 hb5 hz6 hbb6 hx6 => ?_
 have h6 := h5.ext hx6
 have L5 := h5.loc hz6 hb5 hbb6
 have L1 := L1.ext hx6
 have L3 := L3.ext hx6
 refine L5.st rfl (by simp) fun w7 L5 hc7 hz7 => ?_
 have h7 := (h6.one hc7 L5.2).drew
 have L1 := (L1.one hc7 (by omega)).drew
 have L3 := (L3.one hc7 (by omega)).drew
 have L5 := L5.drew
 have he7 := ((he5.x hx6).one hc7 (by omega)).x (ext_drew w7)
 refine L1.ld rfl ?_
 rw [fld_ptr,add_mk,Nat.zero_add]
 refine L3.ld rfl ?_
 refine L1.ld rfl ?_
 refine h7.ld rfl ?_
 have hlev := hgn.lev
 refine within_p h7 (by omega) (fun hd => ht 7 _ (by rw [win_bad hd]; rfl)) fun hd w8 h8 he8 => ?_
 obtain ⟨d,rfl⟩ : ∃ d,dl = d + 1 := ⟨dl - 1,by omega⟩
 rw [win_ok hd] at hK ht
 obtain ⟨q1,q2,q3,q4⟩ := hg.sign hi (nowS s).quiet
 have L1 := L1.eff he8
 have L3 := L3.eff he8
 have L5 := L5.eff he8
 have he8 := he7.trans he8
 refine callV_cap' (caps := [.pointer (some ⟨b1,0,none⟩),.pointer (some ⟨b5,0,none⟩)]) ?_
 refine W141_ok ?_
 unfold W141
 refine L1.ld rfl ?_
 refine h8.go (wsi q1.ws q1.l) fun w9 h9 he9 hz9 => ?_
 have L1 := L1.eff he9
 have L3 := L3.eff he9
 have L5 := L5.eff he9
 have he9 := he8.trans he9
 refine L1.ld rfl ?_
 refine hG d rfl w9 p M vt _ top N _ h9 q4 (fun y s' ey M' w10 h10 he10 => ?_) fun c a' ey => ht c a' (by rw [ey]; rfl)
 obtain ⟨g10,_⟩ := q4.e hFS ey
 have pz := hFS.z (step1 { nowS s with deep := (nowS s).deep + 1,quiet := (nowS s).quiet })
 rw [ey] at hK pz
 have pz : Syn.phi s' ≤ Syn.phi (step1 (⟨(nowS s).toks,(nowS s).i,(nowS s).off,(nowS s).deep + 1,(nowS s).quiet,(nowS s).ex,(nowS s).bl⟩ : PS)) := pz
 have ps := (phi_go q3).2
 rw [q2] at ps
 have pn := phi_now s
 have pe : Syn.phi (⟨(nowS s).toks,(nowS s).i,(nowS s).off,(nowS s).deep + 1,(nowS s).quiet,(nowS s).ex,(nowS s).bl⟩ : PS) = Syn.phi (nowS s) := rfl
 simp only [R.bind] at hK
 have L1 := L1.eff he10
 have L3 := L3.eff he10
 have L5 := L5.eff he10
 have he10 := he9.trans he10
 refine L5.st rfl (by simp) fun w11 L5 hc11 hz11 => ?_
 have h11 := h10.one hc11 L5.2
 have L1 := L1.one hc11 (by omega)
 have L3 := L3.one hc11 (by omega)
 have he11 := he10.one hc11 (by omega)
 have g10l := g10.lev
 refine ⟨M',s',h11,by omega,fun w12 h12 he12 => ?_⟩
 have L1 := L1.eff he12
 have L3 := L3.eff he12
 have L5 := L5.eff he12
 have he12 := he11.trans he12
 refine L1.ld rfl ?_
 refine L5.ld rfl ?_
 refine bsl_int1 fun r w13 hr hz13 hrb hx13 => ?_
 refine (L3.ext hx13).ldf rfl ?_
 simp only [put_int,put_str,put_slice,put_nil,List.length_cons,List.length_nil,List.set_cons_zero,List.set_cons_succ,Nat.reduceAdd,Nat.reduceLT,true_and,Nat.zero_lt_succ]
 have hg12 := hgn.back (q := (nowS s).quiet) g10
 refine put_e (e := ⟨k,[],[y],[],(cur s).a⟩) (h12.ext hx13) (he12.x hx13) (ER.noK rfl ((h12.row_new (l := [y]) hr hz13 hrb (by simp)).le he12.chg.size)) hg12 fun M2 w14 h14 he14 _ => ?_
 exact hK _ _ rfl M2 w14 h14 he14
theorem joined_p {E S : PS → R Nat} (hS : ScanC w0 f) (hE : ∀ d,dl = d + 1 → EC w0 f 81 E d) (hG : ∀ d,dl = d + 1 → EC w0 f 131 S d) (hF : Fine E) (hFS : Fine S) : ∀ (m : Nat),m ≤ 6 → ∀ (w : World) (p : Nat) (M : Lay) (vt : Value) (s : PS) (top : List Nat) (N : Int) (K : Value → World → Prop),PR w0 w p f M vt s top → Gd N s dl →
   (∀ x s',joinU E S m s = .ok x s' → ∀ M' w',PR w0 w' p f M' vt s' top → Eff p f M M' w w' → K (i64 (x : Nat)) w') → (∀ c a,joinU E S m s = .err c a → Thr w0 f c a) → callF Tryz.prog 104 [.pointer (some ⟨p,0,none⟩),i64 ((6 - m : Nat) : Int)] w K
 | 0,_,w,p,M,vt,s,top,N,K,h,hg,hK,ht => by
   refine W104_ok ?_
   unfold W104
   rw [bin_eql,condW_dec]
   refine ⟨fun _ => ?_,fun e => absurd rfl e⟩
   exact sign_p hS hE hG hF hFS w p M vt s top N _ h hg hK ht
 | m + 1,hm,w,p,M,vt,s,top,N,K,h,hg,hK,ht => by
   refine W104_ok ?_
   unfold W104
   have hN := hg.hN
   have hJ : Fine (joinU E S m) := ⟨fun N => joinU_sat (hF.ok N) (hFS.ok N) m,phi_joinU hF.z hFS.z m⟩
   simp only [joinU] at hK ht
   rw [bin_eql,condW_dec]
   refine ⟨fun e => by omega,fun _ => ?_⟩
   have up : ∀ {KK : Value → Prop},KK (i64 ((6 - m : Nat) : Int)) → binW .add (i64 ((6 - (m + 1) : Nat) : Int)) (.int .i64 1) KK := fun h => by
     rw [bin_add,wrap_id (by omega) (by omega),show ((6 - (m + 1) : Nat) : Int) + 1 = ((6 - m : Nat) : Int) by omega]; exact h
   refine up ?_
   refine joined_p hS hE hG hF hFS m (by omega) w p M vt s top N _ h hg (fun x s1 ex M1 w2 h2 he2 => ?_) fun c a' ex => ht c a' (by rw [ex]; rfl)
   rw [ex] at hK ht
   simp only [R.bind] at hK ht
   obtain ⟨hg1,hi1⟩ := hg.e hJ ex
   have etl := (hJ.ok N) s hg.ws
   rw [ex] at etl
   have etl := congrArg List.length etl.1.1.toks
   generalize hR : joinF (joinU E S m) (5 - m) (s.toks.length + 1) s1 x = R0 at hK ht
   refine LoopW.go (fun st w' => ∃ s1 M1 x n,st = [i64 ((x : Nat) : Int)] ∧ PR w0 w' p f M1 vt s1 top ∧ Gd N s1 dl ∧ Eff p f M M1 w w' ∧ joinF (joinU E S m) (5 - m) n s1 x = R0 ∧ s1.toks.length < n + s1.i ∧ s1.toks.length = s.toks.length) (fun _ w' => s.toks.length - psAt w' p)
     ⟨s1,M1,x,s.toks.length + 1,rfl,h2,hg1,he2,hR,by have := hg1.ws.lt; omega,etl⟩ ?_
   clear he2 h2 ex hg1 hi1 etl hR
   rintro st g w2 ⟨s2,M2,y,n,rfl,h2,hg2,he2,hpf,hn,htl⟩
   simp only [List.getD_cons_zero]
   have hlt2 := hg2.ws.lt
   obtain ⟨n,rfl⟩ : ∃ m,n = m + 1 := ⟨n - 1,by omega⟩
   simp only [joinF] at hpf
   refine now_p h2 hg2.ws hN hg2.l fun w3 h3 he3 => ?_
   have he3 := he2.trans he3
   have hw3 := he3.chg.size
   have hgn := hg2.now
   refine alloc_new fun b6 w4 hb6 hz4 hbb4 hx4 => ?_
   have h4 := h3.ext hx4
   have L6 := h3.loc hz4 hb6 hbb4
   refine st_agg_at (l := tokc (cur s2)) L6.1 rfl rfl rfl fun w5 hz5 hbb5 hc5 => ?_
   have L6 : Loc w0 w5 p f M2 vt b6 TkT (tokc (cur s2)) := ⟨hbb5,L6.2.up (by omega)⟩
   have h5 := h4.one hc5 L6.2
   have he5 := (he3.x hx4).one hc5 (by omega)
   refine ld_all L6.1 rfl ?_
   refine level_p (by omega) fun w6 hx6 => ?_
   have h6 := h5.ext hx6
   have L6 := L6.ext hx6
   have he6 := he5.x hx6
   have en : (6 - (m + 1) : Nat) = 5 - m := by omega
   rw [en,bin_eql,condW_dec]
   refine ⟨fun h0 => ?_,fun h0 => ?_⟩
   · rw [if_pos h0] at hpf
     exact hK y _ hpf.symm M2 w6 h6 he6
   · rw [if_neg h0] at hpf
     have hk0 : (cur s2).k ≠ 0 := fun e => h0 (by unfold levelK; rw [e]; rfl)
     have hgs := hg2.step hk0
     have sg := step_go hg2.ws hk0
     have sp := (phi_go hk0).2
     refine h6.go (wsi hgn.ws hgn.l) fun w7 h7 he7 hz7 => ?_
     have L6 := L6.eff he7
     have he7 := he6.trans he7
     have up2 : ∀ {KK : Value → Prop},KK (i64 ((6 - m : Nat) : Int)) → binW .add (i64 ((5 - m : Nat) : Int)) (.int .i64 1) KK := fun h => by
       rw [← en]; exact up h
     refine up2 ?_
     refine joined_p hS hE hG hF hFS m (by omega) w7 p M2 vt _ top N _ h7 hgs (fun z s3 ez M3 w8 h8 he8 => ?_) fun c a' ez => ht c a' (by rw [← hpf,ez]; rfl)
     obtain ⟨g8,i8⟩ := hgs.e hJ ez
     have pz := hJ.z (step1 (nowS s2))
     have oz := hJ.ok N _ hgs.ws
     rw [ez] at hpf pz oz
     have pz : Syn.phi s3 ≤ Syn.phi (step1 (nowS s2)) := pz
     have tz := congrArg List.length oz.1.1.toks
     have tz2 := congrArg List.length sg.1.toks
     simp only [R.bind] at hpf
     have L6 := L6.eff he8
     have he8 := he7.trans he8
     have hw8 := he8.chg.size
     refine bsl_int2 fun r w9 hr hz9 hrb hx9 => ?_
     refine (L6.ext hx9).ldf rfl ?_
     simp only [put_int,put_str,put_slice,put_nil,List.length_cons,List.length_nil,List.set_cons_zero,List.set_cons_succ,Nat.reduceAdd,Nat.reduceLT,true_and,Nat.zero_lt_succ]
     refine put_e (e := ⟨levelK (cur s2) (5 - m),[],[y,z],[],(cur s2).a⟩) (h8.ext hx9) (he8.x hx9) (ER.noK rfl ((h8.row_new (l := [y,z]) hr hz9 hrb (by simp)).le hw8)) g8 fun M4 w10 h10 he10 _ => ?_
     have hlt8 := g8.ws.lt
     have hph := hg2.phi
     refine ⟨⟨_,M4,_,n,rfl,h10,g8.put (by omega),he10,hpf,by show s3.toks.length < n + s3.i; omega,by show s3.toks.length = _; omega⟩,?_⟩
     rw [h10.at_,h2.at_]
     show s.toks.length - s3.i < _
     have := sg.2
     omega
end
end Go.Proofs.YtofhaneggcpdaaaGreatDoor
namespace Go.Proofs.YtofhaneggcpdaaaGreatDoor
open Go Go.Eng Go.RowKit Go.Syn Go.Lex
set_option maxRecDepth 100000
theorem take_now (s : PS) (w : Str) : takeS (nowS s) w = takeS s w := by unfold takeS; rw [is_now,nowS_idem]
section
variable [HX]
variable {w0 w w' w1 : World} {p f b : Nat} {M M' M0 : Lay} {vt : Value} {s : PS} {top : List Nat} {N : Int} {K : Value → World → Prop} {e : Ex} {va vk : Value} {wbn : Nat} {wb : World} {dl : Nat}
theorem expr_p {E S : PS → R Nat} (hS : ScanC w0 f) (hE : ∀ d,dl = d + 1 → EC w0 f 81 E d) (hG : ∀ d,dl = d + 1 → EC w0 f 131 S d) (hF : Fine E) (hFS : Fine S) : EC w0 f 81 (exprR E S) dl := by
 intro w p M vt s top N K h hg hK ht
 refine W81_ok ?_
 unfold W81
 have hN := hg.hN
 have hJ : Fine (joinU E S 6) := ⟨fun N => joinU_sat (hF.ok N) (hFS.ok N) 6,phi_joinU hF.z hFS.z 6⟩
 refine box_one rfl fun b1 w1 hb1 hz1 hbb1 hx1 => ?_
 have h1 := h.ext hx1
 have L1 := h.loc hz1 hb1 hbb1
 refine L1.ld rfl ?_
 unfold exprR at hK ht
 refine joined_p hS hE hG hF hFS 6 (Nat.le_refl _) w1 p M vt s top N _ h1 hg (fun a s1 ea M1 w2 h2 he2 => ?_) fun c a' ea => ht c a' (by rw [ea]; rfl)
 rw [ea] at hK ht
 simp only [R.bind] at hK ht
 obtain ⟨hg1,hi1⟩ := hg.e hJ ea
 have L1 := L1.eff he2
 have he2 := (Eff.ext hx1).trans he2
 refine L1.ld rfl ?_
 refine now_p h2 hg1.ws hN hg1.l fun w3 h3 he3 => ?_
 have L1 := L1.eff he3
 have he3 := he2.trans he3
 have lt1 := L1.lt
 have hw3 := he3.chg.size
 have hgn := hg1.now
 refine alloc_new fun b4 w4 hb4 hz4 hbb4 hx4 => ?_
 have h4 := h3.ext hx4
 have L4 := h3.loc hz4 hb4 hbb4
 have L1 := L1.ext hx4
 refine st_agg_at (l := tokc (cur s1)) L4.1 rfl rfl rfl fun w5 hz5 hbb5 hc5 => ?_
 have L4 : Loc w0 w5 p f M1 vt b4 TkT (tokc (cur s1)) := ⟨hbb5,L4.2.up (by omega)⟩
 have h5 := h4.one hc5 L4.2
 have L1 := L1.one hc5 (by omega)
 have he5 := (he3.x hx4).one hc5 (by omega)
 refine L1.ld rfl ?_
 refine take_p h5 hgn.ws hN hgn.l fun w6 h6 he6 => ?_
 rw [take_now] at h6 ⊢
 have L1 := L1.eff he6
 have L4 := L4.eff he6
 have he6 := he5.trans he6
 rw [un_not,condW_b]
 refine ⟨fun hn => ?_,fun hy => ?_⟩
 · have hn : (takeS s1 [63]).1 = false := by simpa using hn
   rw [if_neg (by rw [hn]; decide)] at hK
   exact hK a _ rfl M1 w6 h6 he6
 have hy : (takeS s1 [63]).1 = true := by simpa using hy
 rw [if_pos hy] at hK ht
 have hgt := hg1.take [63]
 have tp := (phi_take s1 [63]).2 hy
 generalize hs2 : (takeS s1 [63]).2 = s2 at *
 have lt1 := L1.lt
 have lt4 := L4.lt
 have hw6 := he6.chg.size
 refine bsl_int3 fun r w7 hr hz7 hrb hx7 => ?_
 have h7 := h6.ext hx7
 have Lr := h6.loc hz7 hr hrb
 have L1 := L1.ext hx7
 have L4 := L4.ext hx7
 refine alloc_new fun b5 w8 hb5 hz8 hbb8 hx8 => ?_
 have h8 := h7.ext hx8
 have L5 := h7.loc hz8 hb5 hbb8
 have L1 := L1.ext hx8
 have L4 := L4.ext hx8
 have Lr := Lr.ext hx8
 refine L5.st rfl (by simp) fun w9 L5 hc9 hz9 => ?_
 have h9 := (h8.one hc9 L5.2).drew
 have L1 := (L1.one hc9 (by omega)).drew
 have L4 := (L4.one hc9 (by omega)).drew
 have Lr := (Lr.one hc9 (by omega)).drew
 have L5 := L5.drew
 have he9 := (((he6.x hx7).x hx8).one hc9 (by omega)).x (ext_drew w9)
 refine L1.ld rfl ?_
 rw [fld_ptr,add_mk,Nat.zero_add]
 refine L4.ld rfl ?_
 refine L1.ld rfl ?_
 refine h9.ld rfl ?_
 have hlev := hgt.lev
 refine within_p h9 (by omega) (fun hd => ht 7 _ (by rw [win_bad hd])) fun hd w10 h10 he10 => ?_
 obtain ⟨d,rfl⟩ : ∃ d,dl = d + 1 := ⟨dl - 1,by omega⟩
 rw [win_ok hd] at hK ht
 have q1 := hgt.frame s2.quiet
 have L1 := L1.eff he10
 have L4 := L4.eff he10
 have Lr := Lr.eff he10
 have L5 := L5.eff he10
 have he10 := he9.trans he10
 refine callV_cap' (caps := [.pointer (some ⟨b1,0,none⟩),.pointer (some ⟨b5,0,none⟩)]) ?_
 refine W105_ok ?_
 unfold W105
 have L1 := L1.drew
 have L4 := L4.drew
 have Lr := Lr.drew
 have L5 := L5.drew
 have h10 := h10.drew
 have he10 := he10.x (ext_drew w10)
 refine L5.ld rfl ?_
 refine L1.ld rfl ?_
 refine hE d rfl w10.drew p M1 vt _ top N _ h10 q1 (fun x s3 ex M3 w11 h11 he11 => ?_) fun c a' ex => ht c a' (by rw [ex]; rfl)
 obtain ⟨g3,_⟩ := q1.e hF ex
 have px := hF.z { s2 with deep := s2.deep + 1,quiet := s2.quiet }
 rw [ex] at hK ht px
 have px : Syn.phi s3 ≤ Syn.phi s2 := px
 simp only [R.bind] at hK ht
 have L1 := L1.eff he11
 have L4 := L4.eff he11
 have Lr := Lr.eff he11
 have L5 := L5.eff he11
 have he11 := he10.trans he11
 refine ⟨L5.ld rfl rfl,?_⟩
 rw [ixa_slice]
 refine ⟨by omega,by omega,?_⟩
 rw [add_mk,Nat.zero_add]
 refine Lr.st (off := 1) rfl (by simp) fun w12 Lr hc12 hz12 => ?_
 have h12 := h11.one hc12 Lr.2
 have L1 := L1.one hc12 (by omega)
 have L4 := L4.one hc12 (by omega)
 have L5 := L5.one hc12 (by omega)
 have he12 := he11.one hc12 (by omega)
 refine L1.ld rfl ?_
 refine want_p h12 g3.ws hN g3.l (fun s4 e4 w13 h13 he13 => ?_) fun c a' e4 => ht c a' (by rw [e4])
 have pw := phi_want s3 [58]
 rw [e4] at hK ht pw
 have pw : Syn.phi s4 + 1 ≤ Syn.phi s3 := pw
 simp only at hK ht
 obtain ⟨g4,_⟩ := g3.want e4
 have L1 := (L1.eff he13).drew
 have L4 := (L4.eff he13).drew
 have Lr := (Lr.eff he13).drew
 have L5 := (L5.eff he13).drew
 have h13 := h13.drew
 have he13 := (he12.trans he13).x (ext_drew w13)
 refine L5.ld rfl ?_
 refine L1.ld rfl ?_
 refine hE d rfl w13.drew p M3 vt _ top N _ h13 g4 (fun y s5 ey M5 w14 h14 he14 => ?_) fun c a' ey => ht c a' (by rw [ey])
 obtain ⟨g5,_⟩ := g4.e hF ey
 have py := hF.z s4
 rw [ey] at hK py
 have py : Syn.phi s5 ≤ Syn.phi s4 := py
 simp only at hK
 have L1 := L1.eff he14
 have L4 := L4.eff he14
 have Lr := Lr.eff he14
 have L5 := L5.eff he14
 have he14 := he13.trans he14
 refine ⟨L5.ld rfl rfl,?_⟩
 rw [ixa_slice]
 refine ⟨by omega,by omega,?_⟩
 rw [add_mk,Nat.zero_add]
 refine Lr.st (off := 2) rfl (by simp) fun w15 Lr hc15 hz15 => ?_
 have h15 := h14.one hc15 Lr.2
 have L1 := L1.one hc15 (by omega)
 have L4 := L4.one hc15 (by omega)
 have L5 := L5.one hc15 (by omega)
 have he15 := he14.one hc15 (by omega)
 have g5l := g5.lev
 refine ⟨M5,s5,h15,by omega,fun w16 h16 he16 => ?_⟩
 have L1 := L1.eff he16
 have L4 := L4.eff he16
 have Lr := Lr.eff he16
 have L5 := L5.eff he16
 have he16 := he15.trans he16
 refine L1.ld rfl ?_
 refine L5.ld rfl ?_
 refine L4.ldf rfl ?_
 simp only [put_int,put_str,put_slice,put_nil,List.length_cons,List.length_nil,List.set_cons_zero,List.set_cons_succ,Nat.reduceAdd,Nat.reduceLT,true_and,Nat.zero_lt_succ]
 have g16 := hgt.back (q := s2.quiet) g5
 have hR : Ro w0 w16 p f M5 vt w.heap.size IntT 1 (.slice (some ⟨r,0,none⟩) 3 3) 3 (ints [a,x,y]) :=
   ⟨own_of (cs := ints [a,x,y]) Lr.1 Lr.2.1.1 rfl (by omega),fun k hk => by simp only [Value.ownBlock,Option.some.injEq] at hk; subst hk; exact Lr.2,fun k hk => by simp only [Value.ownBlock,Option.some.injEq] at hk; omega⟩
 refine put_e (e := ⟨28,[],[a,x,y],[],(cur s1).a⟩) h16 he16 (ER.noK rfl hR) g16 fun M6 w17 h17 he17 _ => ?_
 exact hK _ _ rfl M6 w17 h17 he17
theorem fine_dead : Fine dead := ⟨dead_ok,dead_z⟩
theorem fine_exprD (d : Nat) : Fine (exprD d).1 ∧ Fine (exprD d).2 := ⟨⟨fun N => (exprD_ok N d).1,(exprD_z d).1⟩,⟨fun N => (exprD_ok N d).2,(exprD_z d).2⟩⟩
theorem exprD_p (hS : ScanC w0 f) : ∀ dl,EC w0 f 81 (exprD dl).1 dl ∧ EC w0 f 131 (exprD dl).2 dl
 | 0 => ⟨expr_p hS (fun d e => by omega) (fun d e => by omega) fine_dead fine_dead,sign_p hS (fun d e => by omega) (fun d e => by omega) fine_dead fine_dead⟩
 | d + 1 => by
   have ih := exprD_p hS d
   have hf := fine_exprD d
   have hE : ∀ d',d + 1 = d' + 1 → EC w0 f 81 (exprD d).1 d' := fun d' e => by
     have e : d' = d := by omega
     subst e; exact ih.1
   have hG : ∀ d',d + 1 = d' + 1 → EC w0 f 131 (exprD d).2 d' := fun d' e => by
     have e : d' = d := by omega
     subst e; exact ih.2
   exact ⟨expr_p hS hE hG hf.1 hf.2,sign_p hS hE hG hf.1 hf.2⟩
end
end Go.Proofs.YtofhaneggcpdaaaGreatDoor
namespace Go.Syn
open Go Go.Eng Go.Lex
abbrev blL (bl : List Blk) : List (List Nat) := bl.map (·.blocks)
abbrev erefs (bl : List Blk) : List Nat := bl.flatMap fun b => b.attrs.map (·.e)
def Named (us : List Atr) : Prop := ∀ a ∈ us,a.n ≠ []
structure FI (s : PS) (pe pb : List Nat) : Prop where
 ex : Forest (exL s.ex) (erefs s.bl ++ pe)
 bl : Forest (blL s.bl) pb
 nm : ∀ b ∈ s.bl,Named b.attrs
theorem FI.perm {s : PS} {pe pe' pb pb' : List Nat} (h : FI s pe pb) (h1 : pe.Perm pe') (h2 : pb.Perm pb') : FI s pe' pb' := ⟨h.ex.perm (h1.append_left _),h.bl.perm h2,h.nm⟩
theorem FI.same {s s' : PS} {pe pb : List Nat} (h : FI s pe pb) (h1 : s'.ex = s.ex) (h2 : s'.bl = s.bl) : FI s' pe pb := ⟨by rw [h1,h2]; exact h.ex,by rw [h2]; exact h.bl,by rw [h2]; exact h.nm⟩
theorem FI.expr {s s' : PS} {x : Nat} {pe pb : List Nat} (h : FI s pe pb) (h2 : s'.bl = s.bl) (hf : ∀ roots,Forest (exL s.ex) roots → Forest (exL s'.ex) (x :: roots)) : FI s' (x :: pe) pb :=
 ⟨by rw [h2]; exact (hf _ h.ex).perm (List.perm_middle).symm,by rw [h2]; exact h.bl,by rw [h2]; exact h.nm⟩
def BOk (N : Int) (B : PS → R Nat) : Prop := ∀ s,WS N s → Sat (B s) (fun x s' => Later N s s' ∧ ∀ pe pb,FI s pe pb → FI s' pe (x :: pb)) (InN N)
section
variable {N : Int} {E B : PS → R Nat}
theorem labels_sat : ∀ (n : Nat) (s : PS) (ls : List Str),WS N s → Sat (labelsF n s ls) (fun _ s' => Go1 N s s' ∧ s'.ex = s.ex ∧ s'.bl = s.bl) (InN N)
 | 0,s,_,h => ⟨Int.le_refl _,h.pN⟩
 | n + 1,s,ls,h => by
   have hc := cur_pos h
   have n1 := next_go h
   simp only [labelsF]
   split
   · refine (plain_sat (n1.1.ws h) (t := cur s) ⟨hc.1,hc.2.1⟩).bind fun l s1 e1 => ?_
     subst e1
     exact (labels_sat n _ (ls ++ [l]) (n1.1.ws h)).mono fun _ s2 ⟨g,e,b⟩ => ⟨n1.1.trans g,e.trans n1.2.2.1,b.trans n1.2.2.2⟩
   · exact ⟨now_go h,(now_ex s).1,(now_ex s).2⟩
theorem item_sat (hE : EOk N E) (hB : BOk N B) {s : PS} (h : WS N s) (us : List Atr) (bs : List Nat) (hn : Named us) :
   Sat (itemR E B s us bs) (fun x s' => Later N s s' ∧ Named x.1 ∧ ∀ pe pb,FI s (us.map (·.e) ++ pe) (bs ++ pb) → FI s' (x.1.map (·.e) ++ pe) (x.2 ++ pb)) (InN N) := by
 unfold itemR
 refine (kind_sat h 1 (by decide)).bind fun t s1 ⟨g1,x1,b1,ht,hk⟩ => ?_
 have hw1 := g1.1.ws h
 have t1 := take_go hw1 [61]
 have hw2 := t1.1.ws hw1
 have hc := cur_pos h
 split
 · refine (hE _ hw2).bind fun x s2 ⟨g2,b2,f2⟩ => ?_
   refine ⟨⟨g1.1.trans (t1.1.trans g2.1),by have := g1.2; have := t1.1.le; have := g2.2; omega⟩,fun a ha => ?_,fun pe pb hf => ?_⟩
   · rcases List.mem_append.1 ha with ha | ha
     · exact hn a ha
     · rw [List.mem_singleton] at ha
       subst ha
       rw [ht]
       exact hc.2.2.2.2 (by rw [← ht]; exact hk)
   · have := (hf.same (s' := (takeS s1 [61]).2) (t1.2.2.1.trans x1) (t1.2.2.2.trans b1)).expr b2 f2
     refine this.perm ?_ (List.Perm.refl _)
     simp only [List.map_append,List.map_cons,List.map_nil,List.append_assoc]
     exact (List.perm_middle).symm
 · have hle := g1.2
   have hle2 := t1.1.le
   have hg : Go1 N s { (takeS s1 [61]).2 with i := (takeS s1 [61]).2.i - 1 } := by
     have g := g1.1.trans t1.1
     refine ⟨g.toks,g.off,g.deep,g.quiet,?_,?_,g.exs⟩
     · show s.i ≤ (takeS s1 [61]).2.i - 1
       omega
     · show (takeS s1 [61]).2.i - 1 < (takeS s1 [61]).2.toks.length
       have := g.lt
       omega
   refine (hB _ (hg.ws h)).bind fun x s2 ⟨g2,f2⟩ => ?_
   refine ⟨⟨hg.trans g2.1,by have := hg.le; have := g2.2; omega⟩,hn,fun pe pb hf => ?_⟩
   have := f2 _ _ (hf.same (s' := { (takeS s1 [61]).2 with i := (takeS s1 [61]).2.i - 1 }) (t1.2.2.1.trans x1) (t1.2.2.2.trans b1))
   refine this.perm (List.Perm.refl _) ?_
   simp only [List.append_assoc]
   exact (List.perm_middle).symm
theorem items_sat (hE : EOk N E) (hB : BOk N B) : ∀ (n : Nat) (s : PS) (us : List Atr) (bs : List Nat),WS N s → Named us →
   Sat (itemsF E B n s us bs) (fun x s' => Later N s s' ∧ Named x.1 ∧ ∀ pe pb,FI s (us.map (·.e) ++ pe) (bs ++ pb) → FI s' (x.1.map (·.e) ++ pe) (x.2 ++ pb)) (InN N)
 | 0,s,_,_,h,_ => ⟨Int.le_refl _,h.pN⟩
 | n + 1,s,us,bs,h,hn => by
   have t1 := take_go h [125]
   have hw1 := t1.1.ws h
   simp only [itemsF]
   split
   · rename_i ht
     exact ⟨⟨t1.1,t1.2.1 ht⟩,hn,fun pe pb hf => hf.same t1.2.2.1 t1.2.2.2⟩
   refine (item_sat hE hB hw1 us bs hn).bind fun x s1 ⟨g1,n1,f1⟩ => ?_
   have hw2 := g1.1.ws hw1
   have m1 := now_go hw2
   have hw3 := m1.ws hw2
   split
   · have := cur_pos hw3
     exact ⟨this.1,this.2.1⟩
   have l1 := lines_go hw3
   refine (items_sat hE hB n _ x.1 x.2 (l1.1.ws hw3) n1).mono fun y s2 ⟨g2,n2,f2⟩ => ⟨⟨t1.1.trans (g1.1.trans (m1.trans (l1.1.trans g2.1))),by have := t1.1.le; have := g1.2; have := m1.le; have := l1.1.le; have := g2.2; omega⟩,n2,fun pe pb hf => f2 pe pb ?_⟩
   exact (f1 pe pb (hf.same t1.2.2.1 t1.2.2.2)).same (l1.2.1.trans (now_ex _).1) (l1.2.2.trans (now_ex _).2)
theorem block_sat (hE : EOk N E) (hB : BOk N B) : BOk N (blockR E B) := by
 intro s h
 unfold blockR
 refine (kind_sat h 1 (by decide)).bind fun t s1 ⟨g1,x1,b1,ht,hk⟩ => ?_
 have hw1 := g1.1.ws h
 refine (labels_sat _ s1 [] hw1).bind fun ls s2 ⟨g2,x2,b2⟩ => ?_
 have hw2 := g2.ws hw1
 have n2 := now_go hw2
 have hw3 := n2.ws hw2
 have hc := cur_pos hw2
 split
 · exact ⟨hc.1,hc.2.1⟩
 rename_i hi
 have hi : isS s2 [123] = true := by simpa using hi
 have e3 : (nowS s2).ex = s.ex := (now_ex _).1.trans (x2.trans x1)
 have b3 : (nowS s2).bl = s.bl := (now_ex _).2.trans (b2.trans b1)
 refine Sat.bind (within_sat hw3 (a := (cur s2).a) (q := false) ⟨hc.1,hc.2.1⟩ (P := fun (x : List Atr × List Nat) s' => Go1 N { nowS s2 with deep := (nowS s2).deep + 1,quiet := false } s' ∧ Named x.1 ∧ ∀ pe pb,FI s pe pb → FI s' (x.1.map (·.e) ++ pe) (x.2 ++ pb)) fun hw => ?_) fun x s3 ⟨q,⟨g4,m4,f4⟩,e4⟩ => ?_
 · have hh := sign_here hw2 hi ((nowS s2).deep + 1) false
   have h4 := step_go hw hh.2.1
   rw [hh.1] at h4
   have hw4 := h4.1.ws hw
   have l4 := lines_go hw4
   refine (items_sat hE hB _ _ [] [] (l4.1.ws hw4) (fun a ha => by cases ha)).mono fun x s' ⟨g,m,f⟩ => ⟨h4.1.trans (l4.1.trans g.1),m,fun pe pb hf => f pe pb ?_⟩
   exact hf.same (l4.2.1.trans e3) (l4.2.2.trans b3)
 · subst e4
   have g4' := g4.back
   have g := g1.1.trans (g2.trans (n2.trans g4'))
   refine ⟨⟨⟨g.toks,g.off,g.deep,g.quiet,g.le,g.lt,g.exs⟩,by have := g1.2; have := g2.le; have := n2.le; have := g4'.le; show s.i < q.i; simp only at this; omega⟩,fun pe pb hf => ?_⟩
   have hq := f4 pe pb hf
   refine ⟨?_,?_,?_⟩
   · show Forest (exL q.ex) (erefs (q.bl ++ [⟨t.t,ls,x.1,x.2,t.a⟩]) ++ pe)
     have e : erefs (q.bl ++ [⟨t.t,ls,x.1,x.2,t.a⟩]) ++ pe = erefs q.bl ++ (x.1.map (·.e) ++ pe) := by simp [erefs]
     rw [e]
     exact hq.ex
   · show Forest (blL (q.bl ++ [⟨t.t,ls,x.1,x.2,t.a⟩])) (q.bl.length :: pb)
     have := hq.bl.put
     rw [List.length_map] at this
     simpa [blL] using this
   · intro b hb
     have hb : b ∈ q.bl ++ [⟨t.t,ls,x.1,x.2,t.a⟩] := hb
     rcases List.mem_append.1 hb with hb | hb
     · exact hq.nm b hb
     · rw [List.mem_singleton] at hb
       subst hb
       exact m4
end
theorem dead_bok (N : Int) : BOk N dead := fun _ h => ⟨Int.le_refl _,h.pN⟩
theorem blockD_ok (N : Int) : ∀ d,BOk N (blockD d)
 | 0 => block_sat (dead_ok N) (dead_bok N)
 | d + 1 => block_sat (exprD_ok N d).1 (blockD_ok N d)
end Go.Syn
namespace Go.Proofs.YtofhaneggcpdaaaGreatDoor
open Go Go.Eng Go.RowKit Go.Syn Go.Lex
set_option maxRecDepth 100000
section
variable {w0 w w1 w2 : World} {p f : Nat} {M : Lay} {vt : Value} {s : PS} {top : List Nat}
theorem PR.putB (h : PR w0 w p f M vt s top) {wb : World} {M0 : Lay} (he : Eff p f M0 M wb w) {e : Blk} {d : List Value} {v' : Value} (hd : BkR w w0.heap.size e d) (hu : ∀ k ∈ ub d,Off w0 w p f M vt k) (hn : (ub d).Nodup) (hnew : ∀ k ∈ ub d,wb.heap.size ≤ k)
   (hO : Own w1 w0.heap.size BkT 5 v' (s.bl.length + 1) (M.cB ++ d)) (hc1 : Chg (fun k => M.vB.ownBlock = some k) w w1) (hv : ∀ k,v'.ownBlock = some k → M.vB.ownBlock = some k ∨ w.heap.size ≤ k)
   (hc2 : Chg (One f) w1 w2) (hf : w2.heap[f]? = some (.cells [M.vE,v',M.vT].toArray FlT (0,0))) : PR w0 w2 p f { M with vB := v',cB := M.cB ++ d } vt { s with bl := s.bl ++ [e] } top ∧ Eff p f M0 { M with vB := v',cB := M.cB ++ d } wb w2 := by
 have hb := h.base
 have hzb := he.chg.size
 have pB := uses_B M f
 have use : ∀ k,M.vB.ownBlock = some k → k ∈ M.uses f := fun k hk => List.mem_cons_of_mem _ (ub_mem (v := M.vB) (by simp) hk)
 have hnd0 := pB.nodup_iff.1 h.fr.nd
 have hnd := hnd0
 rw [List.nodup_cons,List.nodup_append] at hnd
 obtain ⟨nf,_,nb,nab⟩ := hnd
 have inU : ∀ k ∈ ub ([M.vE,M.vT] ++ (M.cE ++ M.cB)),k ∈ M.uses f := fun k hk => pB.mem_iff.2 (List.mem_cons_of_mem _ (List.mem_append_right _ hk))
 have rest : ∀ k ∈ ub ([M.vE,M.vT] ++ (M.cE ++ M.cB)),M.vB.ownBlock ≠ some k ∧ k ≠ f ∧ k < w.heap.size := fun k hk =>
   ⟨fun e => nab k (ub_one.2 e) k hk rfl,fun e => nf (e ▸ List.mem_append_right _ hk),h.fr.lt k (inU k hk)⟩
 have c12 : Chg (fun k => M.vB.ownBlock = some k ∨ k = f) w w2 := (hc1.mono fun k _ e => .inl e).trans (hc2.mono fun k _ e => .inr e)
 have sub : ∀ v ∈ [M.vE,M.vT] ++ (M.cE ++ M.cB),∀ k,v.ownBlock = some k → ¬ (M.vB.ownBlock = some k ∨ k = f) := fun v hv k hk e => by
   have := rest k (ub_mem hv hk)
   exact e.elim this.1 this.2.1
 have hOf : ∀ k,v'.ownBlock = some k → k ≠ f := fun k hk e => by
   subst e
   rcases hv k hk with e | e
   · exact nf (List.mem_append_left _ (ub_one.2 e))
   · have := at_lt h.fr.hf; omega
 have nE : M.vB.ownBlock ≠ some p := fun e => h.np (use p e)
 have pf : p ≠ f := fun e => h.np (e ▸ List.mem_cons_self)
 have perm := uses_B' M f v' d
 have hN : (f :: (ub [v'] ++ (ub d ++ ub ([M.vE,M.vT] ++ (M.cE ++ M.cB))))).Nodup := nd_grow (n := w.heap.size) (a := ub [M.vB]) hnd0 (fun k hk => h.fr.lt k (pB.mem_iff.2 hk)) (ub_nodup1 _) (fun k hk => (hv k (ub_one.1 hk)).imp (fun e => ub_one.2 e) id) hn fun k hk => ⟨(hu k hk).1.2,fun e => (hu k hk).2.2.1 (pB.mem_iff.2 e)⟩
 have hz := c12.size
 have mem : ∀ k ∈ ({ M with vB := v',cB := M.cB ++ d } : Lay).uses f,k = f ∨ v'.ownBlock = some k ∨ k ∈ ub d ∨ k ∈ ub ([M.vE,M.vT] ++ (M.cE ++ M.cB)) := fun k hk => by
   have hk := perm.mem_iff.1 hk
   rcases List.mem_cons.1 hk with e | e
   · exact .inl e
   rcases List.mem_append.1 e with e | e
   · exact .inr (.inl (ub_one.1 e))
   rcases List.mem_append.1 e with e | e
   · exact .inr (.inr (.inl e))
   · exact .inr (.inr (.inr e))
 have cT : Chg (Tn p f M) w w2 := c12.mono fun k _ e => e.elim (fun e => .inr (.inr (.inr e))) fun e => .inr (.inl e)
 refine ⟨⟨?_,⟨hf,?_,?_,?_,?_,?_,perm.nodup_iff.2 hN,fun k hk => ?_,fun k hk => ?_⟩,?_,?_,fun e => ?_,h.lo,fun k hk => ?_⟩,⟨(he.trans (Eff.of cT)).chg,fun k hk => ?_,he.hE,fun k hk => (hv k hk).elim (he.hB k) fun e => .inr (by omega),he.hT⟩⟩
 · refine h.ch.then c12 fun k hk e => ?_
   rcases e with e | e
   · exact (h.fr.lo k (use k e)).resolve_right (by omega)
   · exact e
 · exact own_at h.fr.oE c12 (sub _ (by simp))
 · rw [List.length_append]
   exact own_at hO hc2 fun k hk e => hOf k hk e
 · exact own_at h.fr.oT c12 (sub _ (by simp))
 · refine h.fr.ee.imp fun x d hd hx => hx.at_ c12 fun k hk => ?_
   obtain ⟨v,hv,hk⟩ := List.mem_filterMap.1 hk
   exact sub v (by simp [hd v hv]) k hk
 · refine RowsR.snoc ?_ (hd.at_ c12 fun k hk e => ?_) (by obtain ⟨vl,va,vk,rfl,_⟩ := hd; rfl)
   · refine h.fr.bb.imp fun x d hd hx => hx.at_ c12 fun k hk => ?_
     obtain ⟨v,hv,hk⟩ := List.mem_filterMap.1 hk
     exact sub v (by simp [hd v hv]) k hk
   · have ho := (hu k hk).2.2.1
     rcases e with e | e
     · exact ho (use k e)
     · exact ho (e ▸ List.mem_cons_self)
 · rcases mem k hk with e | e | e | e
   · rw [e]; exact at_lt hf
   · exact Nat.lt_of_lt_of_le (own_lt hO e).1 hc2.size
   · exact Nat.lt_of_lt_of_le (hu k e).1.2 hz
   · exact Nat.lt_of_lt_of_le (rest k e).2.2 hz
 · rcases mem k hk with e | e | e | e
   · exact .inl e
   · exact .inr (own_lt hO e).2
   · exact .inr (hu k e).1.1
   · exact h.fr.lo k (inU k e)
 · exact c12.at h.ps fun e => e.elim nE pf
 · exact slat_at h.tk c12 fun k hk e => by
     have := (h.nt k hk).1
     rcases e with e | e
     · exact this (use k e)
     · exact this (e ▸ List.mem_cons_self)
 · rcases mem p e with e | e | e | e
   · exact pf e
   · exact (hv p e).elim nE fun e => by have := h.lt; omega
   · exact (hu p e).2.1 rfl
   · exact h.np (inU p e)
 · have ht := h.nt k hk
   refine ⟨fun e => ?_,ht.2.1,Nat.lt_of_lt_of_le ht.2.2 hz⟩
   rcases mem k e with e | e | e | e
   · exact ht.1 (e ▸ List.mem_cons_self)
   · exact (hv k e).elim (fun e => ht.1 (use k e)) fun e => by omega
   · exact (hu k e).2.2.2 hk
   · exact ht.1 (inU k e)
 · rcases mem k hk with e | e | e | e
   · exact he.us k (e ▸ List.mem_cons_self)
   · exact (hv k e).elim (fun e => he.us k (use k e)) fun e => .inr (by omega)
   · exact .inr (hnew k e)
   · exact he.us k (inU k e)
end
structure FineB (F : PS → R Nat) : Prop where
 ok : ∀ N,BOk N F
 z : EZ F
theorem Gd.bk {x : Nat} {s s' : PS} {N : Int} {dl : Nat} {F : PS → R Nat} (h : Gd N s dl) (hF : FineB F) (e : F s = .ok x s') : Gd N s' dl ∧ s.i < s'.i ∧ s'.toks = s.toks := by
 have h1 := hF.ok N s h.ws
 have h2 := hF.z s
 rw [e] at h1 h2
 exact ⟨h.go h1.1.1 h2,h1.1.2,h1.1.1.toks⟩
section
variable [HX]
variable {w0 w w' w1 : World} {p f b : Nat} {M M' M0 : Lay} {vt : Value} {s : PS} {top : List Nat} {N : Int} {K : Value → World → Prop} {e : Ex} {wbn : Nat} {wb : World} {dl : Nat}
structure BL (w0 w : World) (p f : Nat) (M : Lay) (vt : Value) (B1 b4 : Nat) (typ : Str) (a : Int) (vl va vb : Value) (ls : List Str) (av : List Atr) (bs : List Nat) : Prop where
 l4 : Loc w0 w p f M vt b4 BkT [str typ,vl,va,vb,i64 a]
 rL : Ro w0 w p f M vt B1 StT 1 vl ls.length (strs ls)
 rA : Ro w0 w p f M vt B1 AtT 3 va av.length (atrs av)
 rB : Ro w0 w p f M vt B1 IntT 1 vb bs.length (ints bs)
 d1 : ∀ k,vl.ownBlock = some k → va.ownBlock ≠ some k
 d2 : ∀ k,vl.ownBlock = some k → vb.ownBlock ≠ some k
 d3 : ∀ k,va.ownBlock = some k → vb.ownBlock ≠ some k
 lt : b4 < B1 ∧ B1 ≤ w.heap.size
section
variable {B1 b4 : Nat} {typ : Str} {a : Int} {vl va vb : Value} {ls : List Str} {av : List Atr} {bs : List Nat}
theorem BL.eff (h : BL w0 w p f M vt B1 b4 typ a vl va vb ls av bs) (he : Eff p f M M' w w') : BL w0 w' p f M' vt B1 b4 typ a vl va vb ls av bs :=
 ⟨h.l4.eff he,h.rL.eff he,h.rA.eff he,h.rB.eff he,h.d1,h.d2,h.d3,h.lt.1,Nat.le_trans h.lt.2 he.chg.size⟩
theorem BL.ext (h : BL w0 w p f M vt B1 b4 typ a vl va vb ls av bs) (hx : Ext w w') : BL w0 w' p f M vt B1 b4 typ a vl va vb ls av bs := h.eff (Eff.ext hx)
theorem BL.one (h : BL w0 w p f M vt B1 b4 typ a vl va vb ls av bs) (hc : Chg (One b) w w') (hb : b ≠ b4) (hL : vl.ownBlock ≠ some b) (hA : va.ownBlock ≠ some b) (hB : vb.ownBlock ≠ some b) : BL w0 w' p f M vt B1 b4 typ a vl va vb ls av bs :=
 ⟨h.l4.one hc (Ne.symm hb),h.rL.one hc hL,h.rA.one hc hA,h.rB.one hc hB,h.d1,h.d2,h.d3,h.lt.1,Nat.le_trans h.lt.2 hc.size⟩
theorem BL.fresh (h : BL w0 w p f M vt B1 b4 typ a vl va vb ls av bs) {k : Nat} (hk : w.heap.size ≤ k) : k ≠ b4 ∧ vl.ownBlock ≠ some k ∧ va.ownBlock ≠ some k ∧ vb.ownBlock ≠ some k :=
 ⟨fun e => by have := h.l4.lt; omega,fun e => by have := (h.rL.off k e).1.2; omega,fun e => by have := (h.rA.off k e).1.2; omega,fun e => by have := (h.rB.off k e).1.2; omega⟩
theorem BL.no4 (h : BL w0 w p f M vt B1 b4 typ a vl va vb ls av bs) : vl.ownBlock ≠ some b4 ∧ va.ownBlock ≠ some b4 ∧ vb.ownBlock ≠ some b4 :=
 ⟨fun e => by have := h.rL.new _ e; have := h.lt.1; omega,fun e => by have := h.rA.new _ e; have := h.lt.1; omega,fun e => by have := h.rB.new _ e; have := h.lt.1; omega⟩
theorem BL.appL {x : Str} {r : Nat} {ty : TypeId} {KW : World → Prop} (h : BL w0 w p f M vt B1 b4 typ a vl va vb ls av bs) (hp : PR w0 w p f M vt s top) (hr : w.heap[r]? = some (.cells [str x].toArray StT (0,0))) (hn : ls.length ≤ 1000000)
   (hK : ∀ vl' w',BL w0 w' p f M vt B1 b4 typ a vl' va vb (ls ++ [x]) av bs → PR w0 w' p f M vt s top → Chg (fun k => vl.ownBlock = some k ∨ k = b4) w w' → (∀ b T cs,Loc w0 w p f M vt b T cs → b ≠ b4 → vl.ownBlock ≠ some b → Loc w0 w' p f M vt b T cs) → (∀ k,vl'.ownBlock = some k → vl.ownBlock = some k ∨ w.heap.size ≤ k) → KW w') :
   semE Tryz.prog (Builtin.append_ #[33,33] ty #[vl,.slice (some ⟨r,0,none⟩) 1 1]) w fun t62 w36 => fldW 1 (.pointer (some ⟨b4,0,none⟩)) fun t63 => stW 1 t63 t62 w36 KW := by
 refine Ro.app el_st h.rL hp hr rfl (fun u hu => by simp only [List.mem_singleton] at hu; subst hu; rfl) hn (by decide) h.lt.2 fun v' w2 hR2 hc hv hp2 => ?_
 have e1 : (ls ++ [x]).length = ls.length + 1 := by simp
 rw [← e1,show strs ls ++ [str x] = strs (ls ++ [x]) from by simp [strs]] at hR2
 rw [fld_ptr,add_mk,Nat.zero_add]
 obtain ⟨vp,vc,ev,_⟩ := hR2.own.sl.shape
 obtain ⟨n1,n2,n3⟩ := h.no4
 have n1' : v'.ownBlock ≠ some b4 := fun e => by have := hR2.new b4 e; have := h.lt.1; omega
 refine (h.l4.row hc n1).st (by rw [ev]; rfl) (by simp) fun w3 L3 hc3 hz3 => ?_
 have z := hc.size
 refine hK v' w3 ⟨L3,hR2.one hc3 n1',(h.rA.row hc fun k hk e => h.d1 k e hk).one hc3 n2,(h.rB.row hc fun k hk e => h.d2 k e hk).one hc3 n3,fun k hk => ?_,fun k hk => ?_,h.d3,h.lt.1,by have := h.lt.2; omega⟩ (hp2.one hc3 L3.2) ((hc.mono fun k _ e => .inl e).trans (hc3.mono fun k _ e => .inr e)) (fun b T cs hL hb hvb => (hL.row hc hvb).one hc3 hb) hv
 · exact (hv k hk).elim (h.d1 k) fun e e' => by have := (h.rA.off k e').1.2; omega
 · exact (hv k hk).elim (h.d2 k) fun e e' => by have := (h.rB.off k e').1.2; omega
theorem BL.appA {x : Atr} {r : Nat} {ty : TypeId} {KW : World → Prop} (h : BL w0 w p f M vt B1 b4 typ a vl va vb ls av bs) (hp : PR w0 w p f M vt s top) (hr : w.heap[r]? = some (.cells [str x.n,i64 (x.e : Nat),i64 x.a].toArray AtT (0,0))) (hn : av.length ≤ 1000000)
   (hK : ∀ va' w',BL w0 w' p f M vt B1 b4 typ a vl va' vb ls (av ++ [x]) bs → PR w0 w' p f M vt s top → Chg (fun k => va.ownBlock = some k ∨ k = b4) w w' → (∀ b T cs,Loc w0 w p f M vt b T cs → b ≠ b4 → va.ownBlock ≠ some b → Loc w0 w' p f M vt b T cs) → (∀ k,va'.ownBlock = some k → va.ownBlock = some k ∨ w.heap.size ≤ k) → KW w') :
   semE Tryz.prog (Builtin.append_ #[36,36] ty #[va,.slice (some ⟨r,0,none⟩) 1 1]) w fun t62 w36 => nilW (.pointer (some ⟨b4,0,none⟩)) fun t63 => fldW 2 t63 fun t63 => stW 1 t63 t62 w36 KW := by
 refine Ro.app el_at h.rA hp hr rfl (fun u hu => by simp only [List.mem_cons,List.not_mem_nil,or_false] at hu; rcases hu with rfl | rfl | rfl <;> rfl) hn (by decide) h.lt.2 fun v' w2 hR2 hc hv hp2 => ?_
 have e1 : (av ++ [x]).length = av.length + 1 := by simp
 rw [← e1,show atrs av ++ [str x.n,i64 (x.e : Nat),i64 x.a] = atrs (av ++ [x]) from by simp [atrs]] at hR2
 rw [nil_ptr,fld_ptr,add_mk,Nat.zero_add]
 obtain ⟨vp,vc,ev,_⟩ := hR2.own.sl.shape
 obtain ⟨n1,n2,n3⟩ := h.no4
 have n2' : v'.ownBlock ≠ some b4 := fun e => by have := hR2.new b4 e; have := h.lt.1; omega
 refine (h.l4.row hc n2).st (by rw [ev]; rfl) (by simp) fun w3 L3 hc3 hz3 => ?_
 have z := hc.size
 refine hK v' w3 ⟨L3,(h.rL.row hc fun k hk e => h.d1 k hk e).one hc3 n1,hR2.one hc3 n2',(h.rB.row hc fun k hk e => h.d3 k e hk).one hc3 n3,fun k hk e => ?_,h.d2,fun k hk => ?_,h.lt.1,by have := h.lt.2; omega⟩ (hp2.one hc3 L3.2) ((hc.mono fun k _ e => .inl e).trans (hc3.mono fun k _ e => .inr e)) (fun b T cs hL hb hvb => (hL.row hc hvb).one hc3 hb) hv
 · exact (hv k e).elim (fun e => h.d1 k hk e) fun e => by have := (h.rL.off k hk).1.2; omega
 · exact (hv k hk).elim (h.d3 k) fun e e' => by have := (h.rB.off k e').1.2; omega
theorem BL.appB {x : Nat} {r : Nat} {ty : TypeId} {KW : World → Prop} (h : BL w0 w p f M vt B1 b4 typ a vl va vb ls av bs) (hp : PR w0 w p f M vt s top) (hr : w.heap[r]? = some (.cells [i64 (x : Nat)].toArray IntT (0,0))) (hn : bs.length ≤ 1000000)
   (hK : ∀ vb' w',BL w0 w' p f M vt B1 b4 typ a vl va vb' ls av (bs ++ [x]) → PR w0 w' p f M vt s top → Chg (fun k => vb.ownBlock = some k ∨ k = b4) w w' → (∀ b T cs,Loc w0 w p f M vt b T cs → b ≠ b4 → vb.ownBlock ≠ some b → Loc w0 w' p f M vt b T cs) → (∀ k,vb'.ownBlock = some k → vb.ownBlock = some k ∨ w.heap.size ≤ k) → KW w') :
   semE Tryz.prog (Builtin.append_ #[26,26] ty #[vb,.slice (some ⟨r,0,none⟩) 1 1]) w fun t62 w36 => nilW (.pointer (some ⟨b4,0,none⟩)) fun t63 => fldW 3 t63 fun t63 => stW 1 t63 t62 w36 KW := by
 refine Ro.app el_int h.rB hp hr rfl (fun u hu => by simp only [List.mem_singleton] at hu; subst hu; rfl) hn (by decide) h.lt.2 fun v' w2 hR2 hc hv hp2 => ?_
 have e1 : (bs ++ [x]).length = bs.length + 1 := by simp
 rw [← e1,show ints bs ++ [i64 (x : Nat)] = ints (bs ++ [x]) from by simp [ints]] at hR2
 rw [nil_ptr,fld_ptr,add_mk,Nat.zero_add]
 obtain ⟨vp,vc,ev,_⟩ := hR2.own.sl.shape
 obtain ⟨n1,n2,n3⟩ := h.no4
 have n3' : v'.ownBlock ≠ some b4 := fun e => by have := hR2.new b4 e; have := h.lt.1; omega
 refine (h.l4.row hc n3).st (by rw [ev]; rfl) (by simp) fun w3 L3 hc3 hz3 => ?_
 have z := hc.size
 refine hK v' w3 ⟨L3,(h.rL.row hc fun k hk e => h.d2 k hk e).one hc3 n1,(h.rA.row hc fun k hk e => h.d3 k hk e).one hc3 n2,hR2.one hc3 n3',h.d1,fun k hk e => ?_,fun k hk e => ?_,h.lt.1,by have := h.lt.2; omega⟩ (hp2.one hc3 L3.2) ((hc.mono fun k _ e => .inl e).trans (hc3.mono fun k _ e => .inr e)) (fun b T cs hL hb hvb => (hL.row hc hvb).one hc3 hb) hv
 · exact (hv k e).elim (fun e => h.d2 k hk e) fun e => by have := (h.rL.off k hk).1.2; omega
 · exact (hv k e).elim (fun e => h.d3 k hk e) fun e => by have := (h.rA.off k hk).1.2; omega
theorem Gd.etoks {x : Nat} {s' : PS} {F : PS → R Nat} (h : Gd N s dl) (hF : Fine F) (e : F s = .ok x s') : s'.toks = s.toks := by
 have h1 := hF.ok N s h.ws
 rw [e] at h1
 exact h1.1.1.toks
theorem Gd.name_back {t : Tok} {s1 : PS} (hg : Gd N s dl) (e : kindR s 1 = .ok t s1) (hn : (takeS s1 [61]).1 = false) :
   Gd N { (takeS s1 [61]).2 with i := (takeS s1 [61]).2.i - 1 } dl ∧ s.i ≤ (takeS s1 [61]).2.i - 1 ∧ 1 ≤ (takeS s1 [61]).2.i ∧ (takeS s1 [61]).2.toks = s.toks := by
 have hk := hg.kind (by decide) e
 have hks := kind_sat hg.ws 1 (by decide)
 rw [e] at hks
 have e1 : s1 = step1 (nowS s) := by
   unfold kindR at e
   split at e
   · rename_i hk
     injection e with _ e
     rw [← e]
     unfold nextS
     rw [if_pos (by rw [hk]; decide)]
   · cases e
 have t1 := take_go hk.1.ws [61]
 have e2 : (takeS s1 [61]).2 = nowS s1 := by
   unfold takeS at hn ⊢
   split
   · rename_i hi; rw [if_pos hi] at hn; cases hn
   · rfl
 have hi1 := hk.2.1
 have hi2 := t1.1.le
 have hgo : Go1 N s { (takeS s1 [61]).2 with i := (takeS s1 [61]).2.i - 1 } := by
   have g := hks.1.1.trans t1.1
   refine ⟨g.toks,g.off,g.deep,g.quiet,?_,?_,g.exs⟩
   · show s.i ≤ (takeS s1 [61]).2.i - 1
     omega
   · show (takeS s1 [61]).2.i - 1 < (takeS s1 [61]).2.toks.length
     have := g.lt
     omega
 refine ⟨hg.go hgo ?_,by omega,by omega,(t1.1.toks).trans hks.1.1.toks⟩
 have hi : s.i ≤ (nowS s1).i - 1 := by rw [← e2]; omega
 have x1 : (nowS s1).ex = s.ex := (now_ex s1).1.trans (by rw [e1]; exact (now_ex s).1)
 have x2 : (nowS s1).bl = s.bl := (now_ex s1).2.trans (by rw [e1]; exact (now_ex s).2)
 have x3 : (nowS s1).toks = s.toks := by
   have h1 : ∀ s : PS,(nowS s).toks = s.toks := fun s => by unfold nowS; split <;> rfl
   rw [h1,e1]; exact h1 s
 rw [e2]
 unfold Syn.phi
 simp only
 rw [x1,x2,x3]
 have := wts_le s.toks hi
 omega
theorem item_p {E B : PS → R Nat} (hE : EC w0 f 81 E dl) (hB : EC w0 f 21 B dl) (hF : Fine E) (hFB : FineB B) (h : PR w0 w p f M vt s top) (hg : Gd N s dl) (hL : BL w0 w p f M vt B1 b4 typ a vl va vb ls av bs) (hal : av.length ≤ 1000000) (hbl : bs.length ≤ 1000000)
   {M0 : Lay} {wb : World} (he0 : Eff p f M0 M wb w) (hw4 : wb.heap.size ≤ b4) (hwB : wb.heap.size ≤ B1)
   (hK : ∀ x s',itemR E B s av bs = .ok x s' → ∀ M' va' vb' w',PR w0 w' p f M' vt s' top → Gd N s' dl → s.i < s'.i → s'.toks = s.toks → x.1.length ≤ av.length + 1 → x.2.length ≤ bs.length + 1 → Eff p f M0 M' wb w' → BL w0 w' p f M' vt B1 b4 typ a vl va' vb' ls x.1 x.2 →
     (∀ b T cs,Loc w0 w p f M vt b T cs → b ≠ b4 → va.ownBlock ≠ some b → vb.ownBlock ≠ some b → Loc w0 w' p f M' vt b T cs) → (∀ k,va'.ownBlock = some k → va.ownBlock = some k ∨ w.heap.size ≤ k) → (∀ k,vb'.ownBlock = some k → vb.ownBlock = some k ∨ w.heap.size ≤ k) → K (.tuple #[]) w')
   (ht : ∀ c a',itemR E B s av bs = .err c a' → Thr w0 f c a') :
   callF Tryz.prog 46 [.pointer (some ⟨p,0,none⟩),.pointer (some ⟨b4,0,none⟩)] w K := by
 refine W46_ok ?_
 unfold W46
 have hN := hg.hN
 unfold itemR at hK ht
 refine kind_p h hg.ws hN hg.l (fun t s1 et w1 h1 he1 => ?_) fun c a' et => ht c a' (by rw [et]; rfl)
 rw [et] at hK ht
 simp only [R.bind] at hK ht
 have hk := hg.kind (by decide) et
 have hks := kind_sat hg.ws 1 (by decide)
 rw [et] at hks
 have hL1 := hL.eff he1
 refine alloc_new fun b5 w2 hb5 hz2 hbb2 hx2 => ?_
 have h2 := h1.ext hx2
 have L5 := h1.loc hz2 hb5 hbb2
 have fr5 := hL1.fresh (k := b5) (by omega)
 refine st_agg_at (l := tokc t) L5.1 rfl rfl rfl fun w3 hz3 hbb3 hc3 => ?_
 have L5 : Loc w0 w3 p f M vt b5 TkT (tokc t) := ⟨hbb3,L5.2.up (by omega)⟩
 have h3 := h2.one hc3 L5.2
 have hL3 := (hL1.ext hx2).one hc3 fr5.1 fr5.2.1 fr5.2.2.1 fr5.2.2.2
 have hz1 := he1.chg.size
 have he3 : Eff p f M M w w3 := (he1.x hx2).one hc3 (by omega)
 refine take_p h3 hk.1.ws hN hk.1.l fun w4 h4 he4 => ?_
 have L5 := L5.eff he4
 have hL4 := hL3.eff he4
 have he4 := he3.trans he4
 have hgt := hk.1.take [61]
 have tg := take_go hk.1.ws [61]
 have zz := he0.chg.size
 rw [condW_b]
 refine ⟨fun hy => ?_,fun hn => ?_⟩
 · -- an attribute
   rw [if_pos hy] at hK ht
   have L5 := L5.drew
   have hL4 := hL4.ext (ext_drew w4)
   have h4 := h4.drew
   have he4 := he4.x (ext_drew w4)
   rw [nil_ptr,fld_ptr,add_mk,Nat.zero_add]
   refine hL4.l4.ld rfl ?_
   rw [fld_ptr,add_mk,Nat.zero_add]
   refine L5.ld rfl ?_
   rw [fld_ptr,add_mk,Nat.zero_add]
   refine L5.ld rfl ?_
   refine hE w4.drew p M vt _ top N _ h4 hgt (fun x s2 ex M2 w5 h5 he5 => ?_) fun c a' ex => ht c a' (by rw [ex])
   rw [ex] at hK
   simp only at hK
   obtain ⟨g2,i2⟩ := hgt.e hF ex
   have t2 := hgt.etoks hF ex
   have L5 := L5.eff he5
   have hL5 := hL4.eff he5
   have he5 := he4.trans he5
   refine ⟨L5.ld rfl rfl,L5.ld rfl rfl,hL5.l4.ld rfl rfl,?_⟩
   simp only [put_int,put_str,put_nil,List.length_cons,List.length_nil,List.set_cons_zero,List.set_cons_succ,Nat.reduceAdd,Nat.reduceLT,true_and,Nat.zero_lt_succ]
   refine bsl_agg (d := [str t.t,i64 ((x : Nat) : Int),i64 t.a]) rfl rfl fun r w6 hr hz6 hrb hx6 => ?_
   have hL6 := hL5.ext hx6
   have he6 := he5.x hx6
   have hw6 := he6.chg.size
   refine ⟨hL6.l4.ld rfl rfl,?_⟩
   refine hL6.appA (x := ⟨t.t,x,t.a⟩) (h5.ext hx6) hrb hal fun va' w7 hL7 h7 hc7 hl7 hv7 => ?_
   refine hK _ _ rfl M2 va' vb w7 h7 g2 (by have := tg.1.le; have := hk.2.1; omega) (t2.trans (tg.1.toks.trans hks.1.1.toks)) (by simp) (by simp) (((he0.trans he6).then hc7 fun k hk' e => ?_)) hL7 (fun b T cs hl hb hva hvb => hl7 b T cs (hl.eff he6) hb hva) (fun k hk => (hv7 k hk).imp id fun e => by omega) fun k hk => .inl hk
   rcases e with e | e
   · have := hL.rA.new k e; omega
   · omega
 · -- a block
   have hn : (takeS s1 [61]).1 = false := by simpa using hn
   rw [if_neg (by rw [hn]; decide)] at hK ht
   obtain ⟨gb,ib,i1,tb⟩ := hg.name_back et hn
   refine h4.ld rfl ?_
   have hti := hgt.ws.lt
   have htl := hgt.few
   rw [bin_sub,wrap_id (by omega) (by omega),show (((takeS s1 [61]).2.i : Nat) : Int) - 1 = (((takeS s1 [61]).2.i - 1 : Nat) : Int) by omega]
   refine h4.st_i fun w5 h5 he5 hz5 => ?_
   have hL5 := (hL4.eff he5).ext (ext_drew w5)
   have h5 := h5.drew
   have he5 := (he4.trans he5).x (ext_drew w5)
   rw [nil_ptr,fld_ptr,add_mk,Nat.zero_add]
   refine hL5.l4.ld rfl ?_
   refine hB w5.drew p M vt _ top N _ h5 gb (fun x s2 ex M2 w6 h6 he6 => ?_) fun c a' ex => ht c a' (by rw [ex])
   rw [ex] at hK
   simp only at hK
   obtain ⟨g2,i2,t2⟩ := gb.bk hFB ex
   have hL6 := hL5.eff he6
   have he6 := he5.trans he6
   refine ⟨hL6.l4.ld rfl rfl,?_⟩
   refine bsl_int1 fun r w7 hr hz7 hrb hx7 => ?_
   have hL7 := hL6.ext hx7
   have he7 := he6.x hx7
   have hw7 := he7.chg.size
   refine ⟨hL7.l4.ld rfl rfl,?_⟩
   refine hL7.appB (h6.ext hx7) hrb hbl fun vb' w8 hL8 h8 hc8 hl8 hv8 => ?_
   refine hK _ _ rfl M2 va vb' w8 h8 g2 (by have i2 : (takeS s1 [61]).2.i - 1 < s2.i := i2; omega) (t2.trans tb) (by simp) (by simp) ((he0.trans he7).then hc8 fun k hk' e => ?_) hL8 (fun b T cs hl hb hva hvb => hl8 b T cs (hl.eff he7) hb hvb) (fun k hk => .inl hk) fun k hk => (hv8 k hk).imp id fun e => by omega
   rcases e with e | e
   · have := hL.rB.new k e; omega
   · omega
end
end
end Go.Proofs.YtofhaneggcpdaaaGreatDoor
