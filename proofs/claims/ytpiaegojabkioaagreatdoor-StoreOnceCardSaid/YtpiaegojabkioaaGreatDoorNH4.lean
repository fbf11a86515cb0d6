/- One plain sentence: weakest preconditions, contracts and plain laws that the claim rests on, text behind text. Conditions: those that each states. -/
import Derived.Test.YtpiaegojabkioaaGreatDoorNH3
import Derived.Laws.Externs
import Derived.Test.YtpiaegojabkioaaGreatDoorNH2
import Derived.Lib.Builder
import Derived.ProofKit
import Derived.WalkKit
import Derived.Lib.AppendStr
import Derived.Lib.RuneBytes
import Derived.Lib.LastIndexByte
import Derived.Lib.ValidU
import Derived.Lib.DecodeN
import Derived.Lib.MapLaws
set_option linter.all false
set_option linter.unusedSimpArgs false
set_option linter.unusedVariables false
set_option linter.unusedSectionVars false
namespace Go.Eng
open Go Go.Num
theorem byte_lt {s : Str} {i : Nat} (h : 0 ≤ byteM s i) : i < s.length := by
 apply Nat.lt_of_not_le
 intro hle
 have := byteM_neg.2 hle
 omega
theorem drop_here {s : Str} {i : Nat} (h : i < s.length) : s.drop i = s[i] :: s.drop (i + 1) := List.drop_eq_getElem_cons h
theorem blank_go {s : Str} {i : Nat} (h : isBlank (byteM s i) = true) : i < s.length ∧ blankM s i = blankM s (i + 1) := by
 have hlt : i < s.length := byte_lt (by unfold isBlank at h; simp only [Bool.or_eq_true,decide_eq_true_eq] at h; omega)
 refine ⟨hlt,blank_step (drop_here hlt) ?_⟩
 rw [← byte_at (drop_here hlt)]; exact h
theorem blank_fin (s : Str) : ∀ (n i : Nat),s.length - i ≤ n → i ≤ blankM s i ∧ (i ≤ s.length → blankM s i ≤ s.length) ∧ isBlank (byteM s (blankM s i)) = false := by
 intro n
 induction n with
 | zero =>
   intro i hn
   have hb : isBlank (byteM s i) = false := by rw [byteM_out (by omega)]; rfl
   rw [blank_stop hb]
   exact ⟨Nat.le_refl _,id,hb⟩
 | succ n ih =>
   intro i hn
   cases hb : isBlank (byteM s i) with
   | false => rw [blank_stop hb]; exact ⟨Nat.le_refl _,id,hb⟩
   | true =>
     obtain ⟨hlt,e⟩ := blank_go hb
     have := ih (i + 1) (by omega)
     rw [e]
     exact ⟨by omega,fun _ => this.2.1 (by omega),this.2.2⟩
theorem blank_ge (s : Str) (i : Nat) : i ≤ blankM s i := (blank_fin s _ i (Nat.le_refl _)).1
theorem blank_le {s : Str} {i : Nat} (h : i ≤ s.length) : blankM s i ≤ s.length := (blank_fin s _ i (Nat.le_refl _)).2.1 h
theorem blank_not (s : Str) (i : Nat) : isBlank (byteM s (blankM s i)) = false := (blank_fin s _ i (Nat.le_refl _)).2.2
theorem blank_idem (s : Str) (i : Nat) : blankM s (blankM s i) = blankM s i := blank_stop (blank_not s i)
theorem dig_stop {s : Str} {i : Nat} (h : isDig (byteM s i) = false) : digM s i = i := by
 unfold digM
 cases s.length - i with
 | zero => rfl
 | succ n => rw [digGo,h]; rfl
theorem dig_go' {s : Str} {i : Nat} (h : isDig (byteM s i) = true) : i < s.length ∧ digM s i = digM s (i + 1) := by
 have hlt : i < s.length := byte_lt (by unfold isDig at h; simp only [Bool.and_eq_true,decide_eq_true_eq] at h; omega)
 refine ⟨hlt,?_⟩
 unfold digM
 rw [show s.length - i = (s.length - (i + 1)) + 1 by omega,digGo,h]
 rfl
theorem dig_fin (s : Str) : ∀ (n i : Nat),s.length - i ≤ n → i ≤ digM s i ∧ (i ≤ s.length → digM s i ≤ s.length) ∧ isDig (byteM s (digM s i)) = false ∧ ∀ j,i ≤ j → j < digM s i → isDig (byteM s j) = true := by
 intro n
 induction n with
 | zero =>
   intro i hn
   have hb : isDig (byteM s i) = false := by rw [byteM_out (by omega)]; rfl
   rw [dig_stop hb]
   exact ⟨Nat.le_refl _,id,hb,fun j h1 h2 => by omega⟩
 | succ n ih =>
   intro i hn
   cases hb : isDig (byteM s i) with
   | false => rw [dig_stop hb]; exact ⟨Nat.le_refl _,id,hb,fun j h1 h2 => by omega⟩
   | true =>
     obtain ⟨hlt,e⟩ := dig_go' hb
     have := ih (i + 1) (by omega)
     rw [e]
     refine ⟨by omega,fun _ => this.2.1 (by omega),this.2.2.1,fun j h1 h2 => ?_⟩
     rcases Nat.eq_or_lt_of_le h1 with rfl | h
     · exact hb
     · exact this.2.2.2 j h h2
theorem digM_ge (s : Str) (i : Nat) : i ≤ digM s i := (dig_fin s _ i (Nat.le_refl _)).1
theorem digM_le {s : Str} {i : Nat} (h : i ≤ s.length) : digM s i ≤ s.length := (dig_fin s _ i (Nat.le_refl _)).2.1 h
theorem digM_all {s : Str} {i j : Nat} (h1 : i ≤ j) (h2 : j < digM s i) : isDig (byteM s j) = true := (dig_fin s _ i (Nat.le_refl _)).2.2.2 j h1 h2
theorem numDig {s : Str} {j : Nat} (h : isDig (byteM s j) = true) (hj : j < s.length) : Num.isDig s[j] = true := by
 rw [byteM_in hj] at h
 have e : bt s j = s[j].toNat := by unfold bt; simp [List.getD_eq_getElem?_getD,hj]
 rw [e] at h
 unfold isDig at h
 simp only [Bool.and_eq_true,decide_eq_true_eq] at h
 unfold Num.isDig
 simp only [Bool.and_eq_true,decide_eq_true_eq,UInt8.le_iff_toNat_le]
 have e1 : (48 : UInt8).toNat = 48 := rfl
 have e2 : (57 : UInt8).toNat = 57 := rfl
 omega
theorem num_good {s : Str} {i first stop : Nat} (hf : first = if byteM s i = 45 then i + 1 else i) (hs : stop = if byteM s first = 48 then first + 1 else digM s first) (h1 : stop ≠ first) (h2 : ¬ 100 < stop - first) :
   goodN ((s.drop i).take (stop - i)) = decide ((s.drop i).take (stop - i) ≠ [45,48]) ∧ stop ≤ s.length ∧ i < stop := by
 have hfi : i ≤ first ∧ first ≤ i + 1 := by rw [hf]; split <;> omega
 have hfl : first < s.length := by
   by_cases h : byteM s first = 48
   · exact byte_lt (by omega)
   · rw [if_neg h] at hs
     cases hb : isDig (byteM s first) with
     | true => exact (dig_go' hb).1
     | false => rw [dig_stop hb] at hs; exact absurd hs h1
 have hsl : stop ≤ s.length := by
   rw [hs]
   split
   · omega
   · exact digM_le (by omega)
 have hsg : first < stop := by
   have : first ≤ stop := by rw [hs]; split; omega; exact digM_ge _ _
   omega
 refine ⟨?_,hsl,by omega⟩
 -- the digits
 have hdl : ((s.drop first).take (stop - first)).length = stop - first := by rw [List.length_take,List.length_drop]; omega
 have hall : ((s.drop first).take (stop - first)).all Num.isDig = true := by
   rw [List.all_eq_true]
   intro c hc
   obtain ⟨j,hj,rfl⟩ := List.getElem_of_mem hc
   rw [hdl] at hj
   rw [List.getElem_take,List.getElem_drop]
   refine numDig ?_ (by omega)
   by_cases h : byteM s first = 48
   · rw [if_pos h] at hs
     have : j = 0 := by omega
     subst this
     rw [Nat.add_zero,h]; rfl
   · rw [if_neg h] at hs
     exact digM_all (i := first) (by omega) (by omega)
 have hhead : ((s.drop first).take (stop - first)).head? = some s[first] := by
   rw [drop_here hfl,show stop - first = (stop - first - 1) + 1 by omega,List.take_succ_cons]; rfl
 have hdig0 : Num.isDig s[first] = true := by
   rw [List.all_eq_true] at hall
   refine hall _ ?_
   rw [drop_here hfl,show stop - first = (stop - first - 1) + 1 by omega,List.take_succ_cons]
   exact List.mem_cons_self
 have hn45 : s[first] ≠ 45 := fun e => by rw [e] at hdig0; exact absurd hdig0 (by decide)
 have hb0 : byteM s first = (s[first].toNat : Int) := byte_at (drop_here hfl)
 have h48 : s[first] = 48 → stop = first + 1 := fun e => by
   rw [hs,if_pos (by rw [hb0,e]; rfl)]
 -- the text with its sign
 generalize hd : (s.drop first).take (stop - first) = d at *
 have hne : d ≠ [] := fun e => by rw [e] at hdl; simp at hdl; omega
 have ht : (s.drop i).take (stop - i) = d ∧ dig d = d ∨ (s.drop i).take (stop - i) = 45 :: d := by
   by_cases h : byteM s i = 45
   · rw [if_pos h] at hf
     right
     have hil : i < s.length := by omega
     have e : s[i] = 45 := by
       have := byte_at (drop_here hil)
       rw [h] at this
       exact UInt8.toNat_inj.1 (by show s[i].toNat = 45; omega)
     rw [drop_here hil,show stop - i = (stop - first) + 1 by omega,List.take_succ_cons,e,← hf,hd]
   · rw [if_neg h] at hf
     left
     subst hf
     refine ⟨hd,?_⟩
     cases d with
     | nil => exact absurd rfl hne
     | cons c d =>
       simp only [List.head?_cons,Option.some.injEq] at hhead
       unfold dig
       simp [hhead,hn45]
 have hdigd : dig ((s.drop i).take (stop - i)) = d := by
   rcases ht with ⟨h,h'⟩ | h
   · rw [h,h']
   · rw [h]; simp [dig]
 unfold goodN
 rw [hdigd,hhead,hall,Bool.and_true,decide_eq_true (by omega : 1 ≤ d.length),decide_eq_true (by omega : d.length ≤ 100)]
 by_cases e : s[first] = 48
 · have hst := h48 e
   have hd1 : d = [48] := by
     cases d with
     | nil => exact absurd rfl hne
     | cons c d =>
       simp only [List.head?_cons,Option.some.injEq] at hhead
       have : d = [] := List.eq_nil_of_length_eq_zero (by simp at hdl; omega)
       rw [this,hhead,e]
   rcases ht with ⟨h,_⟩ | h
   · rw [h,hd1,e]; decide
   · rw [h,hd1,e]; decide
 · rw [show ((some s[first] == some 48) : Bool) = false by simpa using e]
   have hnd : ¬ (s.drop i).take (stop - i) = [45,48] := by
     intro h2
     rcases ht with ⟨h,_⟩ | h
     · rw [h2] at h
       rw [← h] at hhead
       simp only [List.head?_cons,Option.some.injEq] at hhead
       exact hn45 hhead.symm
     · rw [h2] at h
       simp only [List.cons.injEq,true_and] at h
       rw [← h] at hhead
       simp only [List.head?_cons,Option.some.injEq] at hhead
       exact e hhead.symm
   simp [hnd]
theorem hexM_fits {s : Str} {i : Nat} (h : 0 ≤ hexM s i) : i + 6 ≤ s.length := by
 unfold hexM at h
 split at h
 · rename_i h1; exact h1.1
 · omega
theorem escM_fits {s : Str} {i k : Nat} {t : Str} (h : escM s i = some (t,k)) : i + k ≤ s.length := by
 have two : ∀ {c : Int},0 ≤ c → byteM s (i + 1) = c → i + 2 ≤ s.length := fun hc e => by
   have := byte_lt (s := s) (i := i + 1) (by omega)
   omega
 rw [escM_def] at h
 have pick : ∀ {c : Int} {u : Str} {R : Option (Str × Nat)},0 ≤ c → (if byteM s (i + 1) = c then some (u,2) else R) = some (t,k) → i + k ≤ s.length ∨ R = some (t,k) := fun {c u R} hc h => by
   split at h
   · rename_i e
     left
     have := two hc e
     cases h
     exact this
   · exact .inr h
 refine (pick (by decide) h).elim id fun h => (pick (by decide) h).elim id fun h => (pick (by decide) h).elim id fun h => (pick (by decide) h).elim id fun h => (pick (by decide) h).elim id fun h => (pick (by decide) h).elim id fun h => (pick (by decide) h).elim id fun h => (pick (by decide) h).elim id fun h => ?_
 split at h
 · cases h
 rename_i h1
 split at h
 · split at h
   · cases h
   · have := hexM_fits (s := s) (i := i + 6) (by omega)
     cases h
     omega
 · have := hexM_fits (s := s) (i := i) (by omega)
   cases h
   omega
end Go.Eng
namespace Go.Eng
open Go Go.Num
def lsum : List JV → Nat
 | [] => 0
 | x :: l => (showM x).length + 1 + lsum l
def osum : List (Str × JV) → Nat
 | [] => 0
 | (k,x) :: l => (quoteM k).length + (showM x).length + 2 + osum l
def cntP : List (Str × JV) → Nat
 | [] => 0
 | (_,x) :: l => cntM x + cntP l
theorem join_two (x y : Str) (r : List Str) : joinM (x :: y :: r) = x ++ [44] ++ joinM (y :: r) := rfl
theorem lsum_join : ∀ (xs : List JV),xs ≠ [] → (joinM (showL xs)).length + 1 = lsum xs
 | [],h => absurd rfl h
 | [x],_ => by simp [showL,joinM,lsum]
 | x :: y :: r,_ => by
   have := lsum_join (y :: r) (by simp)
   simp only [showL,join_two,lsum,List.length_append,List.length_cons,List.length_nil] at this ⊢
   omega
theorem osum_join : ∀ (l : List (Str × JV)),l ≠ [] → (joinM (List.zipWith (fun a b => quoteM a ++ [58] ++ b) (l.map (·.1)) (showL (l.map (·.2))))).length + 1 = osum l
 | [],h => absurd rfl h
 | [(k,x)],_ => by simp [showL,joinM,osum]; omega
 | (k,x) :: (k',y) :: r,_ => by
   have := osum_join ((k',y) :: r) (by simp)
   simp only [List.map_cons,showL,List.zipWith_cons_cons,join_two,osum,List.length_append,List.length_cons,List.length_nil] at this ⊢
   omega
theorem cntL_map : ∀ (l : List (Str × JV)),cntL (l.map (·.2)) = cntP l
 | [] => rfl
 | (k,x) :: l => by simp only [List.map_cons,cntL,cntP]; rw [cntL_map l]
theorem ins_mem {l : List (Str × JV)} {k : Str} {t : JV} : ∀ p,p ∈ insP l k t ↔ p = (k,t) ∨ p ∈ l := by
 induction l with
 | nil => intro p; simp [insP]
 | cons q r ih =>
   obtain ⟨a,y⟩ := q
   intro p
   simp only [insP]
   split
   · rw [List.mem_cons]
   · rw [List.mem_cons,ih p,List.mem_cons]
     constructor
     · rintro (h | h | h)
       · exact .inr (.inl h)
       · exact .inl h
       · exact .inr (.inr h)
     · rintro (h | h | h)
       · exact .inr (.inl h)
       · exact .inl h
       · exact .inr (.inr h)
theorem ins_osum (l : List (Str × JV)) (k : Str) (x : JV) : osum (insP l k x) = (quoteM k).length + (showM x).length + 2 + osum l := by
 induction l with
 | nil => rfl
 | cons q r ih =>
   obtain ⟨a,y⟩ := q
   simp only [insP]
   split
   · rfl
   · simp only [osum,ih]; omega
theorem ins_cnt (l : List (Str × JV)) (k : Str) (x : JV) : cntP (insP l k x) = cntM x + cntP l := by
 induction l with
 | nil => rfl
 | cons q r ih =>
   obtain ⟨a,y⟩ := q
   simp only [insP]
   split
   · rfl
   · simp only [cntP,ih]; omega
theorem ins_len (l : List (Str × JV)) (k : Str) (x : JV) : (insP l k x).length = l.length + 1 := by
 induction l with
 | nil => rfl
 | cons q r ih =>
   obtain ⟨a,y⟩ := q
   simp only [insP]
   split
   · rfl
   · simp only [List.length_cons,ih]
theorem rise_ins {l : List (Str × JV)} {k : Str} {x : JV} (h : Rise (l.map (·.1))) (hk : k ∉ l.map (·.1)) : Rise ((insP l k x).map (·.1)) := by
 induction l with
 | nil => exact List.pairwise_singleton _ _
 | cons q r ih =>
   obtain ⟨a,y⟩ := q
   simp only [List.map_cons] at h hk
   have hp := List.pairwise_cons.1 h
   simp only [insP]
   split
   · rename_i hlt
     simp only [List.map_cons]
     refine List.Pairwise.cons (fun c hc => ?_) h
     rcases List.mem_cons.1 hc with rfl | hc
     · exact hlt
     · exact less_trans hlt (hp.1 c hc)
   · rename_i hlt
     have hka : k ≠ a := fun e => hk (by rw [e]; exact List.mem_cons_self)
     have hak : Op.bytesLess a k = true := by
       rcases less_tri k a with h | h | h
       · exact absurd h hlt
       · exact absurd h hka
       · exact h
     simp only [List.map_cons]
     refine List.Pairwise.cons (fun c hc => ?_) (ih hp.2 fun h => hk (List.mem_cons_of_mem _ h))
     obtain ⟨p,hp1,rfl⟩ := List.mem_map.1 hc
     rcases (ins_mem p).1 hp1 with rfl | hp1
     · exact hak
     · exact hp.1 _ (List.mem_map.2 ⟨p,hp1,rfl⟩)
theorem rise_ok : ∀ {ks : List Str},Rise ks → (∀ k ∈ ks,k.length ≤ 16384) → keysOk ks = true
 | [],_,_ => rfl
 | [a],_,h => by simpa [keysOk] using h a (by simp)
 | a :: b :: r,hr,h => by
   have hp := List.pairwise_cons.1 hr
   have ih := rise_ok (ks := b :: r) hp.2 fun k hk => h k (List.mem_cons_of_mem _ hk)
   simp only [keysOk]
   rw [decide_eq_true (h a (by simp)),hp.1 b (by simp),ih]; rfl
theorem zip_maps (l : List (Str × JV)) : (l.map (·.1)).zip (l.map (·.2)) = l := by
 induction l with
 | nil => rfl
 | cons q r ih => simp only [List.map_cons,List.zip_cons_cons,ih]
theorem get_none {l : List (Str × JV)} {k : Str} (h : (getM (mkO l) k).isSome = false) : k ∉ l.map (·.1) := by
 intro hm
 unfold getM mkO at h
 simp only [JV.k,JV.ks,JV.xs,if_true] at h
 cases hx : idxK (l.map (·.1)) k with
 | none => exact idxK_none.1 hx hm
 | some i =>
   rw [hx] at h
   have := (List.getElem?_eq_some_iff.1 (idxK_spec hx)).1
   rw [List.length_map] at this
   simp [this] at h
theorem put_mkO {l : List (Str × JV)} {k : Str} {x : JV} (h : k ∉ l.map (·.1)) : putM (mkO l) k x = mkO (insP l k x) := by
 unfold putM
 have e1 : (mkO l).k = 6 := rfl
 have e2 : (mkO l).ks = l.map (·.1) := rfl
 have e3 : (mkO l).xs = l.map (·.2) := rfl
 rw [if_pos e1,e2,e3,zip_maps]
 congr 2
 unfold dropP
 rw [List.filter_eq_self]
 intro p hp
 rw [Bool.not_eq_true',decide_eq_false_iff_not]
 intro e
 exact h (List.mem_map.2 ⟨p,hp,e⟩)
structure Item (m : Nat) (y : JV) : Prop where
 plain : plainM y = true
 texts : textsM y = true
 known : knownM y = true
 deep : deepM y m = true
structure ItemP (m : Nat) (p : Str × JV) : Prop where
 len : p.1.length ≤ 16384
 utf : utfM p.1 = true
 item : Item m p.2
structure Back (s : Str) (deep i j cnt c : Nat) (v : JV) : Prop where
 lev : deep ≤ 24
 item : Item (25 - deep) v
 cnt : c = cnt + cntM v
 max : c ≤ 2000
 len : (showM v).length + i ≤ j
 fits : j ≤ s.length
theorem textsL_all (xs : List JV) : textsL xs = xs.all textsM := by
 induction xs with
 | nil => rfl
 | cons x xs ih => simp [textsL,ih]
theorem item_list {m : Nat} {xs : List JV} (h : ∀ y ∈ xs,Item m y) : Item (m + 1) (.mk 5 false [] xs []) := by
 refine ⟨?_,?_,?_,?_⟩
 · simp only [plainM,plainL_all,Bool.and_eq_true,List.all_eq_true]
   exact ⟨by simp [headOk,keysOk],fun y hy => (h y hy).plain⟩
 · simp only [textsM,textsL_all,Bool.and_eq_true,List.all_eq_true]
   exact ⟨⟨rfl,by simp⟩,fun y hy => (h y hy).texts⟩
 · simp only [knownM,knownL_all,Bool.and_eq_true,List.all_eq_true]
   exact ⟨by decide,fun y hy => (h y hy).known⟩
 · rw [deepM_succ,deepL_all,List.all_eq_true]
   exact fun y hy => (h y hy).deep
theorem item_obj {m : Nat} {l : List (Str × JV)} (hr : Rise (l.map (·.1))) (h : ∀ p ∈ l,ItemP m p) : Item (m + 1) (mkO l) := by
 have hx : ∀ y ∈ l.map (·.2),Item m y := fun y hy => by
   obtain ⟨p,hp,rfl⟩ := List.mem_map.1 hy
   exact (h p hp).item
 have hk := rise_ok hr fun k hk => by
   obtain ⟨p,hp,rfl⟩ := List.mem_map.1 hk
   exact (h p hp).len
 refine ⟨?_,?_,?_,?_⟩
 · simp only [mkO,plainM,plainL_all,Bool.and_eq_true,List.all_eq_true]
   exact ⟨by simp [headOk,hk],fun y hy => (hx y hy).plain⟩
 · simp only [mkO,textsM,textsL_all,Bool.and_eq_true,List.all_eq_true]
   refine ⟨⟨rfl,fun k hk => ?_⟩,fun y hy => (hx y hy).texts⟩
   obtain ⟨p,hp,rfl⟩ := List.mem_map.1 hk
   exact (h p hp).utf
 · simp only [mkO,knownM,knownL_all,Bool.and_eq_true,List.all_eq_true]
   exact ⟨by decide,fun y hy => (hx y hy).known⟩
 · unfold mkO
   rw [deepM_succ,deepL_all,List.all_eq_true]
   exact fun y hy => (hx y hy).deep
theorem ascii_utf {t : Str} (h : ∀ c ∈ t,c.toNat < 128) : Utf t := by
 induction t with
 | nil => exact .nil
 | cons c t ih => exact Utf.cons (u := [c]) (rn_one (h c List.mem_cons_self)) (ih fun x hx => h x (List.mem_cons_of_mem _ hx))
theorem goodN_utf {t : Str} (h : goodN t = true) : utfM t = true := by
 obtain ⟨_,_,_,g4⟩ := goodN_out h
 rw [List.all_eq_true] at g4
 have hd : ∀ c ∈ dig t,c.toNat < 128 := fun c hc => by have := (isDig_num (g4 c hc)).2; omega
 refine (utf_iff t).2 (ascii_utf fun c hc => ?_)
 cases t with
 | nil => cases hc
 | cons a r =>
   by_cases h45 : a = 45
   · subst h45
     have e : dig (45 :: r) = r := by simp [dig]
     rw [e] at hd
     rcases List.mem_cons.1 hc with rfl | hc
     · decide
     · exact hd c hc
   · have e : dig (a :: r) = a :: r := by simp [dig,h45]
     rw [e] at hd
     exact hd c hc
theorem item_leaf {k : Int} {b : Bool} {t : Str} {m : Nat} (h1 : headOk k b t 0 [] = true) (h2 : utfM t = true) (h3 : k ≠ 1) : Item (m + 1) (.mk k b t [] []) := by
 refine ⟨?_,?_,?_,?_⟩
 · simp only [plainM,plainL,Bool.and_true]; exact h1
 · simp only [textsM,textsL,List.all_nil,Bool.and_true]; exact h2
 · simp only [knownM,knownL,Bool.and_true,Bool.not_eq_true',decide_eq_false_iff_not]; exact h3
 · rw [deepM_succ]; rfl
theorem num_back {E : ErrNo} {s : Str} {i cnt j c m : Nat} {v : JV} (h : numM E s i cnt = .ok v j c) : Item (m + 1) v ∧ c = cnt ∧ cntM v = 1 ∧ (showM v).length + i ≤ j ∧ j ≤ s.length := by
 unfold numM at h
 simp only at h
 generalize hf : (if byteM s i = 45 then i + 1 else i) = first at *
 generalize hs : (if byteM s first = 48 then first + 1 else digM s first) = stop at *
 split at h
 · cases h
 split at h
 · cases h
 split at h
 · cases h
 rename_i h1 h2 h3
 obtain ⟨hg,hl,hlt⟩ := num_good hf.symm hs.symm h1 h2
 generalize ht : (s.drop i).take (stop - i) = t at *
 have htl : t.length = stop - i := by rw [← ht,List.length_take,List.length_drop]; omega
 have hgt : goodN (if t = [45,48] then [48] else t) = true := by
   split
   · decide
   · rename_i hne; rw [hg]; exact decide_eq_true hne
 have hlen : (if t = [45,48] then ([48] : Str) else t).length + i ≤ stop := by
   split
   · simp; omega
   · omega
 cases h
 generalize (if t = [45,48] then ([48] : Str) else t) = u at *
 refine ⟨item_leaf (by simp [headOk,keysOk,hgt]) (goodN_utf hgt) (by decide),rfl,rfl,?_,hl⟩
 rw [showM_eq]
 simpa using hlen
set_option maxHeartbeats 1000000 in
theorem back_all (E : ErrNo) (s : Str) : ∀ n,
   (∀ {deep i cnt v j c},i ≤ s.length → cnt ≤ 2000 → valM E s n deep i cnt = .ok v j c → Back s deep i j cnt c v) ∧
   (∀ {deep i cnt acc v j c},i ≤ s.length → cnt ≤ 2000 → listM E s n deep i cnt acc = .ok v j c → ∃ ys,ys ≠ [] ∧ v = .mk 5 false [] (acc ++ ys) [] ∧ (∀ y ∈ ys,Item (24 - deep) y) ∧ c = cnt + cntL ys ∧ c ≤ 2000 ∧ lsum ys + i ≤ j ∧ j ≤ s.length) ∧
   (∀ {deep i cnt l v j c},i ≤ s.length → cnt ≤ 2000 → objM E s n deep i cnt (mkO l) = .ok v j c → Rise (l.map (·.1)) → (∀ p ∈ l,ItemP (24 - deep) p) →
     ∃ l',l' ≠ [] ∧ v = mkO l' ∧ Rise (l'.map (·.1)) ∧ (∀ p ∈ l',ItemP (24 - deep) p) ∧ c + cntP l = cnt + cntP l' ∧ c ≤ 2000 ∧ osum l' + i ≤ osum l + j ∧ j ≤ s.length) := by
 intro n
 induction n with
 | zero =>
   refine ⟨fun _ _ h => ?_,fun _ _ h => ?_,fun _ _ h => ?_⟩
   · rw [valM] at h; cases h
   · rw [listM] at h; cases h
   · rw [objM] at h; cases h
 | succ n ih =>
   obtain ⟨ihv,ihl,iho⟩ := ih
   refine ⟨fun {deep i cnt v j c} hi hc h => ?_,fun {deep i cnt acc v j c} hi hc h => ?_,fun {deep i cnt l v j c} hi hc h hr hp => ?_⟩
   · rw [valM] at h
     try simp only at h
     have hb1 := blank_ge s i
     have hb2 := blank_le hi
     generalize blankM s i = i' at *
     have word : ∀ {w : Str},wordM s i' w = true → i' + w.length ≤ s.length := fun {w} hw => by
       unfold wordM at hw
       have := congrArg List.length (of_decide_eq_true hw)
       rw [List.length_take,List.length_drop] at this
       omega
     split at h
     · cases h
     rename_i hdeep
     split at h
     · cases h
     rename_i hcnt
     have leaf : ∀ {k : Int} {b : Bool} {t : Str},headOk k b t 0 [] = true → utfM t = true → k ≠ 1 → Item (25 - deep) (.mk k b t [] []) := fun h1 h2 h3 => by
       have := item_leaf (m := 24 - deep) h1 h2 h3
       rwa [show 24 - deep + 1 = 25 - deep by omega] at this
     split at h
     · rename_i hw
       have := word hw
       cases h
       exact ⟨by omega,leaf rfl rfl (by decide),rfl,by omega,by rw [JV.null,showM_eq]; simp; omega,by simpa using this⟩
     split at h
     · rename_i hw
       have := word hw
       cases h
       exact ⟨by omega,leaf rfl rfl (by decide),rfl,by omega,by rw [showM_eq]; simp; omega,by simpa using this⟩
     split at h
     · rename_i hw
       have := word hw
       cases h
       exact ⟨by omega,leaf rfl rfl (by decide),rfl,by omega,by rw [showM_eq]; simp; omega,by simpa using this⟩
     split at h
     · obtain ⟨h1,h2,h3,h4,h5⟩ := num_back (m := 24 - deep) h
       rw [show 24 - deep + 1 = 25 - deep by omega] at h1
       exact ⟨by omega,h1,by omega,by omega,by omega,h5⟩
     split at h
     · rename_i h34
       split at h
       · rename_i t j' c' hq
         cases h
         unfold quotM at hq
         obtain ⟨a1,a2,a3,a4,a5,a6⟩ := quot_back hq .nil
         have e : (showM (.mk 4 false t [] [])).length = (t.flatMap escB).length + 2 := by
           rw [showM_eq]; simp [quoteM]
         refine ⟨by omega,leaf (by simp [headOk,keysOk,a3]) ((utf_iff t).2 a2) (by decide),by rw [a1]; rfl,by omega,?_,a5⟩
         rw [e]
         simp only [List.flatMap_nil,List.length_nil,Nat.zero_add] at a6
         omega
       · cases h
     split at h
     · rename_i h91
       have hlt := byte_lt (s := s) (i := i') (by omega)
       split at h
       · rename_i h93
         have hlt2 := byte_lt (s := s) (i := blankM s (i' + 1)) (by omega)
         have := blank_ge s (i' + 1)
         cases h
         exact ⟨by omega,leaf rfl rfl (by decide),rfl,by omega,by rw [showM_eq]; simp [showL,joinM]; omega,by omega⟩
       · have hg := blank_ge s (i' + 1)
         obtain ⟨ys,y1,rfl,y3,y4,y5,y6,y7⟩ := ihl (blank_le (by omega)) (by omega) h
         have hI := item_list y3
         rw [show 24 - deep + 1 = 25 - deep by omega] at hI
         have hj := lsum_join ys y1
         refine ⟨by omega,by simpa using hI,by simp only [List.nil_append,cntM]; omega,y5,?_,y7⟩
         rw [showM_eq]
         simp only [List.nil_append]
         simp
         omega
     split at h
     · rename_i h123
       have hlt := byte_lt (s := s) (i := i') (by omega)
       split at h
       · rename_i h125
         have hlt2 := byte_lt (s := s) (i := blankM s (i' + 1)) (by omega)
         have := blank_ge s (i' + 1)
         cases h
         exact ⟨by omega,leaf rfl rfl (by decide),rfl,by omega,by rw [showM_eq]; simp [showL,joinM]; omega,by omega⟩
       · have hg := blank_ge s (i' + 1)
         obtain ⟨l',y1,rfl,y2,y3,y4,y5,y6,y7⟩ := iho (l := []) (blank_le (by omega)) (by omega) h List.Pairwise.nil (fun p hp => by cases hp)
         have hI := item_obj y2 y3
         rw [show 24 - deep + 1 = 25 - deep by omega] at hI
         have hj := osum_join l' y1
         simp only [osum,cntP] at y4 y6
         refine ⟨by omega,hI,by simp only [mkO,cntM,cntL_map]; omega,y5,?_,y7⟩
         unfold mkO
         rw [showM_eq]
         simp
         simp at hj
         omega
     · cases h
   · rw [listM] at h
     split at h
     · cases h
     rename_i x j1 c1 hv
     obtain ⟨v1,v2,v3,v4,v5,v6⟩ := ihv hi hc hv
     rw [show 25 - (deep + 1) = 24 - deep by omega] at v2
     have hg := blank_ge s j1
     split at h
     · rename_i h93
       have hlt := byte_lt (s := s) (i := blankM s j1) (by omega)
       cases h
       refine ⟨[x],by simp,rfl,fun y hy => by rw [List.mem_singleton.1 hy]; exact v2,by simp only [cntL]; omega,v4,by simp only [lsum]; omega,by omega⟩
     split at h
     · rename_i h44
       have hlt := byte_lt (s := s) (i := blankM s j1) (by omega)
       obtain ⟨ys,y1,rfl,y3,y4,y5,y6,y7⟩ := ihl (by omega) v4 h
       refine ⟨x :: ys,by simp,by simp,fun y hy => ?_,by simp only [cntL]; omega,y5,by simp only [lsum]; omega,y7⟩
       rcases List.mem_cons.1 hy with rfl | hy
       · exact v2
       · exact y3 y hy
     · cases h
   · rw [objM] at h
     try simp only at h
     have hb1 := blank_ge s i
     have hb2 := blank_le hi
     generalize blankM s i = i' at *
     split at h
     · cases h
     rename_i h34
     split at h
     · cases h
     rename_i key j1 c1 hq
     unfold quotM at hq
     obtain ⟨a1,a2,a3,a4,a5,a6⟩ := quot_back hq .nil
     simp only [List.flatMap_nil,List.length_nil,Nat.zero_add] at a6
     have hql : (quoteM key).length = (key.flatMap escB).length + 2 := by simp [quoteM]
     split at h
     · cases h
     rename_i hget
     have hn := get_none (by simpa using hget)
     have hg1 := blank_ge s j1
     split at h
     · cases h
     rename_i h58
     have hlt := byte_lt (s := s) (i := blankM s j1) (by omega)
     split at h
     · cases h
     rename_i x j2 c2 hv
     obtain ⟨v1,v2,v3,v4,v5,v6⟩ := ihv (by omega) (by omega) hv
     rw [show 25 - (deep + 1) = 24 - deep by omega] at v2
     have hg2 := blank_ge s j2
     rw [put_mkO hn] at h
     have hr' := rise_ins (x := x) hr hn
     have hp' : ∀ p ∈ insP l key x,ItemP (24 - deep) p := fun p hpm => by
       rcases (ins_mem p).1 hpm with rfl | hpm
       · exact ⟨a3,(utf_iff key).2 a2,v2⟩
       · exact hp p hpm
     split at h
     · rename_i h125
       have hlt2 := byte_lt (s := s) (i := blankM s j2) (by omega)
       cases h
       refine ⟨insP l key x,fun e => ?_,rfl,hr',hp',by rw [ins_cnt]; omega,v4,by rw [ins_osum]; omega,by omega⟩
       have := ins_len l key x
       rw [e] at this
       simp at this
     split at h
     · rename_i h44
       have hlt2 := byte_lt (s := s) (i := blankM s j2) (by omega)
       obtain ⟨l',y1,rfl,y2,y3,y4,y5,y6,y7⟩ := iho (by omega) v4 h hr' hp'
       rw [ins_cnt] at y4
       rw [ins_osum] at y6
       exact ⟨l',y1,rfl,y2,y3,by omega,y5,by omega,y7⟩
     · cases h
theorem val_back {E : ErrNo} {s : Str} {n deep i cnt j c : Nat} {v : JV} (hi : i ≤ s.length) (hc : cnt ≤ 2000) (h : valM E s n deep i cnt = .ok v j c) : Back s deep i j cnt c v := (back_all E s n).1 hi hc h
end Go.Eng
namespace Go.Eng
open Go Go.Num
mutual
/-- what is written is a value's JSON -/
theorem sp_show : ∀ (v : JV),plainM v = true → Sp v (showM v)
 | .mk k b t xs ks,hp => by
   rw [plainM_eq,Bool.and_eq_true] at hp
   have hh := headOk_out hp.1
   simp only [JV.k,JV.b,JV.t,JV.xs,JV.ks] at hh hp
   simp only [Sp]
   by_cases k5 : k = 5
   · subst k5
     rw [if_pos rfl,showM_eq,if_neg (by decide),if_neg (by decide),if_neg (by decide),if_neg (by decide),if_neg (by decide)]
     by_cases hx : xs = []
     · subst hx
       exact .inl ⟨rfl,[],BL.nil,rfl⟩
     · exact .inr ⟨joinM (showL xs),spL_show xs hp.2 hx,rfl⟩
   rw [if_neg k5]
   by_cases k6 : k = 6
   · subst k6
     have hl : ks.length = xs.length := hh.2.2.2.2.2.2.2.2.1 rfl
     rw [if_pos rfl,showM_eq,if_neg (by decide),if_neg (by decide),if_neg (by decide),if_neg (by decide),if_pos rfl]
     by_cases hx : xs = []
     · subst hx
       have : ks = [] := List.eq_nil_of_length_eq_zero hl
       subst this
       exact .inl ⟨rfl,rfl,[],BL.nil,rfl⟩
     · exact .inr ⟨_,spO_show xs ks hp.2 hl hx,rfl⟩
   rw [if_neg k6]
   trivial
theorem spL_show : ∀ (xs : List JV),plainL xs = true → xs ≠ [] → SpL xs (joinM (showL xs))
 | [],_,h => absurd rfl h
 | [x],hp,_ => by
   simp only [plainL,Bool.and_eq_true] at hp
   simp only [SpL,showL,joinM]
   exact .inl ⟨trivial,[],showM x,[],BL.nil,sp_show x hp.1,BL.nil,by simp⟩
 | x :: y :: r,hp,_ => by
   rw [plainL,Bool.and_eq_true] at hp
   have ih := spL_show (y :: r) hp.2 (by simp)
   rw [SpL]
   exact .inr ⟨[],showM x,[],joinM (showL (y :: r)),BL.nil,sp_show x hp.1,BL.nil,ih,by simp [showL,join_two]⟩
theorem spO_show : ∀ (xs : List JV) (ks : List Str),plainL xs = true → ks.length = xs.length → xs ≠ [] → SpO xs ks (joinM (List.zipWith (fun a b => quoteM a ++ [58] ++ b) ks (showL xs)))
 | [],_,_,_,h => absurd rfl h
 | _ :: _,[],_,h,_ => by simp at h
 | [x],[k],hp,_,_ => by
   simp only [plainL,Bool.and_eq_true] at hp
   simp only [SpO,showL,List.zipWith_cons_cons,List.zipWith_nil_left,joinM]
   exact .inl ⟨trivial,trivial,[],[],[],showM x,[],BL.nil,BL.nil,BL.nil,sp_show x hp.1,BL.nil,by simp⟩
 | [x],_ :: _ :: _,_,h,_ => by simp at h
 | x :: y :: r,[k],_,h,_ => by simp at h
 | x :: y :: r,k :: k' :: ks,hp,hl,_ => by
   rw [plainL,Bool.and_eq_true] at hp
   have ih := spO_show (y :: r) (k' :: ks) hp.2 (by simpa using hl) (by simp)
   rw [SpO]
   exact .inr ⟨[],[],[],showM x,[],_,BL.nil,BL.nil,BL.nil,sp_show x hp.1,BL.nil,ih,by simp [showL,join_two]⟩
end
theorem dec_sp {E : ErrNo} {v : JV} {a t b : Str} (hs : Sp v t) (ha : BL a) (hb : BL b) (hi : Item 24 v) (hc : cntM v ≤ 2000) (hl : (a ++ t ++ b).length ≤ 65536) : ∃ j,decM E (a ++ t ++ b) = .ok v j (cntM v) := by
 have h0 : (a ++ t ++ b).drop 0 = a ++ t ++ b := rfl
 have hv := val_read (E := E) (n := 5000) (deep := 1) (m := 24) (cnt := 0) v hs hi.plain hi.texts hi.known hi.deep (by omega) (by omega) (by omega) h0 ha (by
   have := Stop.bl hb (r := []) (.inl rfl)
   rwa [List.append_nil] at this)
 have hd : (a ++ t ++ b).drop (0 + a.length + t.length) = b := by
   have := drop_app h0
   rwa [List.length_append,← Nat.add_assoc] at this
 have he := blank_end hb hd
 refine ⟨0 + a.length + t.length,?_⟩
 unfold decM
 rw [if_neg (by omega),hv]
 simp only [he]
 rw [if_neg (by simp only [List.length_append]; omega),Nat.zero_add,Nat.zero_add]
theorem dec_show {E : ErrNo} {v : JV} (hi : Item 24 v) (hc : cntM v ≤ 2000) (hl : (showM v).length ≤ 65536) : ∃ j,decM E (showM v) = .ok v j (cntM v) := by
 have := dec_sp (E := E) (sp_show v hi.plain) BL.nil BL.nil hi hc (by simpa using hl)
 simpa using this
theorem dec_back {E : ErrNo} {s : Str} {v : JV} {j c : Nat} (h : decM E s = .ok v j c) : Item 24 v ∧ cntM v ≤ 2000 ∧ (showM v).length ≤ s.length ∧ s.length ≤ 65536 := by
 unfold decM at h
 split at h
 · cases h
 split at h
 · cases h
 rename_i hl _ v' i' c' hv
 split at h
 · cases h
 cases h
 have hb := val_back (Nat.zero_le _) (Nat.zero_le _) hv
 exact ⟨hb.item,by have := hb.cnt; have := hb.max; omega,by have := hb.len; have := hb.fits; omega,by omega⟩
end Go.Eng

namespace Go.Proofs.YtpiaegojabkioaaGreatDoor
open Go Go.Eng
set_option maxRecDepth 100000
section
variable [HX]
theorem shape_of {w : World} {a : Nat} {x : List Value} {T : TypeId} (h : w.heap[a]? = some (.cells x.toArray T (0,0))) : w.shape? a = some (T,x.length) := by simp [World.shape?,h]
theorem ov_s {w : World} {a b oa ob la ca lb cb : Nat} {x y : List Value} {T1 T2 : TypeId} {K : Value → World → Prop} (hne : a ≠ b) (ha : w.heap[a]? = some (.cells x.toArray T1 (0,0))) (hb : w.heap[b]? = some (.cells y.toArray T2 (0,0))) (hy : y ≠ []) (hK : K (.bool false) w) :
   callF Tryz.prog 157 [.slice (some ⟨a,oa,none⟩) la ca,.slice (some ⟨b,ob,none⟩) lb cb] w K := by
 unfold callF
 rw [run_callFunc_extern Tryz.func157 (by kernel_rfl) (by kernel_rfl) (by kernel_rfl) (e := Extern.SlicesOverlaps.overlaps #[22,22] #[4]) (by kernel_rfl),
   Lib.run_overlaps_apart w 22 4 ST (by kernel_rfl) 1 (fun w => by kernel_rfl) ⟨a,oa,none⟩ ⟨b,ob,none⟩ la ca lb cb hne T1 T2 x.length y.length (shape_of ha) (shape_of hb) (fun e => hy (List.eq_nil_of_length_eq_zero e)) (by rw [frozen_eq,ha,frO_zero]) (by rw [frozen_eq,ha,frO_zero])]
 exact hK
theorem ov_v {w : World} {a b oa ob la ca lb cb : Nat} {x y : List Value} {T1 T2 : TypeId} {K : Value → World → Prop} (hne : a ≠ b) (ha : w.heap[a]? = some (.cells x.toArray T1 (0,0))) (hb : w.heap[b]? = some (.cells y.toArray T2 (0,0))) (hy : y ≠ []) (hK : K (.bool false) w) :
   callF Tryz.prog 159 [.slice (some ⟨a,oa,none⟩) la ca,.slice (some ⟨b,ob,none⟩) lb cb] w K := by
 unfold callF
 rw [run_callFunc_extern Tryz.func159 (by kernel_rfl) (by kernel_rfl) (by kernel_rfl) (e := Extern.SlicesOverlaps.overlaps #[65,65] #[4]) (by kernel_rfl),
   Lib.run_overlaps_apart w 65 4 VT (by kernel_rfl) 5 (fun w => by kernel_rfl) ⟨a,oa,none⟩ ⟨b,ob,none⟩ la ca lb cb hne T1 T2 x.length y.length (shape_of ha) (shape_of hb) (fun e => hy (List.eq_nil_of_length_eq_zero e)) (by rw [frozen_eq,ha,frO_zero]) (by rw [frozen_eq,ha,frO_zero])]
 exact hK
theorem insert_s {w : World} {base tb n i : Nat} {v : Value} {xs c : List Value} {T2 : TypeId} {K : Value → World → Prop} (hown : Own w base ST 1 v n xs) (ht : w.heap[tb]? = some (.cells c.toArray T2 (0,0))) (hc : c.length = 1) (h1 : ∀ u ∈ c,one1 u = true) (hx1 : ∀ u ∈ xs,one1 u = true)
   (hne : v.ownBlock ≠ some tb) (hi : i ≤ n) (hn : n ≤ 1000000) (hbase : base ≤ w.heap.size)
   (hK : ∀ v' w',Own w' base ST 1 v' (n + 1) (xs.take (i * 1) ++ c ++ xs.drop (i * 1)) → Chg (fun k => v.ownBlock = some k) w w' → (∀ k,v'.ownBlock = some k → v.ownBlock = some k ∨ w.heap.size ≤ k) → K v' w') :
   callF Tryz.prog 123 [v,i64 (i : Nat),.slice (some ⟨tb,0,none⟩) 1 1] w K := by
 refine W123_ok ?_
 show InsW Tryz.prog 1 22 3 157 158 _ _ _ _ _
 exact insert_q elem_s (by kernel_rfl) ov_s hown ht hc h1 hx1 hne hi hn (by decide) hbase hK
theorem insert_v {w : World} {base tb n i : Nat} {v : Value} {xs c : List Value} {T2 : TypeId} {K : Value → World → Prop} (hown : Own w base VT 5 v n xs) (ht : w.heap[tb]? = some (.cells c.toArray T2 (0,0))) (hc : c.length = 5) (h1 : ∀ u ∈ c,one1 u = true) (hx1 : ∀ u ∈ xs,one1 u = true)
   (hne : v.ownBlock ≠ some tb) (hi : i ≤ n) (hn : n ≤ 1000000) (hbase : base ≤ w.heap.size)
   (hK : ∀ v' w',Own w' base VT 5 v' (n + 1) (xs.take (i * 5) ++ c ++ xs.drop (i * 5)) → Chg (fun k => v.ownBlock = some k) w w' → (∀ k,v'.ownBlock = some k → v.ownBlock = some k ∨ w.heap.size ≤ k) → K v' w') :
   callF Tryz.prog 124 [v,i64 (i : Nat),.slice (some ⟨tb,0,none⟩) 1 1] w K := by
 refine W124_ok ?_
 show InsW Tryz.prog 5 65 3 159 160 _ _ _ _ _
 exact insert_q elem_v (by kernel_rfl) ov_v hown ht hc h1 hx1 hne hi hn (by decide) hbase hK
end
end Go.Proofs.YtpiaegojabkioaaGreatDoor
namespace Go.Proofs.YtpiaegojabkioaaGreatDoor
open Go Go.Eng
set_option maxRecDepth 100000
theorem VRepsP.len {G : Nat → Prop} {w : World} {xs : List JV} {L : List Value} (h : VRepsP G w xs L) : L.length = xs.length * 5 := (VRepsP.rep h).len
theorem VRepsP.app {G : Nat → Prop} {w : World} : ∀ {xs ys : List JV} {L M : List Value},VRepsP G w xs L → VRepsP G w ys M → VRepsP G w (xs ++ ys) (L ++ M)
 | [],ys,L,M,h,h' => by simp only [VRepsP] at h; subst h; exact h'
 | x :: xs,ys,L,M,h,h' => by
   simp only [VRepsP] at h
   obtain ⟨c,r,rfl,hc,hr⟩ := h
   simp only [List.cons_append,VRepsP]
   exact ⟨c,r ++ M,by simp,hc,VRepsP.app hr h'⟩
theorem VRepsP.cut {G : Nat → Prop} {w : World} : ∀ (i : Nat) {xs : List JV} {L : List Value},VRepsP G w xs L → VRepsP G w (xs.take i) (L.take (i * 5)) ∧ VRepsP G w (xs.drop i) (L.drop (i * 5))
 | 0,xs,L,h => by simp only [Nat.zero_mul,List.take_zero,List.drop_zero,VRepsP]; exact ⟨trivial,h⟩
 | i + 1,[],L,h => by simp only [VRepsP] at h; subst h; simp [VRepsP]
 | i + 1,x :: xs,L,h => by
   simp only [VRepsP] at h
   obtain ⟨c,r,rfl,hc,hr⟩ := h
   have h5 := hc.rep.len
   obtain ⟨h1,h2⟩ := VRepsP.cut i hr
   have e1 : (c ++ r).take ((i + 1) * 5) = c ++ r.take (i * 5) := by
     rw [show (i + 1) * 5 = c.length + i * 5 by omega,List.take_append,List.take_of_length_le (by omega),Nat.add_sub_cancel_left]
   have e2 : (c ++ r).drop ((i + 1) * 5) = r.drop (i * 5) := by
     rw [show (i + 1) * 5 = c.length + i * 5 by omega,List.drop_append]
     simp
   rw [e1,e2]
   simp only [List.take_succ_cons,List.drop_succ_cons,VRepsP]
   exact ⟨⟨c,_,rfl,hc,h1⟩,h2⟩
theorem VRepsP.one' {G : Nat → Prop} {w : World} {x : JV} {cs : List Value} (h : VRepP G w x cs) : VRepsP G w [x] cs := by
 simp only [VRepsP]; exact ⟨cs,[],by simp,h,rfl⟩
theorem ins_split {l : List (Str × JV)} {k : Str} {x : JV} {i : Nat} (hk : k ∉ l.map (·.1)) (h1 : ∀ j a,j < i → (l.map (·.1))[j]? = some a → Op.bytesLess a k = true) (h2 : ∀ j a,i ≤ j → (l.map (·.1))[j]? = some a → Op.bytesLess a k = false) : insP l k x = l.take i ++ (k,x) :: l.drop i := by
 induction l generalizing i with
 | nil => simp [insP]
 | cons q r ih =>
   obtain ⟨a,y⟩ := q
   simp only [List.map_cons,List.mem_cons,not_or] at hk
   simp only [insP]
   cases i with
   | zero =>
     have := h2 0 a (Nat.zero_le _) rfl
     have hka : Op.bytesLess k a = true := by
       rcases less_tri k a with h | h | h
       · exact h
       · exact absurd h hk.1
       · rw [this] at h; cases h
     rw [if_pos hka]; rfl
   | succ i =>
     have := h1 0 a (by omega) rfl
     rw [if_neg (by rw [less_anti this]; simp),ih (i := i) hk.2 (fun j b hj hb => h1 (j + 1) b (by omega) hb) (fun j b hj hb => h2 (j + 1) b (by omega) hb)]
     rfl
theorem own_chg {w w' : World} {B : Nat} {e : TypeId} {size : Nat} {v : Value} {n : Nat} {xs : List Value} {S : Nat → Prop} (h : Own w B e size v n xs) (hc : Chg S w w') (hS : ∀ k,v.ownBlock = some k → ¬ S k) : Own w' B e size v n xs := by
 obtain ⟨hl,h | ⟨g,cap,cur,rfl,h1,h2,h3⟩⟩ := h
 · exact ⟨hl,.inl h⟩
 · exact ⟨hl,.inr ⟨g,cap,cur,rfl,h1,hc.at h2 (hS g rfl),h3⟩⟩
theorem own_in {w : World} {B : Nat} {e : TypeId} {size : Nat} {v : Value} {n k : Nat} {xs : List Value} (h : Own w B e size v n xs) (hk : v.ownBlock = some k) : B ≤ k ∧ k < w.heap.size ∧ ∃ c,w.heap[k]? = some (.cells c e (0,0)) := by
 obtain ⟨hl,⟨rfl,_⟩ | ⟨g,cap,cur,rfl,h1,h2,h3⟩⟩ := h
 · cases hk
 · simp only [Value.ownBlock,Option.some.injEq] at hk
   subst hk
   exact ⟨h1,at_lt h2,_,h2⟩
theorem own_one {w : World} {B : Nat} {e : TypeId} {size : Nat} {v : Value} {n : Nat} {xs : List Value} (h : Own w B e size v n xs) : one1 v = true := by obtain ⟨p,c,rfl,_⟩ := h.sl.shape; rfl
theorem strs_one (l : List Str) : ∀ u ∈ l.map str,one1 u = true := fun u hu => by
 obtain ⟨s,_,rfl⟩ := List.mem_map.1 hu
 rfl
section
variable [HX]
theorem clone_so {v : Value} {T : TypeId} {l : List Str} {w : World} {K : Value → World → Prop} (h : SlAt w T v l.length (l.map str)) (hl : l.length ≤ 1000000)
   (hK : ∀ v' w',Ext w w' → Own w' w.heap.size ST 1 v' l.length (l.map str) → K v' w') : callF Tryz.prog 125 [v] w K := by
 refine W125_ok ?_
 unfold W125
 obtain ⟨p,cap,rfl,hcap,hp,hc⟩ := h
 cases p with
 | none =>
   obtain ⟨h0,rfl⟩ := hp rfl
   have : l = [] := List.eq_nil_of_length_eq_zero h0
   subst this
   have e : ∀ K : Value → Prop,eqW .slice false (.slice none ([] : List Str).length 0) (.slice none 0 0) K ↔ K (.bool true) := fun K => Iff.rfl
   rw [e]
   simp only [wsv,wsg,wsh,wsl,cond_true,cond_false,exists_eq_left',wsu,Nat.reduceAdd,Nat.reduceLT,Nat.lt_add_one,Nat.zero_lt_succ,decide_true,decide_false,ne_eq,reduceCtorEq]
   exact hK _ w (Chg.refl _ _) ⟨rfl,.inl ⟨rfl,rfl⟩⟩
 | some a =>
   have e : ∀ K : Value → Prop,eqW .slice false (.slice (some a) l.length cap) (.slice none 0 0) K ↔ K (.bool false) := fun K => Iff.rfl
   rw [e]
   unfold bslW
   simp only [wsv,wsg,wsh,wsl,cond_true,cond_false,exists_eq_left',wsu,Nat.reduceAdd,Nat.reduceLT,Nat.lt_add_one,Nat.zero_lt_succ,decide_true,decide_false,ne_eq,reduceCtorEq]
   refine append_own3 elem_s (base := w.heap.size) (own_new (w := w) (base := w.heap.size) (e := ST) (size := 1) (n := 0) (cs := []) (Nat.le_refl _) rfl (by omega)) (x := .slice (some a) l.length cap) (T := T) (m := l.length) (news := l.map str) ?_ (by simp) ?_ (by omega) (by omega) (by rw [size_alloc]; omega) fun v' w' h' hc' hb' => ?_
   · have hx : Ext w (w.alloc (.cells ([] : List Value).toArray ST)) := (by repeat (first | assumption | exact Chg.refl _ _ | refine Chg.drew ?_ | refine Chg.alloc ?_ _ | refine Chg.set ?_ (by first | exact .inl rfl | exact .inr (by omega) | exact .inr (by simp only [size_set,size_alloc,size_drew]; omega) | (left; simp; done)) _ | exact Chg.of_ext (by assumption)))
     exact SlAt.ext ⟨some a,cap,rfl,hcap,hp,hc⟩ hx
   · exact strs_one l
   · have hx : Ext w (w.alloc (.cells ([] : List Value).toArray ST)) := (by repeat (first | assumption | exact Chg.refl _ _ | refine Chg.drew ?_ | refine Chg.alloc ?_ _ | refine Chg.set ?_ (by first | exact .inl rfl | exact .inr (by omega) | exact .inr (by simp only [size_set,size_alloc,size_drew]; omega) | (left; simp; done)) _ | exact Chg.of_ext (by assumption)))
     refine hK v' w' (hx.then hc' fun k hk e => ?_) (by simpa using h')
     simp only [Value.ownBlock,Option.some.injEq] at e
     omega
theorem clones_o {xs : List JV} (hf : ∀ x ∈ xs,fewM x = true)
   {sv : Value} {w : World} {K : Value → World → Prop} (h : ItemsAt w sv xs) (hl : xs.length ≤ 1000000)
   (hK : ∀ sv' w' L,Ext w w' → Own w' w.heap.size VT 5 sv' xs.length L → VRepsP (fun k => w.heap.size ≤ k ∧ sv'.ownBlock ≠ some k) w' xs L → K sv' w') : callF Tryz.prog 126 [sv] w K := by
 refine W126_ok ?_
 unfold W126
 rw [h.len]
 refine ⟨fun s w' => ∃ i v L,i ≤ xs.length ∧ s = [v,i64 (i : Nat)] ∧ Ext w w' ∧ Own w' w.heap.size VT 5 v i L ∧ VRepsP (fun k => w.heap.size ≤ k ∧ v.ownBlock ≠ some k) w' (xs.take i) L,
   fun s _ => match s with | [_,.int _ i] => xs.length - i.toNat | _ => 0,⟨0,_,[],by omega,rfl,Chg.refl _ _,⟨by simp,.inl ⟨rfl,rfl⟩⟩,by simp [VRepsP]⟩,?_⟩
 rintro s g w2 ⟨i,v,L,hi,rfl,hx2,hO,hr⟩
 rcases Nat.lt_or_ge i xs.length with hlt | hge
 · obtain ⟨x,hxi⟩ : ∃ x,xs[i]? = some x := ⟨_,List.getElem?_eq_getElem hlt⟩
   have hltI : (i : Int) < (xs.length : Int) := by omega
   simp only [wsv,wsg,wsh,wsl,cond_true,cond_false,exists_eq_left',wsu,Nat.reduceAdd,Nat.reduceLT,Nat.lt_add_one,Nat.zero_lt_succ,decide_true,decide_false,ne_eq,reduceCtorEq,hltI]
   refine (h.ext hx2).at hxi fun cs hcs => ?_
   refine copy_new hcs fun p w3 sp kp hP hx3 => ?_
   refine hP.ld fun cs2 h2 => ?_
   refine clone_p x (hf x (List.mem_of_getElem? hxi)) h2 fun cs3 w4 hx4 h3 => ?_
   refine row_v h3.rep.len fun t w5 ht hx5 => ?_
   have hx25 := hx3.trans (hx4.trans hx5)
   have hO5 := hO.ext hx25
   have s0 := hx2.size
   have s3 := hx3.size
   have s25 := hx25.size
   have hglt : ∀ k,v.ownBlock = some k → k < w2.heap.size := fun k hk => (World.ownsRow.lt hO k hk).2
   refine append_own3 elem_v hO5 ht (m := 1) (by rw [h3.rep.len]) h3.rep.one (by omega) (by omega) (by omega) fun v' w6 h6 hc6 hb6 => ?_
   have hx6 : Ext w w6 := (hx2.trans hx25).then hc6 fun k hk e => by
     have := (own_ge hO5 e).1; omega
   rw [up1 (by omega)]
   refine ⟨⟨i + 1,v',L ++ cs3,hlt,rfl,hx6,h6,?_⟩,by simp only [Int.toNat_natCast]; omega⟩
   have e : xs.take (i + 1) = xs.take i ++ [x] := by rw [List.take_add_one,hxi]; rfl
   rw [e]
   have hr5 := VRepsP.chg hx25 (fun _ _ _ e => e) hr
   have h35 := VRepP.chg hx5 (fun _ _ _ e => e) h3
   have hall : VRepsP (fun k => w.heap.size ≤ k ∧ v.ownBlock ≠ some k) w5 (xs.take i ++ [x]) (L ++ cs3) :=
     hr5.snoc (h35.mono fun k _ hk => ⟨by have : w3.heap.size ≤ k := hk; omega,fun e => by have := hglt k e; have : w3.heap.size ≤ k := hk; omega⟩)
   have hall2 : VRepsP (fun k => (w.heap.size ≤ k ∧ v.ownBlock ≠ some k) ∧ k < w5.heap.size) w5 (xs.take i ++ [x]) (L ++ cs3) := hall.mono fun k hlt hk => ⟨hk,hlt⟩
   have hall3 := VRepsP.chg hc6 (fun k hk _ e => hk.1.2 e) hall2
   exact hall3.mono fun k _ hk => ⟨hk.1.1,fun e => by
     rcases hb6 k e with h | h
     · exact hk.1.2 h
     · omega⟩
 · obtain rfl : i = xs.length := by omega
   simp only [wsv,wsg,wsh,wsl,cond_true,cond_false,exists_eq_left',wsu,Nat.reduceAdd,Nat.reduceLT,Nat.lt_add_one,Nat.zero_lt_succ,decide_true,decide_false,ne_eq,reduceCtorEq,Int.lt_irrefl]
   rw [List.take_length] at hr
   exact hK v w2 L hx2 hO hr
structure OwnP (w : World) (B : Nat) (v : JV) (sv kv : Value) (L : List Value) : Prop where
 items : Own w B VT 5 sv v.xs.length L
 reps : VRepsP (fun q => B ≤ q ∧ sv.ownBlock ≠ some q ∧ kv.ownBlock ≠ some q) w v.xs L
 keys : Own w B ST 1 kv v.ks.length (v.ks.map str)
 fits : Fits v.xs.length v.ks v.t
theorem OwnP.ext {w w' : World} {B : Nat} {v : JV} {sv kv : Value} {L : List Value} (h : OwnP w B v sv kv L) (hx : Ext w w') : OwnP w' B v sv kv L := ⟨own_chg h.items hx fun _ _ e => e,VRepsP.chg hx (fun _ _ _ e => e) h.reps,own_chg h.keys hx fun _ _ e => e,h.fits⟩
theorem OwnP.rep {w : World} {B : Nat} {v : JV} {sv kv : Value} {L : List Value} (h : OwnP w B v sv kv L) : VRepP (From B) w v [i64 v.k,.bool v.b,str v.t,sv,kv] :=
 VRepP.mk h.items.sl (h.reps.mono fun k _ hk => hk.1) h.keys.sl h.fits (fun _ k hk => (own_in h.items hk).1) (fun _ k hk => (own_in h.keys hk).1)
theorem clone_o {v : JV} {cs : List Value} {w : World} {K : Value → World → Prop} (hfew : fewM v = true) (h : VRep w v cs) (hK : ∀ sv kv L w',Ext w w' → OwnP w' w.heap.size v sv kv L → K (.agg [i64 v.k,.bool v.b,str v.t,sv,kv].toArray) w') :
   callF Tryz.prog 83 [.agg cs.toArray] w K := by
 rw [fewM_eq,fewL_all] at hfew
 simp only [Bool.and_eq_true,decide_eq_true_eq,List.all_eq_true] at hfew
 obtain ⟨⟨f1,f2⟩,f3⟩ := hfew
 refine W83_ok ?_
 unfold W83
 refine box_val h fun a w1 sv kv hB hx ha => ?_
 refine alloc_new fun b w2 hb hz2 hbb hx2 => ?_
 have hxd : Ext w2 w2.drew := Chg.drew (Chg.refl (fun _ => False) w2)
 have hB2 := hB.ext hx2
 have hBd := hB2.ext hxd
 have hbd := hxd.at hbb id
 have sd : w2.drew.heap.size = w2.heap.size := rfl
 simp only [wsv,wsg,wsh,wsl,cond_true,cond_false,exists_eq_left',wsu,Nat.reduceAdd,Nat.reduceLT,Nat.lt_add_one,Nat.zero_lt_succ,decide_true,decide_false,ne_eq,reduceCtorEq,wsh,hB2.hb]
 obtain ⟨T1,k1⟩ := hBd.keys
 refine clone_so k1 (by omega) fun kv' w3 hx3 hk3 => ?_
 have hB3 := hBd.ext hx3
 have hb3 := hx3.at hbd id
 have s3 := hx3.size
 simp only [wsv,wsg,wsh,wsl,cond_true,cond_false,exists_eq_left',wsu,Nat.reduceAdd,Nat.reduceLT,Nat.lt_add_one,Nat.zero_lt_succ,decide_true,decide_false,ne_eq,reduceCtorEq,wsh,hB3.hb]
 refine clones_o f3 hB3.itemsAt (by omega) fun sv' w4 L hx4 hL1 hL2 => ?_
 have hB4 := hB3.ext hx4
 have hb4 := hx4.at hb3 id
 have s1 := hx.size
 have hak := at_lt hB.hb
 have one1 : one1 sv' = true ∧ one1 kv' = true := ⟨own_one hL1,own_one hk3⟩
 refine st_at hB4.hb one1.2 (by simp) fun w5 hz5 ha5 hc5 => ?_
 have ha5 : w5.heap[a]? = some (.cells [i64 v.k,.bool v.b,str v.t,sv,kv'].toArray VT (0,0)) := by rw [ha5]; simp
 refine st_at ha5 one1.1 (by simp) fun w6 hz6 ha6 hc6 => ?_
 have ha6 : w6.heap[a]? = some (.cells [i64 v.k,.bool v.b,str v.t,sv',kv'].toArray VT (0,0)) := by rw [ha6]; simp
 refine ld_all ha6 rfl ?_
 have hb6 := hc6.at (hc5.at hb4 (by omega)) (by omega)
 refine ret_agg hb6 rfl rfl (obj_one one1.1 one1.2) fun w7 hc7 => ?_
 have hx1 : Ext w w4 := hx.trans (hx2.trans (hxd.trans (hx3.trans hx4)))
 have hx5 : Ext w w7 := ((hx1.new hc5 (by omega)).new hc6 (by omega)).new hc7 (by omega)
 have hch : Chg (fun k => k = a ∨ k = b) w4 w7 := ((hc5.mono fun k _ e => .inl e).trans (hc6.mono fun k _ e => .inl e)).trans (hc7.mono fun k _ e => .inr e)
 have hkb : ∀ k,kv'.ownBlock = some k → w2.drew.heap.size ≤ k ∧ k < w3.heap.size := fun k hk => ⟨(own_in hk3 hk).1,(own_in hk3 hk).2.1⟩
 have hib : ∀ k,sv'.ownBlock = some k → w3.heap.size ≤ k := fun k hk => (own_in hL1 hk).1
 have lower : ∀ {e : TypeId} {size n : Nat} {v : Value} {xs : List Value} {B B' : Nat} {w : World},B' ≤ B → Own w B e size v n xs → Own w B' e size v n xs := fun hle h => by
   obtain ⟨hl,h | ⟨g,cap,cur,he,h1,h2⟩⟩ := h
   · exact ⟨hl,.inl h⟩
   · exact ⟨hl,.inr ⟨g,cap,cur,he,by omega,h2⟩⟩
 refine hK sv' kv' L w7 hx5 ⟨lower (by omega) (own_chg hL1 hch fun k hk e => by have := hib k hk; omega),?_,lower (by omega) (own_chg (hk3.ext hx4) hch fun k hk e => by have := hkb k hk; omega),hB.fits⟩
 refine VRepsP.mono (fun k _ hk => ?_) (VRepsP.chg (G := fun k => w3.heap.size ≤ k ∧ sv'.ownBlock ≠ some k) hch (fun k hk _ e => by have := hk.1; omega) hL2)
 exact ⟨by have := hk.1; omega,hk.2,fun e => by have := hkb k e; have := hk.1; omega⟩
end
end Go.Proofs.YtpiaegojabkioaaGreatDoor
namespace Go.Proofs.YtpiaegojabkioaaGreatDoor
open Go Go.Eng
set_option maxRecDepth 100000
def Free (B : Nat) (sv kv : Value) (q : Nat) : Prop := B ≤ q ∧ sv.ownBlock ≠ some q ∧ kv.ownBlock ≠ some q
section
variable [HX]
theorem rows_ne {w : World} {B n m : Nat} {sv kv : Value} {L M : List Value} (h : Own w B VT 5 sv n L) (h' : Own w B ST 1 kv m M) {q : Nat} (h1 : sv.ownBlock = some q) : kv.ownBlock ≠ some q := fun e => by
 obtain ⟨_,_,c,hc⟩ := own_in h h1
 obtain ⟨_,_,c',hc'⟩ := own_in h' e
 rw [hc] at hc'
 simp only [Option.some.injEq,Obj.cells.injEq] at hc'
 exact absurd hc'.2.1 (by decide)
theorem rowS {w : World} {x : Str} {K : Value → World → Prop} (hK : ∀ a w',a = w.heap.size → w'.heap.size = w.heap.size + 1 → w'.heap[a]? = some (.cells [str x].toArray ST (0,0)) → Ext w w' → K (.slice (some ⟨a,0,none⟩) 1 1) w') : bslW ST 1 [.string (ofL [])] [(0,1,str x)] w K := by
 unfold bslW
 simp only [wsv,wsg,wsh,wsl,cond_true,cond_false,exists_eq_left',wsu,Nat.reduceAdd,Nat.reduceLT,Nat.lt_add_one,Nat.zero_lt_succ,decide_true,decide_false,ne_eq,reduceCtorEq]
 exact row_new fun a w' h1 h2 h3 h4 _ => hK a w' h1 h2 h3 h4
theorem rowV {w : World} {cs : List Value} {K : Value → World → Prop} (hc : cs.length = 5) (hK : ∀ a w',a = w.heap.size → w'.heap.size = w.heap.size + 1 → w'.heap[a]? = some (.cells cs.toArray VT (0,0)) → Ext w w' → K (.slice (some ⟨a,0,none⟩) 1 1) w') : bslW VT 1 [(.int .i64 0),(.bool false),(.string (ofL [])),(.slice none 0 0),(.slice none 0 0)] [(0,5,.agg cs.toArray)] w K := by
 unfold bslW
 have hp : ∀ K : List Value → Prop,K cs → putW [(.int .i64 0),(.bool false),(.string (ofL [])),(.slice none 0 0),(.slice none 0 0)] [(0,5,.agg cs.toArray)] K := by
   intro K hK
   refine ⟨by simp [Value.cells,hc],by simp,?_⟩
   have : List.take 0 [(Value.int .i64 0),(.bool false),(.string (ofL [])),(.slice none 0 0),(.slice none 0 0)] ++ ((Value.agg cs.toArray).cells.toList ++ List.drop (0 + 5) [(Value.int .i64 0),(.bool false),(.string (ofL [])),(.slice none 0 0),(.slice none 0 0)]) = cs := by simp [Value.cells]
   rw [this]
   exact hK
 refine hp _ ?_
 exact row_new fun a w' h1 h2 h3 h4 _ => hK a w' h1 h2 h3 h4
theorem put_p {l : List (Str × JV)} {k : Str} {x : JV} {sv kv : Value} {L cs : List Value} {B : Nat} {w : World} {K : Value → World → Prop} (h : OwnP w B (mkO l) sv kv L) (hx : VRepP (Free B sv kv) w x cs) (hr : Rise (l.map (·.1))) (hk : k ∉ l.map (·.1)) (hl : l.length ≤ 99999) (hkl : k.length ≤ 9223372036854775807)
   (hB : B ≤ w.heap.size) (hK : ∀ es w',Chg (fun q => sv.ownBlock = some q ∨ kv.ownBlock = some q) w w' → VRepP (From B) w' (mkO (insP l k x)) es → K (.agg es.toArray) w') :
   callF Tryz.prog 82 [.agg [i64 6,.bool false,str [],sv,kv].toArray,str k,.agg cs.toArray] w K := by
 have hkeys : (mkO l).ks = l.map (·.1) := rfl
 have hxs : (mkO l).xs = l.map (·.2) := rfl
 have hO := h.items
 have hM := h.keys
 rw [hxs] at hO
 rw [hkeys] at hM
 have hn1 : (l.map (·.2)).length = l.length := List.length_map _
 have hn2 : (l.map (·.1)).length = l.length := List.length_map _
 rw [hn1] at hO
 rw [hn2] at hM
 have hrp := h.reps
 rw [hxs] at hrp
 have hcs5 := hx.rep.len
 have hone := hx.rep.one
 obtain ⟨f1,f2,f3,f4⟩ := h.fits
 refine W82_ok ?_
 unfold W82
 have o1 := own_one hO
 have o2 := own_one hM
 refine box_new (z := [i64 6,.bool false,str [],sv,kv]) fun a3 w1 ha3 hz1 hb3 hx1 => ?_
 refine box_new (z := cs) fun a5 w2 ha5 hz2 hb5 hx2 => ?_
 refine alloc_new fun a6 w3 ha6 hz3 hb6 hx3 => ?_
 have hb3 := (hx2.trans hx3).at hb3 id
 have hb5 := hx3.at hb5 id
 have hx03 := (hx1.trans hx2).trans hx3
 rw [fld_ptr,ld_one]
 refine ⟨kv,by rw [add_mk,cell_eq,hb3]; rfl,?_⟩
 have hsk : SlAt w3 ST kv (l.map (·.1)).length ((l.map (·.1)).map str) := by rw [hn2]; exact hM.sl.ext hx03
 refine search_p hsk (by rw [hn2]; omega) hr fun i _ hlo hhi hile => ?_
 rw [hn2] at hile
 have hnone : (idxK (l.map (·.1)) k).isSome = false := by rw [idxK_none.2 hk]; rfl
 rw [hnone]
 simp only [ext_tuple]
 refine ⟨_,rfl,_,rfl,?_⟩
 rw [condW_false]
 have hins := ins_split hk hlo hhi (x := x)
 have hsvlt : ∀ q,sv.ownBlock = some q → q < w.heap.size := fun q hq => (own_in hO hq).2.1
 have hkvlt : ∀ q,kv.ownBlock = some q → q < w.heap.size := fun q hq => (own_in hM hq).2.1
 -- the key's row
 have insK : ∀ {w4 : World} {tb : Nat} {K' : Value → World → Prop},Chg (fun q => False) w w4 → w.heap.size ≤ tb → w4.heap[tb]? = some (.cells [str k].toArray ST (0,0)) →
     (∀ kv' w5,Own w5 B ST 1 kv' (l.length + 1) (((l.map (·.1)).map str).take (i * 1) ++ [str k] ++ ((l.map (·.1)).map str).drop (i * 1)) → Chg (fun q => kv.ownBlock = some q) w4 w5 → (∀ q,kv'.ownBlock = some q → kv.ownBlock = some q ∨ w4.heap.size ≤ q) → K' kv' w5) →
     callF Tryz.prog 123 [kv,i64 (i : Nat),.slice (some ⟨tb,0,none⟩) 1 1] w4 K' := fun {w4 tb K'} hc htb ht hK' =>
   insert_s (own_chg hM hc fun _ _ e => e) ht rfl (fun u hu => by rw [List.mem_singleton.1 hu]; rfl) (strs_one _) (fun e => by have := hkvlt _ e; omega) hile (by omega) (by have := hc.size; omega) hK'
 have insV : ∀ {w4 : World} {tb : Nat} {K' : Value → World → Prop},Chg (fun q => kv.ownBlock = some q) w w4 → w.heap.size ≤ tb → w4.heap[tb]? = some (.cells cs.toArray VT (0,0)) →
     (∀ sv' w5,Own w5 B VT 5 sv' (l.length + 1) (L.take (i * 5) ++ cs ++ L.drop (i * 5)) → Chg (fun q => sv.ownBlock = some q) w4 w5 → (∀ q,sv'.ownBlock = some q → sv.ownBlock = some q ∨ w4.heap.size ≤ q) → K' sv' w5) →
     callF Tryz.prog 124 [sv,i64 (i : Nat),.slice (some ⟨tb,0,none⟩) 1 1] w4 K' := fun {w4 tb K'} hc htb ht hK' =>
   insert_v (own_chg hO hc fun q hq e => rows_ne hO hM hq e) ht hcs5 hone hrp.rep.one (fun e => by have := hsvlt _ e; omega) hile (by omega) (by have := hc.size; omega) hK'
 obtain ⟨J,hJ⟩ : ∃ J : List Value → World → Prop,∀ st w',J st w' ↔ ∃ sv' kv',w'.heap[a3]? = some (.cells [i64 6,.bool false,str [],sv',kv'].toArray VT (0,0)) ∧ w'.heap[a6]? = some (.cells [i64 0,.bool false,str [],.slice none 0 0,.slice none 0 0].toArray VT (0,0)) ∧ Chg (fun q => sv.ownBlock = some q ∨ kv.ownBlock = some q) w w' ∧ a6 < w'.heap.size ∧
     one1 sv' = true ∧ one1 kv' = true ∧ VRepP (fun q => B ≤ q ∧ q ≠ a6) w' (mkO (insP l k x)) [i64 6,.bool false,str [],sv',kv'] := ⟨_,fun _ _ => Iff.rfl⟩
 refine JoinW.cut J ?_ ?_
 · have hxd : Ext w3 w3.drew := Chg.drew (Chg.refl (fun _ => False) w3)
   have e3 : ∀ {w4 : World},Chg (fun q => kv.ownBlock = some q) w3 w4 → w4.heap[a3]? = some (.cells [i64 6,.bool false,str [],sv,kv].toArray VT (0,0)) := fun hc => hc.at hb3 fun e => by have := hkvlt _ e; omega
   have e5 : ∀ {w4 : World},Chg (fun q => kv.ownBlock = some q) w3 w4 → w4.heap[a5]? = some (.cells cs.toArray VT (0,0)) := fun hc => hc.at hb5 fun e => by have := hkvlt _ e; omega
   have up : ∀ {w4 : World},Ext w3 w4 → Chg (fun q => kv.ownBlock = some q) w3 w4 := fun hx => Chg.of_ext hx
   have ldk : ∀ {w4 : World} {K : Value → Prop},Chg (fun q => kv.ownBlock = some q) w3 w4 → K kv → ldW false 1 (.pointer (some ((⟨a3,0,none⟩ : Addr).add 4))) w4 K := fun hc hk => by
     rw [ld_one]; exact ⟨_,by rw [add_mk,cell_eq,e3 hc]; rfl,hk⟩
   have lds : ∀ {w4 : World} {K : Value → Prop},Chg (fun q => kv.ownBlock = some q) w3 w4 → K sv → ldW false 1 (.pointer (some ((⟨a3,0,none⟩ : Addr).add 3))) w4 K := fun hc hk => by
     rw [ld_one]; exact ⟨_,by rw [add_mk,cell_eq,e3 hc]; rfl,hk⟩
   have ldx : ∀ {w4 : World} {K : Value → Prop},Chg (fun q => kv.ownBlock = some q) w3 w4 → K (.agg cs.toArray) → ldW true 5 (.pointer (some ⟨a5,0,none⟩)) w4 K := fun hc hk => ld_all (e5 hc) hcs5 hk
   -- both are in: the two stores
   have fin : ∀ {w4 w5 : World} {sv' kv' : Value},Chg (fun q => kv.ownBlock = some q) w3 w4 → Own w4 B ST 1 kv' (l.length + 1) (((l.map (·.1)).map str).take (i * 1) ++ [str k] ++ ((l.map (·.1)).map str).drop (i * 1)) → (∀ q,kv'.ownBlock = some q → kv.ownBlock = some q ∨ w3.heap.size ≤ q) →
       Chg (fun q => sv.ownBlock = some q) w4 w5 → Own w5 B VT 5 sv' (l.length + 1) (L.take (i * 5) ++ cs ++ L.drop (i * 5)) → (∀ q,sv'.ownBlock = some q → sv.ownBlock = some q ∨ w3.heap.size ≤ q) →
       stW 1 (.pointer (some ((⟨a3,0,none⟩ : Addr).add 4))) kv' w5 fun w6 => fldW 3 (.pointer (some ⟨a3,0,none⟩)) fun t36 => stW 1 t36 sv' w6 fun w7 => J [] w7 := fun {w4 w5 sv' kv'} hc4 hOk hkb hc5 hOs hsb => by
     have hb3' := hc5.at (e3 hc4) fun e => by have := hsvlt _ e; omega
     have hb6' := hc5.at (hc4.at hb6 fun e => by have := hkvlt _ e; omega) fun e => by have := hsvlt _ e; omega
     rw [add_mk]
     refine st_at hb3' (own_one hOk) (by simp) fun w6 hz6 hb36 hc6 => ?_
     have hb36 : w6.heap[a3]? = some (.cells [i64 6,.bool false,str [],sv,kv'].toArray VT (0,0)) := by rw [hb36]; simp
     rw [fld_ptr,add_mk]
     refine st_at hb36 (own_one hOs) (by simp) fun w7 hz7 hb37 hc7 => ?_
     have hb37 : w7.heap[a3]? = some (.cells [i64 6,.bool false,str [],sv',kv'].toArray VT (0,0)) := by rw [hb37]; simp
     have hc67 : Chg (fun q => q = a3) w5 w7 := hc6.trans hc7
     have s45 := hc5.size
     have s34 := hc4.size
     have s57 := hc67.size
     have hcw : Chg (fun q => sv.ownBlock = some q ∨ kv.ownBlock = some q) w w7 := by
       have h1 : Chg (fun q => sv.ownBlock = some q ∨ kv.ownBlock = some q) w w5 := (((Chg.of_ext hx03).trans (hc4.mono fun _ _ e => .inr e)).trans (hc5.mono fun _ _ e => .inl e))
       exact h1.then hc67 fun q hq e => by omega
     have n3 : ∀ q,kv'.ownBlock = some q → q ≠ a3 := fun q hq e => by
       rcases hkb q hq with h | h
       · have := hkvlt _ h; omega
       · omega
     have n3' : ∀ q,sv'.ownBlock = some q → q ≠ a3 := fun q hq e => by
       rcases hsb q hq with h | h
       · have := hsvlt _ h; omega
       · omega
     have hOk5 : Own w5 B ST 1 kv' (l.length + 1) (((l.map (·.1)).map str).take (i * 1) ++ [str k] ++ ((l.map (·.1)).map str).drop (i * 1)) := own_chg hOk hc5 fun q hq e => by
       obtain ⟨_,_,c,hc⟩ := own_in hOk hq
       obtain ⟨_,_,c',hc'⟩ := own_in (own_chg hO ((Chg.of_ext hx03).trans hc4) fun q hq e => rows_ne hO hM hq e) e
       rw [hc] at hc'
       simp only [Option.some.injEq,Obj.cells.injEq] at hc'
       exact absurd hc'.2.1 (by decide)
     have hOk7 := own_chg hOk5 hc67 fun q hq e => n3 q hq e
     have hOs7 := own_chg hOs hc67 fun q hq e => n3' q hq e
     refine (hJ _ w7).2 ⟨sv',kv',hb37,hc67.at hb6' (by omega),hcw,by have := at_lt hb6; omega,own_one hOs,own_one hOk,?_⟩
     have hfree : ∀ q,Free B sv kv q → q < w.heap.size → ¬ (sv.ownBlock = some q ∨ kv.ownBlock = some q) := fun q hq _ e => by
       rcases e with e | e
       · exact hq.2.1 e
       · exact hq.2.2 e
     have hrp0 : VRepsP (fun q => Free B sv kv q ∧ q < w.heap.size) w (l.map (·.2)) L := hrp.mono fun q hq h => ⟨h,hq⟩
     have hx0 : VRepP (fun q => Free B sv kv q ∧ q < w.heap.size) w x cs := hx.mono fun q hq h => ⟨h,hq⟩
     have hrp7 := VRepsP.chg hcw (fun q hq h => hfree q hq.1 h) hrp0
     have hx7 := VRepP.chg hcw (fun q hq h => hfree q hq.1 h) hx0
     have m3 : ∀ q,kv'.ownBlock = some q → q ≠ a6 := fun q hq e => by
       rcases hkb q hq with h | h
       · have := hkvlt _ h; omega
       · omega
     have m3' : ∀ q,sv'.ownBlock = some q → q ≠ a6 := fun q hq e => by
       rcases hsb q hq with h | h
       · have := hsvlt _ h; omega
       · omega
     obtain ⟨c1,c2⟩ := hrp7.cut i
     have hall := (c1.app (VRepsP.one' hx7)).app c2
     have ex : (mkO (insP l k x)).xs = (l.map (·.2)).take i ++ [x] ++ (l.map (·.2)).drop i := by
       rw [hins]
       show ((l.take i ++ (k,x) :: l.drop i).map (·.2)) = _
       simp
     have ek : (mkO (insP l k x)).ks = (l.map (·.1)).take i ++ [k] ++ (l.map (·.1)).drop i := by
       rw [hins]
       show ((l.take i ++ (k,x) :: l.drop i).map (·.1)) = _
       simp
     have exl : (mkO (insP l k x)).xs.length = l.length + 1 := by
       rw [hins]
       show ((l.take i ++ (k,x) :: l.drop i).map (·.2)).length = _
       simp; omega
     have ekl : (mkO (insP l k x)).ks.length = l.length + 1 := by
       rw [hins]
       show ((l.take i ++ (k,x) :: l.drop i).map (·.1)).length = _
       simp; omega
     have ekm : (mkO (insP l k x)).ks.map str = ((l.map (·.1)).map str).take (i * 1) ++ [str k] ++ ((l.map (·.1)).map str).drop (i * 1) := by
       rw [ek,Nat.mul_one]
       simp
     refine VRepP.mk (v := mkO (insP l k x)) (T1 := VT) (T2 := ST) (L := L.take (i * 5) ++ cs ++ L.drop (i * 5)) ?_ ?_ ?_ ⟨by rw [exl]; omega,by rw [ekl]; omega,by simp [mkO,JV.t],fun s hs => ?_⟩ (fun _ q hq => ⟨(own_in hOs7 hq).1,m3' q hq⟩) (fun _ q hq => ⟨(own_in hOk7 hq).1,m3 q hq⟩)
     · rw [exl]; exact hOs7.sl
     · rw [ex]; exact hall.mono fun q _ hq => ⟨hq.1.1,by have := hq.2; omega⟩
     · rw [ekl,ekm]; exact hOk7.sl
     · rw [ek] at hs
       rcases List.mem_append.1 hs with hs | hs
       · rcases List.mem_append.1 hs with hs | hs
         · exact f4 s (List.mem_of_mem_take hs)
         · rw [List.mem_singleton.1 hs]; exact hkl
       · exact f4 s (List.mem_of_mem_drop hs)
   rw [fld_ptr]
   refine ldk (up hxd) ?_
   rw [fld_ptr]
   refine lds (up hxd) ?_
   refine ldx (up hxd) ⟨?_,?_⟩
   · refine rowS fun b27 w4 hb27 hz4 ht27 hx4 => ?_
     have hx4 := hxd.trans hx4
     have sd : w3.drew.heap.size = w3.heap.size := rfl
     refine ⟨ldx (up hx4) rfl,lds (up hx4) rfl,ldk (up hx4) rfl,?_,?_⟩
     · refine insK (hx03.trans hx4) (by omega) ht27 fun kv' w5 hOk hc5 hkb => ?_
       have hc35 : Chg (fun q => kv.ownBlock = some q) w3 w5 := (up hx4).trans hc5
       refine ⟨ldx hc35 rfl,lds hc35 rfl,?_⟩
       rw [fld_ptr]
       refine rowV hcs5 fun b33 w6 hb33 hz6 ht33 hx6 => ?_
       have hc36 : Chg (fun q => kv.ownBlock = some q) w3 w6 := hc35.then hx6 fun _ _ e => e.elim
       have s35 := hc35.size
       refine ⟨lds hc36 rfl,?_⟩
       refine insV ((Chg.of_ext hx03).trans hc36) (by omega) ht33 fun sv' w7 hOs hc7 hsb => ?_
       exact fin hc36 (own_chg hOk hx6 fun _ _ e => e) (fun q hq => (hkb q hq).imp id fun h => by omega) hc7 hOs (fun q hq => (hsb q hq).imp id fun h => by omega)
     · refine rowV hcs5 fun b33 w5 hb33 hz5 ht33 hx5 => ?_
       have hx35 := hx4.trans hx5
       refine ⟨lds (up hx35) rfl,ldk (up hx35) rfl,?_⟩
       refine insK (hx03.trans hx35) (by omega) (hx5.at ht27 id) fun kv' w6 hOk hc6 hkb => ?_
       have hc36 : Chg (fun q => kv.ownBlock = some q) w3 w6 := (up hx35).trans hc6
       refine ⟨lds hc36 rfl,?_⟩
       rw [fld_ptr]
       have s36 := hc36.size
       refine insV ((Chg.of_ext hx03).trans hc36) (by omega) (hc6.at ht33 fun e => by have := hkvlt _ e; omega) fun sv' w7 hOs hc7 hsb => ?_
       exact fin hc36 hOk (fun q hq => (hkb q hq).imp id fun h => by omega) hc7 hOs (fun q hq => (hsb q hq).imp id fun h => by omega)
   · refine rowV hcs5 fun b33 w4 hb33 hz4 ht33 hx4 => ?_
     have hx4 := hxd.trans hx4
     have sd : w3.drew.heap.size = w3.heap.size := rfl
     refine ⟨lds (up hx4) rfl,ldk (up hx4) rfl,?_⟩
     refine rowS fun b27 w5 hb27 hz5 ht27 hx5 => ?_
     have hx35 := hx4.trans hx5
     refine ⟨lds (up hx35) rfl,ldk (up hx35) rfl,?_⟩
     refine insK (hx03.trans hx35) (by omega) ht27 fun kv' w6 hOk hc6 hkb => ?_
     have hc36 : Chg (fun q => kv.ownBlock = some q) w3 w6 := (up hx35).trans hc6
     refine ⟨lds hc36 rfl,?_⟩
     rw [fld_ptr]
     have s36 := hc36.size
     refine insV ((Chg.of_ext hx03).trans hc36) (by omega) (hc6.at (hx5.at ht33 id) fun e => by have := hkvlt _ e; omega) fun sv' w7 hOs hc7 hsb => ?_
     exact fin hc36 hOk (fun q hq => (hkb q hq).imp id fun h => by omega) hc7 hOs (fun q hq => (hsb q hq).imp id fun h => by omega)
 rintro st g w4 hJ4
 obtain ⟨sv',kv',hb3,hb6,hc,hlt6,o1',o2',hrep⟩ := (hJ _ _).1 hJ4
 refine ld_all hb3 rfl ?_
 refine ret_agg hb6 rfl rfl (obj_one o1' o2') fun w5 hc5 => ?_
 exact hK _ w5 (hc.then hc5 fun q hq e => by omega) ((VRepP.chg hc5 (fun q hq _ e => hq.2 e) hrep).mono fun q _ hq => hq.1)
theorem put_n {l : List (Str × JV)} {k : Str} {x : JV} {cs ds : List Value} {w : World} {K : Value → World → Prop} (h : VRep w (mkO l) cs) (hx : VRep w x ds) (hfew : fewM (mkO l) = true) (hfx : fewM x = true) (hr : Rise (l.map (·.1))) (hk : k ∉ l.map (·.1)) (hl : l.length ≤ 99999) (hkl : k.length ≤ 9223372036854775807)
   (hK : ∀ es w',Ext w w' → VRepP (From w.heap.size) w' (mkO (insP l k x)) es → K (.agg es.toArray) w') :
   callF Tryz.prog 139 [.agg cs.toArray,str k,.agg ds.toArray] w K := by
 refine W139_ok ?_
 unfold W139
 refine box_val h fun a3 w1 sv0 kv0 hB3 hx1 ha3 => ?_
 refine box_val (hx.ext hx1) fun a5 w2 sv1 kv1 hB5 hx2 ha5 => ?_
 refine alloc_new fun a6 w3 ha6 hz3 hb6 hx3 => ?_
 have hB3' := (hB3.ext hx2).ext hx3
 have hB5' := hB5.ext hx3
 refine JoinW.cut (fun st w' => w' = w3) ?_ ?_
 · rw [fld_ptr,ld_one]
   refine ⟨i64 6,by rw [add_mk,cell_eq,hB3'.hb]; rfl,?_⟩
   rw [bin_neq,decide_eq_false (by decide),condW_false]
 rintro st g w4 rfl
 have hxd : Ext w4 w4.drew := Chg.drew (Chg.refl (fun _ => False) w4)
 have hB3d := hB3'.ext hxd
 have hB5d := hB5'.ext hxd
 have sd : w4.drew.heap.size = w4.heap.size := rfl
 have s1 := hx1.size
 have s2 := hx2.size
 refine ld_all hB3d.hb rfl ?_
 refine ld_all hB5d.hb rfl ?_
 refine clone_o hfew hB3d.rep fun sv kv L w5 hx5 hO => ?_
 refine ⟨ld_all (hB5d.ext hx5).hb rfl rfl,?_⟩
 refine clone_p x hfx (hB5d.ext hx5).rep fun cs' w6 hx6 hR => ?_
 have hO6 := hO.ext hx6
 have s5 := hx5.size
 have s6 := hx6.size
 have e1 : (mkO l).k = 6 ∧ (mkO l).b = false ∧ (mkO l).t = [] := ⟨rfl,rfl,rfl⟩
 have hlt5 : ∀ q,sv.ownBlock = some q ∨ kv.ownBlock = some q → q < w5.heap.size ∧ w4.heap.size ≤ q := fun q e => by
   rcases e with e | e
   · exact ⟨(own_in hO.items e).2.1,(own_in hO.items e).1⟩
   · exact ⟨(own_in hO.keys e).2.1,(own_in hO.keys e).1⟩
 refine put_p hO6 (hR.mono fun q _ hq => ⟨by have : w5.heap.size ≤ q := hq; omega,fun e => by have := (hlt5 q (.inl e)).1; have : w5.heap.size ≤ q := hq; omega,fun e => by have := (hlt5 q (.inr e)).1; have : w5.heap.size ≤ q := hq; omega⟩) hr hk hl hkl (by omega) fun es w7 hc7 hE => ?_
 have hx46 : Ext w w6 := ((hx1.trans hx2).trans hx3).trans (hxd.trans (hx5.trans hx6))
 have hb7 := hc7.at ((hx5.trans hx6).at (hxd.at hb6 id) id) fun e => by have := (hlt5 _ e).2; omega
 refine ret_agg hb7 hE.rep.len rfl hE.rep.all_one fun w8 hc8 => ?_
 have hx7 : Ext w w7 := hx46.then hc7 fun q hq e => by have := (hlt5 _ e).2; omega
 refine hK es w8 (hx7.new hc8 (by omega)) (VRepP.mono (fun q _ hq => ?_) (VRepP.chg (G := From w4.drew.heap.size) hc8 (fun q hq _ e => ?_) hE))
 · have : w4.drew.heap.size ≤ q := hq
   show w.heap.size ≤ q
   omega
 · have : w4.drew.heap.size ≤ q := hq
   omega
end
end Go.Proofs.YtpiaegojabkioaaGreatDoor
namespace Go.Proofs.YtpiaegojabkioaaGreatDoor
open Go Go.Eng
set_option maxRecDepth 100000
section
variable [HX]
theorem put_o {l : List (Str × JV)} {k : Str} {x : JV} {sv kv : Value} {L cs : List Value} {B : Nat} {w : World} {K : Value → World → Prop} (h : OwnP w B (mkO l) sv kv L) (hx : VRepP (Free B sv kv) w x cs) (hr : Rise (l.map (·.1))) (hk : k ∉ l.map (·.1)) (hl : l.length ≤ 99999) (hkl : k.length ≤ 9223372036854775807)
   (hB : B ≤ w.heap.size) (hK : ∀ sv' kv' L' w',Chg (fun q => sv.ownBlock = some q ∨ kv.ownBlock = some q) w w' → OwnP w' B (mkO (insP l k x)) sv' kv' L' → K (.agg [i64 6,.bool false,str [],sv',kv'].toArray) w') :
   callF Tryz.prog 82 [.agg [i64 6,.bool false,str [],sv,kv].toArray,str k,.agg cs.toArray] w K := by
 have hkeys : (mkO l).ks = l.map (·.1) := rfl
 have hxs : (mkO l).xs = l.map (·.2) := rfl
 have hO := h.items
 have hM := h.keys
 rw [hxs] at hO
 rw [hkeys] at hM
 have hn1 : (l.map (·.2)).length = l.length := List.length_map _
 have hn2 : (l.map (·.1)).length = l.length := List.length_map _
 rw [hn1] at hO
 rw [hn2] at hM
 have hrp := h.reps
 rw [hxs] at hrp
 have hcs5 := hx.rep.len
 have hone := hx.rep.one
 obtain ⟨f1,f2,f3,f4⟩ := h.fits
 refine W82_ok ?_
 unfold W82
 have o1 := own_one hO
 have o2 := own_one hM
 refine box_new (z := [i64 6,.bool false,str [],sv,kv]) fun a3 w1 ha3 hz1 hb3 hx1 => ?_
 refine box_new (z := cs) fun a5 w2 ha5 hz2 hb5 hx2 => ?_
 refine alloc_new fun a6 w3 ha6 hz3 hb6 hx3 => ?_
 have hb3 := (hx2.trans hx3).at hb3 id
 have hb5 := hx3.at hb5 id
 have hx03 := (hx1.trans hx2).trans hx3
 rw [fld_ptr,ld_one]
 refine ⟨kv,by rw [add_mk,cell_eq,hb3]; rfl,?_⟩
 have hsk : SlAt w3 ST kv (l.map (·.1)).length ((l.map (·.1)).map str) := by rw [hn2]; exact hM.sl.ext hx03
 refine search_p hsk (by rw [hn2]; omega) hr fun i _ hlo hhi hile => ?_
 rw [hn2] at hile
 have hnone : (idxK (l.map (·.1)) k).isSome = false := by rw [idxK_none.2 hk]; rfl
 rw [hnone]
 simp only [ext_tuple]
 refine ⟨_,rfl,_,rfl,?_⟩
 rw [condW_false]
 have hins := ins_split hk hlo hhi (x := x)
 have hsvlt : ∀ q,sv.ownBlock = some q → q < w.heap.size := fun q hq => (own_in hO hq).2.1
 have hkvlt : ∀ q,kv.ownBlock = some q → q < w.heap.size := fun q hq => (own_in hM hq).2.1
 -- the key's row
 have insK : ∀ {w4 : World} {tb : Nat} {K' : Value → World → Prop},Chg (fun q => False) w w4 → w.heap.size ≤ tb → w4.heap[tb]? = some (.cells [str k].toArray ST (0,0)) →
     (∀ kv' w5,Own w5 B ST 1 kv' (l.length + 1) (((l.map (·.1)).map str).take (i * 1) ++ [str k] ++ ((l.map (·.1)).map str).drop (i * 1)) → Chg (fun q => kv.ownBlock = some q) w4 w5 → (∀ q,kv'.ownBlock = some q → kv.ownBlock = some q ∨ w4.heap.size ≤ q) → K' kv' w5) →
     callF Tryz.prog 123 [kv,i64 (i : Nat),.slice (some ⟨tb,0,none⟩) 1 1] w4 K' := fun {w4 tb K'} hc htb ht hK' =>
   insert_s (own_chg hM hc fun _ _ e => e) ht rfl (fun u hu => by rw [List.mem_singleton.1 hu]; rfl) (strs_one _) (fun e => by have := hkvlt _ e; omega) hile (by omega) (by have := hc.size; omega) hK'
 have insV : ∀ {w4 : World} {tb : Nat} {K' : Value → World → Prop},Chg (fun q => kv.ownBlock = some q) w w4 → w.heap.size ≤ tb → w4.heap[tb]? = some (.cells cs.toArray VT (0,0)) →
     (∀ sv' w5,Own w5 B VT 5 sv' (l.length + 1) (L.take (i * 5) ++ cs ++ L.drop (i * 5)) → Chg (fun q => sv.ownBlock = some q) w4 w5 → (∀ q,sv'.ownBlock = some q → sv.ownBlock = some q ∨ w4.heap.size ≤ q) → K' sv' w5) →
     callF Tryz.prog 124 [sv,i64 (i : Nat),.slice (some ⟨tb,0,none⟩) 1 1] w4 K' := fun {w4 tb K'} hc htb ht hK' =>
   insert_v (own_chg hO hc fun q hq e => rows_ne hO hM hq e) ht hcs5 hone hrp.rep.one (fun e => by have := hsvlt _ e; omega) hile (by omega) (by have := hc.size; omega) hK'
 obtain ⟨J,hJ⟩ : ∃ J : List Value → World → Prop,∀ st w',J st w' ↔ ∃ sv' kv',w'.heap[a3]? = some (.cells [i64 6,.bool false,str [],sv',kv'].toArray VT (0,0)) ∧ w'.heap[a6]? = some (.cells [i64 0,.bool false,str [],.slice none 0 0,.slice none 0 0].toArray VT (0,0)) ∧ Chg (fun q => sv.ownBlock = some q ∨ kv.ownBlock = some q) w w' ∧ a6 < w'.heap.size ∧
     one1 sv' = true ∧ one1 kv' = true ∧ (∀ q,sv'.ownBlock = some q → q ≠ a6) ∧ (∀ q,kv'.ownBlock = some q → q ≠ a6) ∧ ∃ L',OwnP w' B (mkO (insP l k x)) sv' kv' L' ∧ VRepsP (fun q => (B ≤ q ∧ sv'.ownBlock ≠ some q ∧ kv'.ownBlock ≠ some q) ∧ q ≠ a6) w' (mkO (insP l k x)).xs L' := ⟨_,fun _ _ => Iff.rfl⟩
 refine JoinW.cut J ?_ ?_
 · have hxd : Ext w3 w3.drew := Chg.drew (Chg.refl (fun _ => False) w3)
   have e3 : ∀ {w4 : World},Chg (fun q => kv.ownBlock = some q) w3 w4 → w4.heap[a3]? = some (.cells [i64 6,.bool false,str [],sv,kv].toArray VT (0,0)) := fun hc => hc.at hb3 fun e => by have := hkvlt _ e; omega
   have e5 : ∀ {w4 : World},Chg (fun q => kv.ownBlock = some q) w3 w4 → w4.heap[a5]? = some (.cells cs.toArray VT (0,0)) := fun hc => hc.at hb5 fun e => by have := hkvlt _ e; omega
   have up : ∀ {w4 : World},Ext w3 w4 → Chg (fun q => kv.ownBlock = some q) w3 w4 := fun hx => Chg.of_ext hx
   have ldk : ∀ {w4 : World} {K : Value → Prop},Chg (fun q => kv.ownBlock = some q) w3 w4 → K kv → ldW false 1 (.pointer (some ((⟨a3,0,none⟩ : Addr).add 4))) w4 K := fun hc hk => by
     rw [ld_one]; exact ⟨_,by rw [add_mk,cell_eq,e3 hc]; rfl,hk⟩
   have lds : ∀ {w4 : World} {K : Value → Prop},Chg (fun q => kv.ownBlock = some q) w3 w4 → K sv → ldW false 1 (.pointer (some ((⟨a3,0,none⟩ : Addr).add 3))) w4 K := fun hc hk => by
     rw [ld_one]; exact ⟨_,by rw [add_mk,cell_eq,e3 hc]; rfl,hk⟩
   have ldx : ∀ {w4 : World} {K : Value → Prop},Chg (fun q => kv.ownBlock = some q) w3 w4 → K (.agg cs.toArray) → ldW true 5 (.pointer (some ⟨a5,0,none⟩)) w4 K := fun hc hk => ld_all (e5 hc) hcs5 hk
   -- both are in: the two stores
   have fin : ∀ {w4 w5 : World} {sv' kv' : Value},Chg (fun q => kv.ownBlock = some q) w3 w4 → Own w4 B ST 1 kv' (l.length + 1) (((l.map (·.1)).map str).take (i * 1) ++ [str k] ++ ((l.map (·.1)).map str).drop (i * 1)) → (∀ q,kv'.ownBlock = some q → kv.ownBlock = some q ∨ w3.heap.size ≤ q) →
       Chg (fun q => sv.ownBlock = some q) w4 w5 → Own w5 B VT 5 sv' (l.length + 1) (L.take (i * 5) ++ cs ++ L.drop (i * 5)) → (∀ q,sv'.ownBlock = some q → sv.ownBlock = some q ∨ w3.heap.size ≤ q) →
       stW 1 (.pointer (some ((⟨a3,0,none⟩ : Addr).add 4))) kv' w5 fun w6 => fldW 3 (.pointer (some ⟨a3,0,none⟩)) fun t36 => stW 1 t36 sv' w6 fun w7 => J [] w7 := fun {w4 w5 sv' kv'} hc4 hOk hkb hc5 hOs hsb => by
     have hb3' := hc5.at (e3 hc4) fun e => by have := hsvlt _ e; omega
     have hb6' := hc5.at (hc4.at hb6 fun e => by have := hkvlt _ e; omega) fun e => by have := hsvlt _ e; omega
     rw [add_mk]
     refine st_at hb3' (own_one hOk) (by simp) fun w6 hz6 hb36 hc6 => ?_
     have hb36 : w6.heap[a3]? = some (.cells [i64 6,.bool false,str [],sv,kv'].toArray VT (0,0)) := by rw [hb36]; simp
     rw [fld_ptr,add_mk]
     refine st_at hb36 (own_one hOs) (by simp) fun w7 hz7 hb37 hc7 => ?_
     have hb37 : w7.heap[a3]? = some (.cells [i64 6,.bool false,str [],sv',kv'].toArray VT (0,0)) := by rw [hb37]; simp
     have hc67 : Chg (fun q => q = a3) w5 w7 := hc6.trans hc7
     have s45 := hc5.size
     have s34 := hc4.size
     have s57 := hc67.size
     have hcw : Chg (fun q => sv.ownBlock = some q ∨ kv.ownBlock = some q) w w7 := by
       have h1 : Chg (fun q => sv.ownBlock = some q ∨ kv.ownBlock = some q) w w5 := (((Chg.of_ext hx03).trans (hc4.mono fun _ _ e => .inr e)).trans (hc5.mono fun _ _ e => .inl e))
       exact h1.then hc67 fun q hq e => by omega
     have n3 : ∀ q,kv'.ownBlock = some q → q ≠ a3 := fun q hq e => by
       rcases hkb q hq with h | h
       · have := hkvlt _ h; omega
       · omega
     have n3' : ∀ q,sv'.ownBlock = some q → q ≠ a3 := fun q hq e => by
       rcases hsb q hq with h | h
       · have := hsvlt _ h; omega
       · omega
     have hOk5 : Own w5 B ST 1 kv' (l.length + 1) (((l.map (·.1)).map str).take (i * 1) ++ [str k] ++ ((l.map (·.1)).map str).drop (i * 1)) := own_chg hOk hc5 fun q hq e => by
       obtain ⟨_,_,c,hc⟩ := own_in hOk hq
       obtain ⟨_,_,c',hc'⟩ := own_in (own_chg hO ((Chg.of_ext hx03).trans hc4) fun q hq e => rows_ne hO hM hq e) e
       rw [hc] at hc'
       simp only [Option.some.injEq,Obj.cells.injEq] at hc'
       exact absurd hc'.2.1 (by decide)
     have hOk7 := own_chg hOk5 hc67 fun q hq e => n3 q hq e
     have hOs7 := own_chg hOs hc67 fun q hq e => n3' q hq e
     refine (hJ _ w7).2 ⟨sv',kv',hb37,hc67.at hb6' (by omega),hcw,by have := at_lt hb6; omega,own_one hOs,own_one hOk,?_⟩
     have hfree : ∀ q,Free B sv kv q → q < w.heap.size → ¬ (sv.ownBlock = some q ∨ kv.ownBlock = some q) := fun q hq _ e => by
       rcases e with e | e
       · exact hq.2.1 e
       · exact hq.2.2 e
     have hrp0 : VRepsP (fun q => Free B sv kv q ∧ q < w.heap.size) w (l.map (·.2)) L := hrp.mono fun q hq h => ⟨h,hq⟩
     have hx0 : VRepP (fun q => Free B sv kv q ∧ q < w.heap.size) w x cs := hx.mono fun q hq h => ⟨h,hq⟩
     have hrp7 := VRepsP.chg hcw (fun q hq h => hfree q hq.1 h) hrp0
     have hx7 := VRepP.chg hcw (fun q hq h => hfree q hq.1 h) hx0
     have m3 : ∀ q,kv'.ownBlock = some q → q ≠ a6 := fun q hq e => by
       rcases hkb q hq with h | h
       · have := hkvlt _ h; omega
       · omega
     have m3' : ∀ q,sv'.ownBlock = some q → q ≠ a6 := fun q hq e => by
       rcases hsb q hq with h | h
       · have := hsvlt _ h; omega
       · omega
     obtain ⟨c1,c2⟩ := hrp7.cut i
     have hall := (c1.app (VRepsP.one' hx7)).app c2
     have ex : (mkO (insP l k x)).xs = (l.map (·.2)).take i ++ [x] ++ (l.map (·.2)).drop i := by
       rw [hins]
       show ((l.take i ++ (k,x) :: l.drop i).map (·.2)) = _
       simp
     have ek : (mkO (insP l k x)).ks = (l.map (·.1)).take i ++ [k] ++ (l.map (·.1)).drop i := by
       rw [hins]
       show ((l.take i ++ (k,x) :: l.drop i).map (·.1)) = _
       simp
     have exl : (mkO (insP l k x)).xs.length = l.length + 1 := by
       rw [hins]
       show ((l.take i ++ (k,x) :: l.drop i).map (·.2)).length = _
       simp; omega
     have ekl : (mkO (insP l k x)).ks.length = l.length + 1 := by
       rw [hins]
       show ((l.take i ++ (k,x) :: l.drop i).map (·.1)).length = _
       simp; omega
     have ekm : (mkO (insP l k x)).ks.map str = ((l.map (·.1)).map str).take (i * 1) ++ [str k] ++ ((l.map (·.1)).map str).drop (i * 1) := by
       rw [ek,Nat.mul_one]
       simp
     have hfits : Fits (mkO (insP l k x)).xs.length (mkO (insP l k x)).ks (mkO (insP l k x)).t := ⟨by rw [exl]; omega,by rw [ekl]; omega,by simp [mkO,JV.t],fun s hs => by
       rw [ek] at hs
       rcases List.mem_append.1 hs with hs | hs
       · rcases List.mem_append.1 hs with hs | hs
         · exact f4 s (List.mem_of_mem_take hs)
         · rw [List.mem_singleton.1 hs]; exact hkl
       · exact f4 s (List.mem_of_mem_drop hs)⟩
     have hreps : VRepsP (fun q => (B ≤ q ∧ sv'.ownBlock ≠ some q ∧ kv'.ownBlock ≠ some q) ∧ q ≠ a6) w7 (mkO (insP l k x)).xs (L.take (i * 5) ++ cs ++ L.drop (i * 5)) := by
       rw [ex]
       exact hall.mono fun q _ hq => ⟨⟨hq.1.1,fun e => by
         rcases hsb q e with h | h
         · exact hq.1.2.1 h
         · have := hq.2; omega,fun e => by
         rcases hkb q e with h | h
         · exact hq.1.2.2 h
         · have := hq.2; omega⟩,by have := hq.2; omega⟩
     refine ⟨m3',m3,_,⟨by rw [exl]; exact hOs7,hreps.mono fun q _ hq => hq.1,by rw [ekl,ekm]; exact hOk7,hfits⟩,hreps⟩
   rw [fld_ptr]
   refine ldk (up hxd) ?_
   rw [fld_ptr]
   refine lds (up hxd) ?_
   refine ldx (up hxd) ⟨?_,?_⟩
   · refine rowS fun b27 w4 hb27 hz4 ht27 hx4 => ?_
     have hx4 := hxd.trans hx4
     have sd : w3.drew.heap.size = w3.heap.size := rfl
     refine ⟨ldx (up hx4) rfl,lds (up hx4) rfl,ldk (up hx4) rfl,?_,?_⟩
     · refine insK (hx03.trans hx4) (by omega) ht27 fun kv' w5 hOk hc5 hkb => ?_
       have hc35 : Chg (fun q => kv.ownBlock = some q) w3 w5 := (up hx4).trans hc5
       refine ⟨ldx hc35 rfl,lds hc35 rfl,?_⟩
       rw [fld_ptr]
       refine rowV hcs5 fun b33 w6 hb33 hz6 ht33 hx6 => ?_
       have hc36 : Chg (fun q => kv.ownBlock = some q) w3 w6 := hc35.then hx6 fun _ _ e => e.elim
       have s35 := hc35.size
       refine ⟨lds hc36 rfl,?_⟩
       refine insV ((Chg.of_ext hx03).trans hc36) (by omega) ht33 fun sv' w7 hOs hc7 hsb => ?_
       exact fin hc36 (own_chg hOk hx6 fun _ _ e => e) (fun q hq => (hkb q hq).imp id fun h => by omega) hc7 hOs (fun q hq => (hsb q hq).imp id fun h => by omega)
     · refine rowV hcs5 fun b33 w5 hb33 hz5 ht33 hx5 => ?_
       have hx35 := hx4.trans hx5
       refine ⟨lds (up hx35) rfl,ldk (up hx35) rfl,?_⟩
       refine insK (hx03.trans hx35) (by omega) (hx5.at ht27 id) fun kv' w6 hOk hc6 hkb => ?_
       have hc36 : Chg (fun q => kv.ownBlock = some q) w3 w6 := (up hx35).trans hc6
       refine ⟨lds hc36 rfl,?_⟩
       rw [fld_ptr]
       have s36 := hc36.size
       refine insV ((Chg.of_ext hx03).trans hc36) (by omega) (hc6.at ht33 fun e => by have := hkvlt _ e; omega) fun sv' w7 hOs hc7 hsb => ?_
       exact fin hc36 hOk (fun q hq => (hkb q hq).imp id fun h => by omega) hc7 hOs (fun q hq => (hsb q hq).imp id fun h => by omega)
   · refine rowV hcs5 fun b33 w4 hb33 hz4 ht33 hx4 => ?_
     have hx4 := hxd.trans hx4
     have sd : w3.drew.heap.size = w3.heap.size := rfl
     refine ⟨lds (up hx4) rfl,ldk (up hx4) rfl,?_⟩
     refine rowS fun b27 w5 hb27 hz5 ht27 hx5 => ?_
     have hx35 := hx4.trans hx5
     refine ⟨lds (up hx35) rfl,ldk (up hx35) rfl,?_⟩
     refine insK (hx03.trans hx35) (by omega) ht27 fun kv' w6 hOk hc6 hkb => ?_
     have hc36 : Chg (fun q => kv.ownBlock = some q) w3 w6 := (up hx35).trans hc6
     refine ⟨lds hc36 rfl,?_⟩
     rw [fld_ptr]
     have s36 := hc36.size
     refine insV ((Chg.of_ext hx03).trans hc36) (by omega) (hc6.at (hx5.at ht33 id) fun e => by have := hkvlt _ e; omega) fun sv' w7 hOs hc7 hsb => ?_
     exact fin hc36 hOk (fun q hq => (hkb q hq).imp id fun h => by omega) hc7 hOs (fun q hq => (hsb q hq).imp id fun h => by omega)
 rintro st g w4 hJ4
 obtain ⟨sv',kv',hb3,hb6,hc,hlt6,o1',o2',n1,n2,L',hOP,hrep⟩ := (hJ _ _).1 hJ4
 refine ld_all hb3 rfl ?_
 refine ret_agg hb6 rfl rfl (obj_one o1' o2') fun w5 hc5 => ?_
 exact hK _ _ L' w5 (hc.then hc5 fun q hq e => by omega) ⟨own_chg hOP.items hc5 fun q hq e => n1 q hq e,(VRepsP.chg hc5 (fun q hq _ e => hq.2 e) hrep).mono fun q _ hq => hq.1,own_chg hOP.keys hc5 fun q hq e => n2 q hq e,hOP.fits⟩
end
end Go.Proofs.YtpiaegojabkioaaGreatDoor
namespace Go.Proofs.YtpiaegojabkioaaGreatDoor
open Go Go.Eng Go.Num
set_option maxRecDepth 100000
mutual
def fewW : JV → Bool
 | .mk _ _ _ xs ks => decide (xs.length ≤ 1000000) && decide (ks.length ≤ 1000000) && fewWL xs
def fewWL : List JV → Bool
 | [] => true
 | x :: xs => fewW x && fewWL xs
end
theorem fewW_eq (v : JV) : fewW v = (decide (v.xs.length ≤ 1000000) && decide (v.ks.length ≤ 1000000) && fewWL v.xs) := by cases v; rfl
theorem fewWL_all (xs : List JV) : fewWL xs = xs.all fewW := by
 induction xs with
 | nil => rfl
 | cons x xs ih => simp [fewWL,ih]
theorem few_w (v : JV) : fewM v = true → fewW v = true := by
 induction v using JV.ind' with
 | h v ih =>
   intro h
   rw [fewM_eq,fewL_all] at h
   rw [fewW_eq,fewWL_all]
   simp only [Bool.and_eq_true,decide_eq_true_eq,List.all_eq_true] at h ⊢
   exact ⟨⟨by omega,by omega⟩,fun x hx => ih x hx (h.2 x hx)⟩
theorem few_mkW {l : List (Str × JV)} (hl : l.length ≤ 1000) (hf : ∀ p ∈ l,fewW p.2 = true) : fewW (mkO l) = true := by
 rw [fewW_eq,fewWL_all]
 simp only [mkO,JV.xs,JV.ks,List.length_map,Bool.and_eq_true,decide_eq_true_eq,List.all_eq_true,List.mem_map]
 exact ⟨⟨by omega,by omega⟩,fun x ⟨p,hp,e⟩ => by rw [← e]; exact hf p hp⟩
section
variable [HX]
theorem clone_w (v : JV) : ∀ {cs : List Value} {w : World} {K : Value → World → Prop},fewW v = true → VRep w v cs → (∀ cs' w',Ext w w' → VRepP (From w.heap.size) w' v cs' → K (.agg cs'.toArray) w') → callF Tryz.prog 83 [.agg cs.toArray] w K := by
 induction v using JV.ind' with
 | h v ih =>
   intro cs w K hfew h hK
   rw [fewW_eq,fewWL_all] at hfew
   simp only [Bool.and_eq_true,decide_eq_true_eq,List.all_eq_true] at hfew
   obtain ⟨⟨f1,f2⟩,f3⟩ := hfew
   refine W83_ok ?_
   unfold W83
   refine box_val h fun a w1 sv kv hB hx ha => ?_
   refine alloc_new fun b w2 hb hz2 hbb hx2 => ?_
   have hxd : Ext w2 w2.drew := Chg.drew (Chg.refl (fun _ => False) w2)
   have hB2 := hB.ext hx2
   have hBd := hB2.ext hxd
   have hbd := hxd.at hbb id
   have sd : w2.drew.heap.size = w2.heap.size := rfl
   simp only [wsv,wsg,wsh,wsl,cond_true,cond_false,exists_eq_left',wsu,Nat.reduceAdd,Nat.reduceLT,Nat.lt_add_one,Nat.zero_lt_succ,decide_true,decide_false,ne_eq,reduceCtorEq,wsh,hB2.hb]
   obtain ⟨T1,k1⟩ := hBd.keys
   refine clone_s k1 (by omega) fun kv' w3 hx3 hk3 hg3 => ?_
   have hB3 := hBd.ext hx3
   have hb3 := hx3.at hbd id
   have s3 := hx3.size
   simp only [wsv,wsg,wsh,wsl,cond_true,cond_false,exists_eq_left',wsu,Nat.reduceAdd,Nat.reduceLT,Nat.lt_add_one,Nat.zero_lt_succ,decide_true,decide_false,ne_eq,reduceCtorEq,wsh,hB3.hb]
   refine clones_p (fun x hx => ih x hx (f3 x hx)) hB3.itemsAt (by omega) fun sv' w4 hx4 hL hg4 => ?_
   obtain ⟨L,hL1,hL2⟩ := hL
   have hB4 := hB3.ext hx4
   have hb4 := hx4.at hb3 id
   have s1 := hx.size
   have hak := at_lt hB.hb
   have one1 : one1 sv' = true ∧ one1 kv' = true := by
     obtain ⟨p,c,rfl,_⟩ := hL1.shape
     obtain ⟨p',c',rfl,_⟩ := hk3.shape
     exact ⟨rfl,rfl⟩
   refine st_at hB4.hb one1.2 (by simp) fun w5 hz5 ha5 hc5 => ?_
   have ha5 : w5.heap[a]? = some (.cells [i64 v.k,.bool v.b,str v.t,sv,kv'].toArray VT (0,0)) := by rw [ha5]; simp
   refine st_at ha5 one1.1 (by simp) fun w6 hz6 ha6 hc6 => ?_
   have ha6 : w6.heap[a]? = some (.cells [i64 v.k,.bool v.b,str v.t,sv',kv'].toArray VT (0,0)) := by rw [ha6]; simp
   refine ld_all ha6 rfl ?_
   have hb6 := hc6.at (hc5.at hb4 (by omega)) (by omega)
   refine ret_agg hb6 rfl rfl (obj_one one1.1 one1.2) fun w7 hc7 => ?_
   have hx1 : Ext w w4 := hx.trans (hx2.trans (hxd.trans (hx3.trans hx4)))
   have hx5 : Ext w w7 := ((hx1.new hc5 (by omega)).new hc6 (by omega)).new hc7 (by omega)
   have hch : Chg (fun k => k = a ∨ k = b) w4 w7 := ((hc5.mono fun k _ e => .inl e).trans (hc6.mono fun k _ e => .inl e)).trans (hc7.mono fun k _ e => .inr e)
   refine hK _ w7 hx5 (VRepP.mk (T1 := VT) (T2 := ST) (L := L) ?_ ?_ ?_ hB.fits (fun _ k hk => ?_) (fun _ k hk => ?_))
   · exact slat_chgG hL1 (fun _ => hg4) hch fun k hk _ e => by have : w3.heap.size ≤ k := hk; omega
   · refine VRepsP.mono (fun k _ hk => ?_) (VRepsP.chg (G := From w3.heap.size) hch (fun k hk _ e => by have : w3.heap.size ≤ k := hk; omega) hL2)
     have : w3.heap.size ≤ k := hk
     show w.heap.size ≤ k
     omega
   · exact slat_chgG (hk3.ext hx4) (fun _ => hg3) hch fun k hk _ e => by have : w2.drew.heap.size ≤ k := hk; omega
   · have : w3.heap.size ≤ k := hg4 k hk
     show w.heap.size ≤ k
     omega
   · have : w2.drew.heap.size ≤ k := hg3 k hk
     show w.heap.size ≤ k
     omega
theorem getnone_p {v : JV} {cs : List Value} {k : Str} {w : World} {K : Value → World → Prop} (h : VRep w v cs) (k6 : v.k = 6) (f2 : v.ks.length ≤ 100000) (hr : Rise v.ks) (hno : ∀ j,idxK v.ks k = some j → False)
   (hK : ∀ cs' w',Ext w w' → VRep w' JV.null cs' → K (.tuple #[.agg cs'.toArray,.bool false]) w') : callF Tryz.prog 81 [.agg cs.toArray,str k] w K := by
 refine W81_ok ?_
 unfold W81
 refine box_val h fun a w1 sv kv hB hx _ => ?_
 refine alloc_new fun b w2 hb hz2 hbb hx2 => ?_
 have hB := hB.ext hx2
 have hgb : w1.heap.size ≤ b := by omega
 simp only [wsv,wsg,wsh,wsl,cond_true,cond_false,exists_eq_left',wsu,Nat.reduceAdd,Nat.reduceLT,Nat.lt_add_one,Nat.zero_lt_succ,decide_true,decide_false,ne_eq,reduceCtorEq,wsh,hB.hb]
 obtain ⟨T2,hk2⟩ := hB.keys
 refine search_p hk2 f2 hr fun i hi0 _ _ hile => ?_
 have e6 : decide (v.k = 6) = true := decide_eq_true k6
 cases hx0 : idxK v.ks k with
 | none =>
   simp only [Option.isSome_none]
   simp only [wsv,wsg,wsh,wsl,cond_true,cond_false,exists_eq_left',wsu,Nat.reduceAdd,Nat.reduceLT,Nat.lt_add_one,Nat.zero_lt_succ,decide_true,decide_false,ne_eq,reduceCtorEq,wsh,hB.hb,e6]
   intros
   (try simp only [wsv,wsg,wsh,wsl,cond_true,cond_false,exists_eq_left',wsu,Nat.reduceAdd,Nat.reduceLT,Nat.lt_add_one,Nat.zero_lt_succ,decide_true,decide_false,ne_eq,reduceCtorEq,wsh,hB.hb,e6])
   refine ret_val (K := fun r w => K (.tuple #[r,.bool false]) w) hbb rfl hgb hx2 (vrep_null w1) fun w4 hx4 _ h4 => ?_
   exact hK _ w4 (hx.trans hx4) h4
 | some j => exact (hno j hx0).elim
end
end Go.Proofs.YtpiaegojabkioaaGreatDoor
namespace Go.Eng
open Go
structure RV where
 addr : Str
 typ : Str
 id : Str
 attrs : JV
 deps : List Str
def RV.zero : RV := ⟨[],[],[],JV.null,[]⟩
end Go.Eng
namespace Go.Proofs.YtpiaegojabkioaaGreatDoor
open Go Go.Eng Go.Num Go.RowKit
set_option maxRecDepth 100000
theorem vrep_lt {w : World} : ∀ {v : JV} {cs : List Value},VRep w v cs → VRepP (fun k => k < w.heap.size) w v cs := by
 intro v
 induction v using JV.ind with
 | h k b t xs ks ih =>
   intro cs h
   simp only [VRep] at h
   obtain ⟨sv,kv,T1,T2,L,rfl,h1,h2,h3,h4⟩ := h
   have hL : ∀ (ys : List JV) (M : List Value),(∀ y ∈ ys,y ∈ xs) → VReps w ys M → VRepsP (fun k => k < w.heap.size) w ys M := fun ys => by
     induction ys with
     | nil => intro M _ h; simp only [VReps] at h; simp only [VRepsP]; exact h
     | cons y ys ihy =>
       intro M hm h
       simp only [VReps] at h
       obtain ⟨c,r,rfl,hc,hr⟩ := h
       simp only [VRepsP]
       exact ⟨c,r,rfl,ih y (hm y (by simp)) hc,ihy r (fun z hz => hm z (by simp [hz])) hr⟩
   simp only [VRepP]
   exact ⟨sv,kv,T1,T2,L,rfl,h1,hL xs L (fun _ h => h) h2,h3,h4,slat_lt h1,slat_lt h3⟩
structure RFits (r : RV) : Prop where
 addr : r.addr.length ≤ 9223372036854775807
 typ : r.typ.length ≤ 9223372036854775807
 id : r.id.length ≤ 9223372036854775807
 deps : r.deps.length ≤ 9223372036854775807
 each : ∀ d ∈ r.deps,d.length ≤ 9223372036854775807
abbrev rcs (r : RV) (vcs : List Value) (dv : Value) : List Value := str r.addr :: str r.typ :: str r.id :: (vcs ++ [dv])
def RRepP (G : Nat → Prop) (w : World) (r : RV) (cs : List Value) : Prop := ∃ vcs dv T,cs = rcs r vcs dv ∧ VRepP G w r.attrs vcs ∧ SlAt w T dv r.deps.length (r.deps.map str) ∧ (r.deps.map str ≠ [] → inG G dv) ∧ RFits r
def RRepsP (G : Nat → Prop) (w : World) : List RV → List Value → Prop
 | [],L => L = []
 | x :: xs,L => ∃ c r,L = c ++ r ∧ RRepP G w x c ∧ RRepsP G w xs r
theorem RRepP.len {G : Nat → Prop} {w : World} {r : RV} {cs : List Value} (h : RRepP G w r cs) : cs.length = 9 := by
 obtain ⟨vcs,dv,T,rfl,h1,_⟩ := h
 simp [h1.rep.len]
theorem RRepP.one {G : Nat → Prop} {w : World} {r : RV} {cs : List Value} (h : RRepP G w r cs) : ∀ u ∈ cs,one1 u = true := by
 obtain ⟨vcs,dv,T,rfl,h1,h2,_⟩ := h
 obtain ⟨p,c,rfl,_⟩ := h2.shape
 intro u hu
 simp only [List.mem_cons,List.mem_append,List.not_mem_nil,or_false] at hu
 rcases hu with rfl | rfl | rfl | hu | rfl
 · rfl
 · rfl
 · rfl
 · exact h1.rep.one u hu
 · rfl
theorem RRepP.all_one {G : Nat → Prop} {w : World} {r : RV} {cs : List Value} (h : RRepP G w r cs) : cs.all one1 = true := List.all_eq_true.2 h.one
theorem RRepP.chg {S G : Nat → Prop} {w w' : World} (hc : Chg S w w') (hS : ∀ k,G k → k < w.heap.size → ¬ S k) {r : RV} {cs : List Value} (h : RRepP G w r cs) : RRepP G w' r cs := by
 obtain ⟨vcs,dv,T,rfl,h1,h2,h3,h4⟩ := h
 exact ⟨vcs,dv,T,rfl,VRepP.chg hc hS h1,slat_chgG h2 h3 hc hS,h3,h4⟩
theorem RRepP.ext {G : Nat → Prop} {w w' : World} (hx : Ext w w') {r : RV} {cs : List Value} (h : RRepP G w r cs) : RRepP G w' r cs := h.chg hx fun _ _ _ e => e
theorem RRepP.mono {G G' : Nat → Prop} {w : World} (hG : ∀ k,k < w.heap.size → G k → G' k) {r : RV} {cs : List Value} (h : RRepP G w r cs) : RRepP G' w r cs := by
 obtain ⟨vcs,dv,T,rfl,h1,h2,h3,h4⟩ := h
 exact ⟨vcs,dv,T,rfl,VRepP.mono hG h1,h2,fun hne k hk => hG k (slat_lt h2 hne k hk) (h3 hne k hk),h4⟩
theorem RRepsP.len {G : Nat → Prop} {w : World} : ∀ {xs : List RV} {L : List Value},RRepsP G w xs L → L.length = xs.length * 9
 | [],L,h => by simp only [RRepsP] at h; subst h; rfl
 | x :: xs,L,h => by
   simp only [RRepsP] at h
   obtain ⟨c,r,rfl,hc,hr⟩ := h
   rw [List.length_append,hc.len,RRepsP.len hr,List.length_cons]; omega
theorem RRepsP.chg {S G : Nat → Prop} {w w' : World} (hc : Chg S w w') (hS : ∀ k,G k → k < w.heap.size → ¬ S k) : ∀ {xs : List RV} {L : List Value},RRepsP G w xs L → RRepsP G w' xs L
 | [],L,h => by simp only [RRepsP] at h ⊢; exact h
 | x :: xs,L,h => by
   simp only [RRepsP] at h ⊢
   obtain ⟨c,r,rfl,h1,h2⟩ := h
   exact ⟨c,r,rfl,h1.chg hc hS,RRepsP.chg hc hS h2⟩
theorem RRepsP.ext {G : Nat → Prop} {w w' : World} (hx : Ext w w') {xs : List RV} {L : List Value} (h : RRepsP G w xs L) : RRepsP G w' xs L := RRepsP.chg hx (fun _ _ _ e => e) h
theorem RRepsP.mono {G G' : Nat → Prop} {w : World} (hG : ∀ k,k < w.heap.size → G k → G' k) : ∀ {xs : List RV} {L : List Value},RRepsP G w xs L → RRepsP G' w xs L
 | [],L,h => by simp only [RRepsP] at h ⊢; exact h
 | x :: xs,L,h => by
   simp only [RRepsP] at h ⊢
   obtain ⟨c,r,rfl,h1,h2⟩ := h
   exact ⟨c,r,rfl,h1.mono hG,RRepsP.mono hG h2⟩
theorem RRepsP.app {G : Nat → Prop} {w : World} : ∀ {xs ys : List RV} {L M : List Value},RRepsP G w xs L → RRepsP G w ys M → RRepsP G w (xs ++ ys) (L ++ M)
 | [],ys,L,M,h,h' => by simp only [RRepsP] at h; subst h; exact h'
 | x :: xs,ys,L,M,h,h' => by
   simp only [RRepsP] at h
   obtain ⟨c,r,rfl,hc,hr⟩ := h
   simp only [List.cons_append,RRepsP]
   exact ⟨c,r ++ M,by simp,hc,RRepsP.app hr h'⟩
theorem RRepsP.one' {G : Nat → Prop} {w : World} {x : RV} {cs : List Value} (h : RRepP G w x cs) : RRepsP G w [x] cs := by
 simp only [RRepsP]; exact ⟨cs,[],by simp,h,rfl⟩
theorem RRepsP.snoc {G : Nat → Prop} {w : World} {xs : List RV} {x : RV} {L cs : List Value} (h : RRepsP G w xs L) (hx : RRepP G w x cs) : RRepsP G w (xs ++ [x]) (L ++ cs) := h.app (RRepsP.one' hx)
theorem RRepsP.get {G : Nat → Prop} {w : World} : ∀ {xs : List RV} {L : List Value} {i : Nat} {x : RV},RRepsP G w xs L → xs[i]? = some x → ∃ cs,RRepP G w x cs ∧ ∀ j,j < 9 → L[i * 9 + j]? = cs[j]?
 | [],_,_,_,_,h => by simp at h
 | y :: xs,L,0,x,h,hx => by
   simp only [List.getElem?_cons_zero,Option.some.injEq] at hx
   subst hx
   simp only [RRepsP] at h
   obtain ⟨c,r,rfl,hc,hr⟩ := h
   refine ⟨c,hc,fun j hj => ?_⟩
   rw [Nat.zero_mul,Nat.zero_add,List.getElem?_append_left (by rw [hc.len]; exact hj)]
 | y :: xs,L,i + 1,x,h,hx => by
   simp only [List.getElem?_cons_succ] at hx
   simp only [RRepsP] at h
   obtain ⟨c,r,rfl,hc,hr⟩ := h
   obtain ⟨cs,h1,h2⟩ := RRepsP.get hr hx
   refine ⟨cs,h1,fun j hj => ?_⟩
   rw [List.getElem?_append_right (by rw [hc.len]; omega),hc.len,← h2 j hj]
   congr 1; omega
theorem rec_ld {G : Nat → Prop} {w : World} {T : TypeId} {sv : Value} {xs : List RV} {L : List Value} {k : IntKind} {i : Nat} {x : RV} {K : Value → Prop} (h : SlAt w T sv xs.length L) (hr : RRepsP G w xs L) (hi : xs[i]? = some x)
   (hK : ∀ cs,RRepP G w x cs → K (.agg cs.toArray)) : ixaW none 9 sv (.int k i) fun p => ldW true 9 p w K := by
 obtain ⟨cs,hc,hg⟩ := hr.get hi
 refine ixa_at (size := 9) h hr.len (by omega) (List.getElem?_eq_some_iff.1 hi).1 fun b o c fr hb hcc => ?_
 exact ld_cells hb hc.len (fun j hj => (hcc j hj).trans (hg j hj)) (hK cs hc)
structure RcB (G : Nat → Prop) (T0 : TypeId) (w : World) (p : Nat) (r : RV) (vcs : List Value) (dv : Value) : Prop where
 hb : w.heap[p]? = some (.cells (rcs r vcs dv).toArray T0 (0,0))
 val : VRepP G w r.attrs vcs
 sl : ∃ T,SlAt w T dv r.deps.length (r.deps.map str)
 inn : r.deps.map str ≠ [] → inG G dv
 fits : RFits r
theorem RcB.ext {G : Nat → Prop} {T0 : TypeId} {w w' : World} {p : Nat} {r : RV} {vcs : List Value} {dv : Value} (h : RcB G T0 w p r vcs dv) (hx : Ext w w') : RcB G T0 w' p r vcs dv := ⟨hx.at h.hb id,VRepP.chg hx (fun _ _ _ e => e) h.val,let ⟨T,h1⟩ := h.sl; ⟨T,h1.ext hx⟩,h.inn,h.fits⟩
theorem RcB.rep {G : Nat → Prop} {T0 : TypeId} {w : World} {p : Nat} {r : RV} {vcs : List Value} {dv : Value} (h : RcB G T0 w p r vcs dv) : RRepP G w r (rcs r vcs dv) := let ⟨T,h1⟩ := h.sl; ⟨vcs,dv,T,rfl,h.val,h1,h.inn,h.fits⟩
theorem RcB.all {G : Nat → Prop} {T0 : TypeId} {w : World} {p : Nat} {r : RV} {vcs : List Value} {dv : Value} {K : Value → Prop} (h : RcB G T0 w p r vcs dv) (hk : K (.agg (rcs r vcs dv).toArray)) : ldW true 9 (.pointer (some ⟨p,0,none⟩)) w K := ld_all h.hb h.rep.len hk
theorem RcB.ld {G : Nat → Prop} {T0 : TypeId} {w : World} {p off : Nat} {r : RV} {vcs : List Value} {dv v : Value} {K : Value → Prop} (h : RcB G T0 w p r vcs dv) (hv : (rcs r vcs dv)[off]? = some v) (hk : K v) : ldW false 1 (.pointer (some ((⟨p,0,none⟩ : Addr).add off))) w K := by
 rw [ld_one]
 refine ⟨v,?_,hk⟩
 rw [add_mk,cell_eq,h.hb,cellO_some,Nat.zero_add]
 simpa using hv
theorem RcB.attrs {G : Nat → Prop} {T0 : TypeId} {w : World} {p : Nat} {r : RV} {vcs : List Value} {dv : Value} {K : Value → Prop} (h : RcB G T0 w p r vcs dv) (hk : K (.agg vcs.toArray)) : ldW true 5 (.pointer (some ((⟨p,0,none⟩ : Addr).add 3))) w K := by
 have h5 := h.val.rep.len
 rw [add_mk]
 refine ld_cells h.hb h5 (fun j hj => ?_) hk
 simp only [List.getElem?_toArray]
 rw [show 0 + 3 + j = j + 1 + 1 + 1 by omega]
 simp only [rcs,List.getElem?_cons_succ]
 rw [List.getElem?_append_left (by omega)]
theorem box_r {G : Nat → Prop} {T0 : TypeId} {w : World} {r : RV} {cs : List Value} {K : Value → World → Prop} (h : RRepP G w r cs) (hK : ∀ p w' vcs dv,cs = rcs r vcs dv → RcB G T0 w' p r vcs dv → Ext w w' → p = w.heap.size → K (.pointer (some ⟨p,0,none⟩)) w') : boxW T0 (.agg cs.toArray) w K := by
 obtain ⟨vcs,dv,T,rfl,h1,h2,h3,h4⟩ := h
 refine box_new fun p w' hp hz hb hx => hK p w' vcs dv rfl ⟨hb,VRepP.chg hx (fun _ _ _ e => e) h1,⟨T,h2.ext hx⟩,h3,h4⟩ hx hp
end Go.Proofs.YtpiaegojabkioaaGreatDoor

namespace Go.Proofs
open Go.RowKit Go.Lib Go.Shelf
abbrev BdT : TypeId := 102
set_option maxHeartbeats 1000000 in
set_option maxRecDepth 100000 in
theorem Tryz.check_used (b : Nat) (w : World) (h0 : w.cell? ⟨b,0,none⟩ = some (.pointer (some ⟨b,0,none⟩))) :
   Calls Tryz.prog 127 #[.pointer (some ⟨b,0,none⟩)] w fun e w' => e = .returned (.tuple #[]) ∧ w' = w := by
 obtain ⟨j,hj,_⟩ := Option.map_eq_some_iff.1 (show (Tryz.prog.info? 102).map (·.size) = some 2 by kernel_rfl)
 go_enter Tryz.func127,Tryz.ntmps127
 go_wp2
 rw [Lib.run_neq_ptr_same w _ Tryz.underlying100 hj]
 go_wp2
 go_end0
 exact ⟨rfl,rfl⟩
set_option maxHeartbeats 1000000 in
set_option maxRecDepth 100000 in
theorem Tryz.check_fresh (b : Nat) (w : World) (h0 : w.cell? ⟨b,0,none⟩ = some (.pointer none)) (hsh : w.shape? b = some (102,2)) (hfz : w.frozen? ⟨b,0,none⟩ = false) :
   Calls Tryz.prog 127 #[.pointer (some ⟨b,0,none⟩)] w fun e w' => e = .returned (.tuple #[]) ∧ w' = w.setCell ⟨b,0,none⟩ (.pointer (some ⟨b,0,none⟩)) := by
 obtain ⟨j,hj,hjs⟩ := Option.map_eq_some_iff.1 (show (Tryz.prog.info? 102).map (·.size) = some 2 by kernel_rfl)
 go_enter Tryz.func127,Tryz.ntmps127
 go_wp2
 rw [Lib.run_to_unsafe w ⟨b,0,none⟩ Tryz.underlying100 Tryz.underlying193 hj (by rw [hjs]; decide) hsh (Nat.zero_lt_succ 1)]
 simp only [Result.andThen]
 rw [Oper.upon_value]
 go_wp2
 rw [run_callFunc_extern Tryz.func161 (by kernel_rfl) (by kernel_rfl) (by kernel_rfl) (e := Extern.AbiNoEscape.same) (by kernel_rfl)]
 rw [Lib.run_noEscape]
 simp only [Result.andThen]
 rw [Oper.upon_value]
 go_wp2
 rw [Lib.run_from_unsafe w ⟨b,0,none⟩ Tryz.underlying193 Tryz.underlying100 hj hsh (show liesAt Tryz.prog Tryz.prog.depth 102 (2 / Tryz.prog.cellsOf 102) 0 102 1 = true by kernel_rfl)]
 simp only [Result.andThen]
 rw [Oper.upon_value]
 go_wp2
 go_end0
 exact ⟨rfl,rfl⟩
end Go.Proofs

namespace Go.Proofs.YtpiaegojabkioaaGreatDoor
open Go Go.Eng Go.RowKit
set_option maxRecDepth 100000
abbrev BdT : TypeId := 102
theorem elem_u8 : ElemT Tryz.prog 50 U8 1 1 := ⟨by kernel_rfl,by kernel_rfl,by decide⟩
def Bld (w : World) (B b : Nat) (l : Str) : Prop :=
 ∃ p v,w.heap[b]? = some (.cells [p,v].toArray BdT (0,0)) ∧ (p = .pointer none ∨ p = .pointer (some ⟨b,0,none⟩)) ∧ Own w B U8 1 v l.length (u8s l) ∧ B ≤ b
def BCh (w : World) (B b : Nat) (k : Nat) : Prop := k = b ∨ OwnS w B U8 k
theorem Bld.chg {S : Nat → Prop} {w w' : World} {B b : Nat} {l : Str} (h : Bld w B b l) (hc : Chg S w w') (hb : ¬ S b) (hS : ∀ k,OwnS w B U8 k → ¬ S k) : Bld w' B b l := by
 obtain ⟨p,v,h1,h2,h3,h4⟩ := h
 exact ⟨p,v,hc.at h1 hb,h2,h3.chg hc hS,h4⟩
theorem Bld.ext {w w' : World} {B b : Nat} {l : Str} (h : Bld w B b l) (hc : Ext w w') : Bld w' B b l := h.chg hc (fun e => e) fun _ _ e => e
theorem Bld.lt {w : World} {B b : Nat} {l : Str} (h : Bld w B b l) : b < w.heap.size := by
 obtain ⟨p,v,h1,_⟩ := h
 exact at_lt h1
theorem Bld.base {w : World} {B b : Nat} {l : Str} (h : Bld w B b l) : B ≤ b := by obtain ⟨p,v,_,_,_,h4⟩ := h; exact h4
theorem bd_ne {w : World} {B b : Nat} {p v : Value} (h1 : w.heap[b]? = some (.cells [p,v].toArray BdT (0,0))) : ¬ OwnS w B U8 b := by
 rintro ⟨_,c,hc⟩
 rw [h1] at hc
 simp only [Option.some.injEq,Obj.cells.injEq] at hc
 exact absurd hc.2.1 (by decide)
theorem BCh.trans {w w1 w2 : World} {B b : Nat} (h1 : Chg (BCh w B b) w w1) (h2 : Chg (BCh w1 B b) w1 w2) : Chg (BCh w B b) w w2 := by
 refine ⟨h2.os.trans h1.os,h2.tape.trans h1.tape,h2.output.trans h1.output,Nat.le_trans h1.size h2.size,fun k hk hn => ?_⟩
 have e1 := h1.heap k hk hn
 rw [← e1]
 refine h2.heap k (Nat.lt_of_lt_of_le hk h1.size) fun e => hn ?_
 rcases e with e | ⟨e2,c,e3⟩
 · exact .inl e
 · exact .inr ⟨e2,c,by rw [← e1]; exact e3⟩
theorem BCh.ext {w w1 w2 : World} {B b : Nat} (h1 : Chg (BCh w B b) w w1) (h2 : Ext w1 w2) : Chg (BCh w B b) w w2 := h1.then h2 fun _ _ e => e.elim
theorem BCh.from {w w1 w2 : World} {B b : Nat} (h1 : Ext w w1) (h2 : Chg (BCh w1 B b) w1 w2) : Chg (BCh w B b) w w2 := BCh.trans (Chg.of_ext h1) h2
theorem BCh.new {w0 w w' : World} {B b : Nat} (h0 : Ext w0 w) (hB : w0.heap.size ≤ B) (hb : B ≤ b) (h : Chg (BCh w B b) w w') : Ext w0 w' :=
 h0.then h fun k hk e => by
   rcases e with rfl | ⟨e,_⟩
   · omega
   · omega
theorem BCh.keep {w w' : World} {B b k : Nat} {c : Array Value} {T : TypeId} {fr : Nat × Nat} (h : Chg (BCh w B b) w w') (hk : w.heap[k]? = some (.cells c T fr)) (hb : k ≠ b) (hT : T ≠ U8) : w'.heap[k]? = some (.cells c T fr) :=
 h.at hk fun e => by
   rcases e with e | ⟨_,c',e⟩
   · exact hb e
   · rw [hk] at e
     simp only [Option.some.injEq,Obj.cells.injEq] at e
     exact hT e.2.1
theorem BCh.iter {w w' : World} {B b k p : Nat} {s : ByteArray} (h : Chg (BCh w B b) w w') (hk : w.heap[k]? = some (.stringIter s p)) (hb : k ≠ b) : w'.heap[k]? = some (.stringIter s p) :=
 h.at hk fun e => by
   rcases e with e | ⟨_,c',e⟩
   · exact hb e
   · rw [hk] at e; cases e
section
variable [HX]
theorem bnew {w : World} {B : Nat} {K : Value → World → Prop} (hB : B ≤ w.heap.size) (hK : ∀ b w',b = w.heap.size → Bld w' B b [] → Ext w w' → K (.pointer (some ⟨b,0,none⟩)) w') : allocW BdT [.pointer none,.slice none 0 0] w K :=
 alloc_new fun a w' ha hz hb hx => hK a w' ha ⟨_,_,hb,.inl rfl,⟨by simp [u8s],.inl ⟨rfl,rfl⟩⟩,by omega⟩ hx
theorem check_p {w : World} {B b : Nat} {l : Str} {K : Value → World → Prop} (h : Bld w B b l)
   (hK : ∀ v w',w'.heap[b]? = some (.cells [.pointer (some ⟨b,0,none⟩),v].toArray BdT (0,0)) → Own w' B U8 1 v l.length (u8s l) → w'.heap.size = w.heap.size → Chg (BCh w B b) w w' → K (.tuple #[]) w') :
   callF Tryz.prog 127 [.pointer (some ⟨b,0,none⟩)] w K := by
 obtain ⟨p,v,h1,h2,h3,h4⟩ := h
 have c0 : w.cell? ⟨b,0,none⟩ = some p := by rw [cell_eq,h1]; rfl
 rcases h2 with rfl | rfl
 · refine of_calls (args := #[.pointer (some ⟨b,0,none⟩)]) Tryz.call127 ((Tryz.check_fresh b w c0 (by simp [World.shape?,h1]) (by rw [frozen_eq,h1]; rfl)).mono ?_)
   rintro e w' ⟨rfl,rfl⟩
   refine ⟨_,rfl,hK v _ ?_ ?_ (size_set _ _ _) (Chg.set (Chg.refl _ _) (.inl (.inl rfl)) _)⟩
   · rw [heap_set_same,h1]; rfl
   · refine h3.chg (Chg.set (S := fun k => k = b) (Chg.refl _ _) (.inl rfl) _) fun k hk e => ?_
     subst e
     exact bd_ne h1 hk
 · refine of_calls (args := #[.pointer (some ⟨b,0,none⟩)]) Tryz.call127 ((Tryz.check_used b w c0).mono ?_)
   rintro e w' ⟨rfl,rfl⟩
   exact ⟨_,rfl,hK v _ h1 h3 rfl (Chg.refl _ _)⟩
theorem bstore {w w3 : World} {B b n : Nat} {l l' : Str} {v v' : Value} {K : World → Prop} (h1 : w.heap[b]? = some (.cells [.pointer (some ⟨b,0,none⟩),v].toArray BdT (0,0))) (hO : Own w B U8 1 v l.length (u8s l)) (hb : B ≤ b)
   (hc : Chg (fun k => v.ownBlock = some k) w w3) (hO' : Own w3 B U8 1 v' l'.length (u8s l')) (hK : ∀ w',Bld w' B b l' → Chg (BCh w B b) w w' → w'.heap.size = w3.heap.size → K w') :
   stW 1 (.pointer (some ⟨b,1,none⟩)) v' w3 K := by
 have hne : ¬ v.ownBlock = some b := fun e => bd_ne h1 (hO.block b e)
 have h3 := hc.at h1 hne
 have hsh : one1 v' = true := by obtain ⟨p,c,rfl,_⟩ := hO'.sl.shape; rfl
 refine st_at h3 hsh (by simp) fun w4 hz hb4 hc4 => ?_
 refine hK w4 ⟨.pointer (some ⟨b,0,none⟩),v',by rw [hb4]; simp,.inr rfl,hO'.chg hc4 fun k hk e => by subst e; exact bd_ne h3 hk,hb⟩ ?_ hz
 have s1 : Chg (BCh w B b) w w3 := hc.mono fun k _ e => .inr (hO.block k e)
 exact s1.then hc4 fun k _ e => .inl e
theorem wstr_p {w : World} {B b : Nat} {l s : Str} {K : Value → World → Prop} (h : Bld w B b l) (hB : B ≤ w.heap.size) (hl : l.length + s.length ≤ 140737488355328)
   (hK : ∀ v w',Bld w' B b (l ++ s) → Chg (BCh w B b) w w' → K v w') : callF Tryz.prog 86 [.pointer (some ⟨b,0,none⟩),str s] w K := by
 have hb := h.base
 refine W86_ok ?_
 unfold W86
 refine check_p h fun v w1 h1 hO hz hc => ?_
 rw [nil_ptr,fld_ptr,ld_one]
 refine ⟨v,by rw [add_mk,cell_eq,h1]; rfl,?_⟩
 obtain ⟨i,z,hi,hzr,h2,h3,h4⟩ := elem_u8.get
 have hz0 : i.zero = some (.int .u8 0) := by
   have : (Tryz.prog.info? U8).map (·.zero) = some (some (.int .u8 0)) := by kernel_rfl
   rw [hi] at this; simpa using this
 obtain ⟨v',w3,hr,hO',hg,_⟩ := Lib.run_append_own_string (P := Tryz.prog) w1 B 50 9 50 U8 i elem_u8.und (by kernel_rfl) hi hz0 h2 h3 v l.length (u8s l) hO (ofL s) (by rw [ofL_size]; unfold maxLen; omega) (by rw [ofL_size]; omega) (by omega)
 unfold semE
 rw [hr]
 dsimp only
 rw [nil_ptr,fld_ptr]
 have hO2 : Own w3 B U8 1 v' (l ++ s).length (u8s (l ++ s)) := by
   rw [u8s_app,List.length_append]
   have e1 : Lib.strCells (ofL s) = u8s s := by unfold Lib.strCells u8s; rw [ofL_data]
   rw [ofL_size,e1] at hO'
   exact hO'
 refine bstore (n := 0) h1 hO hb (Chg.of_grown hg fun k e => e) hO2 fun w4 hb4 hc4 _ => ?_
 rw [lens_str]
 exact hK _ w4 hb4 (BCh.trans hc hc4)
theorem row_u8 {w : World} {n : Nat} {K : Value → World → Prop} (hK : ∀ t w',SlAt w' U8 t 1 [.int .u8 (n : Int)] → Ext w w' → K t w') : bslW U8 1 [(.int .u8 0)] [(0,1,.int .u8 (n : Int))] w K := by
 rw [bslW]
 simp only [put_int,put_nil,List.length_cons,List.length_nil,List.set_cons_zero]
 refine ⟨by omega,?_⟩
 refine hK _ _ ⟨_,_,rfl,Nat.le_refl _,fun e => (by cases e),fun _ => ⟨_,_,_,_,rfl,heap_anew _ _ _ rfl,fun i _ => by rw [Nat.zero_add]; simp⟩⟩ (Chg.alloc (Chg.refl _ _) _)
theorem wbyte_p {w : World} {B b n : Nat} {l : Str} {K : Value → World → Prop} (h : Bld w B b l) (hB : B ≤ w.heap.size) (hl : l.length + 1 ≤ 140737488355328) (hn : n < 256)
   (hK : ∀ w',Bld w' B b (l ++ [UInt8.ofNat n]) → Chg (BCh w B b) w w' → K .nilIface w') : callF Tryz.prog 89 [.pointer (some ⟨b,0,none⟩),.int .u8 (n : Int)] w K := by
 have hb := h.base
 refine W89_ok ?_
 unfold W89
 refine check_p h fun v w1 h1 hO hz hc => ?_
 rw [nil_ptr,fld_ptr,ld_one]
 refine ⟨v,by rw [add_mk,cell_eq,h1]; rfl,?_⟩
 refine row_u8 fun t w2 ht hx2 => ?_
 refine append_own2 elem_u8 (hO.ext hx2) ht (m := 1) rfl (fun u hu => by simp only [List.mem_singleton] at hu; subst hu; rfl) (by omega) (by omega) (by have := hx2.size; omega) fun v' w3 hO3 hc3 _ => ?_
 rw [nil_ptr,fld_ptr]
 have hO2 : Own w3 B U8 1 v' (l ++ [UInt8.ofNat n]).length (u8s (l ++ [UInt8.ofNat n])) := by
   rw [u8s_app,List.length_append]
   have e1 : u8s [UInt8.ofNat n] = [.int .u8 (n : Int)] := by
     simp only [u8s,List.map_cons,List.map_nil,UInt8.toNat_ofNat']
     rw [Nat.mod_eq_of_lt (by omega)]
   rw [e1]
   exact hO3
 refine bstore (n := 0) (hx2.at h1 id) (hO.ext hx2) hb hc3 hO2 fun w4 hb4 hc4 _ => ?_
 exact hK w4 hb4 (BCh.trans hc (BCh.from hx2 hc4))
end
end Go.Proofs.YtpiaegojabkioaaGreatDoor
namespace Go.Proofs.YtpiaegojabkioaaGreatDoor
open Go Go.Eng Go.RowKit
set_option maxRecDepth 100000
abbrev u8 (n : Nat) : Value := .int .u8 (n : Int)
theorem or192 : ∀ x : Fin 32,IntKind.u8.wrap (BitVec.ofInt IntKind.u8.bits 192 ||| BitVec.ofInt IntKind.u8.bits ((x.val : Nat) : Int)).toNat = ((192 + x.val : Nat) : Int) := by decide +kernel
theorem or224 : ∀ x : Fin 16,IntKind.u8.wrap (BitVec.ofInt IntKind.u8.bits 224 ||| BitVec.ofInt IntKind.u8.bits ((x.val : Nat) : Int)).toNat = ((224 + x.val : Nat) : Int) := by decide +kernel
theorem or240 : ∀ x : Fin 8,IntKind.u8.wrap (BitVec.ofInt IntKind.u8.bits 240 ||| BitVec.ofInt IntKind.u8.bits ((x.val : Nat) : Int)).toNat = ((240 + x.val : Nat) : Int) := by decide +kernel
theorem or128 : ∀ x : Fin 64,IntKind.u8.wrap (BitVec.ofInt IntKind.u8.bits 128 ||| BitVec.ofInt IntKind.u8.bits ((x.val : Nat) : Int)).toNat = ((128 + x.val : Nat) : Int) := by decide +kernel
theorem and63 : ∀ x : Fin 256,IntKind.u8.wrap (BitVec.ofInt IntKind.u8.bits ((x.val : Nat) : Int) &&& BitVec.ofInt IntKind.u8.bits 63).toNat = ((x.val % 64 : Nat) : Int) := by decide +kernel
theorem u8_wrap (n : Nat) : IntKind.u8.wrap (n : Int) = ((n % 256 : Nat) : Int) := by
 simp only [IntKind.wrap,IntKind.bits,IntKind.signed,Bool.false_and]
 rw [show (2 : Int) ^ 8 = 256 by decide]
 simp
theorem u32_wrap {n : Nat} (h : n < 4294967296) : IntKind.u32.wrap (n : Int) = (n : Int) := by
 simp only [IntKind.wrap,IntKind.bits,IntKind.signed,Bool.false_and]
 rw [show (2 : Int) ^ 32 = 4294967296 by decide]
 simp only [Bool.false_eq_true,if_false]
 omega
theorem shr_n (r k : Nat) (hk : k ≤ 32) (K : Value → Prop) : binW .shr (.int .i32 (r : Int)) (.int .u64 (k : Int)) K ↔ K (.int .i32 ((r / 2 ^ k : Nat) : Int)) := by
 have e : (r : Int).fdiv (2 ^ min (k : Int).toNat IntKind.i32.bits) = ((r / 2 ^ k : Nat) : Int) := by
   rw [Int.toNat_natCast,show min k IntKind.i32.bits = k from Nat.min_eq_left hk,Int.fdiv_eq_ediv_of_nonneg _ (by exact Int.le_of_lt (Int.pow_pos (by decide)))]
   rw [Int.natCast_ediv,Int.natCast_pow]; rfl
 simp only [binW]
 rw [e]
 constructor
 · exact fun h => h.2
 · exact fun h => ⟨by omega,h⟩
theorem tail_n (x : Nat) (K : Value → Prop) : (cvtW .u8 (.int .i32 (x : Int)) fun t => binW .and t (.int .u8 63) fun t => binW .or (.int .u8 128) t K) ↔ K (u8 (128 + x % 64)) := by
 rw [cvt_int,u8_wrap,bin_and,and63 ⟨x % 256,by omega⟩,bin_or,or128 ⟨x % 256 % 64,by omega⟩]
 simp only
 rw [show x % 256 % 64 = x % 64 by omega]
theorem row2 {w : World} {a b : Nat} {K : Value → World → Prop} (hK : ∀ t w',SlAt w' U8 t 2 [u8 a,u8 b] → Ext w w' → K t w') : bslW U8 2 [(.int .u8 0),(.int .u8 0)] [(0,1,u8 a),(1,1,u8 b)] w K := by
 rw [bslW]
 simp only [put_int,put_nil,List.length_cons,List.length_nil,List.set_cons_zero,List.set_cons_succ]
 refine ⟨by omega,by omega,?_⟩
 refine hK _ _ ⟨_,_,rfl,Nat.le_refl _,fun e => (by cases e),fun _ => ⟨_,_,_,_,rfl,heap_anew _ _ _ rfl,fun i _ => by rw [Nat.zero_add]; simp⟩⟩ (Chg.alloc (Chg.refl _ _) _)
theorem row3 {w : World} {a b c : Nat} {K : Value → World → Prop} (hK : ∀ t w',SlAt w' U8 t 3 [u8 a,u8 b,u8 c] → Ext w w' → K t w') : bslW U8 3 [(.int .u8 0),(.int .u8 0),(.int .u8 0)] [(0,1,u8 a),(1,1,u8 b),(2,1,u8 c)] w K := by
 rw [bslW]
 simp only [put_int,put_nil,List.length_cons,List.length_nil,List.set_cons_zero,List.set_cons_succ]
 refine ⟨by omega,by omega,by omega,?_⟩
 refine hK _ _ ⟨_,_,rfl,Nat.le_refl _,fun e => (by cases e),fun _ => ⟨_,_,_,_,rfl,heap_anew _ _ _ rfl,fun i _ => by rw [Nat.zero_add]; simp⟩⟩ (Chg.alloc (Chg.refl _ _) _)
theorem row4 {w : World} {a b c d : Nat} {K : Value → World → Prop} (hK : ∀ t w',SlAt w' U8 t 4 [u8 a,u8 b,u8 c,u8 d] → Ext w w' → K t w') : bslW U8 4 [(.int .u8 0),(.int .u8 0),(.int .u8 0),(.int .u8 0)] [(0,1,u8 a),(1,1,u8 b),(2,1,u8 c),(3,1,u8 d)] w K := by
 rw [bslW]
 simp only [put_int,put_nil,List.length_cons,List.length_nil,List.set_cons_zero,List.set_cons_succ]
 refine ⟨by omega,by omega,by omega,by omega,?_⟩
 refine hK _ _ ⟨_,_,rfl,Nat.le_refl _,fun e => (by cases e),fun _ => ⟨_,_,_,_,rfl,heap_anew _ _ _ rfl,fun i _ => by rw [Nat.zero_add]; simp⟩⟩ (Chg.alloc (Chg.refl _ _) _)
theorem u8s_nat (l : List Nat) (h : ∀ x ∈ l,x < 256) : u8s (l.map b8) = l.map u8 := by
 unfold u8s
 rw [List.map_map]
 apply List.map_congr_left
 intro x hx
 have := h x hx
 simp only [Function.comp,b8,UInt8.toNat_ofNat',u8]
 rw [Nat.mod_eq_of_lt (by omega)]
section
variable [HX]
theorem arune_p {w : World} {B r : Nat} {l : Str} {v : Value} {K : Value → World → Prop} (hO : Own w B U8 1 v l.length (u8s l)) (hB : B ≤ w.heap.size) (hl : l.length + 4 ≤ 140737488355328) (hr : r < 55296 ∨ 57343 < r ∧ r ≤ 1114111)
   (hK : ∀ v' w',Own w' B U8 1 v' (l ++ wrM r).length (u8s (l ++ wrM r)) → (∀ k,¬ OwnS w B U8 k → k < w.heap.size → w'.heap[k]? = w.heap[k]?) → Chg (fun k => v.ownBlock = some k) w w' → K v' w') :
   callF Tryz.prog 163 [v,.int .i32 (r : Int)] w K := by
 have fin : ∀ (bs : List Nat) (t : Value) (w1 : World),wrM r = bs.map b8 → (∀ x ∈ bs,x < 256) → bs.length ≤ 4 → SlAt w1 U8 t bs.length (bs.map u8) → Ext w w1 → semE Tryz.prog (Builtin.append_ #[50,50] 50 #[v,t]) w1 K := by
   intro bs t w1 he hlt hlen ht hx
   refine append_own2 elem_u8 (hO.ext hx) ht (m := bs.length) (by simp) (fun u hu => by simp only [List.mem_map] at hu; obtain ⟨x,_,rfl⟩ := hu; rfl) (by omega) (by omega) (by have := hx.size; omega) fun v' w3 hO3 hc3 _ => ?_
   have hc : Chg (fun k => v.ownBlock = some k) w w3 := (Chg.of_ext hx).trans hc3
   refine hK v' w3 ?_ (fun k hk hlt => hc.heap k hlt fun e => hk (hO.block k e)) hc
   rw [u8s_app,he,u8s_nat bs hlt,List.length_append,List.length_map]
   exact hO3
 refine W163_ok ?_
 unfold W163
 rw [cvt_int,u32_wrap (by omega),bin_leq,condW_dec]
 refine ⟨fun h => ?_,fun h => ?_⟩
 · rw [cvt_int,u8_wrap,Nat.mod_eq_of_lt (by omega)]
   refine row_u8 fun t w1 ht hx => ?_
   refine fin [r] t w1 ?_ (fun x hx => by simp only [List.mem_singleton] at hx; omega) (by simp) ht hx
   unfold wrM; rw [if_pos (by omega)]; rfl
 refine W177_ok ?_
 unfold W177
 rw [cvt_int,u32_wrap (by omega),bin_leq,condW_dec]
 refine ⟨fun h2 => ?_,fun h2 => ?_⟩
 · rw [show (6 : Int) = ((6 : Nat) : Int) from rfl,shr_n r 6 (by omega),cvt_int,u8_wrap,show r / 2 ^ 6 % 256 = r / 64 by omega,bin_or,or192 ⟨r / 64,by omega⟩,tail_n]
   refine row2 fun t w1 ht hx => ?_
   refine fin [192 + r / 64,128 + r % 64] t w1 ?_ (fun x hx => by simp only [List.mem_cons,List.not_mem_nil,or_false] at hx; omega) (by simp) ht hx
   unfold wrM; rw [if_neg (by omega),if_pos (by omega)]; rfl
 refine JoinW.cut (fun s' w' => s' = [.bool (decide (r ≤ 65535))] ∧ w' = w) ?_ ?_
 · rw [bin_lss,condW_dec]
   refine ⟨fun h3 => ?_,fun h3 => ?_⟩
   · rw [decide_eq_true h3,decide_eq_true (by omega)]; exact ⟨rfl,rfl⟩
   · rw [bin_lss,decide_eq_true (show (57343 : Int) < (r : Int) by omega)]
     refine GdW.look (decide (r ≤ 65535)) (fun _ J hJ => ?_) fun g => ?_
     · rw [bin_leq]
       rw [show decide ((r : Int) ≤ 65535) = decide (r ≤ 65535) by rw [decide_eq_decide]; omega]
       exact hJ
     · exact ⟨rfl,rfl⟩
 rintro s' g w' ⟨rfl,rfl⟩
 simp only [List.getD_cons_zero]
 rw [condW_dec]
 refine ⟨fun h3 => ?_,fun h3 => ?_⟩
 · rw [show (12 : Int) = ((12 : Nat) : Int) from rfl,shr_n r 12 (by omega),cvt_int,u8_wrap,show r / 2 ^ 12 % 256 = r / 4096 by omega,bin_or,or224 ⟨r / 4096,by omega⟩,show (6 : Int) = ((6 : Nat) : Int) from rfl,shr_n r 6 (by omega),tail_n,tail_n]
   refine row3 fun t w1 ht hx => ?_
   refine fin [224 + r / 4096,128 + r / 64 % 64,128 + r % 64] t w1 ?_ (fun x hx => by simp only [List.mem_cons,List.not_mem_nil,or_false] at hx; omega) (by simp) ht hx
   unfold wrM; rw [if_neg (by omega),if_neg (by omega),if_pos (by omega)]; rfl
 rw [bin_gtr,decide_eq_true (show (65535 : Int) < (r : Int) by omega)]
 refine GdW.look true (fun _ J hJ => ?_) fun g => ?_
 · rw [bin_leq,decide_eq_true (show (r : Int) ≤ 1114111 by omega)]; exact hJ
 show condW (.bool true) _ _
 rw [condW_true]
 rw [show (18 : Int) = ((18 : Nat) : Int) from rfl,shr_n r 18 (by omega),cvt_int,u8_wrap,show r / 2 ^ 18 % 256 = r / 262144 by omega,bin_or,or240 ⟨r / 262144,by omega⟩,show (12 : Int) = ((12 : Nat) : Int) from rfl,shr_n r 12 (by omega),tail_n,show (6 : Int) = ((6 : Nat) : Int) from rfl,shr_n r 6 (by omega),tail_n,tail_n]
 refine row4 fun t w1 ht hx => ?_
 refine fin [240 + r / 262144,128 + r / 4096 % 64,128 + r / 64 % 64,128 + r % 64] t w1 ?_ (fun x hx => by simp only [List.mem_cons,List.not_mem_nil,or_false] at hx; omega) (by simp) ht hx
 unfold wrM; rw [if_neg (by omega),if_neg (by omega),if_neg (by omega)]; rfl
theorem wrune_p {w : World} {B b r : Nat} {l : Str} {K : Value → World → Prop} (h : Bld w B b l) (hB : B ≤ w.heap.size) (hl : l.length + 4 ≤ 140737488355328) (hr : r < 55296 ∨ 57343 < r ∧ r ≤ 1114111)
   (hK : ∀ v w',Bld w' B b (l ++ wrM r) → Chg (BCh w B b) w w' → K v w') : callF Tryz.prog 131 [.pointer (some ⟨b,0,none⟩),.int .i32 (r : Int)] w K := by
 have hb := h.base
 refine W131_ok ?_
 unfold W131
 refine check_p h fun v w1 h1 hO hz hc => ?_
 have hc1 : w1.cell? (⟨b,0,none⟩ : Addr) |>.isSome := by rw [cell_eq,h1]; rfl
 rw [nil_ptr,fld_ptr,ld_one]
 refine ⟨v,by rw [add_mk,cell_eq,h1]; rfl,?_⟩
 rw [lenl_at hO.sl,nil_ptr,fld_ptr,ld_one]
 refine ⟨v,by rw [add_mk,cell_eq,h1]; rfl,?_⟩
 refine arune_p hO (by omega) hl hr fun v' w2 hO2 _ hc2 => ?_
 rw [nil_ptr,fld_ptr]
 refine bstore (n := 0) h1 hO hb hc2 hO2 fun w4 hb4 hc4 _ => ?_
 obtain ⟨p,v4,h4,_,hO4,_⟩ := id hb4
 rw [nil_ptr,fld_ptr,ld_one]
 refine ⟨v4,by rw [add_mk,cell_eq,h4]; rfl,?_⟩
 rw [lenl_at hO4.sl,bin_sub]
 exact hK _ w4 hb4 (BCh.trans hc hc4)
end
end Go.Proofs.YtpiaegojabkioaaGreatDoor




namespace Go.Proofs.YtpiaegojabkioaaGreatDoor
open Go Go.Eng Go.RowKit
set_option maxRecDepth 100000
section
variable [HX]
theorem range_str {l : Str} {w : World} {K : Value → World → Prop} (hK : K (.pointer (some ⟨w.heap.size,0,none⟩)) (w.alloc (.stringIter (ofL l) 0))) : semE Tryz.prog (Instr.range 9 (str l)) w K := by
 have hT : Tryz.prog.underlying 9 = some .string := by kernel_rfl
 have hr : (Instr.range 9 (str l)).run Tryz.prog w = .ok (.pointer (some ⟨w.heap.size,0,none⟩)) (w.alloc (.stringIter (ofL l) 0)) := by
   simp [Instr.range,run_bind,run_underlying' hT,run_pure,newObj,Sem.run]
 unfold semE
 rw [hr]
 exact hK
theorem setObj_chg' {w : World} {r : Nat} {o : Obj} (h : r < w.heap.size) : Chg (· = r) w { w with heap := w.heap.setIfInBounds r o } :=
 ⟨rfl,rfl,rfl,by simp,fun k _ hk => by
   show (w.heap.setIfInBounds r o)[k]? = _
   rw [Array.getElem?_setIfInBounds_ne (by omega)]⟩
theorem next_str {r pos : Nat} {l : Str} {T : TypeId} {w : World} {K : Value → World → Prop} (hw : w.heap[r]? = some (.stringIter (ofL l) pos))
   (h0 : l.length ≤ pos → K (.tuple #[.bool false]) w)
   (h1 : pos < l.length → ∀ w',w'.heap[r]? = some (.stringIter (ofL l) (pos + (Utf8.decode (ofL l) pos).2)) → Chg (· = r) w w' → w'.heap.size = w.heap.size → K (.tuple #[.bool true,i64 pos,.int .i32 (Utf8.decode (ofL l) pos).1]) w') :
   semE Tryz.prog (Instr.next (.pointer (some ⟨r,0,none⟩)) true T) w K := by
 have hg : (getObj r).run Tryz.prog w = .ok (.stringIter (ofL l) pos) w := by simp [getObj,Sem.run,hw]
 have hlt : r < w.heap.size := (Array.getElem?_eq_some_iff.1 hw).1
 unfold semE
 simp only [Instr.next,run_bind,hg,ofL_size]
 by_cases hp : pos < l.length
 · have hset : (setObj r (.stringIter (ofL l) (pos + (Utf8.decode (ofL l) pos).2))).run Tryz.prog w = .ok () { w with heap := w.heap.setIfInBounds r (.stringIter (ofL l) (pos + (Utf8.decode (ofL l) pos).2)) } := by simp [setObj,Sem.run,hw]
   rw [if_pos hp]
   simp only [run_bind,hset,run_pure]
   exact h1 hp _ (by simp [hlt]) (setObj_chg' hlt) (by simp)
 · rw [if_neg hp]
   simp only [run_pure]
   exact h0 (by omega)
end
end Go.Proofs.YtpiaegojabkioaaGreatDoor

namespace Go.Proofs.YtpiaegojabkioaaGreatDoor
open Go Go.Eng Go.RowKit
set_option maxRecDepth 100000
def shortM (r : Nat) : Nat := if r = 34 ∨ r = 92 then r else if r = 8 then 98 else if r = 12 then 102 else if r = 10 then 110 else if r = 13 then 114 else if r = 9 then 116 else 0
def hexS (r : Nat) : Str := [b8 (48 + r / 16),hexD (r % 16)]
theorem esc_short {c : UInt8} (h : shortM c.toNat ≠ 0) : escB c = [92,b8 (shortM c.toNat)] ∧ shortM c.toNat < 128 := by
 have e : ∀ n : Nat,n < 256 → (c = UInt8.ofNat n ↔ c.toNat = n) := fun n hn => by
   constructor
   · rintro rfl; simp only [UInt8.toNat_ofNat']; omega
   · intro h; rw [← h]; simp
 unfold shortM at h ⊢
 unfold escB
 by_cases a1 : c.toNat = 34 ∨ c.toNat = 92
 · rw [if_pos a1,if_pos (by rcases a1 with a | a; exact .inl ((e 34 (by omega)).2 a); exact .inr ((e 92 (by omega)).2 a))]
   refine ⟨?_,by omega⟩
   unfold b8; simp
 rw [if_neg a1] at h ⊢
 rw [if_neg (by rintro (a | a); exact a1 (.inl ((e 34 (by omega)).1 a)); exact a1 (.inr ((e 92 (by omega)).1 a)))]
 by_cases a2 : c.toNat = 8
 · rw [if_pos a2,if_pos (show c = (8 : UInt8) from (e 8 (by omega)).2 a2)]; exact ⟨rfl,by omega⟩
 rw [if_neg a2] at h ⊢
 rw [if_neg fun (a : c = (8 : UInt8)) => a2 ((e 8 (by omega)).1 a)]
 by_cases a3 : c.toNat = 12
 · rw [if_pos a3,if_pos (show c = (12 : UInt8) from (e 12 (by omega)).2 a3)]; exact ⟨rfl,by omega⟩
 rw [if_neg a3] at h ⊢
 rw [if_neg fun (a : c = (12 : UInt8)) => a3 ((e 12 (by omega)).1 a)]
 by_cases a4 : c.toNat = 10
 · rw [if_pos a4,if_pos (show c = (10 : UInt8) from (e 10 (by omega)).2 a4)]; exact ⟨rfl,by omega⟩
 rw [if_neg a4] at h ⊢
 rw [if_neg fun (a : c = (10 : UInt8)) => a4 ((e 10 (by omega)).1 a)]
 by_cases a5 : c.toNat = 13
 · rw [if_pos a5,if_pos (show c = (13 : UInt8) from (e 13 (by omega)).2 a5)]; exact ⟨rfl,by omega⟩
 rw [if_neg a5] at h ⊢
 rw [if_neg fun (a : c = (13 : UInt8)) => a5 ((e 13 (by omega)).1 a)]
 by_cases a6 : c.toNat = 9
 · rw [if_pos a6,if_pos (show c = (9 : UInt8) from (e 9 (by omega)).2 a6)]; exact ⟨rfl,by omega⟩
 rw [if_neg a6] at h
 exact absurd rfl h
theorem esc_long {c : UInt8} (h : shortM c.toNat = 0) : escB c = if c.toNat < 32 then [92,117,48,48] ++ hexS c.toNat else [c] := by
 have e : ∀ n : Nat,n < 256 → c = UInt8.ofNat n → c.toNat = n := fun n hn a => by subst a; simp only [UInt8.toNat_ofNat']; omega
 have hn : ¬ (c.toNat = 34 ∨ c.toNat = 92) ∧ c.toNat ≠ 8 ∧ c.toNat ≠ 12 ∧ c.toNat ≠ 10 ∧ c.toNat ≠ 13 ∧ c.toNat ≠ 9 := by
   unfold shortM at h
   split at h
   · omega
   · repeat' split at h
     all_goals omega
 obtain ⟨n1,n2,n3,n4,n5,n6⟩ := hn
 unfold escB
 rw [if_neg (by rintro (a | a); exact n1 (.inl (e 34 (by omega) a)); exact n1 (.inr (e 92 (by omega) a))),if_neg fun (a : c = (8 : UInt8)) => n2 (e 8 (by omega) a),if_neg fun (a : c = (12 : UInt8)) => n3 (e 12 (by omega) a),if_neg fun (a : c = (10 : UInt8)) => n4 (e 10 (by omega) a),if_neg fun (a : c = (13 : UInt8)) => n5 (e 13 (by omega) a),if_neg fun (a : c = (9 : UInt8)) => n6 (e 9 (by omega) a)]
 by_cases a : c.toNat < 32
 · rw [if_pos a,if_pos (show c < 32 from a)]; rfl
 · rw [if_neg a,if_neg (show ¬ c < 32 from a)]
theorem enc_low {n : Nat} (h : n < 128) : Utf8.encode (n : Int) = ofL [b8 n] := by
 unfold Utf8.encode
 have : Utf8.valid (n : Int) = true := by unfold Utf8.valid; simp only [Bool.or_eq_true,Bool.and_eq_true,decide_eq_true_eq]; omega
 simp only [this,if_true,Int.toNat_natCast]
 rw [if_pos h]; rfl
section
variable [HX]
def FmtOk (w0 : World) : Prop := ∀ r : Nat,r < 32 → ∀ (w : World) (K : Value → World → Prop),Ext w0 w → (∀ w',Ext w w' → K (str ([49] ++ hexS r)) w') → callF Tryz.prog 130 [i64 ((r + 256 : Nat) : Int),i64 16] w K
theorem short_p {r : Nat} {w : World} {K : Value → World → Prop} (hr : r ≤ 1114111) (hK : K (u8 (shortM r)) w) : callF Tryz.prog 129 [.int .i32 (r : Int)] w K := by
 refine W129_ok ?_
 unfold W129
 unfold shortM at hK
 refine JoinW.cut (fun s' w' => s' = [.bool (decide (r = 34 ∨ r = 92))] ∧ w' = w) ?_ ?_
 · rw [bin_eql,condW_dec]
   refine ⟨fun h => ?_,fun h => ?_⟩
   · rw [decide_eq_true h,decide_eq_true (.inl (by omega))]; exact ⟨rfl,rfl⟩
   · rw [bin_eql]
     rw [show decide (((r : Nat) : Int) = 92) = decide (r = 34 ∨ r = 92) by rw [decide_eq_decide]; omega]
     exact ⟨rfl,rfl⟩
 rintro s' g w' ⟨rfl,rfl⟩
 simp only [List.getD_cons_zero]
 rw [condW_dec]
 refine ⟨fun h => ?_,fun h => ?_⟩
 · rw [cvt_int,u8_wrap,Nat.mod_eq_of_lt (by omega)]
   rw [if_pos h] at hK; exact hK
 rw [if_neg h] at hK
 rw [bin_eql,condW_dec]
 refine ⟨fun h => by rw [if_pos (by omega)] at hK; exact hK,fun h => ?_⟩
 rw [if_neg (by omega)] at hK
 rw [bin_eql,condW_dec]
 refine ⟨fun h => by rw [if_pos (by omega)] at hK; exact hK,fun h => ?_⟩
 rw [if_neg (by omega)] at hK
 rw [bin_eql,condW_dec]
 refine ⟨fun h => by rw [if_pos (by omega)] at hK; exact hK,fun h => ?_⟩
 rw [if_neg (by omega)] at hK
 rw [bin_eql,condW_dec]
 refine ⟨fun h => by rw [if_pos (by omega)] at hK; exact hK,fun h => ?_⟩
 rw [if_neg (by omega)] at hK
 rw [bin_eql,condW_dec]
 refine ⟨fun h => by rw [if_pos (by omega)] at hK; exact hK,fun h => ?_⟩
 rw [if_neg (by omega)] at hK
 exact hK
theorem i32_wrap {n : Nat} (h : n < 2147483648) : IntKind.i32.wrap (n : Int) = (n : Int) := by
 have e1 : (2 : Int) ^ 32 = 4294967296 := by decide
 have e2 : (2 : Int) ^ (32 - 1) = 2147483648 := by decide
 simp only [IntKind.wrap,IntKind.bits,IntKind.signed,Bool.true_and,e1,e2]
 rw [if_neg (by simp; omega)]
 omega
theorem flat_len (s : Str) : (s.flatMap escB).length ≤ 6 * s.length := by
 induction s with
 | nil => simp
 | cons c s ih => rw [List.flatMap_cons,List.length_append,List.length_cons]; have := escB_le c; omega
theorem short_high {r : Nat} (h : 128 ≤ r) : shortM r = 0 := by unfold shortM; repeat' split
                                                                all_goals omega
theorem quote_p {w0 w : World} {B b : Nat} {l s : Str} {K : Value → World → Prop} (h0 : Ext w0 w) (hB0 : w0.heap.size ≤ B) (h : Bld w B b l) (hB : B ≤ w.heap.size) (hs : Utf s) (hl : l.length + 6 * s.length + 2 ≤ 1000000000) (hF : ∀ c ∈ s,c.toNat < 32 → FmtOk w0)
   (hK : ∀ w',Bld w' B b (l ++ quoteM s) → Chg (BCh w B b) w w' → K (.tuple #[]) w') : callF Tryz.prog 88 [.pointer (some ⟨b,0,none⟩),str s] w K := by
 have hb := h.base
 have hbl := h.lt
 refine W88_ok ?_
 unfold W88
 refine wbyte_p (n := 34) h hB (by omega) (by omega) fun w1 h1 hc1 => ?_
 refine range_str ?_
 have hz1 := hc1.size
 have hc2 : Chg (BCh w B b) w (w1.alloc (.stringIter (ofL s) 0)) := BCh.ext hc1 (Chg.alloc (Chg.refl _ _) _)
 refine ⟨fun s' w4 => ∃ p,p ≤ s.length ∧ s' = [] ∧ Utf (s.drop p) ∧ w4.heap[w1.heap.size]? = some (.stringIter (ofL s) p) ∧ Bld w4 B b (l ++ [34] ++ (s.take p).flatMap escB) ∧ Chg (BCh w B b) w w4,
   fun _ w4 => match w4.heap[w1.heap.size]? with | some (.stringIter _ p) => s.length - p | _ => 0,
   ⟨0,Nat.zero_le _,rfl,by rw [List.drop_zero]; exact hs,heap_anew _ _ _ rfl,by rw [List.take_zero,List.flatMap_nil,List.append_nil]; exact h1.ext (Chg.alloc (Chg.refl _ _) _),hc2⟩,?_⟩
 rintro s' g w4 ⟨p,hp,rfl,hu,hit,h4,hc4⟩
 have hz4 := hc4.size
 have hfl := flat_len (s.take p)
 have htl : (s.take p).length = p := by rw [List.length_take]; omega
 have hll : (l ++ [34] ++ (s.take p).flatMap escB).length = l.length + 1 + ((s.take p).flatMap escB).length := by simp only [List.length_append,List.length_cons,List.length_nil]
 refine next_str hit (fun hpe => ?_) (fun hpl w5 hit5 hc5 hz5 => ?_)
 · rw [ext_tuple]
   refine ⟨.bool false,rfl,?_⟩
   rw [condW_false]
   obtain rfl : p = s.length := by omega
   rw [List.take_length] at h4 hll hfl
   refine wbyte_p (n := 34) h4 (by omega) (by omega) (by omega) fun w6 h6 hc6 => ?_
   refine hK w6 ?_ (BCh.trans hc4 hc6)
   rw [List.append_assoc,List.append_assoc] at h6
   unfold quoteM
   rw [List.append_assoc]
   exact h6
 · have hne : s.drop p ≠ [] := fun e => by have := List.drop_eq_nil_iff.1 e; omega
   -- the rune that comes next
   obtain ⟨u,r,hru,hur,hdr⟩ : ∃ u r,Rn u ∧ Utf r ∧ s.drop p = u ++ r := by
     cases hd : s.drop p with
     | nil => exact absurd hd hne
     | cons x y =>
       rw [hd] at hu
       generalize he : x :: y = z at hu
       cases hu with
       | nil => cases he
       | cons h1 h2 => exact ⟨_,_,h1,h2,rfl⟩
   have hrm : runeM s p = u.length := hru.at hdr
   have hup := hru.pos
   obtain ⟨c,hc⟩ := rune_good hpl (by omega)
   rw [hrm] at hc
   have htk : (s.drop p).take u.length = u := by rw [hdr,List.take_left]
   have hnext : s.take (p + u.length) = s.take p ++ u := by rw [List.take_add,htk]
   have hdr2 : s.drop (p + u.length) = r := drop_app hdr
   have hdec := hc.dec
   have hct := hc.top
   have hcv := hc.val
   have hcu : wrM c = u := by rw [← wr_enc (by omega),hc.bytes,htk]
   rw [hdec] at hit5
   have h5 : Bld w5 B b (l ++ [34] ++ (s.take p).flatMap escB) := h4.chg hc5 (fun e => by have := h1.lt; have := e; omega) fun k hk e => by
     obtain ⟨_,c',hc'⟩ := hk
     have e : k = w1.heap.size := e
     rw [e,hit] at hc'; cases hc'
   have hc5' : Chg (BCh w B b) w w5 := hc4.then hc5 fun k hk e => by omega
   have hx0 : Ext w0 w5 := BCh.new h0 hB0 hb hc5'
   have hfit := hc.fits
   -- once the rune's text is written
   have fin : ∀ w6,Bld w6 B b (l ++ [34] ++ (s.take p).flatMap escB ++ u.flatMap escB) → Chg (BCh w5 B b) w5 w6 → (fun (s' : List Value) w4 => ∃ p,p ≤ s.length ∧ s' = [] ∧ Utf (s.drop p) ∧ w4.heap[w1.heap.size]? = some (.stringIter (ofL s) p) ∧ Bld w4 B b (l ++ [34] ++ (s.take p).flatMap escB) ∧ Chg (BCh w B b) w w4) [] w6 ∧
       (match w6.heap[w1.heap.size]? with | some (.stringIter _ p) => s.length - p | _ => 0) < (match w4.heap[w1.heap.size]? with | some (.stringIter _ p) => s.length - p | _ => 0) := by
     intro w6 h6 hc6
     have hit6 := BCh.iter hc6 hit5 (by have := h1.lt; omega)
     refine ⟨⟨p + u.length,hfit,rfl,by rw [hdr2]; exact hur,hit6,?_,BCh.trans hc5' hc6⟩,?_⟩
     · rw [hnext,List.flatMap_append,← List.append_assoc]; exact h6
     · rw [hit6,hit]
       show s.length - (p + u.length) < s.length - p
       omega
   rw [ext_tuple]
   refine ⟨.bool true,rfl,?_⟩
   rw [condW_true,ext_tuple]
   refine ⟨.int .i32 (c : Int),by rw [hdec]; rfl,?_⟩
   refine short_p hct ?_
   rw [bin_neq,condW_dec]
   rcases hru.cases with ⟨x,hx,hxl⟩ | hh
   · -- one byte
     subst hx
     have hcx : c = x.toNat := by
       have := (hc.low rfl).1
       rw [this]
       have e := byteM_in hpl
       rw [Go.Eng.byte_at (show s.drop p = x :: r from hdr)] at e
       omega
     subst hcx
     have e1 : [x].flatMap escB = escB x := by simp
     rw [e1] at fin
     refine ⟨fun hne => ?_,fun he => ?_⟩
     · obtain ⟨f1,f2⟩ := esc_short (c := x) (by omega)
       rw [cvt_int,i32_wrap (by omega)]
       show cvsW _ _
       unfold cvsW
       dsimp only
       rw [enc_low f2,bin_sadd]
       refine ⟨by simp only [List.length_cons,List.length_nil]; decide,?_⟩
       refine wstr_p h5 (by omega) (by rw [hll]; simp only [List.length_append,List.length_cons,List.length_nil]; omega) fun v w6 h6 hc6 => ?_
       refine fin w6 ?_ hc6
       rw [f1]; exact h6
     · have f := esc_long (c := x) (by omega)
       rw [bin_lss,condW_dec]
       refine ⟨fun hlt => ?_,fun hge => ?_⟩
       · rw [if_pos (by omega)] at f
         have hmem : x ∈ s := List.mem_of_mem_drop (i := p) (by rw [hdr]; simp)
         rw [cvt_int,wrap_id (by omega) (by omega),bin_add,wrap_id (by omega) (by omega)]
         have hfm := hF x hmem (by omega) x.toNat (by omega) w5
         rw [show ((x.toNat + 256 : Nat) : Int) = (x.toNat : Int) + 256 by omega] at hfm
         refine hfm _ hx0 fun w6 hx6 => ?_
         rw [sls_str,bd_none,bd_some]
         refine ⟨by decide,by simp [hexS],?_⟩
         rw [bin_sadd]
         refine ⟨by simp [hexS],?_⟩
         refine wstr_p (h5.ext hx6) (by have := hx6.size; omega) (by rw [hll]; clear fin h4 h5 hll; generalize ((s.take p).flatMap escB).length = q at *; simp [hexS]; omega) fun v w7 h7 hc7 => ?_
         refine fin w7 ?_ (BCh.from hx6 hc7)
         rw [f]
         simpa [hexS] using h7
       · rw [if_neg (by omega)] at f
         refine wrune_p h5 (by omega) (by omega) (by omega) fun v w6 h6 hc6 => ?_
         refine fin w6 ?_ hc6
         rw [f,← hcu]; exact h6
   · -- more than one
     have hc128 : 128 ≤ c := by
       have hb0 := byte_pref (j := 0) hdr hup
       have h128 := hh u[0] (List.getElem_mem ..)
       rw [Nat.add_zero,byteM_in hpl] at hb0
       by_cases h1 : u.length = 1
       · have := hc.low h1; omega
       · exact (hc.high (by omega)).1
     rw [esc_high hh] at fin
     refine ⟨fun hne => absurd (short_high hc128) (by omega),fun he => ?_⟩
     rw [bin_lss,condW_dec]
     refine ⟨fun hlt => by omega,fun hge => ?_⟩
     refine wrune_p h5 (by omega) (by omega) (by omega) fun v w6 h6 hc6 => ?_
     refine fin w6 ?_ hc6
     rw [← hcu]; exact h6
end
end Go.Proofs.YtpiaegojabkioaaGreatDoor
namespace Go.Proofs.YtpiaegojabkioaaGreatDoor
open Go Go.Eng Go.RowKit
set_option maxRecDepth 100000
theorem utfM_of {s : Str} (h : utfM s = true) : Utf s := (utf_iff s).1 h
def partL (xs : List JV) (i : Nat) : Str := (if i = 0 then [] else [44]) ++ (match xs[i]? with | some x => showM x | none => [])
def partO (xs : List JV) (ks : List Str) (i : Nat) : Str := (if i = 0 then [] else [44]) ++ quoteM (ks.getD i []) ++ [58] ++ (match xs[i]? with | some x => showM x | none => [])
def sumL (f : Nat → Str) : Nat → Str
 | 0 => []
 | n + 1 => sumL f n ++ f n
theorem joinM_cons {x : Str} {xs : List Str} (h : xs ≠ []) : joinM (x :: xs) = x ++ [44] ++ joinM xs := by
 cases xs with
 | nil => exact absurd rfl h
 | cons y r => rfl
theorem joinM_snoc : ∀ (xs : List Str) (x : Str),joinM (xs ++ [x]) = if xs = [] then x else joinM xs ++ [44] ++ x
 | [],x => rfl
 | [y],x => by simp [joinM]
 | y :: z :: r,x => by
   have := joinM_snoc (z :: r) x
   rw [List.cons_append,joinM_cons (by simp),this,if_neg (by simp),if_neg (by simp),joinM_cons (x := y) (xs := z :: r) (by simp)]
   simp [List.append_assoc]
theorem sum_join (f : Nat → Str) (g : List Str) (hf : ∀ i x,g[i]? = some x → f i = (if i = 0 then [] else [44]) ++ x) : ∀ n,n ≤ g.length → sumL f n = joinM (g.take n) := by
 intro n
 induction n with
 | zero => intro _; rfl
 | succ n ih =>
   intro h
   have hn : n < g.length := by omega
   rw [sumL,ih (by omega),hf n g[n] (List.getElem?_eq_getElem hn),List.take_add_one,List.getElem?_eq_getElem hn,Option.toList_some,joinM_snoc]
   cases n with
   | zero => simp [joinM]
   | succ n =>
     rw [if_neg (by omega),if_neg (by
       intro e
       have := congrArg List.length e
       rw [List.length_take,List.length_nil] at this
       omega),List.append_assoc]
theorem showL_get : ∀ (xs : List JV) (i : Nat),(showL xs)[i]? = (xs[i]?).map showM
 | [],i => by simp [showL]
 | x :: xs,0 => by simp [showL]
 | x :: xs,i + 1 => by simp only [showL,List.getElem?_cons_succ]; exact showL_get xs i
theorem showL_len : ∀ (xs : List JV),(showL xs).length = xs.length
 | [] => rfl
 | x :: xs => by simp only [showL,List.length_cons]; rw [showL_len xs]
theorem list_join (xs : List JV) : sumL (partL xs) xs.length = joinM (showL xs) := by
 rw [sum_join (partL xs) (showL xs) (fun i x h => by
   rw [showL_get] at h
   unfold partL
   cases hx : xs[i]? with
   | none => rw [hx] at h; cases h
   | some y => rw [hx] at h; cases h; rfl) xs.length (by rw [showL_len]; exact Nat.le_refl _),← showL_len,List.take_length]
theorem obj_join {xs : List JV} {ks : List Str} (hl : ks.length = xs.length) : sumL (partO xs ks) xs.length = joinM (List.zipWith (fun a b => quoteM a ++ [58] ++ b) ks (showL xs)) := by
 have hz : (List.zipWith (fun a b => quoteM a ++ [58] ++ b) ks (showL xs)).length = xs.length := by rw [List.length_zipWith,showL_len]; omega
 rw [sum_join (partO xs ks) (List.zipWith (fun a b => quoteM a ++ [58] ++ b) ks (showL xs)) (fun i x h => by
   rw [List.getElem?_zipWith] at h
   unfold partO
   cases hx : xs[i]? with
   | none =>
     rw [showL_get,hx] at h
     cases hk : ks[i]? with
     | none => rw [hk] at h; cases h
     | some k => rw [hk] at h; cases h
   | some y =>
     cases hk : ks[i]? with
     | none =>
       have := List.getElem?_eq_none_iff.1 hk
       have := (List.getElem?_eq_some_iff.1 hx).1
       omega
     | some k =>
       rw [showL_get,hx,hk] at h
       cases h
       rw [List.getD_eq_getElem?_getD,hk]
       simp [List.append_assoc]) xs.length (by rw [hz]; exact Nat.le_refl _),← hz,List.take_length]
section
variable [HX]
theorem quote_len (s : Str) : (quoteM s).length ≤ 6 * s.length + 2 := by
 unfold quoteM
 simp only [List.length_append,List.length_cons,List.length_nil]
 have := flat_len s
 omega
def cntAt (xs : List JV) (i : Nat) : Nat := match xs[i]? with | some x => cntM x | none => 0
def cntS (xs : List JV) : Nat → Nat
 | 0 => 0
 | n + 1 => cntS xs n + cntAt xs n
theorem cntAt_get {xs : List JV} {i : Nat} {x : JV} (h : xs[i]? = some x) : cntAt xs i = cntM x := by unfold cntAt; rw [h]
theorem cntS_cons (x : JV) (xs : List JV) : ∀ n,cntS (x :: xs) (n + 1) = cntM x + cntS xs n
 | 0 => by simp [cntS,cntAt]
 | n + 1 => by
   rw [cntS,cntS_cons x xs n,cntS]
   have : cntAt (x :: xs) (n + 1) = cntAt xs n := by unfold cntAt; rw [List.getElem?_cons_succ]
   omega
theorem cntS_le : ∀ (xs : List JV) (n : Nat),n ≤ xs.length → cntS xs n ≤ cntL xs
 | xs,0,_ => Nat.zero_le _
 | [],n + 1,h => by simp at h
 | x :: xs,n + 1,h => by
   have ih := cntS_le xs n (by simpa using h)
   rw [cntS_cons]
   simp only [cntL]
   omega
theorem sum_len {f : Nat → Str} {xs : List JV} : ∀ n,(∀ i,i < n → (f i).length ≤ 200000 * cntAt xs i) → (sumL f n).length ≤ 200000 * cntS xs n := by
 intro n
 induction n with
 | zero => intro _; simp [sumL]
 | succ n ih =>
   intro h
   have ih := ih fun i hi => h i (by omega)
   rw [sumL,List.length_append,cntS]
   have := h n (by omega)
   omega
theorem show_len (v : JV) : plainM v = true → (showM v).length + 100000 ≤ 200000 * cntM v := by
 induction v using JV.ind with
 | h k b t xs ks ih =>
   intro hp
   rw [plainM_eq,Bool.and_eq_true] at hp
   obtain ⟨hp1,hp2⟩ := hp
   have hh := headOk_out hp1
   simp only [JV.k,JV.b,JV.t,JV.xs,JV.ks] at hh hp2
   rw [plainL_all,List.all_eq_true] at hp2
   have hi : ∀ x ∈ xs,(showM x).length + 100000 ≤ 200000 * cntM x := fun x hx => ih x hx (hp2 x hx)
   simp only [cntM]
   rw [showM_eq]
   have hcg := cntS_le xs xs.length (Nat.le_refl _)
   have sums : ∀ (f : Nat → Str) ,(∀ i,i < xs.length → (f i).length ≤ 200000 * cntAt xs i) → (sumL f xs.length).length ≤ 200000 * cntL xs := fun f hf => by
     have h1 := sum_len (f := f) xs.length hf
     omega
   split
   · simp; omega
   split
   · cases b <;> simp <;> omega
   split
   · rename_i h3
     have hg := hh.2.2.2.2.2.2.1 h3
     obtain ⟨g1,g2,_,_⟩ := Num.goodN_out hg
     have : t.length ≤ (Num.dig t).length + 1 := by
       cases t with
       | nil => simp [Num.dig]
       | cons c d => unfold Num.dig; dsimp only; split <;> simp
     omega
   split
   · rename_i h4
     have hl := hh.2.2.2.2.2.2.2.1 h4
     have := quote_len t
     omega
   split
   · rename_i h6
     have hkl := hh.2.2.2.2.2.2.2.2.1 h6
     have hks := keysOk_len hh.2.2.2.2.2.2.2.2.2
     rw [← obj_join hkl]
     have := sums (partO xs ks) fun i hlt => by
       unfold partO
       rw [cntAt_get (List.getElem?_eq_getElem hlt),List.getElem?_eq_getElem hlt]
       have h1 := hi xs[i] (List.getElem_mem ..)
       have hk : ks[i]? = some (ks[i]'(by omega)) := List.getElem?_eq_getElem _
       have h2 := hks (ks[i]'(by omega)) (List.getElem_mem ..)
       have h3 := quote_len (ks[i]'(by omega))
       rw [List.getD_eq_getElem?_getD,hk,Option.getD_some]
       simp only [List.length_append,List.length_cons,List.length_nil]
       split
       · rw [List.length_nil]; omega
       · rw [List.length_cons,List.length_nil]; omega
     simp only [List.length_append,List.length_cons,List.length_nil]
     omega
   · rw [← list_join]
     have := sums (partL xs) fun i hlt => by
       unfold partL
       rw [cntAt_get (List.getElem?_eq_getElem hlt),List.getElem?_eq_getElem hlt]
       have h1 := hi xs[i] (List.getElem_mem ..)
       simp only [List.length_append]
       split
       · rw [List.length_nil]; omega
       · rw [List.length_cons,List.length_nil]; omega
     simp only [List.length_append,List.length_cons,List.length_nil]
     omega
end
end Go.Proofs.YtpiaegojabkioaaGreatDoor
namespace Go.Proofs.YtpiaegojabkioaaGreatDoor
open Go Go.Eng Go.RowKit
set_option maxRecDepth 100000
section
variable [HX]
theorem wlit_p {w : World} {B b : Nat} {l s : Str} {K : Value → World → Prop} (h : Bld w B b l) (hB : B ≤ w.heap.size) (hl : l.length + s.length ≤ 1000000000)
   (hK : ∀ v w',Bld w' B b (l ++ s) → Chg (BCh w B b) w w' → K v w') : callF Tryz.prog 86 [.pointer (some ⟨b,0,none⟩),str s] w K := wstr_p h hB (by omega) hK
theorem fbool_p {b : Bool} {w : World} {K : Value → World → Prop} (hK : K (str (if b then [116,114,117,101] else [102,97,108,115,101])) w) : callF Tryz.prog 87 [.bool b] w K := by
 refine of_calls (args := #[.bool b]) Tryz.call87 ((Tryz.strconv_FormatBool b w).mono ?_)
 rintro e w' ⟨rfl,rfl⟩
 refine ⟨_,rfl,?_⟩
 have e : (⟨(Lib.formatBool b).toArray⟩ : ByteArray) = ofL (if b then [116,114,117,101] else [102,97,108,115,101]) := by cases b <;> decide +kernel
 rw [e]
 exact hK
theorem textsL_mem : ∀ {xs : List JV},textsL xs = true → ∀ x ∈ xs,textsM x = true
 | [],_,x,hx => by cases hx
 | y :: ys,h,x,hx => by
   simp only [textsL,Bool.and_eq_true] at h
   rcases List.mem_cons.1 hx with rfl | hx
   · exact h.1
   · exact textsL_mem h.2 x hx
theorem sum_succ (f : Nat → Str) (n : Nat) : sumL f (n + 1) = sumL f n ++ f n := rfl
theorem BCh.keepv {w w' : World} {B b k : Nat} {l : List Value} (h : Chg (BCh w B b) w w') (hk : w.heap[k]? = some (.cells l.toArray VT (0,0))) (hb : k ≠ b) : w'.heap[k]? = some (.cells l.toArray VT (0,0)) := BCh.keep h hk hb (by decide)
theorem write_p (v : JV) : ∀ {w0 w : World} {B b : Nat} {l : Str} {cs : List Value} {K : Value → World → Prop},VRep w0 v cs → Ext w0 w → w0.heap.size ≤ B → B ≤ w.heap.size → Bld w B b l → plainM v = true → textsM v = true → knownM v = true → fewM v = true →
   l.length + 200000 * cntM v ≤ 900000000 → FmtOk w0 → (∀ w',Bld w' B b (l ++ showM v) → Chg (BCh w B b) w w' → K (.tuple #[]) w') → callF Tryz.prog 59 [.pointer (some ⟨b,0,none⟩),.agg cs.toArray] w K := by
 induction v using JV.ind with
 | h k bb t xs ks ih =>
   intro w0 w B b l cs K hr h0 hB0 hB hbd hp hu hkn hfew hl hF hK
   have hsl := show_len _ hp
   have hbb := hbd.base
   have hblt := hbd.lt
   rw [plainM_eq,Bool.and_eq_true] at hp
   obtain ⟨hp1,hp2⟩ := hp
   have hh := headOk_out hp1
   simp only [JV.k,JV.b,JV.t,JV.xs,JV.ks] at hh hp2
   rw [knownM_eq,Bool.and_eq_true,Bool.not_eq_true',decide_eq_false_iff_not] at hkn
   obtain ⟨hkn1,hkn2⟩ := hkn
   simp only [JV.k,JV.xs] at hkn1 hkn2
   simp only [textsM,Bool.and_eq_true] at hu
   obtain ⟨⟨hu1,hu2⟩,hu3⟩ := hu
   rw [fewM_eq] at hfew
   simp only [JV.xs,JV.ks,Bool.and_eq_true] at hfew
   obtain ⟨⟨hf1,hf2⟩,hf3⟩ := hfew
   have hf1 : xs.length ≤ 100000 := of_decide_eq_true hf1
   rw [plainL_all,List.all_eq_true] at hp2
   rw [knownL_all,List.all_eq_true] at hkn2
   rw [fewL_all,List.all_eq_true] at hf3
   have hu3' := textsL_mem hu3
   simp only [cntM] at hl hsl
   rw [showM_eq] at hK hsl
   refine W59_ok ?_
   unfold W59
   refine box_vali hr fun a w1 sv kv ha hI hx1 hage hz1 => ?_
   simp only [JV.k,JV.b,JV.t,JV.xs,JV.ks] at ha
   have hab : a ≠ b := by omega
   have hx01 := h0.trans hx1
   have hb1 := hbd.ext hx1
   have ld : ∀ (w' : World) (off : Nat) (v : Value) (KK : Value → Prop),w'.heap[a]? = some (.cells [i64 k,.bool bb,str t,sv,kv].toArray VT (0,0)) → [i64 k,.bool bb,str t,sv,kv][off]? = some v → KK v → fldW off (.pointer (some ⟨a,0,none⟩)) fun p => ldW false 1 p w' KK := by
     intro w' off v KK hw hv hk
     rw [fld_ptr,ld_one]
     refine ⟨v,?_,hk⟩
     rw [add_mk,cell_eq,hw,cellO_some,Nat.zero_add]
     simpa using hv
   have mk : ∀ {w' : World},Chg (BCh w1 B b) w1 w' → Chg (BCh w B b) w w' := fun hc => BCh.from hx1 hc
   refine ld w1 0 _ _ ha rfl ?_
   rw [bin_eql,condW_dec]
   refine ⟨fun e0 => ?_,fun e0 => ?_⟩
   · rw [if_pos e0] at hK
     exact wlit_p hb1 (by omega) (by simp; omega) fun v w2 h2 hc2 => hK w2 h2 (mk hc2)
   rw [if_neg e0] at hK hsl
   rw [bin_eql,condW_dec]
   refine ⟨fun e2 => ?_,fun e2 => ?_⟩
   · rw [if_pos e2] at hK
     refine ld w1 1 _ _ ha rfl ?_
     refine fbool_p ?_
     refine wlit_p hb1 (by omega) (by cases bb <;> simp <;> omega) fun v w2 h2 hc2 => hK w2 h2 (mk hc2)
   rw [if_neg e2] at hK hsl
   rw [bin_eql,condW_dec]
   refine ⟨fun e3 => ?_,fun e3 => ?_⟩
   · rw [if_pos e3] at hK hsl
     refine ld w1 2 _ _ ha rfl ?_
     exact wlit_p hb1 (by omega) (by omega) fun v w2 h2 hc2 => hK w2 h2 (mk hc2)
   rw [if_neg e3] at hK hsl
   rw [bin_eql,condW_dec]
   refine ⟨fun e4 => ?_,fun e4 => ?_⟩
   · rw [if_pos e4] at hK hsl
     have ht4 := hh.2.2.2.2.2.2.2.1 e4
     refine ld w1 2 _ _ ha rfl ?_
     exact quote_p hx01 hB0 hb1 (by omega) (utfM_of hu1) (by omega) (fun _ _ _ => hF) fun w2 h2 hc2 => hK w2 h2 (mk hc2)
   rw [if_neg e4] at hK hsl
   have hcg := fun n hn => cntS_le xs n hn
   rw [bin_eql,condW_dec]
   refine ⟨fun e5 => ?_,fun e5 => ?_⟩
   · rw [if_neg (by omega),← list_join] at hK
     refine wbyte_p (n := 91) hb1 (by omega) (by omega) (by omega) fun w2 h2 hc2 => ?_
     have ha2 := BCh.keepv hc2 ha hab
     refine ld w2 3 _ _ ha2 rfl ?_
     have hit : lenlW sv = fun K => K (i64 (xs.length : Int)) := by
       funext K
       obtain ⟨T,L,i1,_⟩ := hI.items
       exact propext (lenl_at i1 K)
     rw [hit]
     dsimp only
     refine loop_up xs.length (fun i w' => Chg (BCh w B b) w w' ∧ w'.heap[a]? = some (.cells [i64 k,.bool bb,str t,sv,kv].toArray VT (0,0)) ∧ Bld w' B b (l ++ [91] ++ sumL (partL xs) i) ∧ (sumL (partL xs) i).length ≤ 200000 * cntS xs i) ⟨mk hc2,ha2,by simpa [sumL] using h2,by simp [sumL]⟩ ?_ ?_
     · rintro i w3 g L hi ⟨hc3,ha3,h3,hs3⟩ hL
       obtain ⟨x,hxi⟩ : ∃ x,xs[i]? = some x := ⟨_,List.getElem?_eq_getElem hi⟩
       have hxm := List.mem_of_getElem? hxi
       have hcs := hcg (i + 1) hi
       rw [cntS,cntAt_get hxi] at hcs
       have hz3 := hc3.size
       have hx03 : Ext w0 w3 := BCh.new h0 hB0 hbb hc3
       simp only [List.getD_cons_zero]
       rw [bin_lss,decide_eq_true (by omega),condW_true]
       refine ValI.item_old hI hx03 hxi fun cs2 hr2 => ?_
       refine alloc_new fun a2 w4 ha2 hz4 hb4 hx4 => ?_
       have hlen := hr2.len
       refine st_agg_at (l := cs2) hb4 (by omega) (by simp) hr2.all_one fun w5 hz5 hb5 hc5 => ?_
       have hx5 : Ext w3 w5 := hx4.new hc5 (by omega)
       have h5 := h3.ext hx5
       have hc5' := BCh.ext hc3 hx5
       have ha5 := hx5.at ha3 id
       have ha2b : a2 ≠ b := by have := h3.lt; omega
       have hll : (l ++ [91] ++ sumL (partL xs) i).length = l.length + 1 + (sumL (partL xs) i).length := by simp only [List.length_append,List.length_cons,List.length_nil]
       refine JoinW.cut (fun s' w6 => s' = [] ∧ Chg (BCh w5 B b) w5 w6 ∧ Bld w6 B b (l ++ [91] ++ sumL (partL xs) i ++ (if i = 0 then [] else [44]))) ?_ ?_
       · rw [bin_gtr,condW_dec]
         refine ⟨fun hpos => ?_,fun hz => ?_⟩
         · refine wbyte_p (n := 44) h5 (by omega) (by omega) (by omega) fun w6 h6 hc6 => ⟨rfl,hc6,?_⟩
           rw [if_neg (by omega)]; exact h6
         · refine ⟨rfl,Chg.refl _ _,?_⟩
           rw [if_pos (by omega),List.append_nil]; exact h5
       rintro s' g6 w6 ⟨rfl,hc6,h6⟩
       have hb6 := BCh.keepv hc6 hb5 ha2b
       have hz6 := hc6.size
       refine ld_all hb6 (by omega) ?_
       refine ih x hxm (w0 := w0) hr2 (BCh.new hx03 (by omega) hbb (BCh.from hx5 hc6) ) hB0 (by omega) h6 (hp2 x hxm) (hu3' x hxm) (hkn2 x hxm) (hf3 x hxm) ?_ hF fun w7 h7 hc7 => ?_
       · simp only [List.length_append] at hll ⊢
         have : (if i = 0 then ([] : Str) else [44]).length ≤ 1 := by split <;> simp
         omega
       have hi2 : i < 100000 := by omega
       rw [bin_add,up1 (i := i) (by omega)]
       have hcc := BCh.trans (BCh.trans hc5' hc6) hc7
       refine hL w7 ⟨hcc,BCh.keepv hc7 (BCh.keepv hc6 ha5 hab) hab,?_,?_⟩
       · rw [sum_succ]
         unfold partL
         rw [hxi,← List.append_assoc,← List.append_assoc]
         exact h7
       · rw [sum_succ,List.length_append,cntS,cntAt_get hxi]
         have := show_len x (hp2 x hxm)
         have h9 : (partL xs i).length ≤ 1 + (showM x).length := by
           unfold partL; rw [hxi,List.length_append]; split <;> simp
         omega
     · rintro w3 g L ⟨hc3,ha3,h3,hs3⟩
       have hz3 := hc3.size
       have hcs := hcg xs.length (Nat.le_refl _)
       simp only [List.getD_cons_zero]
       rw [bin_lss,decide_eq_false (by omega),condW_false]
       refine wbyte_p (n := 93) h3 (by omega) (by simp only [List.length_append,List.length_cons,List.length_nil]; omega) (by omega) fun w4 h4 hc4 => ?_
       refine hK w4 ?_ (BCh.trans hc3 hc4)
       simpa [List.append_assoc] using h4
   have e6 : k = 6 := by
     have := hh.1; have := hh.2.1; omega
   have hkl := hh.2.2.2.2.2.2.2.2.1 e6
   have hks := keysOk_len hh.2.2.2.2.2.2.2.2.2
   rw [List.all_eq_true] at hu2
   rw [bin_eql,decide_eq_true e6,condW_true]
   rw [if_pos e6,← obj_join hkl] at hK
   refine wbyte_p (n := 123) hb1 (by omega) (by omega) (by omega) fun w2 h2 hc2 => ?_
   have ha2 := BCh.keepv hc2 ha hab
   refine ld w2 3 _ _ ha2 rfl ?_
   have hit : lenlW sv = fun K => K (i64 (xs.length : Int)) := by
     funext K
     obtain ⟨T,L,i1,_⟩ := hI.items
     exact propext (lenl_at i1 K)
   rw [hit]
   dsimp only
   refine loop_up xs.length (fun i w' => Chg (BCh w B b) w w' ∧ w'.heap[a]? = some (.cells [i64 k,.bool bb,str t,sv,kv].toArray VT (0,0)) ∧ Bld w' B b (l ++ [123] ++ sumL (partO xs ks) i) ∧ (sumL (partO xs ks) i).length ≤ 200000 * cntS xs i) ⟨mk hc2,ha2,by simpa [sumL] using h2,by simp [sumL]⟩ ?_ ?_
   · rintro i w3 g L hi ⟨hc3,ha3,h3,hs3⟩ hL
     obtain ⟨x,hxi⟩ : ∃ x,xs[i]? = some x := ⟨_,List.getElem?_eq_getElem hi⟩
     obtain ⟨key,hki⟩ : ∃ key,ks[i]? = some key := ⟨_,List.getElem?_eq_getElem (by omega)⟩
     have hkm := List.mem_of_getElem? hki
     have hklen := hks key hkm
     have hql := quote_len key
     have hxm := List.mem_of_getElem? hxi
     have hcs := hcg (i + 1) hi
     rw [cntS,cntAt_get hxi] at hcs
     have hpart : partO xs ks i = (if i = 0 then [] else [44]) ++ quoteM key ++ [58] ++ showM x := by
       unfold partO
       rw [hxi,List.getD_eq_getElem?_getD,hki]; rfl
     have hz3 := hc3.size
     have hx03 : Ext w0 w3 := BCh.new h0 hB0 hbb hc3
     simp only [List.getD_cons_zero]
     rw [bin_lss,decide_eq_true (by omega),condW_true]
     refine ValI.item_old hI hx03 hxi fun cs2 hr2 => ?_
     refine alloc_new fun a2 w4 ha2 hz4 hb4 hx4 => ?_
     have hlen := hr2.len
     refine st_agg_at (l := cs2) hb4 (by omega) (by simp) hr2.all_one fun w5 hz5 hb5 hc5 => ?_
     have hx5 : Ext w3 w5 := hx4.new hc5 (by omega)
     have h5 := h3.ext hx5
     have hc5' := BCh.ext hc3 hx5
     have ha5 := hx5.at ha3 id
     have ha2b : a2 ≠ b := by have := h3.lt; omega
     have hll : (l ++ [123] ++ sumL (partO xs ks) i).length = l.length + 1 + (sumL (partO xs ks) i).length := by simp only [List.length_append,List.length_cons,List.length_nil]
     have hif : (if i = 0 then ([] : Str) else [44]).length ≤ 1 := by split <;> simp
     have hx1 := show_len x (hp2 x hxm)
     refine JoinW.cut (fun s' w6 => s' = [] ∧ Chg (BCh w5 B b) w5 w6 ∧ Bld w6 B b (l ++ [123] ++ sumL (partO xs ks) i ++ (if i = 0 then [] else [44]))) ?_ ?_
     · rw [bin_gtr,condW_dec]
       refine ⟨fun hpos => ?_,fun hz => ?_⟩
       · refine wbyte_p (n := 44) h5 (by omega) (by omega) (by omega) fun w6 h6 hc6 => ⟨rfl,hc6,?_⟩
         rw [if_neg (by omega)]; exact h6
       · refine ⟨rfl,Chg.refl _ _,?_⟩
         rw [if_pos (by omega),List.append_nil]; exact h5
     rintro s' g6 w6 ⟨rfl,hc6,h6⟩
     have hb6 := BCh.keepv hc6 hb5 ha2b
     have ha6 := BCh.keepv hc6 ha5 hab
     have hz6 := hc6.size
     have hx06 : Ext w0 w6 := BCh.new hx03 (by omega) hbb (BCh.from hx5 hc6)
     refine ld w6 4 _ _ ha6 rfl ?_
     obtain ⟨T,hkv⟩ := hI.keys
     refine text_ld (hkv.ext hx06) hki ?_
     refine quote_p hx06 hB0 h6 (by omega) (utfM_of (hu2 key hkm)) ?_ (fun _ _ _ => hF) fun w7 h7 hc7 => ?_
     · simp only [List.length_append] at hll ⊢
       omega
     have hb7 := BCh.keepv hc7 hb6 ha2b
     have ha7 := BCh.keepv hc7 ha6 hab
     have hz7 := hc7.size
     refine wbyte_p (n := 58) h7 (by omega) ?_ (by omega) fun w8 h8 hc8 => ?_
     · simp only [List.length_append] at hll ⊢
       omega
     have hb8 := BCh.keepv hc8 hb7 ha2b
     have ha8 := BCh.keepv hc8 ha7 hab
     have hz8 := hc8.size
     refine ld_all hb8 (by omega) ?_
     have hc58 := BCh.trans (BCh.trans hc6 hc7) hc8
     refine ih x hxm (w0 := w0) hr2 (BCh.new hx03 (by omega) hbb (BCh.from hx5 hc58)) hB0 (by omega) h8 (hp2 x hxm) (hu3' x hxm) (hkn2 x hxm) (hf3 x hxm) ?_ hF fun w9 h9 hc9 => ?_
     · simp only [List.length_append,List.length_cons,List.length_nil] at hll ⊢
       omega
     have hi2 : i < 100000 := by omega
     rw [bin_add,up1 (i := i) (by omega)]
     have hcc := BCh.trans (BCh.trans hc5' hc58) hc9
     refine hL w9 ⟨hcc,BCh.keepv hc9 ha8 hab,?_,?_⟩
     · rw [sum_succ,hpart]
       simpa [List.append_assoc] using h9
     · rw [sum_succ,List.length_append,cntS,cntAt_get hxi,hpart]
       simp only [List.length_append,List.length_cons,List.length_nil]
       omega
   · rintro w3 g L ⟨hc3,ha3,h3,hs3⟩
     have hz3 := hc3.size
     have hcs := hcg xs.length (Nat.le_refl _)
     simp only [List.getD_cons_zero]
     rw [bin_lss,decide_eq_false (by omega),condW_false]
     refine wbyte_p (n := 125) h3 (by omega) (by simp only [List.length_append,List.length_cons,List.length_nil]; omega) (by omega) fun w4 h4 hc4 => ?_
     refine hK w4 ?_ (BCh.trans hc3 hc4)
     simpa [List.append_assoc] using h4
end
end Go.Proofs.YtpiaegojabkioaaGreatDoor
namespace Go.Proofs.YtpiaegojabkioaaGreatDoor
open Go Go.Eng Go.RowKit
set_option maxRecDepth 100000
theorem valid_iff : ∀ (n : Nat) (l : Str),l.length ≤ n → (Lib.validGoD n l = true ↔ Utf l) := by
 intro n
 induction n with
 | zero =>
   intro l h
   obtain rfl : l = [] := List.eq_nil_of_length_eq_zero (by omega)
   exact ⟨fun _ => .nil,fun _ => rfl⟩
 | succ n ih =>
   intro l h
   unfold Lib.validGoD
   by_cases h0 : l = []
   · rw [if_pos h0]; subst h0; exact ⟨fun _ => .nil,fun _ => rfl⟩
   rw [if_neg h0]
   have hpos : 0 < l.length := List.length_pos_iff.2 h0
   have hd : Lib.decodeL l = Utf8.decode (ofL l) 0 := rfl
   have head : Utf l → ∃ u r,Rn u ∧ Utf r ∧ l = u ++ r ∧ runeM l 0 = u.length := fun hu => by
     cases hu with
     | nil => exact absurd rfl h0
     | cons h1 h2 => exact ⟨_,_,h1,h2,rfl,h1.at (s := _ ++ _) (i := 0) (by rw [List.drop_zero])⟩
   by_cases hr : runeM l 0 = 0
   · rw [hd,rune_bad hpos hr,if_pos ⟨rfl,rfl⟩]
     refine ⟨fun e => (by cases e),fun hu => ?_⟩
     obtain ⟨u,r,h1,_,_,h4⟩ := head hu
     have := h1.pos
     omega
   · obtain ⟨c,hc⟩ := rune_good hpos hr
     rw [hd,hc.dec,if_neg (by
       rintro ⟨e1,e2⟩
       have e1 : c = 65533 := e1
       have := (hc.low e2).2
       omega)]
     have hf := hc.fits
     rw [ih (l.drop (runeM l 0)) (by rw [List.length_drop]; omega)]
     constructor
     · intro hu
       have := Utf.cons (Rn.of hr) hu
       rwa [List.drop_zero,List.take_append_drop] at this
     · intro hu
       obtain ⟨u,r,h1,h2,h3,h4⟩ := head hu
       rw [h4,h3,List.drop_left]
       exact h2
theorem valid_utf (l : Str) : Lib.validD l = utfM l := by
 have h1 := valid_iff l.length l (Nat.le_refl _)
 have h2 := utf_iff l
 unfold Lib.validD
 cases ha : Lib.validGoD l.length l <;> cases hb : utfM l <;> simp_all
def TabU (w : World) : Prop := Lib.Utf8Tabs (Tryz.laysValid_ren.g 3) (Tryz.laysValid_ren.g 4) w
theorem cell_ext {w w' : World} {b o : Nat} {v : Value} (hx : Ext w w') (h : w.cell? ⟨b,o,none⟩ = some v) : w'.cell? ⟨b,o,none⟩ = some v := by
 rw [cell_eq] at h ⊢
 cases hb : w.heap[b]? with
 | none => rw [hb] at h; cases h
 | some x => rw [hb] at h; rw [hx.at hb id]; exact h
theorem TabU.ext {w w' : World} (h : TabU w) (hx : Ext w w') : TabU w' := ⟨fun c hc => cell_ext hx (h.1 c hc),fun i hi => ⟨cell_ext hx (h.2 i hi).1,cell_ext hx (h.2 i hi).2⟩⟩
section
variable [HX]
theorem valid_p {s : Str} {w : World} {K : Value → World → Prop} (hT : TabU w) (hl : s.length ≤ 9223372036854775807) (hK : ∀ w',Ext w w' → K (.bool (utfM s)) w') : callF Tryz.prog 74 [str s] w K := by
 refine of_calls (args := #[str s]) Tryz.call74 ((Tryz.utf8_ValidString (ofL s) w (by rw [ofL_size]; exact hl) hT).mono ?_)
 rintro e w' ⟨rfl,hb⟩
 rw [ofL_data,valid_utf]
 exact ⟨_,rfl,hK w' (Chg.of_below hb)⟩
theorem bad_p {s : Str} {w : World} {K : Value → World → Prop} (hT : TabU w) (hl : s.length ≤ 9223372036854775807) (hK : ∀ w',Ext w w' → K (.bool (!utfM s)) w') : callF Tryz.prog 84 [str s] w K := by
 refine W84_ok ?_
 unfold W84
 refine valid_p hT hl fun w1 hx1 => ?_
 rw [un_not]
 exact hK w1 hx1
theorem index_sx {v f : Value} {T : TypeId} {l : List Str} {p : Str → Bool} {w : World} {K : Value → World → Prop} (h : SlAt w T v l.length (l.map str)) (hl : l.length ≤ 9223372036854775807)
   (hf : ∀ x ∈ l,∀ {w1 : World} {K : Value → World → Prop},Ext w w1 → (∀ w',Ext w1 w' → K (.bool (p x)) w') → callV Tryz.prog f [str x] w1 K)
   (hK : ∀ w',Ext w w' → K (i64 (findI p l)) w') : callF Tryz.prog 121 [v,f] w K := by
 refine W121_ok ?_
 unfold W121
 rw [lenl_at h]
 refine loop_up l.length (fun i w' => Ext w w' ∧ (l.take i).any p = false) ⟨Chg.refl _ _,by simp⟩ ?_ ?_
 · rintro i w2 g L hi ⟨hx2,hno⟩ hL
   obtain ⟨x,hxi⟩ : ∃ x,l[i]? = some x := ⟨_,List.getElem?_eq_getElem hi⟩
   have hlt : ((i : Int) < (l.length : Int)) := by omega
   simp only [wsv,wsg,wsh,wsl,cond_true,cond_false,exists_eq_left',wsu,Nat.reduceAdd,Nat.reduceLT,Nat.lt_add_one,Nat.zero_lt_succ,decide_true,decide_false,ne_eq,reduceCtorEq,hlt]
   refine text_ld (h.ext hx2) hxi ?_
   refine hf x (List.mem_of_getElem? hxi) hx2 fun w3 hx3 => ?_
   rw [condW_b]
   refine ⟨fun ht => ?_,fun hn => ?_⟩
   · have := hK w3 (hx2.trans hx3)
     unfold findI at this
     rw [findIdx_hit hno hxi ht] at this
     exact this
   · rw [up1 (by omega)]
     exact hL _ ⟨hx2.trans hx3,by rw [any_take hxi,hno,hn]; rfl⟩
 · rintro w2 g L ⟨hx2,hno⟩
   simp only [wsv,wsg,wsh,wsl,cond_true,cond_false,exists_eq_left',wsu,Nat.reduceAdd,Nat.reduceLT,Nat.lt_add_one,Nat.zero_lt_succ,decide_true,decide_false,ne_eq,reduceCtorEq,Int.lt_irrefl]
   rw [List.take_length] at hno
   have := hK w2 hx2
   unfold findI at this
   rw [List.findIdx?_eq_none_iff.2 fun x hx => by simpa using List.any_eq_false.1 hno x hx] at this
   exact this
theorem contains_sx {v f : Value} {T : TypeId} {l : List Str} {p : Str → Bool} {w : World} {K : Value → World → Prop} (h : SlAt w T v l.length (l.map str)) (hl : l.length ≤ 9223372036854775807)
   (hf : ∀ x ∈ l,∀ {w1 : World} {K : Value → World → Prop},Ext w w1 → (∀ w',Ext w1 w' → K (.bool (p x)) w') → callV Tryz.prog f [str x] w1 K)
   (hK : ∀ w',Ext w w' → K (.bool (l.any p)) w') : callF Tryz.prog 79 [v,f] w K := by
 refine W79_ok ?_
 unfold W79
 refine index_sx h hl hf fun w1 hx1 => ?_
 simp only [wsv,wsg,wsh,wsl,cond_true,cond_false,exists_eq_left',wsu,Nat.reduceAdd,Nat.reduceLT,Nat.lt_add_one,Nat.zero_lt_succ,decide_true,decide_false,ne_eq,reduceCtorEq,findI_ge]
 exact hK w1 hx1
theorem any_not_utf (ks : List Str) : (!ks.any fun s => !utfM s) = ks.all utfM := by
 induction ks with
 | nil => rfl
 | cons x xs ih => simp only [List.any_cons,List.all_cons,Bool.not_or,Bool.not_not,ih]
theorem any_not_texts (xs : List JV) : (!xs.any fun x => !textsM x) = textsL xs := by
 induction xs with
 | nil => rfl
 | cons x xs ih => simp only [List.any_cons,Bool.not_or,Bool.not_not,ih,textsL]
theorem textsM_eq (v : JV) : textsM v = (utfM v.t && v.ks.all utfM && textsL v.xs) := by cases v; rfl
theorem texts_p (v : JV) : ∀ {w0 w : World} {cs : List Value} {K : Value → World → Prop},TabU w0 → Ext w0 w → VRep w v cs → (∀ w',Ext w w' → K (.bool (textsM v)) w') → callF Tryz.prog 58 [.agg cs.toArray] w K := by
 induction v using JV.ind' with
 | h v ih =>
   intro w0 w cs K hT h0 h hK
   rw [textsM_eq] at hK
   refine W58_ok ?_
   unfold W58
   refine box_val h fun a w1 sv kv hB hx _ => ?_
   obtain ⟨f1,f2,f3,f4⟩ := hB.fits
   simp only [wsv,wsg,wsh,wsl,cond_true,cond_false,exists_eq_left',wsu,Nat.reduceAdd,Nat.reduceLT,Nat.lt_add_one,Nat.zero_lt_succ,decide_true,decide_false,ne_eq,reduceCtorEq,wsh,hB.hb]
   refine callV_fn (bad_p (hT.ext (h0.trans hx)) f3 fun w2 hx2 => ?_)
   have hB2 := hB.ext hx2
   have hx2' := hx.trans hx2
   obtain ⟨Tk,hkv⟩ := hB2.keys
   simp only [wsv,wsg,wsh,wsl,cond_true,cond_false,exists_eq_left',wsu,Nat.reduceAdd,Nat.reduceLT,Nat.lt_add_one,Nat.zero_lt_succ,decide_true,decide_false,ne_eq,reduceCtorEq,Bool.not_not]
   refine GdW.act (v.ks.all utfM) (fun w' => Ext w2 w') (fun _ => Chg.refl _ _) ?_ ?_
   · intro hc J hJ
     simp only [wsv,wsg,wsh,wsl,cond_true,cond_false,exists_eq_left',wsu,Nat.reduceAdd,Nat.reduceLT,Nat.lt_add_one,Nat.zero_lt_succ,decide_true,decide_false,ne_eq,reduceCtorEq,wsh,hB2.hb]
     refine contains_sx (p := fun s => !utfM s) hkv f2 (fun x hxm {w3 K} hx3 hK => callV_fn (bad_p (hT.ext ((h0.trans hx2').trans hx3)) (f4 x hxm) hK)) fun w4 hx4 => ?_
     simp only [wsv,wsg,wsh,wsl,cond_true,cond_false,exists_eq_left',wsu,Nat.reduceAdd,Nat.reduceLT,Nat.lt_add_one,Nat.zero_lt_succ,decide_true,decide_false,ne_eq,reduceCtorEq,any_not_utf]
     exact hJ w4 hx4
   intro g w4 hx4
   have hB4 := hB2.ext hx4
   have hx4' := hx2'.trans hx4
   simp only [wsv,wsg,wsh,wsl,cond_true,cond_false,exists_eq_left',wsu,Nat.reduceAdd,Nat.reduceLT,Nat.lt_add_one,Nat.zero_lt_succ,decide_true,decide_false,ne_eq,reduceCtorEq]
   refine GdW.act (textsL v.xs) (fun w' => Ext w4 w') (fun _ => Chg.refl _ _) ?_ ?_
   · intro hc J hJ
     simp only [wsv,wsg,wsh,wsl,cond_true,cond_false,exists_eq_left',wsu,Nat.reduceAdd,Nat.reduceLT,Nat.lt_add_one,Nat.zero_lt_succ,decide_true,decide_false,ne_eq,reduceCtorEq,wsh,hB4.hb]
     refine contains_x (p := fun x => !textsM x) hB4.itemsAt ?_ fun w5 hx5 => ?_
     · intro x hxm cs w5 K hx5 hr hK
       refine callV_fn ?_
       refine W85_ok ?_
       unfold W85
       refine box_val hr fun b w6 sv kv hB6 hx6 _ => ?_
       refine hB6.ld fun cs2 h2 => ?_
       refine ih x hxm hT (((h0.trans hx4').trans hx5).trans hx6) h2 fun w7 hx7 => ?_
       rw [un_not]
       exact hK w7 (hx6.trans hx7)
     · simp only [wsv,wsg,wsh,wsl,cond_true,cond_false,exists_eq_left',wsu,Nat.reduceAdd,Nat.reduceLT,Nat.lt_add_one,Nat.zero_lt_succ,decide_true,decide_false,ne_eq,reduceCtorEq,any_not_texts]
       exact hJ w5 hx5
   intro g w5 hx5
   simp only [wsv,wsg,wsh,wsl,cond_true,cond_false,exists_eq_left',wsu,Nat.reduceAdd,Nat.reduceLT,Nat.lt_add_one,Nat.zero_lt_succ,decide_true,decide_false,ne_eq,reduceCtorEq]
   exact hK w5 (hx4'.trans hx5)
end
end Go.Proofs.YtpiaegojabkioaaGreatDoor
namespace Go.Proofs.YtpiaegojabkioaaGreatDoor
open Go Go.Eng Go.RowKit
set_option maxRecDepth 100000
def goodR (v : JV) (m : Nat) (left : Int) : Bool := deepM v m && plainM v && decide ((cntM v : Int) ≤ left)
theorem keysOk_nil : keysOk [] = true := rfl
def flatK (k : Int) (t : Str) : Bool := if k = 3 then Num.goodN t else if k = 4 then decide (t.length ≤ 16384) else decide (t = [])
def flatOk (v : JV) : Bool := flatK v.k v.t
theorem goodR_flat {v : JV} {m : Nat} {left : Int} (hm : m ≠ 0) (hl : 1 ≤ left) (hb : v.b = true → v.k = 2) (h0 : 0 ≤ v.k) (h5 : v.k < 5) : goodR v m left = (flatOk v && (decide (v.xs.length = 0) && decide (v.ks.length = 0))) := by
 cases v with
 | mk k b t xs ks =>
 simp only [JV.k,JV.b] at hb h0 h5
 unfold goodR
 show (deepM (.mk k b t xs ks) m && (headOk k b t xs.length ks && plainL xs) && decide ((cntM (.mk k b t xs ks) : Int) ≤ left)) = (flatK k t && (decide (xs.length = 0) && decide (ks.length = 0)))
 unfold flatK
 by_cases hx : xs = []
 · subst hx
   cases m with
   | zero => exact absurd rfl hm
   | succ m =>
     by_cases hk : ks = []
     · subst hk
       have hc : cntM (.mk k b t [] []) = 1 := rfl
       rw [deepM_succ,hc,decide_eq_true (show ((1 : Nat) : Int) ≤ left from hl)]
       simp only [JV.xs,deepL,plainL,List.length_nil]
       rw [Bool.eq_iff_iff]
       simp only [headOk,keysOk_nil,Bool.and_true,Bool.true_and,Bool.and_eq_true,Bool.or_eq_true,Bool.not_eq_true',decide_eq_true_eq,decide_eq_false_iff_not]
       constructor
       · rintro ⟨⟨⟨⟨⟨⟨⟨⟨_,_⟩,_⟩,ht⟩,_⟩,_⟩,h3⟩,h4⟩,_⟩
         refine ⟨?_,trivial,trivial⟩
         split
         · rename_i e; exact h3.resolve_left (fun h => h e)
         · split
           · rename_i e; exact decide_eq_true (h4.resolve_left (fun h => h e))
           · rcases ht with (ht | ht) | ht
             · exact decide_eq_true ht
             · contradiction
             · contradiction
       · rintro ⟨hf,_⟩
         refine ⟨⟨⟨⟨⟨⟨⟨⟨h0,by omega⟩,?_⟩,?_⟩,.inl trivial⟩,.inr trivial⟩,?_⟩,?_⟩,?_⟩
         · cases b with
           | false => exact .inl rfl
           | true => exact .inr (hb rfl)
         · by_cases e3 : k = 3
           · exact .inl (.inr e3)
           · by_cases e4 : k = 4
             · exact .inr e4
             · rw [if_neg e3,if_neg e4,decide_eq_true_iff] at hf; exact .inl (.inl hf)
         · by_cases e3 : k = 3
           · rw [if_pos e3] at hf; exact .inr hf
           · exact .inl e3
         · by_cases e4 : k = 4
           · rw [if_neg (by omega),if_pos e4,decide_eq_true_iff] at hf; exact .inr hf
           · exact .inl e4
         · exact .inl (by omega)
     · have h1 : headOk k b t ([] : List JV).length ks = false := by
         cases hh : headOk k b t ([] : List JV).length ks with
         | false => rfl
         | true => have := (headOk_out hh).2.2.2.2.2.1 hk; omega
       rw [h1,decide_eq_false (show ¬ ks.length = 0 from fun e => hk (List.eq_nil_of_length_eq_zero e))]
       simp
 · have h1 : headOk k b t xs.length ks = false := by
     cases hh : headOk k b t xs.length ks with
     | false => rfl
     | true => have := (headOk_out hh).2.2.2.2.1 (fun e => hx (List.eq_nil_of_length_eq_zero e)); omega
   rw [h1,decide_eq_false (show ¬ xs.length = 0 from fun e => hx (List.eq_nil_of_length_eq_zero e))]
   simp
def itemsOk (xs : List JV) (m : Nat) (left : Int) : Bool := deepL xs m && plainL xs && decide ((cntL xs : Int) ≤ left)
theorem goodR_deep {v : JV} {m : Nat} {left : Int} (hb : v.b = true → v.k = 2) (hk : v.k = 5 ∧ v.ks = [] ∨ v.k = 6 ∧ v.ks.length = v.xs.length ∧ keysOk v.ks = true) : goodR v (m + 1) left = (decide (v.t = []) && itemsOk v.xs m (left - 1)) := by
 cases v with
 | mk k b t xs ks =>
 simp only [JV.k,JV.b,JV.ks,JV.xs] at hb hk
 unfold goodR
 have hc : cntM (.mk k b t xs ks) = 1 + cntL xs := by simp only [cntM]
 rw [hc]
 show (deepL xs m && (headOk k b t xs.length ks && plainL xs) && decide (((1 + cntL xs : Nat) : Int) ≤ left)) = (decide (t = []) && (deepL xs m && plainL xs && decide ((cntL xs : Int) ≤ left - 1)))
 have hbf : b = false := by
   cases b with
   | false => rfl
   | true => have := hb rfl; omega
 subst hbf
 have hh : headOk k false t xs.length ks = decide (t = []) := by
   rw [Bool.eq_iff_iff]
   simp only [headOk,Bool.and_eq_true,Bool.or_eq_true,Bool.not_eq_true',decide_eq_true_eq,decide_eq_false_iff_not,Bool.not_false]
   constructor
   · rintro ⟨⟨⟨⟨⟨⟨⟨⟨⟨_,_⟩,_⟩,ht⟩,_⟩,_⟩,_⟩,_⟩,_⟩,_⟩
     rcases ht with (ht | ht) | ht
     · exact ht
     · omega
     · omega
   · intro ht
     refine ⟨⟨⟨⟨⟨⟨⟨⟨⟨by omega,by omega⟩,.inl trivial⟩,.inl (.inl ht)⟩,.inr (by omega)⟩,?_⟩,.inl (by omega)⟩,.inl (by omega)⟩,?_⟩,?_⟩
     · rcases hk with ⟨_,h⟩ | ⟨h,_⟩
       · exact .inr h
       · exact .inl h
     · rcases hk with ⟨h,_⟩ | ⟨_,h,_⟩
       · exact .inl (by omega)
       · exact .inr h
     · rcases hk with ⟨_,h⟩ | ⟨_,_,h⟩
       · rw [h]; rfl
       · exact h
 rw [hh]
 have e : decide (((1 + cntL xs : Nat) : Int) ≤ left) = decide ((cntL xs : Int) ≤ left - 1) := by rw [decide_eq_decide]; omega
 rw [e]
 generalize decide ((cntL xs : Int) ≤ left - 1) = d4
 generalize decide (t = []) = d1
 generalize deepL xs m = d2
 generalize plainL xs = d3
 cases d1 <;> cases d2 <;> cases d3 <;> cases d4 <;> rfl
theorem goodR_no {v : JV} {m : Nat} {left : Int} (h : m = 0 ∨ left < 1 ∨ (v.b = true ∧ v.k ≠ 2) ∨ v.k < 0 ∨ 6 < v.k ∨ (v.k = 5 ∧ v.ks ≠ []) ∨ (v.k = 6 ∧ (v.ks.length ≠ v.xs.length ∨ keysOk v.ks = false))) : goodR v m left = false := by
 cases hg : goodR v m left with
 | false => rfl
 | true =>
   unfold goodR at hg
   simp only [Bool.and_eq_true,decide_eq_true_eq] at hg
   obtain ⟨⟨h1,h2⟩,h3⟩ := hg
   rw [plainM_eq,Bool.and_eq_true] at h2
   have hh := headOk_out h2.1
   have hc := cnt_pos v
   rcases h with rfl | h | ⟨h,h'⟩ | h | h | ⟨h,h'⟩ | ⟨h,h' | h'⟩
   · rw [deepM_zero] at h1; cases h1
   · omega
   · exact absurd (hh.2.2.1 h) h'
   · have := hh.1; omega
   · have := hh.2.1; omega
   · have := hh.2.2.2.2.2.1 h'; omega
   · exact absurd (hh.2.2.2.2.2.2.2.2.1 h) h'
   · have := hh.2.2.2.2.2.2.2.2.2; rw [h'] at this; cases this
theorem _root_.Go.Eng.SlAt.keep1 {w w' : World} {p : Nat} {x : Value} {T T' : TypeId} {fr : Nat × Nat} {v : Value} {n : Nat} {cs : List Value} (h : SlAt w T v n cs) (hp : w.heap[p]? = some (.cells [x].toArray T' fr)) (hc : Chg (fun k => k = p) w w')
   (hne : cs ≠ [] → cs[0]? ≠ some x ∨ 2 ≤ cs.length) : SlAt w' T v n cs := by
 obtain ⟨pp,cap,hv,h1,h2,h3⟩ := h
 refine ⟨pp,cap,hv,h1,h2,fun hn => ?_⟩
 obtain ⟨b,off,c,fr',hpp,hb,hcs⟩ := h3 hn
 refine ⟨b,off,c,fr',hpp,hc.at hb ?_,hcs⟩
 rintro rfl
 rw [hp] at hb
 simp only [Option.some.injEq,Obj.cells.injEq] at hb
 obtain ⟨rfl,_,_⟩ := hb
 have hpos : 0 < cs.length := List.length_pos_iff.2 hn
 have e0 := hcs 0 hpos
 rw [Nat.add_zero] at e0
 rcases hne hn with h | h
 · have : off = 0 := by
     apply Classical.byContradiction; intro ho
     rw [show ([x].toArray)[off]? = none by simp; omega,List.getElem?_eq_getElem hpos] at e0
     cases e0
   subst this
   exact h (by rw [← e0]; rfl)
 · have e1 := hcs 1 (by omega)
   rw [List.getElem?_eq_getElem (by omega),show ([x].toArray)[off + 1]? = none by simp] at e1
   cases e1
mutual
theorem vrep_keepi {w w' : World} {p : Nat} {n : Int} {T' : TypeId} {fr : Nat × Nat} (hp : w.heap[p]? = some (.cells [i64 n].toArray T' fr)) (hc : Chg (fun k => k = p) w w') : ∀ {v : JV} {cs : List Value},VRep w v cs → VRep w' v cs
 | .mk k b t xs ks,cs,h => by
   simp only [VRep] at h ⊢
   obtain ⟨sv,kv,T1,T2,L,rfl,h1,h2,h3,h4⟩ := h
   refine ⟨sv,kv,T1,T2,L,rfl,h1.keep1 hp hc fun hn => .inr ?_,vreps_keepi hp hc h2,h3.keep1 hp hc fun hn => .inl ?_,h4⟩
   · have := h2.len
     have hl : 0 < L.length := List.length_pos_iff.2 hn
     omega
   · cases ks with
     | nil => exact absurd rfl hn
     | cons a r => intro e; simp at e
theorem vreps_keepi {w w' : World} {p : Nat} {n : Int} {T' : TypeId} {fr : Nat × Nat} (hp : w.heap[p]? = some (.cells [i64 n].toArray T' fr)) (hc : Chg (fun k => k = p) w w') : ∀ {xs : List JV} {L : List Value},VReps w xs L → VReps w' xs L
 | [],L,h => by simp only [VReps] at h ⊢; exact h
 | x :: xs,L,h => by
   simp only [VReps] at h ⊢
   obtain ⟨c,r,rfl,h1,h2⟩ := h
   exact ⟨c,r,rfl,vrep_keepi hp hc h1,vreps_keepi hp hc h2⟩
end
section
variable [HX]
theorem itemsOk_no {xs : List JV} {m i : Nat} {left : Int} {x : JV} (hi : xs[i]? = some x) (h : goodR x m (left - cntS xs i) = false) : itemsOk xs m left = false := by
 cases hg : itemsOk xs m left with
 | false => rfl
 | true =>
   unfold itemsOk at hg
   simp only [Bool.and_eq_true,decide_eq_true_eq] at hg
   obtain ⟨⟨h1,h2⟩,h3⟩ := hg
   rw [deepL_all,List.all_eq_true] at h1
   rw [plainL_all,List.all_eq_true] at h2
   have hm := List.mem_of_getElem? hi
   have hcs := cntS_le xs (i + 1) (List.getElem?_eq_some_iff.1 hi).1
   rw [cntS,cntAt_get hi] at hcs
   unfold goodR at h
   rw [h1 x hm,h2 x hm,decide_eq_true (by omega)] at h
   cases h
theorem cntL_S : ∀ (xs : List JV),cntL xs = cntS xs xs.length
 | [] => rfl
 | x :: xs => by
   rw [List.length_cons,cntS_cons,← cntL_S xs]
   simp only [cntL]
theorem itemsOk_yes {xs : List JV} {m : Nat} {left : Int} (h : ∀ i x,xs[i]? = some x → goodR x m (left - cntS xs i) = true) (hl : (cntL xs : Int) ≤ left) : itemsOk xs m left = true := by
 unfold itemsOk
 rw [decide_eq_true hl,deepL_all,plainL_all,List.all_eq_true.2,List.all_eq_true.2]
 · rfl
 · intro x hx
   obtain ⟨i,hi,rfl⟩ := List.getElem_of_mem hx
   have := h i _ (List.getElem?_eq_getElem hi)
   unfold goodR at this
   simp only [Bool.and_eq_true] at this
   exact this.1.2
 · intro x hx
   obtain ⟨i,hi,rfl⟩ := List.getElem_of_mem hx
   have := h i _ (List.getElem?_eq_getElem hi)
   unfold goodR at this
   simp only [Bool.and_eq_true] at this
   exact this.1.1
theorem callV_cap {P : Program} {g : FuncId} {args caps : List Value} {w : World} {K : Value → World → Prop} (h : callF P g (args ++ caps) w K) : callV P (.func (.func g) #[] caps.toArray) args w K := by
 unfold callV semN
 unfold callF at h
 have : (do let d ← (Deferred.ofValue (.func (.func g) #[] caps.toArray) args.toArray); invoke d.target d.args : Sem Next) = callFunc g (args ++ caps).toArray := by
   show callFunc g (#[] ++ args.toArray ++ caps.toArray) = _
   simp
 rw [this]
 exact h
theorem len_zero {n m : Nat} (hn : n ≤ 9223372036854775807) (hm : m ≤ 9223372036854775807) : decide (IntKind.i64.wrap ((n : Int) + (m : Int)) = 0) = (decide (n = 0) && decide (m = 0)) := by
 have e1 : (2 : Int) ^ 64 = 18446744073709551616 := by decide
 have e2 : (2 : Int) ^ (64 - 1) = 9223372036854775808 := by decide
 have : IntKind.i64.wrap ((n : Int) + (m : Int)) = 0 ↔ n = 0 ∧ m = 0 := by
   simp only [IntKind.wrap,IntKind.bits,IntKind.signed,Bool.true_and,e1,e2]
   split
   · rename_i h
     simp only [ge_iff_le,decide_eq_true_eq] at h
     omega
   · rename_i h
     omega
 rw [Bool.eq_iff_iff,decide_eq_true_iff,Bool.and_eq_true,decide_eq_true_iff,decide_eq_true_iff]
 exact this
theorem box_one {T : TypeId} {v : Value} {w : World} {K : Value → World → Prop} (h1 : one1 v = true) (h : ∀ a w',a = w.heap.size → w'.heap.size = w.heap.size + 1 → w'.heap[a]? = some (.cells [v].toArray T (0,0)) → Ext w w' → K (.pointer (some ⟨a,0,none⟩)) w') : boxW T v w K := by
 cases v <;> first | (simp [one1] at h1; done) | exact h _ _ rfl (by simp) (heap_anew _ _ _ rfl) (Chg.alloc (Chg.refl _ _) _)
theorem good_p (v : JV) : ∀ {m p : Nat} {left : Int} {w : World} {cs : List Value} {K : Value → World → Prop},VRep w v cs → w.heap[p]? = some (.cells [i64 left].toArray 3 (0,0)) → m ≤ 24 → -1 ≤ left → left ≤ 2000 →
   (∀ r w',r = goodR v m left → (r = true → w'.heap[p]? = some (.cells [i64 (left - cntM v)].toArray 3 (0,0))) → Chg (fun k => k = p) w w' → K (.bool r) w') → callF Tryz.prog 75 [.agg cs.toArray,i64 (m : Int),.pointer (some ⟨p,0,none⟩)] w K := by
 induction v using JV.ind' with
 | h v ih =>
   intro m p left w cs K h hp hm hl1 hl2 hK
   refine W75_ok ?_
   unfold W75
   refine box_val h fun a w1 sv kv hB hx1 ha => ?_
   have hplt := at_lt hp
   have hp1 := hx1.at hp id
   refine box_one rfl fun d w2 hd hz2 hd2 hx2 => ?_
   refine box_one rfl fun q w3 hq hz3 hq3 hx3 => ?_
   have hp3 := hx3.at (hx2.at hp1 id) id
   have hB3 := hB.ext (hx2.trans hx3)
   have hd3 := hx3.at hd2 id
   have hx13 := (hx1.trans hx2).trans hx3
   simp only [wsv,wsg,wsh,wsl,cond_true,cond_false,exists_eq_left',wsu,Nat.reduceAdd,Nat.reduceLT,Nat.lt_add_one,Nat.zero_lt_succ,decide_true,decide_false,ne_eq,reduceCtorEq,wsh,hq3,hp3]
   have ew : IntKind.i64.wrap (left - 1) = left - 1 := wrap_id (by omega) (by omega)
   refine st_at (off := 0) hp3 rfl (by simp) fun w4 hz4 hp4 hc4 => ?_
   have s1 := hx1.size
   have s2 := hx2.size
   have hq4 := hc4.at hq3 (by omega)
   have hd4 := hc4.at hd3 (by omega)
   have hb4 := hc4.at hB3.hb (by omega)
   rw [show ([i64 left].toArray.setIfInBounds 0 (i64 (IntKind.i64.wrap (left - 1)))) = [i64 (left - 1)].toArray by rw [ew]; rfl] at hp4
   have hcw : Chg (fun k => k = p) w w4 := (Chg.of_ext hx13).trans hc4
   obtain ⟨Tk,hks3⟩ := hB3.keys
   have hks4 : SlAt w4 Tk kv v.ks.length (v.ks.map str) := hks3.keep1 hp3 hc4 fun hn => .inl (by
     cases hkk : v.ks with
     | nil => rw [hkk] at hn; exact absurd rfl hn
     | cons a r => intro e; simp at e)
   obtain ⟨Ti,L,hit,hreps⟩ := hB3.items
   have hit4 : SlAt w4 Ti sv v.xs.length L := hit.keep1 hp3 hc4 fun hn => .inr (by
     have := hreps.len
     have hl : 0 < L.length := List.length_pos_iff.2 hn
     omega)
   have hreps4 : VReps w4 v.xs L := vreps_keepi hp3 hc4 hreps
   obtain ⟨f1,f2,f3,f4⟩ := hB3.fits
   have lx : ∀ KK : Value → Prop,lenlW sv KK ↔ KK (i64 v.xs.length) := fun KK => lenl_at hit KK
   have lk : ∀ KK : Value → Prop,lenlW kv KK ↔ KK (i64 v.ks.length) := fun KK => hB3.lenk KK
   simp only [wsv,wsg,wsh,wsl,cond_true,cond_false,exists_eq_left',wsu,Nat.reduceAdd,Nat.reduceLT,Nat.lt_add_one,Nat.zero_lt_succ,decide_true,decide_false,ne_eq,reduceCtorEq,wsh,hq4,hp4,hd4,hb4]
   intro g1 g2 g3 g4
   rw [condW_b]
   refine ⟨fun hbad => hK false w4 ?_ (fun e => by cases e) hcw,fun hok => ?_⟩
   · rw [goodR_no]
     simp only [Bool.or_eq_true,Bool.and_eq_true,decide_eq_true_eq] at hbad
     rcases hbad with (h | h) | ⟨h,h'⟩
     · exact .inl (by omega)
     · exact .inr (.inl (by omega))
     · exact .inr (.inr (.inl ⟨h,h'⟩))
   have hm0 : m ≠ 0 := fun e => by rw [decide_eq_true (show (m : Int) = 0 by omega)] at hok; cases hok
   have hl0 : 1 ≤ left := by
     rcases Int.lt_or_le (left - 1) 0 with h | h
     · rw [decide_eq_true h] at hok; simp at hok
     · omega
   have hbk : v.b = true → v.k = 2 := fun e => by
     rw [e] at hok
     simp only [Bool.or_eq_false_iff,Bool.true_and,decide_eq_false_iff_not,Classical.not_not] at hok
     exact hok.2
   have flat : ∀ w',Ext w4 w' → 0 ≤ v.k → v.k < 5 → K (.bool (flatOk v && (decide (v.xs.length = 0) && decide (v.ks.length = 0)))) w' := fun w' e h0 h5 => by
     refine hK _ w' (goodR_flat hm0 hl0 hbk h0 h5).symm (fun hr => ?_) (hcw.then e fun _ _ e => e.elim)
     simp only [Bool.and_eq_true,decide_eq_true_eq] at hr
     have hx0 : v.xs = [] := List.eq_nil_of_length_eq_zero hr.2.1
     have hc1 : cntM v = 1 := by
       rw [v.eta,hx0]; rfl
     rw [hc1]; exact e.at hp4 id
   have no : (v.k < 0 ∨ 6 < v.k ∨ (v.k = 5 ∧ v.ks ≠ []) ∨ (v.k = 6 ∧ (v.ks.length ≠ v.xs.length ∨ keysOk v.ks = false))) → K (.bool false) w4 := fun h => hK false w4 (goodR_no (.inr (.inr (.inr h)))).symm (fun e => by cases e) hcw
   obtain ⟨m',rfl⟩ : ∃ m',m = m' + 1 := ⟨m - 1,by omega⟩
   refine JoinW.cut (fun s' w' => s' = [] ∧ w' = w4 ∧ (v.k = 5 ∧ v.ks = [] ∨ v.k = 6 ∧ v.ks.length = v.xs.length ∧ keysOk v.ks = true)) ?_ ?_
   · refine JoinW.cut (fun s' w' => s' = [.bool (decide (v.k = 0 ∨ v.k = 1 ∨ v.k = 2))] ∧ w' = w4) ?_ ?_
     · rw [condW_dec]
       refine ⟨fun h => ?_,fun h => ?_⟩
       · rw [decide_eq_true h,decide_eq_true (.inl h)]; exact ⟨rfl,rfl⟩
       · rw [condW_dec]
         refine ⟨fun h1 => ?_,fun h1 => ?_⟩
         · rw [decide_eq_true h1,decide_eq_true (.inr (.inl h1))]; exact ⟨rfl,rfl⟩
         · rw [show decide (v.k = 2) = decide (v.k = 0 ∨ v.k = 1 ∨ v.k = 2) by rw [decide_eq_decide]; omega]
           exact ⟨rfl,rfl⟩
     rintro s' g w5 ⟨rfl,rfl⟩
     simp only [wsv,wsg,wsh,wsl,cond_true,cond_false,exists_eq_left',wsu,Nat.reduceAdd,Nat.reduceLT,Nat.lt_add_one,Nat.zero_lt_succ,decide_true,decide_false,ne_eq,reduceCtorEq,wsh,hb4,lx,lk,condW_dec]
     refine ⟨fun h012 => ?_,fun h012 => ?_⟩
     · intro g5
       have := flat w5 (Chg.refl _ _) (by omega) (by omega)
       unfold flatOk flatK at this
       rw [if_neg (by omega),if_neg (by omega)] at this
       rw [len_zero f1 f2]
       exact this
     refine ⟨fun h3 => ?_,fun h3 => ?_⟩
     · refine numgood_ref f3 fun w6 hx6 => ?_
       have hb6 := hx6.at hb4 id
       have := flat w6 hx6 (by omega) (by omega)
       unfold flatOk flatK at this
       rw [if_pos h3] at this
       simp only [wsv,wsg,wsh,wsl,cond_true,cond_false,exists_eq_left',wsu,Nat.reduceAdd,Nat.reduceLT,Nat.lt_add_one,Nat.zero_lt_succ,decide_true,decide_false,ne_eq,reduceCtorEq,wsh,hb6,lx,lk]
       intro g6
       rw [len_zero f1 f2]
       exact this
     refine ⟨fun h4 => ?_,fun h4 => ?_⟩
     · intro g6
       have := flat w5 (Chg.refl _ _) (by omega) (by omega)
       unfold flatOk flatK at this
       rw [if_neg h3,if_pos h4] at this
       rw [len_zero f1 f2]
       rw [show decide ((v.t.length : Int) ≤ 16384) = decide (v.t.length ≤ 16384) by rw [decide_eq_decide]; omega]
       exact this
     refine ⟨fun h5 => ?_,fun h5 => ?_⟩
     · refine ⟨fun hk => no (.inr (.inr (.inl ⟨h5,fun e => by rw [e] at hk; simp at hk⟩))),fun hk => .inl ⟨h5,List.eq_nil_of_length_eq_zero (by omega)⟩⟩
     refine ⟨fun h6 => ?_,fun h6 => no (by omega)⟩
     refine ⟨fun hne => no (.inr (.inr (.inr ⟨h6,.inl (by omega)⟩))),fun heq => ?_⟩
     refine loop_up v.ks.length (fun i w' => w' = w5 ∧ (∀ j a,j < i → v.ks[j]? = some a → a.length ≤ 16384) ∧ (∀ j a b,j + 1 < i → v.ks[j]? = some a → v.ks[j + 1]? = some b → Op.bytesLess a b = true)) ⟨rfl,fun j a h => by omega,fun j a b h => by omega⟩ ?_ ?_
     · rintro i w6 g6 L6 hi ⟨rfl,hl,hs⟩ hL
       obtain ⟨u,hu⟩ : ∃ u,v.ks[i]? = some u := ⟨_,List.getElem?_eq_getElem hi⟩
       have hlt : ((i : Int) < (v.ks.length : Int)) := by omega
       simp only [wsv,wsg,wsh,wsl,cond_true,cond_false,exists_eq_left',wsu,Nat.reduceAdd,Nat.reduceLT,Nat.lt_add_one,Nat.zero_lt_succ,decide_true,decide_false,ne_eq,reduceCtorEq,hlt]
       refine text_ld hks4 hu ?_
       have hnext : u.length ≤ 16384 → (∀ x,0 < i → v.ks[i - 1]? = some x → Op.bytesLess x u = true) → L6 [i64 ((i + 1 : Nat) : Int)] w6 := fun h1 h2 => by
         refine hL _ ⟨rfl,fun j a hj ha => ?_,fun j a b hj ha hb => ?_⟩
         · rcases Nat.lt_or_ge j i with h | h
           · exact hl j a h ha
           · obtain rfl : j = i := by omega
             rw [hu] at ha; cases ha; exact h1
         · rcases Nat.lt_or_ge (j + 1) i with h | h
           · exact hs j a b h ha hb
           · obtain rfl : i = j + 1 := by omega
             rw [hu] at hb; cases hb
             exact h2 a (by omega) (by simpa using ha)
       by_cases hlong : 16384 < u.length
       · have e : decide ((16384 : Int) < (u.length : Int)) = true := decide_eq_true (by omega)
         simp only [wsv,wsg,wsh,wsl,cond_true,cond_false,exists_eq_left',wsu,Nat.reduceAdd,Nat.reduceLT,Nat.lt_add_one,Nat.zero_lt_succ,decide_true,decide_false,ne_eq,reduceCtorEq,e]
         intros
         exact no (.inr (.inr (.inr ⟨h6,.inr (keysOk_long hu hlong)⟩)))
       · have e : decide ((16384 : Int) < (u.length : Int)) = false := decide_eq_false (by omega)
         by_cases h0 : i = 0
         · subst h0
           have e0 : decide ((0 : Int) < ((0 : Nat) : Int)) = false := by decide
           simp only [wsv,wsg,wsh,wsl,cond_true,cond_false,exists_eq_left',wsu,Nat.reduceAdd,Nat.reduceLT,Nat.lt_add_one,Nat.zero_lt_succ,decide_true,decide_false,ne_eq,reduceCtorEq,e,e0]
           rw [up1 (by omega)]
           intros
           exact hnext (by omega) fun x h => by omega
         · obtain ⟨j,rfl⟩ : ∃ j,i = j + 1 := ⟨i - 1,by omega⟩
           obtain ⟨x,hxj⟩ : ∃ x,v.ks[j]? = some x := ⟨_,List.getElem?_eq_getElem (by omega)⟩
           have e0 : decide ((0 : Int) < ((j + 1 : Nat) : Int)) = true := decide_eq_true (by omega)
           have hw : IntKind.i64.wrap (((j + 1 : Nat) : Int) - 1) = ((j : Nat) : Int) := by rw [wrap_id (by omega) (by omega)]; omega
           simp only [wsv,wsg,wsh,wsl,cond_true,cond_false,exists_eq_left',wsu,Nat.reduceAdd,Nat.reduceLT,Nat.lt_add_one,Nat.zero_lt_succ,decide_true,decide_false,ne_eq,reduceCtorEq,e,e0,hw]
           intro g7
           refine GdW.look (!Op.bytesLess x u) (fun _ J hJ => ?_) fun g8 => ?_
           · rw [hb4]
             refine ⟨kv,rfl,?_⟩
             refine text_ld hks4 hxj ?_
             rw [bin_sge]; exact hJ
           intro g9
           simp only [List.getD_cons_zero,cond_true]
           rw [condW_b]
           refine ⟨fun hge => no (.inr (.inr (.inr ⟨h6,.inr (keysOk_two hxj hu (by simpa using hge))⟩))),fun hlt2 => ?_⟩
           rw [up1 (by omega)]
           exact hnext (by omega) fun y _ hy => by
             have : v.ks[j]? = some y := by simpa using hy
             rw [hxj] at this; cases this
             simpa using hlt2
     · rintro w6 g6 L6 ⟨rfl,hl,hs⟩
       have hkeys : keysOk v.ks = true := keysOk_mk (fun i a h => hl i a (List.getElem?_eq_some_iff.1 h).1 h) (fun i a b h1 h2 => hs i a b (List.getElem?_eq_some_iff.1 h2).1 h1 h2)
       simp only [wsv,wsg,wsh,wsl,cond_true,cond_false,exists_eq_left',wsu,Nat.reduceAdd,Nat.reduceLT,Nat.lt_add_one,Nat.zero_lt_succ,decide_true,decide_false,ne_eq,reduceCtorEq,Int.lt_irrefl]
       exact .inr ⟨h6,by omega,hkeys⟩
   · rintro s' g w5 ⟨rfl,rfl,hk⟩
     simp only [wsv,wsg,wsh,wsl,cond_true,cond_false,exists_eq_left',wsu,Nat.reduceAdd,Nat.reduceLT,Nat.lt_add_one,Nat.zero_lt_succ,decide_true,decide_false,ne_eq,reduceCtorEq,wsh,hb4]
     refine GdW.act (itemsOk v.xs m' (left - 1)) (fun w' => Chg (fun k => k = p) w5 w' ∧ (decide (v.t = []) = true → itemsOk v.xs m' (left - 1) = true → w'.heap[p]? = some (.cells [i64 (left - 1 - cntL v.xs)].toArray 3 (0,0)))) (fun e => ⟨Chg.refl _ _,fun e' => by rw [e] at e'; cases e'⟩) ?_ ?_
     · intro ht J hJ
       refine W76_ok ?_
       unfold W76
       refine W120_ok ?_
       unfold W120
       rw [lx]
       refine loop_up v.xs.length (fun i w' => Chg (fun k => k = p) w5 w' ∧ w'.heap[p]? = some (.cells [i64 (left - 1 - cntS v.xs i)].toArray 3 (0,0)) ∧ (∀ j x,j < i → v.xs[j]? = some x → goodR x m' (left - 1 - cntS v.xs j) = true) ∧ SlAt w' Ti sv v.xs.length L ∧ VReps w' v.xs L ∧ (cntS v.xs i : Int) ≤ left - 1) ⟨Chg.refl _ _,by simpa [cntS] using hp4,fun j x h => by omega,hit4,hreps4,by simp [cntS]; omega⟩ ?_ ?_
       · rintro i w6 g6 L6 hi ⟨hc6,hp6,hall,hit6,hreps6,hcs6⟩ hL
         obtain ⟨x,hxi⟩ : ∃ x,v.xs[i]? = some x := ⟨_,List.getElem?_eq_getElem hi⟩
         have hlt : ((i : Int) < (v.xs.length : Int)) := by omega
         simp only [wsv,wsg,wsh,wsl,cond_true,cond_false,exists_eq_left',wsu,Nat.reduceAdd,Nat.reduceLT,Nat.lt_add_one,Nat.zero_lt_succ,decide_true,decide_false,ne_eq,reduceCtorEq,hlt]
         refine item_ld hit6 hreps6 hxi fun cs6 hr6 => ?_
         refine callV_cap (caps := [.pointer (some ⟨d,0,none⟩),.pointer (some ⟨q,0,none⟩)]) ?_
         refine W119_ok ?_
         unfold W119
         refine box_val hr6 fun b7 w7 sv7 kv7 hB7 hx7 hb7 => ?_
         refine hB7.ld fun cs7 hr7 => ?_
         have hd6 := hc6.at hd4 (by omega)
         have hq6 := hc6.at hq4 (by omega)
         have hd7 := hx7.at hd6 id
         have hq7 := hx7.at hq6 id
         have hp7 := hx7.at hp6 id
         have hw : IntKind.i64.wrap (((m' + 1 : Nat) : Int) - 1) = ((m' : Nat) : Int) := by rw [wrap_id (by omega) (by omega)]; omega
         simp only [wsv,wsg,wsh,wsl,cond_true,cond_false,exists_eq_left',wsu,Nat.reduceAdd,Nat.reduceLT,Nat.lt_add_one,Nat.zero_lt_succ,decide_true,decide_false,ne_eq,reduceCtorEq,wsh,hd7,hq7,hw]
         refine ih x (List.mem_of_getElem? hxi) hr7 hp7 (by omega) (by omega) (by omega) fun r w8 hr8 hp8 hc8 => ?_
         simp only [wsv,wsg,wsh,wsl,cond_true,cond_false,exists_eq_left',wsu,Nat.reduceAdd,Nat.reduceLT,Nat.lt_add_one,Nat.zero_lt_succ,decide_true,decide_false,ne_eq,reduceCtorEq,condW_b]
         have hc68 : Chg (fun k => k = p) w6 w8 := (Chg.of_ext hx7).trans hc8
         have hc58 := hc6.trans hc68
         refine ⟨fun hbad => ?_,fun hgood => ?_⟩
         · have hrf : r = false := by simpa using hbad
           rw [decide_eq_true (show (0 : Int) ≤ (i : Int) by omega)]
           have := itemsOk_no hxi (show goodR x m' (left - 1 - cntS v.xs i) = false by rw [← hr8]; exact hrf)
           rw [this] at hJ
           exact hJ w8 ⟨hc58,fun _ e => by cases e⟩
         · have hrt : r = true := by simpa using hgood
           have hg := hr8
           rw [hrt] at hg
           have hcx : (cntM x : Int) ≤ left - 1 - cntS v.xs i := by
             unfold goodR at hg
             have := hg.symm
             simp only [Bool.and_eq_true,decide_eq_true_eq] at this
             exact this.2
           rw [up1 (by omega)]
           refine hL w8 ⟨hc58,?_,?_,?_,?_,?_⟩
           · rw [cntS,cntAt_get hxi]
             have e : left - 1 - ((cntS v.xs i : Nat) : Int) - ((cntM x : Nat) : Int) = left - 1 - ((cntS v.xs i + cntM x : Nat) : Int) := by omega
             rw [hp8 hrt,e]
           · intro j y hj hy
             rcases Nat.lt_or_ge j i with h | h
             · exact hall j y h hy
             · obtain rfl : j = i := by omega
               rw [hxi] at hy; cases hy
               exact hg.symm
           · exact (hit6.ext hx7).keep1 hp7 hc8 fun hn => .inr (by
               have := hreps.len
               have hl : 0 < L.length := List.length_pos_iff.2 hn
               omega)
           · exact vreps_keepi hp7 hc8 (hreps6.ext hx7)
           · rw [cntS,cntAt_get hxi]; omega
       · rintro w6 g6 L6 ⟨hc6,hp6,hall,hit6,hreps6,hcs6⟩
         simp only [wsv,wsg,wsh,wsl,cond_true,cond_false,exists_eq_left',wsu,Nat.reduceAdd,Nat.reduceLT,Nat.lt_add_one,Nat.zero_lt_succ,decide_true,decide_false,ne_eq,reduceCtorEq,Int.lt_irrefl]
         rw [← cntL_S] at hp6 hcs6
         have := itemsOk_yes (fun i x h => hall i x (List.getElem?_eq_some_iff.1 h).1 h) hcs6
         have hj := hJ w6 ⟨hc6,fun _ _ => hp6⟩
         rw [this] at hj
         exact hj
     · rintro g6 w6 ⟨hc6,hp6⟩
       simp only [wsv,wsg,wsh,wsl,cond_true,cond_false,exists_eq_left',wsu,Nat.reduceAdd,Nat.reduceLT,Nat.lt_add_one,Nat.zero_lt_succ,decide_true,decide_false,ne_eq,reduceCtorEq]
       refine hK _ w6 (goodR_deep hbk hk).symm (fun hr => ?_) (hcw.trans hc6)
       simp only [Bool.and_eq_true,decide_eq_true_eq] at hr
       rw [hp6 (decide_eq_true hr.1) hr.2]
       have : cntM v = 1 + cntL v.xs := by cases v; simp only [cntM,JV.xs]
       have e : left - 1 - ((cntL v.xs : Nat) : Int) = left - ((1 + cntL v.xs : Nat) : Int) := by omega
       rw [this,e]
end
end Go.Proofs.YtpiaegojabkioaaGreatDoor
namespace Go.Proofs.YtpiaegojabkioaaGreatDoor
open Go Go.Eng Go.RowKit
set_option maxRecDepth 100000
theorem sizeLM_big (xs : List JV) {n : Int} (h : 2000 < n) : sizeLM xs n = n := by
 cases xs with
 | nil => rfl
 | cons x xs => simp only [sizeLM]; rw [if_neg (by omega)]
theorem size_cnt : ∀ (m : Nat),m ≤ 24 → ∀ (v : JV),deepM v m = true → (sizeM v ≤ 2000 → sizeM v = cntM v) ∧ ((cntM v : Int) ≤ 2000 → sizeM v = cntM v) := by
 intro m
 induction m with
 | zero => intro _ v h; rw [deepM_zero] at h; cases h
 | succ m ih =>
   intro hm v h
   rw [deepM_succ,deepL_all,List.all_eq_true] at h
   have lst : ∀ (xs : List JV),(∀ x ∈ xs,deepM x m = true) → ∀ n : Int,1 ≤ n → (sizeLM xs n ≤ 2000 → sizeLM xs n = n + cntL xs) ∧ (n + (cntL xs : Int) ≤ 2000 → sizeLM xs n = n + cntL xs) := by
     intro xs
     induction xs with
     | nil => intro _ n _; simp [sizeLM,cntL]
     | cons x xs ihx =>
       intro hx n hn
       have hxd := hx x List.mem_cons_self
       obtain ⟨b1,b2⟩ := size_bound m (by omega) x hxd
       obtain ⟨c1,c2⟩ := ih (by omega) x hxd
       have hc := cnt_pos x
       simp only [sizeLM,cntL]
       by_cases h2 : n ≤ 2000
       · rw [if_pos h2,wrap_id (by omega) (by omega)]
         obtain ⟨d1,d2⟩ := ihx (fun y hy => hx y (List.mem_cons_of_mem _ hy)) (n + sizeM x) (by omega)
         constructor
         · intro hs
           have hy : n + sizeM x ≤ 2000 := by
             apply Classical.byContradiction; intro hno
             rw [sizeLM_big xs (by omega)] at hs
             omega
           have e := c1 (by omega)
           rw [d1 hs,e]
           omega
         · intro hs
           have e := c2 (by omega)
           rw [d2 (by omega),e]
           omega
       · rw [if_neg h2]
         constructor
         · intro hs; omega
         · intro hs; omega
   obtain ⟨d1,d2⟩ := lst v.xs h 1 (by omega)
   have hc : cntM v = 1 + cntL v.xs := by cases v; simp only [cntM,JV.xs]
   rw [sizeM_eq,hc]
   constructor
   · intro hs; rw [d1 hs]; omega
   · intro hs; rw [d2 (by omega)]; omega
theorem goodM_R (v : JV) : goodR v 24 2000 = goodM v := by
 unfold goodR goodM
 cases hd : deepM v 24 with
 | false => simp
 | true =>
   obtain ⟨c1,c2⟩ := size_cnt 24 (Nat.le_refl _) v hd
   have : decide ((cntM v : Int) ≤ 2000) = decide (sizeM v ≤ 2000) := by
     rw [decide_eq_decide]
     constructor
     · intro h; rw [c2 h]; exact h
     · intro h; rw [← c1 h]; exact h
   rw [this]
   cases decide (sizeM v ≤ 2000) <;> cases plainM v <;> rfl
theorem good_cnt {v : JV} (h : goodM v = true) : cntM v ≤ 2000 := by
 rw [← goodM_R] at h
 unfold goodR at h
 simp only [Bool.and_eq_true,decide_eq_true_eq] at h
 have := h.2
 omega
theorem Bld.isb {w : World} {B b : Nat} {l : Str} (h : Bld w B b l) : Lib.IsBuilderF BdT U8 B b (Lib.byteCells l) w := by
 obtain ⟨p,v,h1,h2,h3,h4⟩ := h
 have hO : w.ownsRow B U8 1 v (u8s l).length (u8s l) := by rw [u8s_length]; exact h3
 have : Lib.BuilderAt BdT U8 B b p (u8s l) w := ⟨h4,v,h1,hO,fun e => bd_ne h1 (h3.block b e)⟩
 rcases h2 with rfl | rfl
 · exact .inl (Lib.BuilderAtF.of this)
 · exact .inr (Lib.BuilderAtF.of this)
theorem below_chg {B : Nat} {w w' : World} (h : Below B w w') : Chg (fun k => B ≤ k) w w' := ⟨h.os,h.tape,h.output,h.size,fun k _ hn => h.block k (by omega)⟩
section
variable [HX]
theorem vgood_p {v : JV} {w : World} {cs : List Value} {K : Value → World → Prop} (h : VRep w v cs) (hK : ∀ w',Ext w w' → K (.bool (goodM v)) w') : callF Tryz.prog 54 [.agg cs.toArray] w K := by
 refine W54_ok ?_
 unfold W54
 refine box_val h fun a w1 sv kv hB hx1 ha => ?_
 refine alloc_new fun p w2 hp hz2 hb2 hx2 => ?_
 refine st_at (off := 0) hb2 rfl (by simp) fun w3 hz3 hb3 hc3 => ?_
 have hx3 : Ext w1 w3 := hx2.new hc3 (by omega)
 have hp3 : w3.heap[p]? = some (.cells [i64 2000].toArray 3 (0,0)) := by rw [hb3]; rfl
 refine (hB.ext hx3).ld fun cs2 h2 => ?_
 refine good_p v h2 hp3 (m := 24) (by omega) (by omega) (by omega) fun r w4 hr _ hc4 => ?_
 rw [hr,goodM_R]
 have s1 := hx1.size
 exact hK w4 ((hx1.trans hx3).then hc4 fun k hk e => by omega)
theorem len_p {w : World} {B b : Nat} {l : Str} {K : Value → World → Prop} (h : Bld w B b l) (hK : K (i64 (l.length : Int)) w) : callF Tryz.prog 60 [.pointer (some ⟨b,0,none⟩)] w K := by
 refine of_calls (args := #[.pointer (some ⟨b,0,none⟩)]) Tryz.call60 ((Tryz.Builder_Len_f B b (Lib.byteCells l) w h.isb).mono ?_)
 rintro e w' ⟨rfl,rfl⟩
 refine ⟨_,rfl,?_⟩
 rw [Lib.byteCells_length]
 exact hK
theorem string_p {w : World} {B b : Nat} {l : Str} {K : Value → World → Prop} (h : Bld w B b l) (hB : B ≤ w.heap.size) (hK : ∀ w',Chg (fun k => B ≤ k) w w' → K (str l) w') : callF Tryz.prog 61 [.pointer (some ⟨b,0,none⟩)] w K := by
 refine of_calls (args := #[.pointer (some ⟨b,0,none⟩)]) Tryz.call61 ((Tryz.Builder_String_any_k B b l w h.isb hB).mono ?_)
 rintro e w' ⟨rfl,_,hb,_⟩
 exact ⟨_,rfl,hK w' (below_chg hb)⟩
theorem encode_p {v : JV} {w : World} {cs : List Value} {K : Value → World → Prop} (hT : TabU w) (hF : FmtOk w) (h : VRep w v cs) (hK : ∀ w',Ext w w' → K (.tuple #[str (encM 1 20 31 3 v).1,i64 (encM 1 20 31 3 v).2]) w') :
   callF Tryz.prog 39 [.agg cs.toArray] w K := by
 refine W39_ok ?_
 unfold W39
 unfold encM at hK
 refine box_vali h fun a w1 sv kv ha hI hx1 hage hz1 => ?_
 have ld : ∀ {w2 : World} {KK : Value → Prop},Ext w1 w2 → (∀ cs2,VRep w v cs2 → KK (.agg cs2.toArray)) → ldW true 5 (.pointer (some ⟨a,0,none⟩)) w2 KK := fun hx hk => by
   refine ld_all (hx.at ha id) rfl (hk _ ?_)
   obtain ⟨T,L,i1,i2⟩ := hI.items
   obtain ⟨T2,i3⟩ := hI.keys
   exact VRep.mk i1 i2 i3 hI.fits
 refine ld (Chg.refl _ _) fun cs2 h2 => ?_
 refine vgood_p (h2.ext hx1) fun w2 hx2 => ?_
 rw [un_not,condW_b]
 refine ⟨fun hb => ?_,fun hg => ?_⟩
 · have : goodM v = false := by simpa using hb
   rw [if_pos this] at hK
   exact hK w2 (hx1.trans hx2)
 have hgood : goodM v = true := by simpa using hg
 rw [if_neg (by rw [hgood]; simp)] at hK
 refine ld hx2 fun cs3 h3 => ?_
 refine known_p v (h3.ext (hx1.trans hx2)) fun w3 hx3 => ?_
 rw [un_not,condW_b]
 refine ⟨fun hb => ?_,fun hg => ?_⟩
 · have : knownM v = false := by simpa using hb
   rw [if_pos this] at hK
   exact hK w3 ((hx1.trans hx2).trans hx3)
 have hknown : knownM v = true := by simpa using hg
 rw [if_neg (by rw [hknown]; simp)] at hK
 refine ld (hx2.trans hx3) fun cs4 h4 => ?_
 have hx13 := (hx1.trans hx2).trans hx3
 refine texts_p v hT hx13 (h4.ext hx13) fun w4 hx4 => ?_
 rw [un_not,condW_b]
 refine ⟨fun hb => ?_,fun hg => ?_⟩
 · have : textsM v = false := by simpa using hb
   rw [if_pos this] at hK
   exact hK w4 (hx13.trans hx4)
 have htexts : textsM v = true := by simpa using hg
 rw [if_neg (by rw [htexts]; simp)] at hK
 have hx14 := hx13.trans hx4
 refine bnew (B := w4.heap.size) (Nat.le_refl _) fun b w5 hb hb5 hx5 => ?_
 refine ld ((hx2.trans hx3).trans (hx4.trans hx5)) fun cs5 h5 => ?_
 have hgv := good_v hgood
 have hcnt := good_cnt hgood
 refine write_p v h5 (hx14.trans hx5) hx14.size hx5.size hb5 hgv.plain htexts hknown hgv.few (by rw [List.length_nil]; omega) hF fun w6 hb6 hc6 => ?_
 rw [List.nil_append] at hb6
 have hx6 : Ext w w6 := BCh.new (hx14.trans hx5) hx14.size hb6.base hc6
 refine len_p hb6 ?_
 rw [bin_gtr,condW_dec]
 refine ⟨fun hl => ?_,fun hl => ?_⟩
 · rw [if_pos (by omega)] at hK
   exact hK w6 hx6
 · rw [if_neg (by omega)] at hK
   refine string_p hb6 (by have := hx5.size; have := hc6.size; omega) fun w7 hc7 => ?_
   exact hK w7 (hx6.then hc7 fun k hk e => by have := hx14.size; omega)
end
end Go.Proofs.YtpiaegojabkioaaGreatDoor

namespace Go.Proofs.YtpiaegojabkioaaGreatDoor
open Go Go.Eng Go.RowKit
set_option maxRecDepth 100000
def TabB (w : World) : Prop := w.cell? ⟨7,15,none⟩ = some (.int .u8 4)
def hexDigits : Str := [48,49,50,51,52,53,54,55,56,57,97,98,99,100,101,102,103,104,105,106,107,108,109,110,111,112,113,114,115,116,117,118,119,120,121,122]
theorem hex_at : ∀ n : Fin 16,hexDigits[n.val]? = some (hexD n.val) := by decide +kernel
theorem and15 (n : Nat) (h : n < 1000) : IntKind.u64.wrap (BitVec.ofInt IntKind.u64.bits (n : Int) &&& BitVec.ofInt IntKind.u64.bits 15).toNat = ((n % 16 : Nat) : Int) := by
 have : ∀ x : Fin 1000,IntKind.u64.wrap (BitVec.ofInt IntKind.u64.bits ((x.val : Nat) : Int) &&& BitVec.ofInt IntKind.u64.bits 15).toNat = ((x.val % 16 : Nat) : Int) := by decide +kernel
 exact this ⟨n,h⟩
theorem shr64 (r k : Nat) (hk : k ≤ 64) (K : Value → Prop) : binW .shr (.int .u64 (r : Int)) (.int .u64 (k : Int)) K ↔ K (.int .u64 ((r / 2 ^ k : Nat) : Int)) := by
 have e : (r : Int).fdiv (2 ^ min (k : Int).toNat IntKind.u64.bits) = ((r / 2 ^ k : Nat) : Int) := by
   rw [Int.toNat_natCast,show min k IntKind.u64.bits = k from Nat.min_eq_left hk,Int.fdiv_eq_ediv_of_nonneg _ (by exact Int.le_of_lt (Int.pow_pos (by decide)))]
   rw [Int.natCast_ediv,Int.natCast_pow]; rfl
 rw [bin_shr,e]
 constructor
 · exact fun h => h.2
 · exact fun h => ⟨by omega,h⟩
section
variable [HX]
theorem tz_p {w : World} {K : Value → World → Prop} (hB : TabB w) (hK : K (i64 4) w) : callF Tryz.prog 186 [.int .u64 16] w K := by
 refine W186_ok ?_
 unfold W186
 rw [condW_false]
 refine W188_ok ?_
 unfold W188
 rw [bin_eql,show decide ((16 : Int) = 0) = false from rfl,condW_false,un_neg,bin_and]
 have e1 : IntKind.u64.wrap (BitVec.ofInt IntKind.u64.bits 16 &&& BitVec.ofInt IntKind.u64.bits (IntKind.u64.wrap (0 - 16))).toNat = ((16 : Nat) : Int) := by decide +kernel
 rw [e1,bin_mul]
 have e2 : IntKind.u64.wrap (((16 : Nat) : Int) * 285870213051353865) = ((4573923408821661840 : Nat) : Int) := by decide +kernel
 rw [e2,show (58 : Int) = ((58 : Nat) : Int) from rfl,shr64 _ 58 (by omega),show 4573923408821661840 / 2 ^ 58 = 15 by decide,ixa_arr]
 refine ⟨by omega,by omega,?_⟩
 rw [ld_one]
 refine ⟨.int .u8 4,?_,?_⟩
 · exact hB
 · rw [cvt_int]; exact hK
theorem pow2_p {w : World} {K : Value → World → Prop} (hK : K (.bool true) w) : callF Tryz.prog 185 [i64 16] w K := by
 refine W185_ok ?_
 unfold W185
 rw [bin_sub,bin_and,bin_eql]
 have e : decide (IntKind.i64.wrap (BitVec.ofInt IntKind.i64.bits 16 &&& BitVec.ofInt IntKind.i64.bits (IntKind.i64.wrap (16 - 1))).toNat = 0) = true := by decide +kernel
 rw [e]
 exact hK
theorem u64w {n : Nat} (h : n < 1000000) : IntKind.u64.wrap (n : Int) = (n : Int) := u64_wrap (by omega) (by omega)
theorem fmt_p {r : Nat} {w : World} {K : Value → World → Prop} (hr : r < 32) (hB : TabB w) (hK : ∀ w',Ext w w' → K (str ([49] ++ hexS r)) w') : callF Tryz.prog 130 [i64 ((r + 256 : Nat) : Int),i64 16] w K := by
 refine W130_ok ?_
 unfold W130
 refine W162_ok ?_
 unfold W162
 rw [bin_eql,show decide ((16 : Int) = 10) = false from rfl,condW_false,cvt_int,u64w (by omega),bin_lss,decide_eq_false (by omega)]
 refine W176_ok ?_
 unfold W176
 refine JoinW.cut (fun s' w' => s' = [] ∧ w' = w) ?_ ?_
 · rw [bin_lss,show decide ((16 : Int) < 2) = false from rfl]
   simp only [wsv,wsg,wsh,wsl,cond_true,cond_false,exists_eq_left',wsu,Nat.reduceAdd,Nat.reduceLT,Nat.lt_add_one,Nat.zero_lt_succ,decide_true,decide_false,ne_eq,reduceCtorEq,show decide ((16 : Int) = 10) = false from rfl,show decide ((36 : Int) < 16) = false from rfl]
   intros; trivial
 rintro s' g w1 ⟨rfl,rfl⟩
 refine alloc_new fun A w2 hA hz2 hb2 hx2 => ?_
 refine JoinW.cut (fun s' w' => s' = [.int .u64 ((r + 256 : Nat) : Int)] ∧ w' = w2) ?_ ?_
 · rw [condW_false]; exact ⟨rfl,rfl⟩
 rintro s' g w3 ⟨rfl,rfl⟩
 simp only [List.getD_cons_zero]
 refine JoinW.cut (fun s' w' => s' = [i64 62] ∧ Ext w1 w' ∧ ∃ T,SlAt w' T (.slice (some ⟨A,62,none⟩) 3 3) 3 (u8s ([49] ++ hexS r))) ?_ ?_
 · refine pow2_p ?_
   rw [condW_true,cvt_int,show IntKind.u64.wrap 16 = 16 by decide]
   refine tz_p (cell_ext hx2 hB) ?_
   rw [cvt_int,show IntKind.u64.wrap 4 = ((4 : Nat) : Int) by decide,cvt_int,show IntKind.u64.wrap 16 = 16 by decide,cvt_int,show IntKind.u64.wrap 16 = 16 by decide,bin_sub,show IntKind.u64.wrap (16 - 1) = 15 by decide]
   have hd16 : ∀ n,n < 16 → ((hexD n).toNat : Int) < 256 := fun n _ => by have := UInt8.toNat_lt (hexD n); omega
   refine ⟨fun s' w' => ∃ (k : Nat) (c : Array Value) (T : TypeId),k ≤ 2 ∧ s' = [.int .u64 (((r + 256) / 16 ^ k : Nat) : Int),i64 ((65 - k : Nat) : Int)] ∧ w'.heap[A]? = some (.cells c T (0,0)) ∧ c.size = 65 ∧ (∀ j,j < k → c[64 - j]? = some (u8 (hexD ((r + 256) / 16 ^ j % 16)).toNat)) ∧ Ext w1 w',
     fun s' _ => match s' with | [_,.int _ i] => i.toNat | _ => 0,⟨0,_,_,by omega,by simp,hb2,by simp,fun j h => by omega,hx2⟩,?_⟩
   rintro s' g w4 ⟨k,c,T,hk,rfl,hc,hsz,hcs,hx4⟩
   simp only [List.getD_cons_zero,List.getD_cons_succ]
   have ew : IntKind.i64.wrap (((65 - k : Nat) : Int) - 1) = ((64 - k : Nat) : Int) := by rw [wrap_id (by omega) (by omega)]; omega
   have store : ∀ (n : Nat) (KK : World → Prop),n < 16 → (∀ w',Ext w1 w' → w'.heap[A]? = some (.cells (c.setIfInBounds (64 - k) (u8 (hexD n).toNat)) T (0,0)) → KK w') →
       ixaW (some 65) 1 (.pointer (some ⟨A,0,none⟩)) (i64 ((64 - k : Nat) : Int)) fun t => stW 1 t (u8 (hexD n).toNat) w4 KK := by
     intro n KK hn hkk
     rw [ixa_arr]
     refine ⟨by omega,by omega,?_⟩
     rw [add_mk,Int.toNat_natCast,Nat.zero_add,Nat.mul_one]
     refine st_at hc rfl (by omega) fun w5 hz5 hb5 hc5 => hkk w5 (hx4.then hc5 fun k hk e => by omega) hb5
   have dig : ∀ (n : Nat) (KK : Value → Prop),n < 16 → KK (u8 (hexD n).toNat) → ixsW (.string (ofL hexDigits)) (.int .u64 (n : Int)) KK := by
     intro n KK hn hkk
     rw [ixs_str]
     exact ⟨by omega,hexD n,by rw [Int.toNat_natCast]; exact hex_at ⟨n,hn⟩,hkk⟩
   rw [bin_geq,condW_dec]
   refine ⟨fun hge => ?_,fun hlt => ?_⟩
   · have hk1 : k ≤ 1 := by
       apply Classical.byContradiction; intro hno
       obtain rfl : k = 2 := by omega
       omega
     have hlt1000 : (r + 256) / 16 ^ k < 1000 := by
       have : (r + 256) / 16 ^ k ≤ r + 256 := Nat.div_le_self _ _
       omega
     rw [bin_sub,ew,bin_and,and15 _ hlt1000]
     refine dig _ _ (Nat.mod_lt _ (by omega)) ?_
     refine store _ _ (Nat.mod_lt _ (by omega)) fun w5 hx5 hb5 => ?_
     rw [shr64 _ 4 (by omega)]
     refine ⟨⟨k + 1,_,T,by omega,?_,hb5,by simp [hsz],fun j hj => ?_,hx5⟩,?_⟩
     · have e : (r + 256) / 16 ^ (k + 1) = (r + 256) / 16 ^ k / 2 ^ 4 := by
         rw [show 16 ^ (k + 1) = 16 ^ k * 16 from rfl,← Nat.div_div_eq_div_mul]
       rw [show 65 - (k + 1) = 64 - k by omega,e]
     · rw [Array.getElem?_setIfInBounds]
       by_cases hjk : j = k
       · subst hjk; rw [if_pos rfl,if_pos (by omega)]
       · rw [if_neg (by omega)]; exact hcs j (by omega)
     · show ((64 - k : Nat) : Int).toNat < ((65 - k : Nat) : Int).toNat
       omega
   · have hk2 : k = 2 := by
       apply Classical.byContradiction; intro hno
       have : k = 0 ∨ k = 1 := by omega
       rcases this with rfl | rfl <;> omega
     subst hk2
     rw [bin_sub,ew]
     have h1 : (r + 256) / 16 ^ 2 = 1 := by omega
     rw [h1]
     refine dig 1 _ (by omega) ?_
     refine store 1 _ (by omega) fun w5 hx5 hb5 => ?_
     refine ⟨rfl,hx5,T,⟨some ⟨A,62,none⟩,3,rfl,Nat.le_refl _,fun e => (by cases e),fun _ => ⟨A,62,_,_,rfl,hb5,fun i hi => ?_⟩⟩⟩
     have h0' := hcs 0 (by omega)
     have h1' := hcs 1 (by omega)
     have hi3 : i < 3 := by simpa [u8s_length,hexS] using hi
     rw [u8s_get,Array.getElem?_setIfInBounds]
     obtain rfl | rfl | rfl : i = 0 ∨ i = 1 ∨ i = 2 := by omega
     · rw [if_pos rfl,if_pos (by omega)]; rfl
     · rw [if_neg (by omega),show 62 + 1 = 64 - 1 from rfl,h1',show (r + 256) / 16 ^ 1 % 16 = r / 16 by omega]
       have : hexD (r / 16) = b8 (48 + r / 16) := by unfold hexD; rw [if_pos (by omega)]
       rw [this]; rfl
     · rw [if_neg (by omega),show 62 + 2 = 64 - 0 from rfl,h0',show (r + 256) / 16 ^ 0 % 16 = r % 16 by omega]; rfl
 rintro s' g w4 ⟨rfl,hx4,Ts,hs4⟩
 refine JoinW.cut (fun s' w' => s' = [i64 62] ∧ w' = w4) ?_ ?_
 · rw [condW_false]; exact ⟨rfl,rfl⟩
 rintro s' g w5 ⟨rfl,rfl⟩
 simp only [List.getD_cons_zero]
 rw [condW_false]
 unfold slaW
 dsimp only
 rw [bd_none,bd_none,bd_some]
 refine ⟨by omega,by omega,?_⟩
 have ea : (⟨A,0,none⟩ : Addr).add 62 = ⟨A,62,none⟩ := by rw [add_mk]
 rw [show ((62 : Int).toNat) = 62 from rfl,if_neg (by omega),show 62 * 1 = 62 from rfl,ea,conv_bytes (l := [49] ++ hexS r) (e := U8) (by kernel_rfl) (by kernel_rfl) (by kernel_rfl) hs4]
 rw [ext_tuple]
 refine ⟨_,rfl,?_⟩
 rw [ext_tuple]
 exact ⟨_,rfl,hK _ hx4⟩
theorem fmt_ok {w0 : World} (hB : TabB w0) : FmtOk w0 := fun r hr w K hx hK => fmt_p hr (cell_ext hx hB) hK
end
end Go.Proofs.YtpiaegojabkioaaGreatDoor

namespace Go.Proofs.YtpiaegojabkioaaGreatDoor
open Go Go.Eng Go.RowKit
set_option maxRecDepth 100000
structure Tabs (w : World) : Prop where
 utf : TabU w
 bru : TabB w
 pow : Lib.TabIs Tryz.prog w "internal/strconv.uint64pow10" .u64 Lib.pow10Tab
section
variable [HX]
theorem text_p {s : Str} {w : World} {K : Value → World → Prop} (hs : s.length ≤ 9223372036854775807) (hK : ∀ cs w',Ext w w' → (∀ w'',VRep w'' (.mk 4 false s [] []) cs) → K (.agg cs.toArray) w') : callF Tryz.prog 37 [str s] w K := by
 refine W37_ok ?_
 unfold W37
 refine alloc_new fun b w1 hb hz hbb hx => ?_
 simp only [put_int,put_str,put_nil,List.length_cons,List.length_nil,List.set_cons_zero,List.set_cons_succ]
 refine ⟨by omega,by omega,?_⟩
 refine st_agg_at (l := [i64 4,.bool false,str s,.slice none 0 0,.slice none 0 0]) hbb rfl rfl rfl fun w2 hz2 hb2 hc2 => ?_
 refine ld_all hb2 rfl ?_
 refine hK _ w2 (hx.new hc2 (by omega)) fun w'' => ?_
 exact VRep.mk (v := .mk 4 false s [] []) (T1 := 0) (T2 := 0) (SlAt.nil w'' 0) (by simp [JV.xs,VReps]) (SlAt.nil w'' 0) ⟨by simp [JV.xs],by simp [JV.ks],hs,by simp [JV.ks]⟩
end
end Go.Proofs.YtpiaegojabkioaaGreatDoor

namespace Go.Proofs.YtpiaegojabkioaaGreatDoor
open Go Go.Eng Go.RowKit
set_option maxRecDepth 100000
abbrev DT : TypeId := 83
abbrev RdT : TypeId := 110
abbrev En : ErrNo := ⟨30,3,7,31,2⟩
def Rdr (w : World) (p : Nat) (s : Str) (i c : Nat) : Prop := w.heap[p]? = some (.cells [str s,i64 i,i64 c].toArray RdT (0,0))
def Cr (p : Nat) : Nat → Prop := fun k => k = p
def rdAt (w : World) (p : Nat) : Nat := match w.heap[p]? with | some (.cells c _ _) => (match (c[1]? : Option Value) with | some (Value.int _ i) => i.toNat | _ => 0) | _ => 0
theorem Rdr.at_ {w : World} {p i c : Nat} {s : Str} (h : Rdr w p s i c) : rdAt w p = i := by
 unfold Rdr at h
 unfold rdAt
 rw [h]
 simp
theorem Rdr.lt {w : World} {p i c : Nat} {s : Str} (h : Rdr w p s i c) : p < w.heap.size := at_lt h
theorem Rdr.ext {w w' : World} {p i c : Nat} {s : Str} (h : Rdr w p s i c) (hx : Ext w w') : Rdr w' p s i c := hx.at h id
theorem Rdr.drew {w : World} {p i c : Nat} {s : Str} (h : Rdr w p s i c) : Rdr w.drew p s i c := h
theorem Rdr.ld {w : World} {p i c : Nat} {s : Str} {off : Nat} {v : Value} {K : Value → Prop} (h : Rdr w p s i c) (hv : [str s,i64 i,i64 c][off]? = some v) (hk : K v) : nilW (.pointer (some ⟨p,0,none⟩)) fun t => fldW off t fun t => ldW false 1 t w K := by
 rw [nil_ptr,fld_ptr,ld_one]
 refine ⟨v,?_,hk⟩
 rw [add_mk,cell_eq,h,cellO_some,Nat.zero_add]
 simpa using hv
theorem Rdr.st1 {w : World} {p i c : Nat} {s : Str} {i' : Nat} {K : World → Prop} (h : Rdr w p s i c) (hK : ∀ w',Rdr w' p s i' c → Chg (Cr p) w w' → w'.heap.size = w.heap.size → K w') :
   nilW (.pointer (some ⟨p,0,none⟩)) fun t => fldW 1 t fun t => stW 1 t (i64 (i' : Nat)) w K := by
 rw [nil_ptr,fld_ptr,add_mk,Nat.zero_add]
 refine st_at h rfl (by simp) fun w' hz hb hc => hK w' ?_ hc hz
 unfold Rdr
 rw [hb]; simp
theorem Rdr.st2 {w : World} {p i c : Nat} {s : Str} {c' : Nat} {K : World → Prop} (h : Rdr w p s i c) (hK : ∀ w',Rdr w' p s i c' → Chg (Cr p) w w' → w'.heap.size = w.heap.size → K w') :
   nilW (.pointer (some ⟨p,0,none⟩)) fun t => fldW 2 t fun t => stW 1 t (i64 (c' : Nat)) w K := by
 rw [nil_ptr,fld_ptr,add_mk,Nat.zero_add]
 refine st_at h rfl (by simp) fun w' hz hb hc => hK w' ?_ hc hz
 unfold Rdr
 rw [hb]; simp
theorem upk {i k : Nat} (h : i + k ≤ 9223372036854775807) : IntKind.i64.wrap ((i : Int) + (k : Int)) = ((i + k : Nat) : Int) := by rw [wrap_id (by omega) (by omega)]; omega
theorem Rdr.go {w : World} {p i c : Nat} {s : Str} {k : Nat} {K : World → Prop} (h : Rdr w p s i c) (hi : i + k ≤ 9223372036854775807) (hK : ∀ w',Rdr w' p s (i + k) c → Chg (Cr p) w w' → w'.heap.size = w.heap.size → K w') :
   nilW (.pointer (some ⟨p,0,none⟩)) fun t => fldW 1 t fun t => ldW false 1 t w fun t => binW .add t (.int .i64 (k : Int)) fun t1 => nilW (.pointer (some ⟨p,0,none⟩)) fun t => fldW 1 t fun t => stW 1 t t1 w K := by
 refine h.ld rfl ?_
 rw [bin_add,upk hi]
 exact h.st1 hK
def pkM (s : Str) (i : Nat) : Int := if i < s.length then (bt s i : Int) else 0
theorem get_bt' {s : Str} {i : Nat} (h : i < s.length) : s[i]? = some s[i] ∧ s[i].toNat = bt s i := by
 refine ⟨List.getElem?_eq_getElem h,?_⟩
 unfold bt
 rw [List.getD_eq_getElem?_getD,List.getElem?_eq_getElem h]; rfl
theorem GeW_f (w : World) (A : (Value → World → Prop) → Prop) (B : Value → World → Prop) : GeW false w A B ↔ B undef w := ⟨fun h => h.2 rfl,fun h => ⟨fun e => (by cases e),fun _ => h⟩⟩
section
variable [HX]
def Thr (w : World) (p : Nat) (code : Int) (i : Nat) : Prop :=
 ∀ d w',w.heap.size ≤ d → Chg (Cr p) w w' → w'.heap[d]? = some (.cells [i64 code,str [],i64 i].toArray 132 (0,0)) → HX.X [{ v := .iface DT (.pointer (some ⟨d,0,none⟩)),recovered := false }] w'
theorem Thr.from {w w1 : World} {p : Nat} {code : Int} {i : Nat} (h : Thr w p code i) (hc : Chg (Cr p) w w1) : Thr w1 p code i := fun d w' hd hc' hb => h d w' (Nat.le_trans hc.size hd) (hc.trans hc') hb
theorem fail_p {e : Int} {p i : Nat} {w : World} {K : Value → World → Prop} (h : Thr w p e i) : callF Tryz.prog 64 [i64 e,i64 (i : Nat)] w K := by
 refine W64_ok ?_
 unfold W64
 simp only [put_int,put_str,put_nil,List.length_cons,List.length_nil,List.set_cons_zero,List.set_cons_succ]
 refine ⟨by omega,by omega,?_⟩
 refine box_new (z := [i64 e,str [],i64 (i : Nat)]) fun d w' hd hz hb hx => ?_
 exact h d w' (by omega) (Chg.of_ext hx) hb
theorem peek_p {w : World} {p i c : Nat} {s : Str} {K : Value → World → Prop} (h : Rdr w p s i c) (hi : i ≤ s.length) (hK : ∀ w',Ext w w' → K (.int .u8 (pkM s i)) w') : callF Tryz.prog 91 [.pointer (some ⟨p,0,none⟩)] w K := by
 refine W91_ok ?_
 unfold W91
 have hxd : ∀ w : World,Ext w w.drew := fun w => Chg.drew (Chg.refl (fun _ => False) w)
 refine h.drew.ld rfl ?_
 refine h.drew.ld rfl ?_
 rw [lens_str,bin_lss,condW_dec]
 unfold pkM at hK
 refine ⟨fun hlt => ?_,fun hge => ?_⟩
 · have hlt : i < s.length := by omega
   rw [if_pos hlt] at hK
   refine h.drew.drew.ld rfl ?_
   refine h.drew.drew.ld rfl ?_
   obtain ⟨e1,e2⟩ := get_bt' hlt
   rw [ixs_str]
   refine ⟨by omega,s[i],by simpa using e1,?_⟩
   rw [e2]
   exact hK _ ((hxd _).trans (hxd _))
 · rw [if_neg (by omega)] at hK
   exact hK _ (hxd _)
theorem index_b {s : Str} {c : Nat} {w : World} {K : Value → World → Prop} (hc : c < 256) (hK : K (i64 (Lib.indexByte s (UInt8.ofNat c))) w) : callF Tryz.prog 99 [str s,.int .u8 (c : Nat)] w K := by
 refine of_calls (args := #[str s,.int .u8 (c : Nat)]) Tryz.call99 ((Tryz.strings_IndexByte (ofL s) c w).mono ?_)
 rintro e w' ⟨rfl,rfl⟩
 rw [ofL_data]
 exact ⟨_,rfl,hK⟩
theorem blank_idx (n : Nat) (h : n < 256) : decide (0 ≤ Lib.indexByte [32,9,10,13] (UInt8.ofNat n)) = isBlank (n : Int) := by
 have : ∀ m : Fin 256,decide (0 ≤ Lib.indexByte [32,9,10,13] (UInt8.ofNat m.val)) = isBlank (m.val : Int) := by decide +kernel
 exact this ⟨n,h⟩
theorem blanks_p {w : World} {p i c : Nat} {s : Str} {K : Value → World → Prop} (h : Rdr w p s i c) (hi : i ≤ s.length) (hs : s.length ≤ 1000000) (hK : ∀ w',Rdr w' p s (blankM s i) c → Chg (Cr p) w w' → K (.tuple #[]) w') :
   callF Tryz.prog 66 [.pointer (some ⟨p,0,none⟩)] w K := by
 refine W66_ok ?_
 unfold W66
 refine LoopW.go (fun st w' => st = [] ∧ ∃ j,Rdr w' p s j c ∧ Chg (Cr p) w w' ∧ j ≤ s.length ∧ blankM s j = blankM s i) (fun _ w' => s.length - rdAt w' p) ⟨rfl,i,h,Chg.refl _ _,hi,rfl⟩ ?_
 rintro st g w2 ⟨rfl,j,h2,hc2,hj,hb⟩
 have hxd : Ext w2 w2.drew := Chg.drew (Chg.refl (fun _ => False) w2)
 refine h2.drew.ld rfl ?_
 refine h2.drew.ld rfl ?_
 rw [lens_str,bin_lss]
 rcases Nat.lt_or_ge j s.length with hlt | hge
 · rw [decide_eq_true (by omega : (j : Int) < (s.length : Int))]
   obtain ⟨e1,e2⟩ := get_bt' hlt
   simp only [isB_t,GqW_t]
   refine ⟨_,rfl,.pointer (some ⟨p,0,none⟩),rfl,_,rfl,str s,?_,_,rfl,.pointer (some ⟨p,0,none⟩),rfl,_,rfl,i64 j,?_,.int .u8 (bt s j),?_,?_⟩
   · rw [ld_one]
     exact ⟨_,by rw [add_mk,cell_eq,h2.drew,cellO_some,Nat.zero_add]; rfl,rfl⟩
   · rw [ld_one]
     exact ⟨_,by rw [add_mk,cell_eq,h2.drew,cellO_some,Nat.zero_add]; rfl,rfl⟩
   · rw [ixs_str]
     exact ⟨by omega,s[j],by simpa using e1,by rw [e2]⟩
   refine ⟨fun _ => ?_,fun e => by cases e⟩
   have hlt256 := bt_lt s j
   refine index_b hlt256 ?_
   refine ⟨.bool (decide (0 ≤ Lib.indexByte [32,9,10,13] (UInt8.ofNat (bt s j)))),by rw [bin_geq],?_⟩
   rw [pick_t,blank_idx _ hlt256,← byteM_in hlt,condW_b]
   refine ⟨fun hbl => ?_,fun hnb => ?_⟩
   · refine h2.drew.go (k := 1) (by omega) fun w3 h3 hc3 hz3 => ?_
     refine ⟨⟨trivial,j + 1,h3,(hc2.then hxd fun _ _ e => e.elim).trans hc3,by omega,?_⟩,?_⟩
     · rw [← hb,(blank_go hbl).2]
     · rw [h3.at_,h2.at_]; omega
   · rw [blank_stop hnb] at hb
     subst hb
     exact hK _ h2.drew (hc2.then hxd fun _ _ e => e.elim)
 · rw [decide_eq_false (by omega : ¬ (j : Int) < (s.length : Int))]
   obtain rfl : j = s.length := by omega
   have hbb : blankM s s.length = s.length := blank_stop (by rw [byteM_out (Nat.le_refl _)]; rfl)
   rw [hbb] at hb
   simp only [isB_t,GqW_f,GeW_f]
   rw [pick_f,condW_false]
   rw [← hb] at hK
   exact hK _ h2.drew (hc2.then hxd fun _ _ e => e.elim)
end
end Go.Proofs.YtpiaegojabkioaaGreatDoor
namespace Go.Proofs.YtpiaegojabkioaaGreatDoor
open Go Go.Eng Go.RowKit
set_option maxRecDepth 100000
section
variable [HX]
theorem take_p {w : World} {p i c n : Nat} {s : Str} {K : Value → World → Prop} (h : Rdr w p s i c) (hi : i ≤ s.length) (hs : s.length ≤ 1000000)
   (hy : byteM s i = (n : Int) → ∀ w',Rdr w' p s (i + 1) c → Chg (Cr p) w w' → K (.bool true) w') (hn : byteM s i ≠ (n : Int) → ∀ w',Rdr w' p s i c → Chg (Cr p) w w' → K (.bool false) w') :
   callF Tryz.prog 134 [.pointer (some ⟨p,0,none⟩),.int .u8 (n : Nat)] w K := by
 refine W134_ok ?_
 unfold W134
 have hxd : Ext w w.drew := Chg.drew (Chg.refl (fun _ => False) w)
 refine peek_p h.drew hi fun w1 hx1 => ?_
 have h1 := h.drew.ext hx1
 have hx := hxd.trans hx1
 rw [bin_neq]
 have cell : ∀ (off : Nat) (v : Value),[str s,i64 i,i64 c][off]? = some v → ldW false 1 (.pointer (some ((⟨p,0,none⟩ : Addr).add off))) w1 fun x => x = v := fun off v hv => by
   rw [ld_one]
   exact ⟨_,by rw [add_mk,cell_eq,h1,cellO_some,Nat.zero_add]; simpa using hv,rfl⟩
 by_cases hc : pkM s i = (n : Int)
 · rw [decide_eq_false (by omega)]
   simp only [isB_f,Bool.not_false,GqW_t]
   refine ⟨_,rfl,.pointer (some ⟨p,0,none⟩),rfl,_,rfl,i64 i,cell 1 _ rfl,_,rfl,.pointer (some ⟨p,0,none⟩),rfl,_,rfl,str s,cell 0 _ rfl,_,rfl,.bool (decide ((s.length : Int) ≤ (i : Int))),?_,?_⟩
   · rw [ofL_size,bin_geq]
   rw [pick_f,condW_dec]
   refine ⟨fun hge => ?_,fun hlt => ?_⟩
   · refine hn (fun e => ?_) _ h1 (Chg.of_ext hx)
     rw [byteM_out (by omega)] at e
     omega
   · have hlt : i < s.length := by omega
     refine h1.go (k := 1) (by omega) fun w2 h2 hc2 _ => ?_
     refine hy ?_ _ h2 ((Chg.of_ext hx).trans hc2)
     rw [byteM_in hlt,← hc]
     unfold pkM
     rw [if_pos hlt]
 · rw [decide_eq_true (by omega)]
   simp only [isB_f,Bool.not_true,GqW_f]
   rw [pick_t,condW_true]
   refine hn (fun e => hc ?_) _ h1 (Chg.of_ext hx)
   unfold pkM
   have hlt := byte_lt (s := s) (i := i) (by omega)
   rw [if_pos hlt,← byteM_in hlt,e]
theorem want_p {w : World} {p i c n : Nat} {s : Str} {K : Value → World → Prop} (h : Rdr w p s i c) (hi : i ≤ s.length) (hs : s.length ≤ 1000000)
   (hy : byteM s (blankM s i) = (n : Int) → ∀ w',Rdr w' p s (blankM s i + 1) c → Chg (Cr p) w w' → K (.tuple #[]) w') (hn : byteM s (blankM s i) ≠ (n : Int) → Thr w p 30 (blankM s i)) :
   callF Tryz.prog 138 [.pointer (some ⟨p,0,none⟩),.int .u8 (n : Nat)] w K := by
 refine W138_ok ?_
 unfold W138
 refine blanks_p h hi hs fun w1 h1 hc1 => ?_
 refine take_p h1 (blank_le hi) hs (fun e w2 h2 hc2 => ?_) (fun e w2 h2 hc2 => ?_)
 · rw [un_not,Bool.not_true,condW_false]
   exact hy e _ h2 (hc1.trans hc2)
 · rw [un_not,Bool.not_false,condW_true]
   refine h2.ld rfl ?_
   exact fail_p ((hn e).from (hc1.trans hc2))
theorem pk_dig (s : Str) (i : Nat) : (decide ((48 : Int) ≤ pkM s i) && decide (pkM s i ≤ 57)) = isDig (byteM s i) := by
 unfold pkM isDig
 by_cases hlt : i < s.length
 · rw [if_pos hlt,byteM_in hlt]
 · rw [if_neg hlt,byteM_out (by omega)]; rfl
theorem digits_p {w : World} {p i c : Nat} {s : Str} {K : Value → World → Prop} (h : Rdr w p s i c) (hi : i ≤ s.length) (hs : s.length ≤ 1000000) (hK : ∀ w',Rdr w' p s (digM s i) c → Chg (Cr p) w w' → K (.tuple #[]) w') :
   callF Tryz.prog 135 [.pointer (some ⟨p,0,none⟩)] w K := by
 refine W135_ok ?_
 unfold W135
 refine LoopW.go (fun st w' => st = [] ∧ ∃ j,Rdr w' p s j c ∧ Chg (Cr p) w w' ∧ j ≤ s.length ∧ digM s j = digM s i) (fun _ w' => s.length - rdAt w' p) ⟨rfl,i,h,Chg.refl _ _,hi,rfl⟩ ?_
 rintro st g w2 ⟨rfl,j,h2,hc2,hj,hb⟩
 refine peek_p h2 hj fun w3 hx3 => ?_
 have h3 := h2.ext hx3
 rw [bin_geq]
 refine GdW.act (decide (pkM s j ≤ 57)) (fun w' => Ext w3 w') (fun _ => Chg.refl _ _) ?_ ?_
 · intro _ J hJ
   refine peek_p h3 hj fun w4 hx4 => ?_
   rw [bin_leq]
   exact hJ w4 hx4
 intro g2 w4 hx4
 have h4 := h3.ext hx4
 have hc4 := (hc2.then hx3 fun _ _ e => e.elim).then hx4 fun _ _ e => e.elim
 simp only [List.getD_cons_zero,isB_t]
 rw [pick_gd_and,pk_dig,condW_b]
 refine ⟨fun hd => ?_,fun hn => ?_⟩
 · have hg := dig_go' hd
   refine h4.go (k := 1) (by omega) fun w5 h5 hc5 _ => ?_
   refine ⟨⟨trivial,j + 1,h5,hc4.trans hc5,by omega,by rw [← hb,hg.2]⟩,?_⟩
   rw [h5.at_,h2.at_]; omega
 · rw [dig_stop hn] at hb
   subst hb
   exact hK _ h4 hc4
theorem leaf_rep {G : Nat → Prop} {k : Int} {b : Bool} {t : Str} {w : World} (ht : t.length ≤ 9223372036854775807) : VRepP G w (.mk k b t [] []) [i64 k,.bool b,str t,.slice none 0 0,.slice none 0 0] :=
 VRepP.mk (v := .mk k b t [] []) (T1 := 0) (T2 := 0) (L := []) (SlAt.nil w 0) (by simp [JV.xs,VRepsP]) (SlAt.nil w 0) ⟨by simp [JV.xs],by simp [JV.ks],by simpa [JV.t] using ht,by simp [JV.ks]⟩ (fun h => absurd rfl h) (fun h => absurd rfl h)
theorem ret_leaf {b : Nat} {w : World} {l cs : List Value} {K : Value → World → Prop} (hb : w.heap[b]? = some (.cells cs.toArray VT (0,0))) (hc : cs.length = 5) (hl : l.length = 5) (h1 : l.all one1 = true) (hK : ∀ w',Chg (Cr b) w w' → K (.agg l.toArray) w') :
   stW 5 (.pointer (some ⟨b,0,none⟩)) (.agg l.toArray) w fun w5 => ldW true 5 (.pointer (some ⟨b,0,none⟩)) w5 fun r6 => K r6 w5 := ret_agg hb hl hc h1 hK
theorem Chg.newr {w w1 w2 w3 : World} {p b : Nat} (h1 : Ext w w1) (h2 : Chg (Cr p) w1 w2) (h3 : Chg (Cr b) w2 w3) (hb : w.heap.size ≤ b) : Chg (Cr p) w w3 := by
 have h12 : Chg (Cr p) w w2 := (Chg.of_ext h1).trans h2
 refine h12.then h3 fun k hk e => ?_
 have e : k = b := e
 omega
theorem pk_stop {s : Str} {i : Nat} : (((decide ((48 : Int) ≤ pkM s i) && decide (pkM s i ≤ 57)) || decide (pkM s i = 46)) || decide (pkM s i = 101) || decide (pkM s i = 69)) = (isDig (byteM s i) || decide (byteM s i = 46) || decide (byteM s i = 101) || decide (byteM s i = 69)) := by
 rw [pk_dig]
 unfold pkM
 by_cases hlt : i < s.length
 · rw [if_pos hlt,byteM_in hlt]
 · rw [if_neg hlt,byteM_out (by omega)]; rfl
theorem number_p {w : World} {p i c : Nat} {s : Str} {K : Value → World → Prop} (h : Rdr w p s i c) (hi : i ≤ s.length) (hs : s.length ≤ 1000000)
   (hok : ∀ v j c',numM En s i c = .ok v j c' → ∀ cs w',Rdr w' p s j c' → Chg (Cr p) w w' → VRepP (From w.heap.size) w' v cs → K (.agg cs.toArray) w') (hbad : ∀ e j,numM En s i c = .bad e j → Thr w p e j) :
   callF Tryz.prog 95 [.pointer (some ⟨p,0,none⟩)] w K := by
 refine W95_ok ?_
 unfold W95
 refine alloc_new fun b w1 hb hz1 hbb hx1 => ?_
 have h1 := h.ext hx1
 have hpb : p ≠ b := by have := h.lt; omega
 unfold numM at hok hbad
 simp only at hok hbad
 refine h1.ld rfl ?_
 -- the sign
 have sign : ∀ (K2 : Value → World → Prop),(∀ v w2 first,first = (if byteM s i = 45 then i + 1 else i) → first ≤ s.length → Rdr w2 p s first c → Chg (Cr p) w1 w2 → K2 v w2) →
     callF Tryz.prog 134 [.pointer (some ⟨p,0,none⟩),.int .u8 45] w1 K2 := fun K2 hK2 => by
   refine take_p (n := 45) h1 hi hs (fun e w2 h2 hc2 => have e : byteM s i = 45 := e; hK2 _ w2 (i + 1) (by rw [if_pos e]) (by have := byte_lt (s := s) (i := i) (by omega); omega) h2 hc2) (fun e w2 h2 hc2 => have e : byteM s i ≠ 45 := e; hK2 _ w2 i (by rw [if_neg e]) hi h2 hc2)
 refine sign _ fun _ w2 first hf hfl h2 hc2 => ?_
 rw [← hf] at hok hbad
 refine h2.ld rfl ?_
 refine JoinW.cut (fun st w' => st = [] ∧ ∃ stop,stop = (if byteM s first = 48 then first + 1 else digM s first) ∧ stop ≤ s.length ∧ Rdr w' p s stop c ∧ Chg (Cr p) w1 w') ?_ ?_
 · refine take_p (n := 48) h2 hfl hs (fun e w3 h3 hc3 => ?_) (fun e w3 h3 hc3 => ?_)
   · have e : byteM s first = 48 := e
     rw [un_not,Bool.not_true,condW_false]
     exact ⟨rfl,first + 1,by rw [if_pos e],by have := byte_lt (s := s) (i := first) (by omega); omega,h3,hc2.trans hc3⟩
   · have e : byteM s first ≠ 48 := e
     rw [un_not,Bool.not_false,condW_true]
     refine digits_p h3 hfl hs fun w4 h4 hc4 => ?_
     exact ⟨rfl,digM s first,by rw [if_neg e],digM_le hfl,h4,(hc2.trans hc3).trans hc4⟩
 rintro st g w3 ⟨rfl,stop,hst,hsl,h3,hc3⟩
 rw [← hst] at hok hbad
 have hth : ∀ {w' : World} {e : Int} {j : Nat},Chg (Cr p) w1 w' → Thr w p e j → Thr w' p e j := fun hc ht => ht.from ((Chg.of_ext hx1).trans hc)
 refine JoinW.cut (fun st w' => st = [] ∧ w' = w3 ∧ stop ≠ first) ?_ ?_
 · refine h3.ld rfl ?_
   rw [bin_eql,condW_dec]
   refine ⟨fun e => ?_,fun e => ⟨rfl,rfl,by omega⟩⟩
   have e : stop = first := by omega
   rw [if_pos e] at hbad
   refine h3.ld rfl ?_
   exact fail_p (hth hc3 (hbad _ _ rfl))
 rintro st g w4 ⟨rfl,rfl,hne⟩
 rw [if_neg hne] at hok hbad
 have hge : first ≤ stop := by rw [hst]; split; omega; exact digM_ge _ _
 refine JoinW.cut (fun st w' => st = [] ∧ w' = w4 ∧ ¬ 100 < stop - first) ?_ ?_
 · refine h3.ld rfl ?_
   rw [bin_sub,bin_gtr,wrap_id (by omega) (by omega),condW_dec]
   refine ⟨fun e => ?_,fun e => ⟨rfl,rfl,by omega⟩⟩
   rw [if_pos (by omega)] at hbad
   exact fail_p (hth hc3 (hbad _ _ rfl))
 rintro st g w5 ⟨rfl,rfl,hfew⟩
 rw [if_neg hfew] at hok hbad
 refine JoinW.cut (fun st w' => st = [] ∧ Ext w5 w' ∧ (isDig (byteM s stop) || decide (byteM s stop = 46) || decide (byteM s stop = 101) || decide (byteM s stop = 69)) = false) ?_ ?_
 · refine peek_p h3 hsl fun w6 hx6 => ?_
   have h6 := h3.ext hx6
   rw [bin_geq]
   simp only [bin_leq,bin_eql,isB_t,isB_f,GdW_pure,List.getD_cons_zero,pick_gd_and,pick_gd_or]
   intros
   rw [pk_stop,condW_b]
   refine ⟨fun e => ?_,fun e => ⟨trivial,hx6,e⟩⟩
   rw [if_pos e] at hbad
   refine h6.ld rfl ?_
   exact fail_p (hth (hc3.then hx6 fun _ _ e => e.elim) (hbad _ _ rfl))
 rintro st g w6 ⟨rfl,hx6,hstop⟩
 rw [if_neg (by rw [hstop]; simp)] at hok
 have h6 := h3.ext hx6
 have hc6 := hc3.then hx6 fun _ _ e => e.elim
 obtain ⟨hg,_,hlt⟩ := num_good hf hst hne hfew
 refine h6.drew.ld rfl ?_
 refine h6.drew.ld rfl ?_
 rw [sls_str,bd_some]
 refine ⟨by omega,by omega,?_⟩
 rw [bd_some]
 refine ⟨by omega,by omega,?_⟩
 simp only [ofL_data,Int.toNat_natCast]
 have et : (s.take stop).drop i = (s.drop i).take (stop - i) := by rw [List.drop_take]
 rw [et]
 have htl : ((s.drop i).take (stop - i)).length ≤ 9223372036854775807 := by rw [List.length_take]; omega
 generalize (s.drop i).take (stop - i) = t at *
 have hxd : Ext w6 w6.drew := Chg.drew (Chg.refl (fun _ => False) w6)
 refine JoinW.cut (fun st w' => Ext w6 w' ∧ st = [str (if t = [45,48] then [48] else t)]) ?_ ?_
 · refine numgood_ref htl fun w7 hx7 => ?_
   rw [hg,un_not,condW_b]
   refine ⟨fun e => ?_,fun e => ?_⟩
   · refine ⟨hxd.trans hx7,?_⟩
     rw [if_pos (by simpa using e)]
   · refine ⟨hxd.trans hx7,?_⟩
     rw [if_neg (by simpa using e)]
 rintro st g w7 ⟨hx7,rfl⟩
 have h7 := h6.ext hx7
 have hc7 := hc6.then hx7 fun _ _ e => e.elim
 simp only [List.getD_cons_zero]
 have hul : (if t = [45,48] then ([48] : Str) else t).length ≤ 9223372036854775807 := by split <;> simp [htl]
 generalize (if t = [45,48] then ([48] : Str) else t) = u at *
 simp only [put_int,put_str,put_nil,List.length_cons,List.length_nil,List.set_cons_zero,List.set_cons_succ]
 refine ⟨by omega,by omega,?_⟩
 refine ret_leaf (l := [i64 3,.bool false,str u,.slice none 0 0,.slice none 0 0]) (hc7.at hbb (fun e => hpb e.symm)) rfl rfl rfl fun w8 hc8 => ?_
 exact hok _ _ _ rfl _ w8 (hc8.at h7 hpb) (Chg.newr hx1 hc7 hc8 (by omega)) (leaf_rep hul)
end
end Go.Proofs.YtpiaegojabkioaaGreatDoor

namespace Go.Proofs.YtpiaegojabkioaaGreatDoor
open Go Go.Eng Go.RowKit
set_option maxRecDepth 100000
def badL : Str := [43,45,95]
def badB (c : UInt8) : Bool := decide (c = 43) || decide (c = 45) || decide (c = 95)
theorem get!_ofL (l : Str) (i : Nat) : (ofL l).get! i = l.getD i 0 := by
 simp only [ofL,ByteArray.get!,List.getD_eq_getElem?_getD]
 show (l.toArray)[i]! = _
 simp only [List.getElem!_toArray,List.getElem!_eq_getElem?_getD]
 rfl
theorem dec_facts (l : Str) (pos : Nat) (hp : pos < l.length) :
   ((l.getD pos 0).toNat < 128 → Utf8.decode (ofL l) pos = ((l.getD pos 0).toNat,1)) ∧
   (128 ≤ (l.getD pos 0).toNat → 128 ≤ (Utf8.decode (ofL l) pos).1 ∧ ((Utf8.decode (ofL l) pos).1 < 55296 ∨ (57344 ≤ (Utf8.decode (ofL l) pos).1 ∧ (Utf8.decode (ofL l) pos).1 ≤ 1114111)) ∧ 1 ≤ (Utf8.decode (ofL l) pos).2 ∧
     pos + (Utf8.decode (ofL l) pos).2 ≤ l.length ∧ ∀ k,pos ≤ k → k < pos + (Utf8.decode (ofL l) pos).2 → 128 ≤ (l.getD k 0).toNat) := by
 have hd := Lib.decode_at (ofL l) pos
 rw [ofL_size] at hd
 simp only [get!_ofL] at hd
 have hb : ∀ i,(l.getD i 0).toNat < 256 := fun i => UInt8.toNat_lt _
 have h0 := hb pos
 have h1 := hb (pos + 1)
 have h2 := hb (pos + 2)
 have h3 := hb (pos + 3)
 have hs := Lib.decodeN_shape (l.length - pos) (l.getD pos 0).toNat (l.getD (pos + 1) 0).toNat (l.getD (pos + 2) 0).toNat (l.getD (pos + 3) 0).toNat
 rw [← hd] at hs
 have hasc : (l.getD pos 0).toNat < 128 → Utf8.decode (ofL l) pos = ((l.getD pos 0).toNat,1) := fun h => by rw [hd]; unfold Lib.decodeN; rw [if_pos h]
 refine ⟨hasc,?_⟩
 clear hasc
 generalize Utf8.decode (ofL l) pos = d at *
 obtain ⟨c,wd⟩ := d
 clear hd hb
 have one : ∀ k,pos ≤ k → k < pos + 1 → k = pos := fun k h1 h2 => by omega
 have two : ∀ k,pos ≤ k → k < pos + 2 → k = pos ∨ k = pos + 1 := fun k h1 h2 => by omega
 have three : ∀ k,pos ≤ k → k < pos + 3 → k = pos ∨ k = pos + 1 ∨ k = pos + 2 := fun k h1 h2 => by omega
 have four : ∀ k,pos ≤ k → k < pos + 4 → k = pos ∨ k = pos + 1 ∨ k = pos + 2 ∨ k = pos + 3 := fun k h1 h2 => by omega
 rcases hs with ⟨ha,he⟩ | ⟨ha,hn,q1,q2,he⟩ | ⟨ha,hn,q1,q2,q3,q4,he⟩ | ⟨ha,hn,q1,q2,q3,q4,q5,he⟩ | he <;> simp only [Prod.mk.injEq] at he <;> obtain ⟨rfl,rfl⟩ := he
 · exact fun h => by omega
 · refine fun h => ⟨q2,.inl (by omega),by omega,by omega,fun k hk1 hk2 => ?_⟩
   rcases two k hk1 hk2 with rfl | rfl <;> omega
 · refine fun h => ⟨by omega,by omega,by omega,by omega,fun k hk1 hk2 => ?_⟩
   rcases three k hk1 hk2 with rfl | rfl | rfl <;> omega
 · refine fun h => ⟨by omega,by omega,by omega,by omega,fun k hk1 hk2 => ?_⟩
   rcases four k hk1 hk2 with rfl | rfl | rfl | rfl <;> omega
 · refine fun h => ⟨by omega,by omega,by omega,by omega,fun k hk1 hk2 => ?_⟩
   rw [one k hk1 hk2]; exact h
section
variable [HX]
theorem enc_facts {c : Int} (h0 : 128 ≤ c) (hv : c < 55296 ∨ (57344 ≤ c ∧ c ≤ 1114111)) : ∃ l : Str,Utf8.encode c = ofL l ∧ 2 ≤ l.length ∧ l.length ≤ 4 ∧ ∃ b,l[l.length - 1]? = some b ∧ 128 ≤ b.toNat := by
 obtain ⟨n,rfl⟩ := Int.eq_ofNat_of_zero_le (show 0 ≤ c by omega)
 have hval : Utf8.valid (n : Int) = true := by
   simp only [Utf8.valid,Bool.or_eq_true,Bool.and_eq_true,decide_eq_true_eq]
   omega
 have last : ∀ m : Nat,128 ≤ (UInt8.ofNat (0x80 + m % 64)).toNat := by
   intro m
   rw [UInt8.toNat_ofNat']
   omega
 unfold Utf8.encode
 simp only [hval,if_true,Int.toNat_natCast]
 rw [if_neg (by omega)]
 split
 · exact ⟨[_,_],rfl,by simp,by simp,_,rfl,last _⟩
 · split
   · exact ⟨[_,_,_],rfl,by simp,by simp,_,rfl,last _⟩
   · exact ⟨[_,_,_,_],rfl,by simp,by simp,_,rfl,last _⟩
theorem cvs_int {k : IntKind} {c : Int} {K : Value → Prop} : cvsW (.int k c) K ↔ K (.string (Utf8.encode c)) := Iff.rfl
theorem idx_none (l : Str) (b : UInt8) (h : ∀ x ∈ l,x.toNat < 128) (hb : 128 ≤ b.toNat) : Lib.indexByte l b = -1 := by
 induction l with
 | nil => rfl
 | cons x l ih =>
   have hx := h x List.mem_cons_self
   have ih := ih fun y hy => h y (List.mem_cons_of_mem _ hy)
   have hne : (x == b) = false := by
     rw [beq_eq_false_iff_ne]
     intro e
     subst e
     omega
   simp [Lib.indexByte,hne,ih]
theorem idx_bad (n : Nat) (hn : n < 128) : 0 ≤ Lib.indexByte badL (UInt8.ofNat n) → n = 43 ∨ n = 45 ∨ n = 95 := by
 have : ∀ m : Fin 128,(0 ≤ Lib.indexByte badL (UInt8.ofNat m.val) → m.val = 43 ∨ m.val = 45 ∨ m.val = 95) := by decide +kernel
 exact this ⟨n,hn⟩
theorem wrap_u8 {n : Nat} (h : n < 256) : IntKind.u8.wrap (n : Int) = (n : Int) := by
 have e1 : (2 : Int) ^ 8 = 256 := by decide
 simp only [IntKind.wrap,IntKind.bits,IntKind.signed,Bool.false_and,e1]
 simp
 omega
theorem valid_rune {n : Nat} {w : World} {K : Value → World → Prop} (hv : n < 55296 ∨ 57344 ≤ n ∧ n ≤ 1114111) (hK : K (.bool true) w) : callF Tryz.prog 153 [.int .i32 (n : Nat)] w K := by
 refine W153_ok ?_
 unfold W153
 rw [bin_leq,decide_eq_true (by omega)]
 simp only [isB_t,bin_lss,GdW_pure,cond_true,List.getD_cons_zero,pick_t]
 intro _
 rw [condW_dec]
 refine ⟨fun _ => hK,fun hn => ?_⟩
 rw [decide_eq_true (by omega)]
 simp only [isB_t,bin_leq,GdW_pure,cond_true,List.getD_cons_zero,pick_t]
 intro _
 rw [decide_eq_true (by omega),condW_true]
 exact hK
theorem index_rune {n : Nat} {w : World} {K : Value → World → Prop} (hv : n < 55296 ∨ 57344 ≤ n ∧ n ≤ 1114111)
   (hK : ∀ r : Int,∀ w',(0 ≤ r → n = 43 ∨ n = 45 ∨ n = 95) → Ext w w' → K (i64 r) w') : callF Tryz.prog 114 [str badL,.int .i32 (n : Nat)] w K := by
 refine W114_ok ?_
 unfold W114
 rw [bin_leq,decide_eq_true (by omega)]
 simp only [isB_t,bin_lss,GdW_pure,cond_true,List.getD_cons_zero,pick_t]
 intro _
 rw [condW_dec]
 refine ⟨fun hasc => ?_,fun hasc => ?_⟩
 · rw [cvt_int,wrap_u8 (by omega)]
   exact index_b (by omega) (hK _ _ (idx_bad n (by omega)) (Chg.refl _ _))
 rw [bin_eql,condW_dec]
 refine ⟨fun hF => ?_,fun hF => ?_⟩
 · refine range_str ?_
   refine LoopW.go (fun st w' => st = [] ∧ ∃ pos,w'.heap[w.heap.size]? = some (.stringIter (ofL badL) pos) ∧ pos ≤ 3 ∧ Ext w w') (fun _ w' => match w'.heap[w.heap.size]? with | some (.stringIter _ pos) => 3 - pos | _ => 0) ?_ ?_
   · exact ⟨rfl,0,heap_anew _ _ _ rfl,by omega,Chg.alloc (Chg.refl _ _) _⟩
   · rintro s g w' ⟨rfl,pos,hw,hp,hx⟩
     refine next_str hw (fun hle => ?_) (fun hlt w1 hw1 hc _ => ?_)
     · rw [ext_tuple]
       refine ⟨_,rfl,?_⟩
       rw [condW_false]
       exact hK (-1) _ (by omega) hx
     · have hlt' : pos < 3 := hlt
       have hd : Utf8.decode (ofL badL) pos = ((badL.getD pos 0).toNat,1) ∧ (badL.getD pos 0).toNat < 128 := by
         have : (badL.getD pos 0).toNat < 128 := by
           rcases (show pos = 0 ∨ pos = 1 ∨ pos = 2 by omega) with rfl | rfl | rfl <;> decide
         exact ⟨(dec_facts badL pos hlt).1 this,this⟩
       have hne : ¬ (((Utf8.decode (ofL badL) pos).1 : Nat) : Int) = 65533 := by rw [hd.1]; have := hd.2; simp only; omega
       simp only [ext_tuple]
       refine ⟨_,rfl,?_⟩
       rw [condW_true]
       refine ⟨_,rfl,_,rfl,?_⟩
       rw [bin_eql,decide_eq_false hne,condW_false]
       have hx1 : Ext w w1 := Chg.then hx hc fun k hk e => by omega
       rw [hd.1] at hw1
       refine ⟨⟨trivial,_,hw1,by simp only; omega,hx1⟩,?_⟩
       rw [hw1,hw]
       simp only
       omega
 · refine valid_rune hv ?_
   rw [un_not,Bool.not_true,condW_false]
   obtain ⟨l,hl,hl2,hl4,b,hb,hb128⟩ := enc_facts (c := (n : Int)) (by omega) (by omega)
   rw [cvs_int,hl,lens_str,bin_sub,wrap_id (by omega) (by omega)]
   refine LoopW.go (fun s w'' => s = [i64 ((l.length : Int) - 1)] ∧ w'' = w) (fun _ _ => 0) ⟨rfl,rfl⟩ ?_
   rintro s g w'' ⟨rfl,rfl⟩
   simp only [List.getD_cons_zero]
   rw [lens_str,bin_lss,condW_dec]
   have e3 : badL.length = 3 := rfl
   refine ⟨fun h3 => ?_,fun _ => hK (-1) _ (by omega) (Chg.refl _ _)⟩
   rw [e3] at h3
   refine JoinW.cut (fun _ _ => False) ?_ (fun _ _ _ h => h.elim)
   have hi : ((l.length : Int) - 1).toNat = l.length - 1 := by omega
   have hbyte : ∀ x : UInt8,x.toNat < 128 → ((x.toNat : Int) ≠ (b.toNat : Int)) := fun x hx e => by omega
   have hd : ∀ k,Lib.indexByte (badL.drop k) b = -1 := fun k => idx_none _ b (fun x hx => by
     have hx := List.mem_of_mem_drop hx
     simp only [badL,List.mem_cons,List.not_mem_nil,or_false] at hx
     rcases hx with rfl | rfl | rfl <;> decide) hb128
   obtain ⟨x,hx,hx128⟩ : ∃ x,badL[l.length - 1]? = some x ∧ x.toNat < 128 := by
     rcases (show l.length = 2 ∨ l.length = 3 by omega) with h2 | h2 <;> rw [h2]
     · exact ⟨45,rfl,by decide⟩
     · exact ⟨95,rfl,by decide⟩
   rw [ixs_str]
   refine ⟨by omega,x,by rw [hi]; exact hx,?_⟩
   rw [ixs_str]
   refine ⟨by omega,b,by rw [hi]; exact hb,?_⟩
   rw [bin_neq,decide_eq_true (hbyte x hx128),condW_true,bin_add,wrap_id (by omega) (by omega),sls_str,bd_none,bd_some]
   refine ⟨by omega,by rw [e3]; omega,?_⟩
   rw [ixs_str]
   refine ⟨by omega,b,by rw [hi]; exact hb,?_⟩
   refine index_b (UInt8.toNat_lt b) ?_
   rw [List.take_length,UInt8.ofNat_toNat,hd,bin_lss,decide_eq_true (by decide),condW_true]
   have hxd : ∀ w : World,Ext w w.drew := fun w => Chg.drew (Chg.refl (fun _ => False) w)
   exact hK (-1) _ (by omega) ((hxd _).trans (hxd _))
theorem contains_any {l : Str} {w : World} {K : Value → World → Prop} (hl : l.length ≤ 8) (hK : ∀ r w',(r = true → ∃ c ∈ l,badB c = true) → Ext w w' → K (.bool r) w') : callF Tryz.prog 52 [str l,str badL] w K := by
 refine W52_ok ?_
 unfold W52
 have fin : ∀ (r : Int) (w' : World),(0 ≤ r → ∃ c ∈ l,badB c = true) → Ext w w' → binW .geq (i64 r) (.int .i64 0) fun t8 => K t8 w' := fun r w' h hx => by
   rw [bin_geq]
   exact hK _ w' (fun e => h (of_decide_eq_true e)) hx
 refine W73_ok ?_
 unfold W73
 have e0 : decide (badL = []) = false := by decide
 have e3 : ((badL.length : Nat) : Int) = 3 := rfl
 rw [bin_seq,e0,condW_false,lens_str,bin_eql,e3,decide_eq_false (by decide),condW_false]
 refine JoinW.cut (fun _ w' => w' = w) ?_ ?_
 · rw [lens_str]
   refine W115_ok ?_
   unfold W115
   rw [bin_gtr,decide_eq_false (by omega)]
   dsimp only
   rw [condW_false]
 rintro _ g w' rfl
 refine range_str ?_
 refine LoopW.go (fun st w1 => st = [] ∧ ∃ pos,w1.heap[w'.heap.size]? = some (.stringIter (ofL l) pos) ∧ pos ≤ l.length ∧ Ext w' w1)
   (fun _ w1 => match w1.heap[w'.heap.size]? with | some (.stringIter _ pos) => l.length - pos | _ => 0) ?_ ?_
 · exact ⟨rfl,0,heap_anew _ _ _ rfl,by omega,Chg.alloc (Chg.refl _ _) _⟩
 rintro st g w1 ⟨rfl,pos,hw,hp,hx⟩
 refine next_str hw (fun hle => ?_) (fun hlt w2 hw2 hc _ => ?_)
 · rw [ext_tuple]
   refine ⟨_,rfl,?_⟩
   rw [condW_false]
   exact fin (-1) _ (by omega) hx
 have hx2 : Ext w' w2 := Chg.then hx hc fun k hk e => by omega
 obtain ⟨f1,f2⟩ := dec_facts l pos hlt
 have hget : l[pos]? = some (l.getD pos 0) := by simp [hlt]
 simp only [ext_tuple]
 refine ⟨_,rfl,?_⟩
 rw [condW_true]
 refine ⟨_,rfl,_,rfl,?_⟩
 have hcv : (Utf8.decode (ofL l) pos).1 < 55296 ∨ 57344 ≤ (Utf8.decode (ofL l) pos).1 ∧ (Utf8.decode (ofL l) pos).1 ≤ 1114111 := by
   by_cases h : (l.getD pos 0).toNat < 128
   · rw [f1 h]; simp only; omega
   · exact (f2 (by omega)).2.1
 have hstep : pos + (Utf8.decode (ofL l) pos).2 ≤ l.length ∧ 1 ≤ (Utf8.decode (ofL l) pos).2 := by
   by_cases h1 : (l.getD pos 0).toNat < 128
   · rw [f1 h1]; simp only; omega
   · exact ⟨(f2 (by omega)).2.2.2.1,(f2 (by omega)).2.2.1⟩
 refine index_rune hcv fun r w3 hr hx3 => ?_
 have hx4 : Ext w' w3 := hx2.trans hx3
 rw [bin_geq,condW_dec]
 refine ⟨fun h0 => ?_,fun h0 => ?_⟩
 · refine fin pos _ (fun _ => ⟨_,List.mem_of_getElem? hget,?_⟩) hx4
   have h := hr h0
   by_cases h1 : (l.getD pos 0).toNat < 128
   · rw [f1 h1] at h
     simp only at h
     generalize l.getD pos 0 = x at *
     have : ∀ y : UInt8,x.toNat = y.toNat → x = y := fun y e => UInt8.toNat_inj.1 e
     rcases h with h | h | h
     · rw [this 43 h]; rfl
     · rw [this 45 h]; rfl
     · rw [this 95 h]; rfl
   · have := (f2 (by omega)).1; omega
 · have hw3 : w3.heap[w'.heap.size]? = some (.stringIter (ofL l) (pos + (Utf8.decode (ofL l) pos).2)) := hx3.at hw2 id
   refine ⟨⟨trivial,_,hw3,hstep.1,hx4⟩,?_⟩
   rw [hw3,hw]
   simp only
   omega
end
end Go.Proofs.YtpiaegojabkioaaGreatDoor
namespace Go.Proofs.YtpiaegojabkioaaGreatDoor
open Go Go.Eng Go.RowKit
set_option maxRecDepth 100000
def isHex (c : UInt8) : Bool := decide (0 ≤ hexV c.toNat)
def hexD1 (c : UInt8) : Nat := (hexV c.toNat).toNat
def hexN (l : Str) : Nat := l.foldl (fun n c => n * 16 + hexD1 c) 0
theorem hexN_snoc (l : Str) (c : UInt8) : hexN (l ++ [c]) = hexN l * 16 + hexD1 c := by unfold hexN; rw [List.foldl_append]; rfl
theorem hexD1_le (c : UInt8) : hexD1 c ≤ 15 := by
 unfold hexD1
 have := hexV_le c.toNat
 omega
theorem hexN_go (l : Str) : ∀ n : Nat,l.foldl (fun n c => n * 16 + hexD1 c) n < (n + 1) * 16 ^ l.length := by
 induction l with
 | nil => intro n; simp
 | cons c l ih =>
   intro n
   have h := ih (n * 16 + hexD1 c)
   have hc := hexD1_le c
   rw [List.foldl_cons,List.length_cons,Nat.pow_succ]
   refine Nat.lt_of_lt_of_le h ?_
   rw [Nat.mul_comm (16 ^ l.length) 16,← Nat.mul_assoc]
   exact Nat.mul_le_mul_right _ (by omega)
theorem hexN_lt (l : Str) : hexN l < 16 ^ l.length := by
 have := hexN_go l 0
 simpa [hexN] using this
theorem or32 (n : Nat) (h : n < 256) : IntKind.u8.wrap (((BitVec.ofInt IntKind.u8.bits (n : Int)) ||| (BitVec.ofInt IntKind.u8.bits 32)).toNat : Int) = ((n ||| 32 : Nat) : Int) := by
 have : ∀ m : Fin 256,IntKind.u8.wrap (((BitVec.ofInt IntKind.u8.bits (m.val : Int)) ||| (BitVec.ofInt IntKind.u8.bits 32)).toNat : Int) = ((m.val ||| 32 : Nat) : Int) := by decide +kernel
 exact this ⟨n,h⟩
def digW (n : Nat) : Option Nat := if 48 ≤ n ∧ n ≤ 57 then some (n - 48) else if 97 ≤ n ||| 32 ∧ n ||| 32 ≤ 122 then some ((n ||| 32) - 87) else none
def digOk (n : Nat) : Bool := match digW n with | some d => decide (d ≤ 35) && (if d < 16 then decide (hexV n = d) else decide (hexV n = -1)) | none => decide (hexV n = -1)
theorem digOk_all : ∀ m : Fin 256,digOk m.val = true := by decide +kernel
theorem dig_some {n d : Nat} (h : n < 256) (hd : digW n = some d) : d ≤ 35 ∧ (d < 16 → hexV n = d) ∧ (16 ≤ d → hexV n = -1) := by
 have := digOk_all ⟨n,h⟩
 simp only [digOk,hd,Bool.and_eq_true,decide_eq_true_eq] at this
 obtain ⟨h1,h2⟩ := this
 refine ⟨h1,fun h => ?_,fun h => ?_⟩
 · rw [if_pos h] at h2; exact of_decide_eq_true h2
 · rw [if_neg (by omega)] at h2; exact of_decide_eq_true h2
theorem dig_none {n : Nat} (h : n < 256) (hd : digW n = none) : hexV n = -1 := by
 have := digOk_all ⟨n,h⟩
 simp only [digOk,hd,decide_eq_true_eq] at this
 exact this
theorem or32_le (n : Nat) (h : n < 256) : n ||| 32 < 256 := by
 have : ∀ m : Fin 256,m.val ||| 32 < 256 := by decide +kernel
 exact this ⟨n,h⟩
section
variable [HX]
theorem lower_p {n : Nat} {w : World} {K : Value → World → Prop} (h : n < 256) (hK : K (.int .u8 ((n ||| 32 : Nat) : Int)) w) : callF Tryz.prog 179 [.int .u8 (n : Nat)] w K := by
 refine W179_ok ?_
 unfold W179
 show binW .or (.int .u8 (n : Int)) (.int .u8 32) _
 refine ⟨rfl,?_⟩
 rw [or32 n h]
 exact hK
abbrev eSyn : Value := .iface 176 (.int .i64 2)
theorem uint16_p {l : Str} {w : World} {K : Value → World → Prop} (hl : l.length = 4) (hok : l.all isHex = true → ∀ w',Ext w w' → K (.tuple #[.int .u64 (hexN l : Nat),.nilIface]) w') (hno : l.all isHex = false → ∀ w',Ext w w' → K (.tuple #[.int .u64 0,eSyn]) w') :
   callF Tryz.prog 167 [str l,i64 16,i64 32] w K := by
 refine W167_ok ?_
 unfold W167
 have hne : l ≠ [] := fun e => by rw [e] at hl; simp at hl
 rw [bin_seq,decide_eq_false hne,condW_false,bin_eql,decide_eq_false (by decide)]
 refine JoinW.cut (fun st w' => st = [str l,i64 16] ∧ w' = w) ?_ ?_
 · rw [bin_leq,decide_eq_true (by decide)]
   simp only [isB_t,bin_leq,GdW_pure,cond_true,List.getD_cons_zero,pick_t]
   intro _
   rw [decide_eq_true (by decide),condW_true]
   exact ⟨trivial,trivial⟩
 rintro st g w1 ⟨rfl,rfl⟩
 simp only [List.getD_cons_zero,List.getD_cons_succ]
 refine JoinW.cut (fun st w' => st = [i64 32] ∧ w' = w1) ?_ ?_
 · rw [bin_eql,decide_eq_false (by decide),condW_false,bin_lss,decide_eq_false (by decide)]
   simp only [isB_f,bin_gtr,GdW_pure,Bool.not_false,cond_true,List.getD_cons_zero,pick_f]
   intro _
   rw [decide_eq_false (by decide),condW_false]
   exact ⟨trivial,trivial⟩
 rintro st g w2 ⟨rfl,rfl⟩
 simp only [List.getD_cons_zero]
 refine JoinW.cut (fun st w' => st = [.int .u64 1152921504606846976] ∧ w' = w2) ?_ ?_
 · rw [bin_eql,decide_eq_false (by decide),condW_false,bin_eql,decide_eq_true rfl,condW_true]
   exact ⟨rfl,rfl⟩
 rintro st g w3 ⟨rfl,rfl⟩
 simp only [List.getD_cons_zero]
 rw [cvt_int]
 have e1 : IntKind.u64.wrap (32 : Int) = 32 := by decide
 have e2 : IntKind.u64.wrap (1 * 2 ^ min (32 : Int).toNat IntKind.u64.bits) = 4294967296 := by decide
 have e3 : IntKind.u64.wrap (4294967296 - 1) = 4294967295 := by decide
 have e4 : IntKind.u64.wrap (16 : Int) = 16 := by decide
 have e5 : IntKind.u8.wrap (16 : Int) = 16 := by decide
 rw [e1,bin_shl]
 refine ⟨by decide,?_⟩
 rw [e2,bin_sub,e3]
 refine to_bytes (l := l) (by kernel_rfl) (by kernel_rfl) (by kernel_rfl) fun v w4 hv hx4 => ?_
 rw [lenl_at hv,hl]
 have hxe : ∀ w',Ext w4 w' → Ext w3 w' := fun w' h => hx4.trans h
 refine LoopW.go (fun st w' => ∃ i : Nat,i ≤ 4 ∧ st = [.bool false,.int .u64 (hexN (l.take i) : Nat),i64 (i : Nat)] ∧ w' = w4 ∧ (l.take i).all isHex = true) (fun st _ => match st with | [_,_,.int _ i] => 4 - i.toNat | _ => 0) ⟨0,by omega,rfl,rfl,rfl⟩ ?_
 rintro st g w5 ⟨i,hi,rfl,rfl,hall⟩
 simp only [List.getD_cons_zero,List.getD_cons_succ]
 rw [bin_lss,condW_dec]
 refine ⟨fun hlt => ?_,fun hge => ?_⟩
 · have hlt : i < 4 := by omega
   obtain ⟨c,hc⟩ : ∃ c,l[i]? = some c := ⟨_,List.getElem?_eq_getElem (by omega)⟩
   have hn := UInt8.toNat_lt c
   have etake : l.take (i + 1) = l.take i ++ [c] := by rw [List.take_add_one,hc]; rfl
   have hN := hexN_lt (l.take i)
   have hN2 : hexN (l.take i) < 65536 := by
     have h1 : (l.take i).length ≤ 3 := by rw [List.length_take]; omega
     have h2 : (16 : Nat) ^ (l.take i).length ≤ 16 ^ 3 := Nat.pow_le_pow_right (by omega) h1
     omega
   have bad : isHex c = false → K (.tuple #[.int .u64 0,eSyn]) w5 := fun h => hno (by
     rw [List.all_eq_false]
     exact ⟨c,List.mem_of_getElem? hc,by simp [h]⟩) _ hx4
   have eb : isHex c = decide (0 ≤ hexV c.toNat) := rfl
   have ed1 : hexD1 c = (hexV c.toNat).toNat := rfl
   refine JoinW.cut (fun st w' => st = [.bool false,.int .u64 (hexN (l.take (i + 1)) : Nat)] ∧ w' = w5 ∧ isHex c = true) ?_ ?_
   · obtain ⟨n,hcn⟩ : ∃ n,c.toNat = n := ⟨_,rfl⟩
     rw [hcn] at hn eb ed1
     refine ixa_ld (x := .int .u8 (n : Nat)) hv (by rw [u8s_length]) (by rw [u8s_get,hc,← hcn]; rfl) ?_
     refine JoinW.cut (fun st w' => ∃ d,digW n = some d ∧ st = [.bool false,.int .u8 (d : Nat)] ∧ w' = w5) ?_ ?_
     · rw [bin_eql]
       simp only [isB_t,GdW_pure]
       intro _
       simp only [List.getD_cons_zero]
       rw [pick_gd_and,Bool.and_false,condW_false,bin_leq]
       simp only [isB_t,bin_leq,GdW_pure]
       intro _
       simp only [List.getD_cons_zero]
       rw [pick_gd_and,condW_b]
       refine ⟨fun h => ?_,fun h => ?_⟩
       · rw [Bool.and_eq_true,decide_eq_true_iff,decide_eq_true_iff] at h
         rw [bin_sub]
         have e : IntKind.u8.wrap ((n : Int) - 48) = ((n - 48 : Nat) : Int) := by
           rw [show (n : Int) - 48 = ((n - 48 : Nat) : Int) by omega]
           exact wrap_u8 (by omega)
         rw [e]
         exact ⟨n - 48,by unfold digW; rw [if_pos (by omega)],rfl,trivial⟩
       · have hnd : ¬ (48 ≤ n ∧ n ≤ 57) := by
           rintro ⟨h1,h2⟩
           rw [decide_eq_true (by omega),decide_eq_true (by omega)] at h
           cases h
         have hor := or32_le n hn
         refine lower_p hn ?_
         rw [bin_leq]
         refine GdW.act (decide (((n ||| 32 : Nat) : Int) ≤ 122)) (fun w' => w' = w5) (fun _ => rfl) ?_ ?_
         · intro _ J hJ
           refine lower_p hn ?_
           rw [bin_leq]
           exact hJ _ rfl
         rintro g2 w6 rfl
         simp only [List.getD_cons_zero,isB_t]
         rw [pick_gd_and,condW_b]
         refine ⟨fun h => ?_,fun h => ?_⟩
         · rw [Bool.and_eq_true,decide_eq_true_iff,decide_eq_true_iff] at h
           refine lower_p hn ?_
           rw [bin_sub,bin_add]
           have e : IntKind.u8.wrap (((n ||| 32 : Nat) : Int) - 97) = (((n ||| 32) - 97 : Nat) : Int) := by
             rw [show ((n ||| 32 : Nat) : Int) - 97 = (((n ||| 32) - 97 : Nat) : Int) by omega]
             exact wrap_u8 (by omega)
           have e' : IntKind.u8.wrap ((((n ||| 32) - 97 : Nat) : Int) + 10) = (((n ||| 32) - 87 : Nat) : Int) := by
             rw [show (((n ||| 32) - 97 : Nat) : Int) + 10 = (((n ||| 32) - 87 : Nat) : Int) by omega]
             exact wrap_u8 (by omega)
           rw [e,e']
           exact ⟨(n ||| 32) - 87,by unfold digW; rw [if_neg hnd,if_pos (by omega)],rfl,rfl⟩
         · refine bad ?_
           rw [eb,dig_none hn]
           · rfl
           unfold digW
           rw [if_neg hnd,if_neg]
           rintro ⟨h1,h2⟩
           rw [decide_eq_true (by omega),decide_eq_true (by omega)] at h
           cases h
     rintro st g2 w6 ⟨d,hd,rfl,rfl⟩
     obtain ⟨d1,d2,d3⟩ := dig_some hn hd
     simp only [List.getD_cons_zero,List.getD_cons_succ]
     rw [cvt_int,e5,bin_geq,condW_dec]
     refine ⟨fun h16 => ?_,fun h16 => ?_⟩
     · exact bad (by rw [eb,d3 (by omega)]; rfl)
     · have hv16 := d2 (by omega)
       rw [bin_geq,decide_eq_false (by omega),condW_false,cvt_int,e4,bin_mul,cvt_int]
       have em : IntKind.u64.wrap ((hexN (l.take i) : Int) * 16) = ((hexN (l.take i) * 16 : Nat) : Int) := by
         rw [show (hexN (l.take i) : Int) * 16 = ((hexN (l.take i) * 16 : Nat) : Int) by omega]
         exact u64_wrap (by omega) (by omega)
       have ed : IntKind.u64.wrap (d : Int) = (d : Int) := u64_wrap (by omega) (by omega)
       have ea : IntKind.u64.wrap (((hexN (l.take i) * 16 : Nat) : Int) + (d : Int)) = ((hexN (l.take i) * 16 + d : Nat) : Int) := by
         rw [show ((hexN (l.take i) * 16 : Nat) : Int) + (d : Int) = ((hexN (l.take i) * 16 + d : Nat) : Int) by omega]
         exact u64_wrap (by omega) (by omega)
       rw [em,ed,bin_add,ea,bin_lss,decide_eq_false (by omega)]
       simp only [isB_f,bin_gtr,GdW_pure,Bool.not_false,cond_true,List.getD_cons_zero,pick_f]
       intro _
       rw [decide_eq_false (by omega),condW_false]
       refine ⟨?_,trivial,by rw [eb,hv16]; exact decide_eq_true (by omega)⟩
       have e : hexN (l.take (i + 1)) = hexN (l.take i) * 16 + d := by
         rw [etake,hexN_snoc,ed1,hv16]
         rfl
       rw [e]
   rintro st g2 w6 ⟨rfl,rfl,hx⟩
   simp only [List.getD_cons_zero,List.getD_cons_succ]
   rw [bin_add,up1 (by omega)]
   refine ⟨⟨i + 1,by omega,rfl,trivial,?_⟩,?_⟩
   · rw [etake,List.all_append,hall]
     simp [hx]
   · simp only [Int.toNat_natCast]; omega
 · obtain rfl : i = 4 := by omega
   rw [List.take_of_length_le (by omega)] at hall ⊢
   simp only [isB_t,GdW_f]
   intro _
   rw [pick_f,condW_false]
   exact hok hall _ hx4
end
end Go.Proofs.YtpiaegojabkioaaGreatDoor
namespace Go.Proofs.YtpiaegojabkioaaGreatDoor
open Go Go.Eng Go.RowKit
set_option maxRecDepth 100000
theorem hexM_four {s : Str} {a : Nat} (hl : a + 6 ≤ s.length) (hu : (s.drop a).take 2 = [92,117]) : hexM s a = if ((s.drop (a + 2)).take 4).all isHex = true then (hexN ((s.drop (a + 2)).take 4) : Int) else -1 := by
 have hlen : (s.drop a).length = s.length - a := List.length_drop
 match hd : s.drop a,hlen with
 | [],h | [_],h | [_,_],h | [_,_,_],h | [_,_,_,_],h | [_,_,_,_,_],h => exact absurd h (by simp; omega)
 | b0 :: b1 :: c0 :: c1 :: c2 :: c3 :: r,_ =>
   have e2 : s.drop (a + 2) = c0 :: c1 :: c2 :: c3 :: r := drop_app (l := [b0,b1]) hd
   rw [hd] at hu
   simp only [List.take_succ_cons,List.take_zero,List.cons.injEq,and_true] at hu
   obtain ⟨rfl,rfl⟩ := hu
   have e4 : (s.drop (a + 2)).take 4 = [c0,c1,c2,c3] := by rw [e2]; rfl
   rw [hexM_at hd,e4]
   unfold hexM
   rw [show byteM [92,117,c0,c1,c2,c3] 0 = 92 from rfl,show byteM [92,117,c0,c1,c2,c3] (0 + 1) = 117 from rfl,show byteM [92,117,c0,c1,c2,c3] (0 + 2) = c0.toNat from rfl,show byteM [92,117,c0,c1,c2,c3] (0 + 3) = c1.toNat from rfl,show byteM [92,117,c0,c1,c2,c3] (0 + 4) = c2.toNat from rfl,show byteM [92,117,c0,c1,c2,c3] (0 + 5) = c3.toNat from rfl]
   have ea : ([c0,c1,c2,c3] : Str).all isHex = (decide (0 ≤ hexV c0.toNat) && (decide (0 ≤ hexV c1.toNat) && (decide (0 ≤ hexV c2.toNat) && (decide (0 ≤ hexV c3.toNat) && true)))) := rfl
   have en : hexN [c0,c1,c2,c3] = (((0 * 16 + hexD1 c0) * 16 + hexD1 c1) * 16 + hexD1 c2) * 16 + hexD1 c3 := rfl
   rw [en]
   by_cases h : 0 ≤ hexV c0.toNat ∧ 0 ≤ hexV c1.toNat ∧ 0 ≤ hexV c2.toNat ∧ 0 ≤ hexV c3.toNat
   · obtain ⟨h0,h1,h2,h3⟩ := h
     rw [if_pos ⟨by simp,rfl,rfl,h0,h1,h2,h3⟩,if_pos (ea.trans (by rw [decide_eq_true h0,decide_eq_true h1,decide_eq_true h2,decide_eq_true h3]; rfl))]
     unfold hexD1
     omega
   · rw [if_neg fun h' => h h'.2.2.2,if_neg]
     intro h'
     have h' := ea.symm.trans h'
     simp only [Bool.and_eq_true,decide_eq_true_eq] at h'
     exact h ⟨h'.1,h'.2.1,h'.2.2.1,h'.2.2.2.1⟩
theorem hexM_no {s : Str} {a : Nat} (h : a + 6 ≤ s.length → (s.drop a).take 2 ≠ [92,117]) : hexM s a = -1 := by
 unfold hexM
 rw [if_neg]
 rintro ⟨h1,h2,h3,_⟩
 refine h h1 ?_
 have ha : a < s.length := by omega
 have hb : a + 1 < s.length := by omega
 rw [drop_here ha,drop_here hb]
 simp only [List.take_succ_cons,List.take_zero]
 rw [Go.Eng.byte_at (drop_here ha)] at h2
 rw [Go.Eng.byte_at (drop_here hb)] at h3
 congr 1
 · exact UInt8.toNat_inj.1 (by show s[a].toNat = 92; omega)
 · congr 1
   exact UInt8.toNat_inj.1 (by show s[a + 1].toNat = 117; omega)
theorem bad_hex {c : UInt8} (h : badB c = true) : isHex c = false := by
 unfold badB at h
 simp only [Bool.or_eq_true,decide_eq_true_eq] at h
 rcases h with (rfl | rfl) | rfl <;> decide
theorem eq_nil_err (K : Value → Prop) (w : World) : eqQ Tryz.prog .neq 112 false true .nilIface .nilIface w K ↔ K (.bool false) := by
 have h : (do eqGuard .neq 112 (stand false) (stand true) .nilIface .nilIface; binOp .neq 112 .nilIface .nilIface : Sem Value).run Tryz.prog w = .ok (.bool false) w := by kernel_rfl
 unfold eqQ semQ
 rw [h]
 exact ⟨fun ⟨v,h1,h2⟩ => by cases h1; exact h2,fun h2 => ⟨_,rfl,h2⟩⟩
theorem ne_nil_err (T : TypeId) (v : Value) (w : World) (K : Value → Prop) : eqQ Tryz.prog .neq 112 false true (.iface T v) .nilIface w K ↔ K (.bool true) := by
 have h : (do eqGuard .neq 112 (stand false) (stand true) (.iface T v) .nilIface; binOp .neq 112 (.iface T v) .nilIface : Sem Value).run Tryz.prog w = .ok (.bool true) w := by kernel_rfl
 unfold eqQ semQ
 rw [h]
 exact ⟨fun ⟨v,h1,h2⟩ => by cases h1; exact h2,fun h2 => ⟨_,rfl,h2⟩⟩
theorem eq_syn (w : World) (K : Value → Prop) : eqQ Tryz.prog .eql 112 false false eSyn eSyn w K ↔ K (.bool true) := by
 have h : (do eqGuard .eql 112 (stand false) (stand false) eSyn eSyn; binOp .eql 112 eSyn eSyn : Sem Value).run Tryz.prog w = .ok (.bool true) w := by kernel_rfl
 unfold eqQ semQ
 rw [h]
 exact ⟨fun ⟨v,h1,h2⟩ => by cases h1; exact h2,fun h2 => ⟨_,rfl,h2⟩⟩
def TabE (w : World) : Prop := ∃ T v,w.cell? ⟨2,0,none⟩ = some (.iface T v)
theorem TabE.ext {w w' : World} (h : TabE w) (hx : Ext w w') : TabE w' := by
 obtain ⟨T,v,h⟩ := h
 exact ⟨T,v,cell_ext hx h⟩
section
variable [HX]
theorem sclone_p' {s : Str} {w : World} {K : Value → World → Prop} (hl : s.length ≤ 1000000) (hK : ∀ w',Ext w w' → K (str s) w') : callF Tryz.prog 168 [str s] w K := by
 refine of_calls (args := #[str s]) Tryz.call168 ((Tryz.stringslite_Clone (ofL s) w (by rw [ofL_size]; omega)).mono ?_)
 rintro e w' ⟨rfl,hb⟩
 exact ⟨_,rfl,hK w' (Chg.of_below hb)⟩
theorem parse16_p {l : Str} {w : World} {K : Value → World → Prop} (hE : TabE w) (hl : l.length = 4) (hok : l.all isHex = true → ∀ w',Ext w w' → K (.tuple #[.int .u64 (hexN l : Nat),.nilIface]) w') (hno : l.all isHex = false → ∀ T v w',Ext w w' → K (.tuple #[.int .u64 0,.iface T v]) w') :
   callF Tryz.prog 178 [str l,i64 16,i64 32] w K := by
 refine W178_ok ?_
 unfold W178
 refine uint16_p hl (fun h w1 hx1 => ?_) (fun h w1 hx1 => ?_)
 · simp only [ext_tuple]
   refine ⟨_,rfl,_,rfl,?_⟩
   rw [eq_nil_err,condW_false]
   exact hok h w1 hx1
 · simp only [ext_tuple]
   refine ⟨_,rfl,_,rfl,?_⟩
   rw [ne_nil_err,condW_true]
   refine W101_ok ?_
   unfold W101
   rw [eq_syn,condW_true]
   refine W142_ok ?_
   unfold W142
   have hxd : Ext w1 w1.drew := Chg.drew (Chg.refl (fun _ => False) w1)
   obtain ⟨T,v,hc⟩ := hE.ext (hx1.trans hxd)
   rw [ld_one]
   refine ⟨_,hc,?_⟩
   refine sclone_p' (by omega) fun w2 hx2 => ?_
   rw [ld_one]
   refine ⟨⟨_,cell_ext hx2 hc,rfl⟩,?_⟩
   rw [put_one _ _ _ _ _ rfl]
   refine ⟨by simp,?_⟩
   rw [put_one _ _ _ _ _ rfl]
   refine ⟨by simp,?_⟩
   rw [put_one _ _ _ _ _ rfl]
   refine ⟨by simp,?_⟩
   rw [put_nil]
   refine box_new fun a w3 ha hz hb hx3 => ?_
   exact hno h _ _ w3 (hx1.trans (hxd.trans (hx2.trans hx3)))
theorem hex_p {w : World} {p i c a : Nat} {s : Str} {K : Value → World → Prop} (h : Rdr w p s i c) (hE : TabE w) (ha : a ≤ 2000000) (hs : s.length ≤ 1000000) (hK : ∀ w',Ext w w' → K (.int .i32 (hexM s a)) w') :
   callF Tryz.prog 165 [.pointer (some ⟨p,0,none⟩),i64 (a : Nat)] w K := by
 refine W165_ok ?_
 unfold W165
 have e6 : IntKind.i64.wrap ((a : Int) + 6) = ((a + 6 : Nat) : Int) := upk (k := 6) (by omega)
 have e2 : IntKind.i64.wrap ((a : Int) + 2) = ((a + 2 : Nat) : Int) := upk (k := 2) (by omega)
 rw [bin_add,e6]
 refine h.ld rfl ?_
 rw [lens_str,bin_gtr]
 refine GdW.act (decide ((s.drop a).take 2 ≠ [92,117])) (fun w' => w' = w) (fun _ => rfl) ?_ ?_
 · intro hc J hJ
   have hle : a + 6 ≤ s.length := by
     rw [isB_f,Bool.not_eq_true',decide_eq_false_iff_not] at hc
     omega
   refine h.ld rfl ?_
   rw [bin_add,e2,sls_str,bd_some]
   refine ⟨by omega,by omega,?_⟩
   rw [bd_some]
   refine ⟨by omega,by omega,?_⟩
   simp only [Int.toNat_natCast]
   rw [show (s.take (a + 2)).drop a = (s.drop a).take 2 by rw [List.drop_take]; congr 1; omega,bin_sne]
   exact hJ _ rfl
 rintro g w1 rfl
 simp only [List.getD_cons_zero,isB_f]
 rw [pick_gd_or]
 generalize hq : (decide ((s.length : Int) < ((a + 6 : Nat) : Int)) || decide ((s.drop a).take 2 ≠ [92,117])) = q
 refine ⟨fun st w' => Ext w1 w' ∧ ((q = true ∧ st = [undef]) ∨ (q = false ∧ ∃ r : Bool,st = [.bool r] ∧ (r = true → ∃ c ∈ (s.drop (a + 2)).take 4,badB c = true))),?_,?_,?_⟩
 · intro hc
   have hq0 : q = false := by simpa [isB_f] using hc
   rw [hq0,Bool.or_eq_false_iff,decide_eq_false_iff_not] at hq
   refine h.ld rfl ?_
   rw [bin_add,e2,bin_add,e6,sls_str,bd_some]
   refine ⟨by omega,by omega,?_⟩
   rw [bd_some]
   refine ⟨by omega,by omega,?_⟩
   simp only [Int.toNat_natCast]
   rw [show (s.take (a + 6)).drop (a + 2) = (s.drop (a + 2)).take 4 by rw [List.drop_take]; congr 1; omega]
   refine contains_any (by rw [List.length_take]; omega) fun r w2 hr hx2 => ?_
   exact ⟨hx2,.inr ⟨hq0,r,rfl,hr⟩⟩
 · intro hc
   have hq1 : q = true := by simpa [isB_f] using hc
   exact ⟨Chg.refl _ _,.inl ⟨hq1,rfl⟩⟩
 rintro st g2 w2 ⟨hx2,hst⟩
 rcases hst with ⟨rfl,rfl⟩ | ⟨rfl,r,rfl,hr⟩
 · rw [pick_t,condW_true]
   rw [hexM_no] at hK
   · exact hK w2 hx2
   intro hle he
   rw [decide_eq_false (by omega),decide_eq_false (by simpa using he)] at hq
   cases hq
 · rw [Bool.or_eq_false_iff,decide_eq_false_iff_not,decide_eq_false_iff_not] at hq
   have hu : (s.drop a).take 2 = [92,117] := by simpa using hq.2
   have hle : a + 6 ≤ s.length := by omega
   rw [hexM_four hle hu] at hK
   simp only [List.getD_cons_zero]
   rw [pick_f,condW_b]
   refine ⟨fun hr1 => ?_,fun _ => ?_⟩
   · obtain ⟨c,hc,hb⟩ := hr hr1
     rw [if_neg] at hK
     · exact hK w2 hx2
     intro hall
     have := List.all_eq_true.1 hall c hc
     rw [bad_hex hb] at this
     cases this
   · refine (h.ext hx2).ld rfl ?_
     rw [bin_add,e2,bin_add,e6,sls_str,bd_some]
     refine ⟨by omega,by omega,?_⟩
     rw [bd_some]
     refine ⟨by omega,by omega,?_⟩
     simp only [Int.toNat_natCast]
     rw [show (s.take (a + 6)).drop (a + 2) = (s.drop (a + 2)).take 4 by rw [List.drop_take]; congr 1; omega]
     have h4 : ((s.drop (a + 2)).take 4).length = 4 := by rw [List.length_take,List.length_drop]; omega
     generalize (s.drop (a + 2)).take 4 = l4 at *
     refine parse16_p (hE.ext hx2) h4 (fun hall w3 hx3 => ?_) (fun hall T v w3 hx3 => ?_)
     · simp only [ext_tuple]
       refine ⟨_,rfl,_,rfl,?_⟩
       rw [eq_nil_err,condW_false,cvt_int]
       rw [if_pos hall] at hK
       have hN := hexN_lt l4
       rw [h4] at hN
       have e : IntKind.i32.wrap (hexN l4 : Int) = (hexN l4 : Int) := by
         rw [IntKind.wrap_i32]
         omega
       rw [e]
       exact hK w3 (hx2.trans hx3)
     · simp only [ext_tuple]
       refine ⟨_,rfl,_,rfl,?_⟩
       rw [ne_nil_err,condW_true]
       rw [if_neg (by rw [hall]; simp)] at hK
       exact hK w3 (hx2.trans hx3)
end
end Go.Proofs.YtpiaegojabkioaaGreatDoor
namespace Go.Proofs.YtpiaegojabkioaaGreatDoor
open Go Go.Eng Go.RowKit
set_option maxRecDepth 100000
theorem pk_eq {s : Str} {i k : Nat} (hk : 0 < k) : pkM s i = (k : Int) ↔ byteM s i = (k : Int) := by
 unfold pkM
 by_cases h : i < s.length
 · rw [if_pos h,byteM_in h]
 · rw [if_neg h,byteM_out (by omega)]; omega
theorem bt_drop (s : Str) (i j : Nat) : bt (s.drop i) j = bt s (i + j) := by
 unfold bt
 rw [List.getD_eq_getElem?_getD,List.getD_eq_getElem?_getD,List.getElem?_drop]
theorem dec_drop (s : Str) (i : Nat) : Utf8.decode (ofL (s.drop i)) 0 = Utf8.decode (ofL s) i := by
 rw [dec_ofL,dec_ofL]
 simp only [bt_drop,List.length_drop,Nat.sub_zero,Nat.add_zero,Nat.zero_add]
theorem i32_id {n : Int} (h1 : -2147483648 ≤ n) (h2 : n ≤ 2147483647) : IntKind.i32.wrap n = n := by
 rw [IntKind.wrap_i32]; omega
theorem bt_i32 (n : Nat) (h : n < 256) : IntKind.i32.wrap (n : Int) = (n : Int) := i32_id (by omega) (by omega)
theorem cell_chg {w w' : World} {p b o : Nat} {v : Value} (hc : Chg (Cr p) w w') (hb : b ≠ p) (h : w.cell? ⟨b,o,none⟩ = some v) : w'.cell? ⟨b,o,none⟩ = some v := by
 rw [cell_eq] at h ⊢
 cases hx : w.heap[b]? with
 | none => rw [hx] at h; cases h
 | some x => rw [hx] at h; rw [hc.at hx hb]; exact h
theorem Rdr.ne {w : World} {p i c b : Nat} {s : Str} {v : Value} (h : Rdr w p s i c) (hv : w.cell? ⟨b,0,none⟩ = some v) (hs : ∀ t,v ≠ str t) : b ≠ p := fun e => by
 subst e
 rw [cell_eq,h,cellO_some] at hv
 simp at hv
 exact hs s hv.symm
theorem TabU.rd {w w' : World} {p i c : Nat} {s : Str} (hT : TabU w) (h : Rdr w p s i c) (hc : Chg (Cr p) w w') : TabU w' :=
 ⟨fun k hk => cell_chg hc (h.ne (hT.1 0 (by omega)) fun t e => (by cases e)) (hT.1 k hk),fun k hk => ⟨cell_chg hc (h.ne (hT.2 0 (by omega)).1 fun t e => (by cases e)) (hT.2 k hk).1,cell_chg hc (h.ne (hT.2 0 (by omega)).1 fun t e => (by cases e)) (hT.2 k hk).2⟩⟩
theorem TabE.rd {w w' : World} {p i c : Nat} {s : Str} (hE : TabE w) (h : Rdr w p s i c) (hc : Chg (Cr p) w w') : TabE w' := by
 obtain ⟨T,v,hv⟩ := hE
 exact ⟨T,v,cell_chg hc (h.ne hv fun t e => (by cases e)) hv⟩
section
variable [HX]
theorem decode_rune {s : Str} {i : Nat} {w : World} {K : Value → World → Prop} (hT : TabU w) (hi : i < s.length) (hK : ∀ w',Ext w w' → K (.tuple #[.int .i32 ((Utf8.decode (ofL s) i).1 : Nat),i64 ((Utf8.decode (ofL s) i).2 : Nat)]) w') :
   callF Tryz.prog 136 [str (s.drop i)] w K := by
 refine of_calls (args := #[str (s.drop i)]) Tryz.call136 ((Tryz.utf8_DecodeRuneInString (ofL (s.drop i)) w hT).mono ?_)
 rintro e w' ⟨rfl,hb⟩
 refine ⟨_,rfl,?_⟩
 unfold Lib.decodeGo
 rw [if_neg (by rw [ofL_size,List.length_drop]; omega),dec_drop]
 exact hK w' (Chg.of_below hb)
theorem escaped_p {w : World} {p i c : Nat} {s : Str} {K : Value → World → Prop} (h : Rdr w p s i c) (hE : TabE w) (hi : i < s.length) (hs : s.length ≤ 1000000)
   (hok : ∀ t k,escM s i = some (t,k) → ∀ (n : Nat) (w' : World),(n < 55296 ∨ 57343 < n ∧ n ≤ 1114111) → wrM n = t → Rdr w' p s (i + k) c → Chg (Cr p) w w' → K (.int .i32 (n : Nat)) w') (hbad : escM s i = none → Thr w p 30 i) :
   callF Tryz.prog 137 [.pointer (some ⟨p,0,none⟩)] w K := by
 refine W137_ok ?_
 unfold W137
 rw [escM_def] at hok hbad
 refine h.ld rfl ?_
 refine JoinW.cut (fun st w' => st = [.int .u8 (pkM s (i + 1))] ∧ w' = w) ?_ ?_
 · rw [bin_add,up1 (by omega)]
   refine h.ld rfl ?_
   rw [lens_str,bin_lss,condW_dec]
   unfold pkM
   refine ⟨fun hlt => ?_,fun hge => ?_⟩
   · have hlt : i + 1 < s.length := by omega
     rw [if_pos hlt]
     refine h.ld rfl ?_
     obtain ⟨e1,e2⟩ := get_bt' hlt
     rw [bin_add,up1 (by omega),ixs_str]
     refine ⟨by omega,s[i + 1],by simpa using e1,?_⟩
     rw [e2]
     exact ⟨rfl,rfl⟩
   · rw [if_neg (by omega)]
     exact ⟨rfl,rfl⟩
 rintro st g w1 ⟨rfl,rfl⟩
 refine h.go (k := 2) (by omega) fun w2 h2 hc2 hz2 => ?_
 simp only [List.getD_cons_zero]
 have pk := fun (k : Nat) (hk : 0 < k) => pk_eq (s := s) (i := i + 1) (k := k) hk
 have p34 : pkM s (i + 1) = 34 ↔ byteM s (i + 1) = 34 := pk 34 (by omega)
 have p92 : pkM s (i + 1) = 92 ↔ byteM s (i + 1) = 92 := pk 92 (by omega)
 have p47 : pkM s (i + 1) = 47 ↔ byteM s (i + 1) = 47 := pk 47 (by omega)
 have p98 : pkM s (i + 1) = 98 ↔ byteM s (i + 1) = 98 := pk 98 (by omega)
 have p102 : pkM s (i + 1) = 102 ↔ byteM s (i + 1) = 102 := pk 102 (by omega)
 have p110 : pkM s (i + 1) = 110 ↔ byteM s (i + 1) = 110 := pk 110 (by omega)
 have p114 : pkM s (i + 1) = 114 ↔ byteM s (i + 1) = 114 := pk 114 (by omega)
 have p116 : pkM s (i + 1) = 116 ↔ byteM s (i + 1) = 116 := pk 116 (by omega)
 have hpk0 : 0 ≤ pkM s (i + 1) ∧ pkM s (i + 1) < 256 := by
   unfold pkM
   split
   · have := bt_lt s (i + 1); omega
   · omega
 generalize pkM s (i + 1) = q at *
 have two : ∀ (n : Nat) (t : Str),n < 128 → wrM n = t → some (t,2) = (some (t,2) : Option (Str × Nat)) := fun _ _ _ _ => rfl
 refine JoinW.cut (fun st w' => st = [.bool (decide (q = 34) || decide (q = 92) || decide (q = 47))] ∧ w' = w2) ?_ ?_
 · rw [bin_eql,condW_dec]
   refine ⟨fun e => ⟨by rw [decide_eq_true e]; rfl,rfl⟩,fun e => ?_⟩
   rw [bin_eql,condW_dec]
   refine ⟨fun e2 => ⟨by rw [decide_eq_true e2,decide_eq_false e]; rfl,rfl⟩,fun e2 => ?_⟩
   rw [bin_eql]
   exact ⟨by rw [decide_eq_false e2,decide_eq_false e]; rfl,rfl⟩
 rintro st g w3 ⟨rfl,rfl⟩
 simp only [List.getD_cons_zero]
 rw [condW_b]
 refine ⟨fun e => ?_,fun e => ?_⟩
 · rw [Bool.or_eq_true,Bool.or_eq_true,decide_eq_true_iff,decide_eq_true_iff,decide_eq_true_iff] at e
   rw [cvt_int]
   obtain ⟨n,rfl⟩ := Int.eq_ofNat_of_zero_le hpk0.1
   have hn : n < 256 := by omega
   rw [show ((n : Nat) : Int) = (n : Int) from rfl,bt_i32 n hn]
   have key : ∀ (t : Str),wrM n = t → (if byteM s (i + 1) = 34 then some (([34] : Str),2) else if byteM s (i + 1) = 92 then some ([92],2) else if byteM s (i + 1) = 47 then some ([47],2) else none) = some (t,2) → K (.int .i32 (n : Nat)) w3 := fun t ht he => by
     refine hok t 2 ?_ n w3 (by omega) ht h2 hc2
     split at he
     · rename_i h1; rw [if_pos h1]; exact he
     · rename_i h1; rw [if_neg h1]
       split at he
       · rename_i h1; rw [if_pos h1]; exact he
       · rename_i h1; rw [if_neg h1]
         split at he
         · rename_i h1; rw [if_pos h1]; exact he
         · cases he
   rcases e with (e | e) | e
   · obtain rfl : n = 34 := by omega
     refine key [34] (by decide) ?_
     rw [if_pos (p34.1 rfl)]
   · obtain rfl : n = 92 := by omega
     have b := p92.1 rfl
     refine key [92] (by decide) ?_
     rw [b]; rfl
   · obtain rfl : n = 47 := by omega
     have b := p47.1 rfl
     refine key [47] (by decide) ?_
     rw [b]; rfl
 rw [Bool.or_eq_false_iff,Bool.or_eq_false_iff,decide_eq_false_iff_not,decide_eq_false_iff_not,decide_eq_false_iff_not] at e
 obtain ⟨⟨n34,n92⟩,n47⟩ := e
 rw [if_neg (fun e => n34 (p34.2 e)),if_neg (fun e => n92 (p92.2 e)),if_neg (fun e => n47 (p47.2 e))] at hok hbad
 have step : ∀ {k m : Nat} {t : Str} {R : Option (Str × Nat)} {B : Prop},m < 128 → wrM m = t → (q = (k : Int) ↔ byteM s (i + 1) = (k : Int)) →
     (∀ t' k',(if byteM s (i + 1) = (k : Int) then some (t,2) else R) = some (t',k') → ∀ (n : Nat) (w' : World),(n < 55296 ∨ 57343 < n ∧ n ≤ 1114111) → wrM n = t' → Rdr w' p s (i + k') c → Chg (Cr p) w1 w' → K (.int .i32 (n : Nat)) w') →
     ((if byteM s (i + 1) = (k : Int) then some (t,2) else R) = none → Thr w1 p 30 i) →
     ((∀ t' k',R = some (t',k') → ∀ (n : Nat) (w' : World),(n < 55296 ∨ 57343 < n ∧ n ≤ 1114111) → wrM n = t' → Rdr w' p s (i + k') c → Chg (Cr p) w1 w' → K (.int .i32 (n : Nat)) w') → (R = none → Thr w1 p 30 i) → B) →
     binW .eql (.int .u8 q) (.int .u8 (k : Int)) fun t41 => condW t41 (K (.int .i32 (m : Nat)) w3) B := fun {k m t R B} hm hw hq hok hbad hB => by
   rw [bin_eql,condW_dec]
   refine ⟨fun e => ?_,fun e => ?_⟩
   · exact hok t 2 (by rw [if_pos (hq.1 e)]) m w3 (by omega) hw h2 hc2
   · rw [if_neg (fun h => e (hq.2 h))] at hok hbad
     exact hB hok hbad
 refine step (k := 98) (m := 8) (by decide) (by decide) p98 hok hbad fun hok hbad => ?_
 refine step (k := 102) (m := 12) (by decide) (by decide) p102 hok hbad fun hok hbad => ?_
 refine step (k := 110) (m := 10) (by decide) (by decide) p110 hok hbad fun hok hbad => ?_
 refine step (k := 114) (m := 13) (by decide) (by decide) p114 hok hbad fun hok hbad => ?_
 refine step (k := 116) (m := 9) (by decide) (by decide) p116 hok hbad fun hok hbad => ?_
 clear step two
 have hr1 := hexM_range s i
 have hr2 := hexM_range s (i + 6)
 refine hex_p h2 (hE.rd h hc2) (by omega) hs fun w4 hx4 => ?_
 have h4 := h2.ext hx4
 have hc4 := hc2.then hx4 fun _ _ e => e.elim
 have e6 : IntKind.i64.wrap ((i : Int) + 6) = ((i + 6 : Nat) : Int) := upk (k := 6) (by omega)
 rw [bin_add,e6]
 refine h4.st1 fun w5 h5 hc5 hz5 => ?_
 have hc5 := hc4.trans hc5
 rw [bin_geq]
 simp only [isB_t,bin_lss,GdW_pure]
 intro _
 simp only [List.getD_cons_zero]
 rw [pick_gd_and,condW_b]
 refine ⟨fun e => ?_,fun e => ?_⟩
 · rw [Bool.and_eq_true,decide_eq_true_iff,decide_eq_true_iff] at e
   rw [if_neg (by omega),if_pos (by omega)] at hok hbad
   refine h5.ld rfl ?_
   refine hex_p h5 (hE.rd h hc5) (by omega) hs fun w6 hx6 => ?_
   have h6 := h5.ext hx6
   have hc6 := hc5.then hx6 fun _ _ e => e.elim
   refine JoinW.cut (fun st w' => w' = w6 ∧ ¬ (hexM s (i + 6) < 56320 ∨ 57343 < hexM s (i + 6))) ?_ ?_
   · rw [bin_lss]
     simp only [isB_f,bin_gtr,GdW_pure]
     intro _
     simp only [List.getD_cons_zero]
     rw [pick_gd_or,condW_b]
     refine ⟨fun e2 => ?_,fun e2 => ?_⟩
     · rw [Bool.or_eq_true,decide_eq_true_iff,decide_eq_true_iff] at e2
       rw [if_pos e2] at hbad
       exact fail_p ((hbad rfl).from hc6)
     · rw [Bool.or_eq_false_iff,decide_eq_false_iff_not,decide_eq_false_iff_not] at e2
       exact ⟨trivial,by omega⟩
   rintro st g2 w7 ⟨rfl,hb2⟩
   rw [if_neg hb2] at hok
   have hb2 : 56320 ≤ hexM s (i + 6) ∧ hexM s (i + 6) ≤ 57343 := by omega
   refine h6.go (k := 6) (by omega) fun w8 h8 hc8 hz8 => ?_
   have hc8 := hc6.trans hc8
   generalize hexM s i = x at *
   generalize hexM s (i + 6) = y at *
   have e10 : (2 : Int) ^ min (10 : Int).toNat IntKind.i32.bits = 1024 := by decide
   rw [bin_sub,i32_id (by omega) (by omega)]
   refine ⟨by decide,?_⟩
   rw [e10,i32_id (by omega) (by omega)]
   dsimp only
   rw [bin_add,i32_id (by omega) (by omega),bin_sub,i32_id (by omega) (by omega),bin_add,i32_id (by omega) (by omega)]
   have en : (65536 + (x - 55296) * 1024 + (y - 56320)) = (((65536 + (x - 55296) * 1024 + y - 56320).toNat : Nat) : Int) := by omega
   rw [en]
   refine hok _ _ rfl _ w8 (by omega) rfl ?_ hc8
   exact h8
 · have e : ¬ (55296 ≤ hexM s i ∧ hexM s i < 56320) := by
     rintro ⟨e1,e2⟩
     rw [decide_eq_true e1,decide_eq_true e2] at e
     cases e
   simp only [isB_f,isB_t,isB_gd_t,bin_geq,bin_lss,GdW_pure,GdW_nest_and,List.getD_cons_zero,pick_gd_or]
   intros
   rw [condW_b]
   refine ⟨fun e2 => ?_,fun e2 => ?_⟩
   · rw [Bool.or_eq_true,Bool.and_eq_true,decide_eq_true_iff,decide_eq_true_iff,decide_eq_true_iff] at e2
     rw [if_pos (by omega)] at hbad
     exact fail_p ((hbad rfl).from hc5)
   · have e2 : ¬ (hexM s i < 0 ∨ 56320 ≤ hexM s i ∧ hexM s i < 57344) := by
       intro h
       rw [Bool.or_eq_false_iff,Bool.and_eq_false_iff,decide_eq_false_iff_not,decide_eq_false_iff_not,decide_eq_false_iff_not] at e2
       omega
     rw [if_neg (by omega),if_neg (by omega)] at hok
     have en : hexM s i = (((hexM s i).toNat : Nat) : Int) := by omega
     rw [en]
     exact hok _ _ rfl _ _ (by omega) rfl h5 hc5
theorem quoted_p {w : World} {p i c : Nat} {s : Str} {K : Value → World → Prop} (h : Rdr w p s i c) (hT : TabU w) (hE : TabE w) (hi : i < s.length) (hs : s.length ≤ 1000000)
   (hok : ∀ t j c',quotM En s i c = .ok t j c' → ∀ w',Rdr w' p s j c' → Chg (Cr p) w w' → K (str t) w') (hbad : ∀ e j,quotM En s i c = .bad e j → Thr w p e j) :
   callF Tryz.prog 96 [.pointer (some ⟨p,0,none⟩)] w K := by
 refine W96_ok ?_
 unfold W96
 have hplt := h.lt
 refine h.ld rfl ?_
 refine h.go (k := 1) (by omega) fun w1 h1 hc1 hz1 => ?_
 refine bnew (B := w1.heap.size) (Nat.le_refl _) fun b w2 hb hB2 hx2 => ?_
 have h2 := h1.ext hx2
 have hc2 := hc1.then hx2 fun _ _ e => e.elim
 have hbB := hB2.base
 generalize hBB : w1.heap.size = B at *
 have hpB : p < B := by omega
 -- what a builder's write leaves
 have keepR : ∀ {w' w'' : World} {j : Nat},Chg (BCh w' B b) w' w'' → Rdr w' p s j c → Rdr w'' p s j c := fun hc h => BCh.keep hc h (by omega) (by decide)
 have keepC : ∀ {w' w'' : World},Chg (BCh w' B b) w' w'' → Chg (Cr p) w w' → Chg (Cr p) w w'' := fun hc h => h.then hc fun k hk e => by
   rcases e with rfl | ⟨e,_⟩
   · omega
   · omega
 have keepB : ∀ {w' w'' : World} {l : Str},Chg (Cr p) w' w'' → Bld w' B b l → Bld w'' B b l := fun hc h => h.chg hc (fun e => by have e : b = p := e; omega) fun k hk e => by
   have e : k = p := e
   have := hk.1
   omega
 refine LoopW.go (fun st w' => st = [] ∧ ∃ j out n,Rdr w' p s j c ∧ Bld w' B b out ∧ Chg (Cr p) w w' ∧ B ≤ w'.heap.size ∧ j ≤ s.length ∧ out.length ≤ 4 * j ∧ s.length + 1 ≤ n + j ∧ quotGo En s i n j out c = quotM En s i c) (fun _ w' => s.length - rdAt w' p)
   ⟨rfl,i + 1,[],s.length + 1,h2,hB2,hc2,by have := hx2.size; omega,by omega,by simp,by omega,rfl⟩ ?_
 rintro st g w3 ⟨rfl,j,out,n,h3,hB3,hc3,hz3,hj,hout,hn,hq⟩
 obtain ⟨n,rfl⟩ : ∃ m,n = m + 1 := ⟨n - 1,by omega⟩
 rw [quotGo] at hq
 have hxd : ∀ w : World,Ext w w.drew := fun w => Chg.drew (Chg.refl (fun _ => False) w)
 refine JoinW.cut (fun st w' => st = [] ∧ w' = w3.drew ∧ j < s.length) ?_ ?_
 · refine h3.drew.ld rfl ?_
   refine h3.drew.ld rfl ?_
   rw [lens_str,bin_geq,condW_dec]
   refine ⟨fun e => ?_,fun e => ⟨rfl,rfl,by omega⟩⟩
   obtain rfl : j = s.length := by omega
   rw [byteM_out (Nat.le_refl _),if_neg (by decide),if_pos (by decide)] at hq
   refine h3.drew.ld rfl ?_
   rw [lens_str]
   exact fail_p ((hbad _ _ hq.symm).from (hc3.then (hxd _) fun _ _ e => e.elim))
 rintro st g2 w4 ⟨rfl,rfl,hlt⟩
 refine h3.drew.drew.ld rfl ?_
 refine h3.drew.drew.ld rfl ?_
 rw [sls_str,bd_none,bd_some]
 refine ⟨by omega,by omega,?_⟩
 simp only [Int.toNat_natCast,List.take_length]
 have hcd := (hc3.then (hxd _) fun _ _ e => e.elim).then (hxd w3.drew) fun _ _ e => e.elim
 refine decode_rune (hT.rd h hcd) hlt fun w5 hx5 => ?_
 have h5 := h3.drew.drew.ext hx5
 have hB5 : Bld w5 B b out := ((hB3.ext (hxd _)).ext (hxd _)).ext hx5
 have hc5 := hcd.then hx5 fun _ _ e => e.elim
 have hz5 : B ≤ w5.heap.size := by
   have := hx5.size
   have e : w3.drew.drew.heap.size = w3.heap.size := rfl
   omega
 have hbj := byteM_in hlt
 have hb256 := bt_lt s j
 simp only [ext_tuple]
 refine ⟨_,rfl,_,rfl,?_⟩
 -- what begins at the place
 have hrune : (runeM s j = 0 ∧ 128 ≤ bt s j ∧ Utf8.decode (ofL s) j = (65533,1)) ∨ (∃ r,RuneAt s j (runeM s j) r ∧ 1 ≤ runeM s j ∧ Utf8.decode (ofL s) j = (r,runeM s j)) := by
   by_cases h0 : runeM s j = 0
   · refine .inl ⟨h0,?_,rune_bad hlt h0⟩
     apply Nat.le_of_not_lt
     intro hl
     have : runeM s j = 1 := by
       unfold runeM
       rw [hbj]
       simp only
       rw [if_neg (by omega),if_pos (by omega)]
     omega
   · obtain ⟨r,hr⟩ := rune_good hlt h0
     exact .inr ⟨r,hr,by omega,hr.dec⟩
 generalize Utf8.decode (ofL s) j = dd at *
 obtain ⟨cr,sz⟩ := dd
 simp only at hrune ⊢
 -- a low byte is its own rune
 have low : ∀ k : Nat,k < 128 → ((cr : Int) = (k : Int) ↔ byteM s j = (k : Int)) := fun k hk => by
   rw [hbj]
   rcases hrune with ⟨_,hb,he⟩ | ⟨r,hr,hp,he⟩
   · cases he
     omega
   · cases he
     rcases Nat.lt_or_ge (runeM s j) 2 with h1 | h1
     · have := hr.low (by omega)
       omega
     · have := hr.high h1
       omega
 have low32 : ((cr : Int) < 32 ↔ byteM s j < 32) := by
   rw [hbj]
   rcases hrune with ⟨_,hb,he⟩ | ⟨r,hr,hp,he⟩
   · cases he
     omega
   · cases he
     rcases Nat.lt_or_ge (runeM s j) 2 with h1 | h1
     · have := hr.low (by omega)
       omega
     · have := hr.high h1
       omega
 have l34 : (cr : Int) = 34 ↔ byteM s j = 34 := low 34 (by omega)
 have l92 : (cr : Int) = 92 ↔ byteM s j = 92 := low 92 (by omega)
 refine JoinW.cut (fun st w' => st = [] ∧ w' = w5 ∧ byteM s j ≠ 34 ∧ byteM s j ≠ 92 ∧ ¬ byteM s j < 32 ∧ runeM s j ≠ 0) ?_ ?_
 · rw [bin_eql,condW_dec]
   refine ⟨fun e => ?_,fun n34 => ?_⟩
   · rw [if_pos (l34.1 e)] at hq
     refine h5.go (k := 1) (by omega) fun w6 h6 hc6 hz6 => ?_
     have hB6 := keepB hc6 hB5
     have hc6' := hc5.trans hc6
     refine JoinW.cut (fun st w' => st = [] ∧ w' = w6 ∧ ¬ 16384 < out.length) ?_ ?_
     · refine len_p hB6 ?_
       rw [bin_gtr,condW_dec]
       refine ⟨fun e2 => ?_,fun e2 => ⟨rfl,rfl,by omega⟩⟩
       rw [if_pos (by omega)] at hq
       exact fail_p ((hbad _ _ hq.symm).from hc6')
     rintro st g3 w7 ⟨rfl,rfl,hshort⟩
     rw [if_neg hshort] at hq
     refine string_p hB6 (by omega) fun w8 hc8 => ?_
     refine hok _ _ _ hq.symm w8 (hc8.at h6 (by omega)) (hc6'.then hc8 fun k hk e => by omega)
   rw [if_neg (fun e => n34 (l34.2 e)),if_neg (by omega)] at hq
   rw [bin_eql,condW_dec]
   refine ⟨fun e => ?_,fun n92 => ?_⟩
   · rw [if_pos (l92.1 e)] at hq
     refine escaped_p h5 (hE.rd h hc5) hlt hs (fun t k he r w6 hr ht h6 hc6 => ?_) (fun he => ?_)
     · rw [he] at hq
       simp only at hq
       have hB6 := keepB hc6 hB5
       have hc6' := hc5.trans hc6
       have hfit := escM_fits he
       have hk := (escM_rune he).2.2
       have hrn := rn_len (escM_rune he).1
       refine wrune_p hB6 (by have := hc6.size; omega) (by omega) hr fun _ w7 hB7 hc7 => ?_
       rw [ht] at hB7
       have h7 := keepR hc7 h6
       refine ⟨⟨(by first | rfl | trivial),j + k,out ++ t,n,h7,hB7,keepC hc7 hc6',by have := hc7.size; have := hc6.size; omega,hfit,by rw [List.length_append]; omega,by omega,hq⟩,?_⟩
       rw [h7.at_,h3.at_]; omega
     · rw [he] at hq
       exact (hbad _ _ hq.symm).from hc5
   rw [if_neg (fun e => n92 (l92.2 e))] at hq
   rw [bin_lss,condW_dec]
   refine ⟨fun e => ?_,fun n32 => ?_⟩
   · rw [if_pos (low32.1 e)] at hq
     refine h5.ld rfl ?_
     exact fail_p ((hbad _ _ hq.symm).from hc5)
   rw [if_neg (fun e => n32 (low32.2 e))] at hq
   rw [bin_eql]
   simp only [isB_t,bin_lss,GdW_pure]
   intro _
   simp only [List.getD_cons_zero]
   rw [pick_gd_and,condW_b]
   refine ⟨fun e => ?_,fun e => ?_⟩
   · rw [Bool.and_eq_true,decide_eq_true_iff,decide_eq_true_iff] at e
     have h0 : runeM s j = 0 := by
       rcases hrune with ⟨h0,_⟩ | ⟨r,hr,hp,he⟩
       · exact h0
       · exfalso
         cases he
         have := hr.low (by omega)
         omega
     rw [if_pos h0] at hq
     refine h5.ld rfl ?_
     exact fail_p ((hbad _ _ hq.symm).from hc5)
   · refine ⟨(by first | rfl | trivial),(by first | rfl | trivial),fun e => n34 (l34.2 e),fun e => n92 (l92.2 e),fun e => n32 (low32.2 e),fun h0 => ?_⟩
     rcases hrune with ⟨_,_,he⟩ | ⟨r,hr,hp,he⟩
     · cases he
       exact absurd e (by decide)
     · omega
 rintro st g3 w6 ⟨rfl,rfl,n34,n92,n32,hr0⟩
 rw [if_neg n34,if_neg (by omega),if_neg n92,if_neg n32,if_neg hr0] at hq
 rcases hrune with ⟨h0,_⟩ | ⟨r,hr,hp,he⟩
 · exact absurd h0 hr0
 cases he
 have hw : wrM cr = (s.drop j).take (runeM s j) := by
   rw [← wr_enc (by have := hr.val; have := hr.top; omega)]
   exact hr.bytes
 have hfit := hr.fits
 have hsm := hr.small
 refine wrune_p hB5 hz5 (by omega) (by have := hr.val; have := hr.top; omega) fun _ w7 hB7 hc7 => ?_
 rw [hw] at hB7
 have h7 := keepR hc7 h5
 have hc7' := keepC hc7 hc5
 refine h7.ld rfl ?_
 rw [bin_add,upk (by omega)]
 refine h7.st1 fun w8 h8 hc8 hz8 => ?_
 refine ⟨⟨(by first | rfl | trivial),j + runeM s j,_,n,h8,keepB hc8 hB7,hc7'.trans hc8,by have := hc8.size; have := hc7.size; omega,hfit,?_,by omega,hq⟩,?_⟩
 · rw [List.length_append,List.length_take,List.length_drop]; omega
 · rw [h8.at_,h3.at_]; omega
end
end Go.Proofs.YtpiaegojabkioaaGreatDoor
