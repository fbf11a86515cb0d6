/- One plain sentence: weakest preconditions, contracts and plain laws that the claim rests on, text behind text. Conditions: those that each states. -/
import Derived.Test.YtnoepcndjljolaaGreatDoorMY1
import Derived.Lib.ItoaNum
import Derived.Test.YtnoepcndjljolaaGreatDoorProg
import Derived.Shelf.Strings.Builder1
import Derived.Shelf.Small.Utf8
import Derived.Shelf.Strings.BuilderRune
import Derived.Shelf.Strconv.Itoa0
import Derived.Shelf.Strconv.Itoa1
import Derived.Shelf.Strconv.Itoa2
import Derived.Shelf.Strconv.Itoa4
import Derived.Shelf.Strings.Search2
import Derived.Shelf.Strings.Search3
import Derived.Shelf.Strings.Cut
import Derived.Shelf.Strings.Shaped
import Derived.Shelf.Sort.Plain
import Derived.Shelf.Strings.LastIndex
import Derived.Shelf.Strings.Runes
import Derived.Shelf.Strings.IndexAny
import Derived.Shelf.Strings.AsciiSet
import Derived.Shelf.Strings.IndexAnyAll
import Derived.Shelf.Unicode.DecodeSlow
import Derived.Shelf.Slices.Clone
import Derived.Shelf.Slices.CompactS
import Derived.Shelf.Strings.BuilderF
import Derived.Shelf.Strings.BuilderK
import Derived.Shelf.Small.Bits
import Derived.Shelf.Strconv.Atoi
import Derived.Shelf.Strconv.AtoiFail
import Derived.Shelf.Strconv.ParseInt10
import Derived.Shelf.Small.Wraps
import Derived.Shelf.Strconv.Itoa3
import Derived.Shelf.Pu.ParseUintPublic10
import Derived.Shelf.Strconv.ToErrorRange
import Derived.Shelf.Strconv.ToError
import Derived.Shelf.Strings.Count
import Derived.Shelf.Strings.Prefix
import Derived.Shelf.Small.Strs
import Derived.Shelf.Strconv.Clone
import Derived.Shelf.Strings.Search1
import Derived.Shelf.Unicode.DecodeAny
import Derived.Shelf.Unicode.ValidAny
import Derived.Shelf.Strings.BuilderX
import Derived.Shelf.Lays
import Derived.Shelf.LaysC
import Derived.Shelf.LaysM
import Derived.Shelf.Pu.Lays
import Derived.Ground.MpProg
import Derived.Ground.Names2Prog
import Derived.Ground.SlgnProg
import Derived.Lib.ConvBytes
import Derived.Lib.ParseIntBCases
import Derived.Lib.Builder
import Derived.ProofKit
import Derived.WalkKit
import Derived.Lib.AppendStr
import Derived.Lib.RuneBytes
set_option linter.all false
set_option linter.unusedSimpArgs false
set_option linter.unusedVariables false
set_option linter.unusedSectionVars false
namespace Go.Eng
open Go Go.Num
def lsum:List JV → Nat
 | []=>0
 | x :: l=>(showM x).length + 1 + lsum l
def osum:List (Str × JV) → Nat
 | []=>0
 | (k,x) :: l=>(quoteM k).length + (showM x).length + 2 + osum l
def cntP:List (Str × JV) → Nat
 | []=>0
 | (_,x) :: l=>cntM x + cntP l
theorem join_two (x y:Str) (r:List Str):joinM (x :: y :: r) = x ++ [44] ++ joinM (y :: r):=rfl
theorem lsum_join:∀ (xs:List JV),xs ≠ [] → (joinM (showL xs)).length + 1 = lsum xs
 | [],h=>absurd rfl h
 | [x],_=>by simp [showL,joinM,lsum]
 | x :: y :: r,_=>by
   have:=lsum_join (y :: r) (by simp)
   simp only [showL,join_two,lsum,List.length_append,List.length_cons,List.length_nil] at this ⊢
   omega
theorem osum_join:∀ (l:List (Str × JV)),l ≠ [] → (joinM (List.zipWith (fun a b=>quoteM a ++ [58] ++ b) (l.map (·.1)) (showL (l.map (·.2))))).length + 1 = osum l
 | [],h=>absurd rfl h
 | [(k,x)],_=>by simp [showL,joinM,osum]; omega
 | (k,x) :: (k',y) :: r,_=>by
   have:=osum_join ((k',y) :: r) (by simp)
   simp only [List.map_cons,showL,List.zipWith_cons_cons,join_two,osum,List.length_append,List.length_cons,List.length_nil] at this ⊢
   omega
theorem cntL_map:∀ (l:List (Str × JV)),cntL (l.map (·.2)) = cntP l
 | []=>rfl
 | (k,x) :: l=>by simp only [List.map_cons,cntL,cntP]; rw [cntL_map l]
theorem ins_mem {l:List (Str × JV)} {k:Str} {t:JV}:∀ p,p ∈ insP l k t ↔ p = (k,t) ∨ p ∈ l:=by
 induction l with
 | nil=>intro p; simp [insP]
 | cons q r ih=>
   obtain ⟨a,y⟩:=q
   intro p
   simp only [insP]
   split
   · rw [List.mem_cons]
   · rw [List.mem_cons,ih p,List.mem_cons]
     constructor
     · rintro (h | h | h)
       · exact .inr (.inl h)
       · exact .inl h
       · exact .inr (.inr h)
     · rintro (h | h | h)
       · exact .inr (.inl h)
       · exact .inl h
       · exact .inr (.inr h)
theorem ins_osum (l:List (Str × JV)) (k:Str) (x:JV):osum (insP l k x) = (quoteM k).length + (showM x).length + 2 + osum l:=by
 induction l with
 | nil=>rfl
 | cons q r ih=>
   obtain ⟨a,y⟩:=q
   simp only [insP]
   split
   · rfl
   · simp only [osum,ih]; omega
theorem ins_cnt (l:List (Str × JV)) (k:Str) (x:JV):cntP (insP l k x) = cntM x + cntP l:=by
 induction l with
 | nil=>rfl
 | cons q r ih=>
   obtain ⟨a,y⟩:=q
   simp only [insP]
   split
   · rfl
   · simp only [cntP,ih]; omega
theorem ins_len (l:List (Str × JV)) (k:Str) (x:JV):(insP l k x).length = l.length + 1:=by
 induction l with
 | nil=>rfl
 | cons q r ih=>
   obtain ⟨a,y⟩:=q
   simp only [insP]
   split
   · rfl
   · simp only [List.length_cons,ih]
theorem rise_ins {l:List (Str × JV)} {k:Str} {x:JV} (h:Rise (l.map (·.1))) (hk:k ∉ l.map (·.1)):Rise ((insP l k x).map (·.1)):=by
 induction l with
 | nil=>exact List.pairwise_singleton _ _
 | cons q r ih=>
   obtain ⟨a,y⟩:=q
   simp only [List.map_cons] at h hk
   have hp:=List.pairwise_cons.1 h
   simp only [insP]
   split
   · rename_i hlt
     simp only [List.map_cons]
     refine List.Pairwise.cons (fun c hc=>?_) h
     rcases List.mem_cons.1 hc with rfl | hc
     · exact hlt
     · exact less_trans hlt (hp.1 c hc)
   · rename_i hlt
     have hka:k ≠ a:=fun e=>hk (by rw [e]; exact List.mem_cons_self)
     have hak:Op.bytesLess a k = true:=by
       rcases less_tri k a with h | h | h
       · exact absurd h hlt
       · exact absurd h hka
       · exact h
     simp only [List.map_cons]
     refine List.Pairwise.cons (fun c hc=>?_) (ih hp.2 fun h=>hk (List.mem_cons_of_mem _ h))
     obtain ⟨p,hp1,rfl⟩:=List.mem_map.1 hc
     rcases (ins_mem p).1 hp1 with rfl | hp1
     · exact hak
     · exact hp.1 _ (List.mem_map.2 ⟨p,hp1,rfl⟩)
theorem rise_ok:∀ {ks:List Str},Rise ks → (∀ k ∈ ks,k.length ≤ 16384) → keysOk ks = true
 | [],_,_=>rfl
 | [a],_,h=>by simpa [keysOk] using h a (by simp)
 | a :: b :: r,hr,h=>by
   have hp:=List.pairwise_cons.1 hr
   have ih:=rise_ok (ks:=b :: r) hp.2 fun k hk=>h k (List.mem_cons_of_mem _ hk)
   simp only [keysOk]
   rw [decide_eq_true (h a (by simp)),hp.1 b (by simp),ih]; rfl
theorem zip_maps (l:List (Str × JV)):(l.map (·.1)).zip (l.map (·.2)) = l:=by
 induction l with
 | nil=>rfl
 | cons q r ih=>simp only [List.map_cons,List.zip_cons_cons,ih]
theorem get_none {l:List (Str × JV)} {k:Str} (h:(getM (mkO l) k).isSome = false):k ∉ l.map (·.1):=by
 intro hm
 unfold getM mkO at h
 simp only [JV.k,JV.ks,JV.xs,if_true] at h
 cases hx:idxK (l.map (·.1)) k with
 | none=>exact idxK_none.1 hx hm
 | some i=>
   rw [hx] at h
   have:=(List.getElem?_eq_some_iff.1 (idxK_spec hx)).1
   rw [List.length_map] at this
   simp [this] at h
theorem put_mkO {l:List (Str × JV)} {k:Str} {x:JV} (h:k ∉ l.map (·.1)):putM (mkO l) k x = mkO (insP l k x):=by
 unfold putM
 have e1:(mkO l).k = 6:=rfl
 have e2:(mkO l).ks = l.map (·.1):=rfl
 have e3:(mkO l).xs = l.map (·.2):=rfl
 rw [if_pos e1,e2,e3,zip_maps]
 congr 2
 unfold dropP
 rw [List.filter_eq_self]
 intro p hp
 rw [Bool.not_eq_true',decide_eq_false_iff_not]
 intro e
 exact h (List.mem_map.2 ⟨p,hp,e⟩)
structure Item (m:Nat) (y:JV):Prop where
 plain:plainM y = true
 texts:textsM y = true
 known:knownM y = true
 deep:deepM y m = true
structure ItemP (m:Nat) (p:Str × JV):Prop where
 len:p.1.length ≤ 16384
 utf:utfM p.1 = true
 item:Item m p.2
structure Back (s:Str) (deep i j cnt c:Nat) (v:JV):Prop where
 lev:deep ≤ 24
 item:Item (25 - deep) v
 cnt:c = cnt + cntM v
 max:c ≤ 2000
 len:(showM v).length + i ≤ j
 fits:j ≤ s.length
theorem textsL_all (xs:List JV):textsL xs = xs.all textsM:=by
 induction xs with
 | nil=>rfl
 | cons x xs ih=>simp [textsL,ih]
theorem item_list {m:Nat} {xs:List JV} (h:∀ y ∈ xs,Item m y):Item (m + 1) (.mk 5 false [] xs []):=by
 refine ⟨?_,?_,?_,?_⟩
 · simp only [plainM,plainL_all,Bool.and_eq_true,List.all_eq_true]
   exact ⟨by simp [headOk,keysOk],fun y hy=>(h y hy).plain⟩
 · simp only [textsM,textsL_all,Bool.and_eq_true,List.all_eq_true]
   exact ⟨⟨rfl,by simp⟩,fun y hy=>(h y hy).texts⟩
 · simp only [knownM,knownL_all,Bool.and_eq_true,List.all_eq_true]
   exact ⟨by decide,fun y hy=>(h y hy).known⟩
 · rw [deepM_succ,deepL_all,List.all_eq_true]
   exact fun y hy=>(h y hy).deep
theorem item_obj {m:Nat} {l:List (Str × JV)} (hr:Rise (l.map (·.1))) (h:∀ p ∈ l,ItemP m p):Item (m + 1) (mkO l):=by
 have hx:∀ y ∈ l.map (·.2),Item m y:=fun y hy=>by
   obtain ⟨p,hp,rfl⟩:=List.mem_map.1 hy
   exact (h p hp).item
 have hk:=rise_ok hr fun k hk=>by
   obtain ⟨p,hp,rfl⟩:=List.mem_map.1 hk
   exact (h p hp).len
 refine ⟨?_,?_,?_,?_⟩
 · simp only [mkO,plainM,plainL_all,Bool.and_eq_true,List.all_eq_true]
   exact ⟨by simp [headOk,hk],fun y hy=>(hx y hy).plain⟩
 · simp only [mkO,textsM,textsL_all,Bool.and_eq_true,List.all_eq_true]
   refine ⟨⟨rfl,fun k hk=>?_⟩,fun y hy=>(hx y hy).texts⟩
   obtain ⟨p,hp,rfl⟩:=List.mem_map.1 hk
   exact (h p hp).utf
 · simp only [mkO,knownM,knownL_all,Bool.and_eq_true,List.all_eq_true]
   exact ⟨by decide,fun y hy=>(hx y hy).known⟩
 · unfold mkO
   rw [deepM_succ,deepL_all,List.all_eq_true]
   exact fun y hy=>(hx y hy).deep
theorem ascii_utf {t:Str} (h:∀ c ∈ t,c.toNat < 128):Utf t:=by
 induction t with
 | nil=>exact .nil
 | cons c t ih=>exact Utf.cons (u:=[c]) (rn_one (h c List.mem_cons_self)) (ih fun x hx=>h x (List.mem_cons_of_mem _ hx))
theorem goodN_utf {t:Str} (h:goodN t = true):utfM t = true:=by
 obtain ⟨_,_,_,g4⟩:=goodN_out h
 rw [List.all_eq_true] at g4
 have hd:∀ c ∈ dig t,c.toNat < 128:=fun c hc=>by have:=(isDig_num (g4 c hc)).2; omega
 refine (utf_iff t).2 (ascii_utf fun c hc=>?_)
 cases t with
 | nil=>cases hc
 | cons a r=>
   by_cases h45:a = 45
   · subst h45
     have e:dig (45 :: r) = r:=by simp [dig]
     rw [e] at hd
     rcases List.mem_cons.1 hc with rfl | hc
     · decide
     · exact hd c hc
   · have e:dig (a :: r) = a :: r:=by simp [dig,h45]
     rw [e] at hd
     exact hd c hc
theorem item_leaf {k:Int} {b:Bool} {t:Str} {m:Nat} (h1:headOk k b t 0 [] = true) (h2:utfM t = true) (h3:k ≠ 1):Item (m + 1) (.mk k b t [] []):=by
 refine ⟨?_,?_,?_,?_⟩
 · simp only [plainM,plainL,Bool.and_true]; exact h1
 · simp only [textsM,textsL,List.all_nil,Bool.and_true]; exact h2
 · simp only [knownM,knownL,Bool.and_true,Bool.not_eq_true',decide_eq_false_iff_not]; exact h3
 · rw [deepM_succ]; rfl
theorem num_back {E:ErrNo} {s:Str} {i cnt j c m:Nat} {v:JV} (h:numM E s i cnt = .ok v j c):Item (m + 1) v ∧ c = cnt ∧ cntM v = 1 ∧ (showM v).length + i ≤ j ∧ j ≤ s.length:=by
 unfold numM at h
 simp only at h
 generalize hf:(if byteM s i = 45 then i + 1 else i) = first at *
 generalize hs:(if byteM s first = 48 then first + 1 else digM s first) = stop at *
 split at h
 · cases h
 split at h
 · cases h
 split at h
 · cases h
 rename_i h1 h2 h3
 obtain ⟨hg,hl,hlt⟩:=num_good hf.symm hs.symm h1 h2
 generalize ht:(s.drop i).take (stop - i) = t at *
 have htl:t.length = stop - i:=by rw [← ht,List.length_take,List.length_drop]; omega
 have hgt:goodN (if t = [45,48] then [48] else t) = true:=by
   split
   · decide
   · rename_i hne; rw [hg]; exact decide_eq_true hne
 have hlen:(if t = [45,48] then ([48]:Str) else t).length + i ≤ stop:=by
   split
   · simp; omega
   · omega
 cases h
 generalize (if t = [45,48] then ([48]:Str) else t) = u at *
 refine ⟨item_leaf (by simp [headOk,keysOk,hgt]) (goodN_utf hgt) (by decide),rfl,rfl,?_,hl⟩
 rw [showM_eq]
 simpa using hlen
set_option maxHeartbeats 1000000 in
theorem back_all (E:ErrNo) (s:Str):∀ n,
   (∀ {deep i cnt v j c},i ≤ s.length → cnt ≤ 2000 → valM E s n deep i cnt = .ok v j c → Back s deep i j cnt c v) ∧
   (∀ {deep i cnt acc v j c},i ≤ s.length → cnt ≤ 2000 → listM E s n deep i cnt acc = .ok v j c → ∃ ys,ys ≠ [] ∧ v = .mk 5 false [] (acc ++ ys) [] ∧ (∀ y ∈ ys,Item (24 - deep) y) ∧ c = cnt + cntL ys ∧ c ≤ 2000 ∧ lsum ys + i ≤ j ∧ j ≤ s.length) ∧
   (∀ {deep i cnt l v j c},i ≤ s.length → cnt ≤ 2000 → objM E s n deep i cnt (mkO l) = .ok v j c → Rise (l.map (·.1)) → (∀ p ∈ l,ItemP (24 - deep) p) →
     ∃ l',l' ≠ [] ∧ v = mkO l' ∧ Rise (l'.map (·.1)) ∧ (∀ p ∈ l',ItemP (24 - deep) p) ∧ c + cntP l = cnt + cntP l' ∧ c ≤ 2000 ∧ osum l' + i ≤ osum l + j ∧ j ≤ s.length):=by
 intro n
 induction n with
 | zero=>
   refine ⟨fun _ _ h=>?_,fun _ _ h=>?_,fun _ _ h=>?_⟩
   · rw [valM] at h; cases h
   · rw [listM] at h; cases h
   · rw [objM] at h; cases h
 | succ n ih=>
   obtain ⟨ihv,ihl,iho⟩:=ih
   refine ⟨fun {deep i cnt v j c} hi hc h=>?_,fun {deep i cnt acc v j c} hi hc h=>?_,fun {deep i cnt l v j c} hi hc h hr hp=>?_⟩
   · rw [valM] at h
     try simp only at h
     have hb1:=blank_ge s i
     have hb2:=blank_le hi
     generalize blankM s i = i' at *
     have word:∀ {w:Str},wordM s i' w = true → i' + w.length ≤ s.length:=fun {w} hw=>by
       unfold wordM at hw
       have:=congrArg List.length (of_decide_eq_true hw)
       rw [List.length_take,List.length_drop] at this
       omega
     split at h
     · cases h
     rename_i hdeep
     split at h
     · cases h
     rename_i hcnt
     have leaf:∀ {k:Int} {b:Bool} {t:Str},headOk k b t 0 [] = true → utfM t = true → k ≠ 1 → Item (25 - deep) (.mk k b t [] []):=fun h1 h2 h3=>by
       have:=item_leaf (m:=24 - deep) h1 h2 h3
       rwa [show 24 - deep + 1 = 25 - deep by omega] at this
     split at h
     · rename_i hw
       have:=word hw
       cases h
       exact ⟨by omega,leaf rfl rfl (by decide),rfl,by omega,by rw [JV.null,showM_eq]; simp; omega,by simpa using this⟩
     split at h
     · rename_i hw
       have:=word hw
       cases h
       exact ⟨by omega,leaf rfl rfl (by decide),rfl,by omega,by rw [showM_eq]; simp; omega,by simpa using this⟩
     split at h
     · rename_i hw
       have:=word hw
       cases h
       exact ⟨by omega,leaf rfl rfl (by decide),rfl,by omega,by rw [showM_eq]; simp; omega,by simpa using this⟩
     split at h
     · obtain ⟨h1,h2,h3,h4,h5⟩:=num_back (m:=24 - deep) h
       rw [show 24 - deep + 1 = 25 - deep by omega] at h1
       exact ⟨by omega,h1,by omega,by omega,by omega,h5⟩
     split at h
     · rename_i h34
       split at h
       · rename_i t j' c' hq
         cases h
         unfold quotM at hq
         obtain ⟨a1,a2,a3,a4,a5,a6⟩:=quot_back hq .nil
         have e:(showM (.mk 4 false t [] [])).length = (t.flatMap escB).length + 2:=by
           rw [showM_eq]; simp [quoteM]
         refine ⟨by omega,leaf (by simp [headOk,keysOk,a3]) ((utf_iff t).2 a2) (by decide),by rw [a1]; rfl,by omega,?_,a5⟩
         rw [e]
         simp only [List.flatMap_nil,List.length_nil,Nat.zero_add] at a6
         omega
       · cases h
     split at h
     · rename_i h91
       have hlt:=byte_lt (s:=s) (i:=i') (by omega)
       split at h
       · rename_i h93
         have hlt2:=byte_lt (s:=s) (i:=blankM s (i' + 1)) (by omega)
         have:=blank_ge s (i' + 1)
         cases h
         exact ⟨by omega,leaf rfl rfl (by decide),rfl,by omega,by rw [showM_eq]; simp [showL,joinM]; omega,by omega⟩
       · have hg:=blank_ge s (i' + 1)
         obtain ⟨ys,y1,rfl,y3,y4,y5,y6,y7⟩:=ihl (blank_le (by omega)) (by omega) h
         have hI:=item_list y3
         rw [show 24 - deep + 1 = 25 - deep by omega] at hI
         have hj:=lsum_join ys y1
         refine ⟨by omega,by simpa using hI,by simp only [List.nil_append,cntM]; omega,y5,?_,y7⟩
         rw [showM_eq]
         simp only [List.nil_append]
         simp
         omega
     split at h
     · rename_i h123
       have hlt:=byte_lt (s:=s) (i:=i') (by omega)
       split at h
       · rename_i h125
         have hlt2:=byte_lt (s:=s) (i:=blankM s (i' + 1)) (by omega)
         have:=blank_ge s (i' + 1)
         cases h
         exact ⟨by omega,leaf rfl rfl (by decide),rfl,by omega,by rw [showM_eq]; simp [showL,joinM]; omega,by omega⟩
       · have hg:=blank_ge s (i' + 1)
         obtain ⟨l',y1,rfl,y2,y3,y4,y5,y6,y7⟩:=iho (l:=[]) (blank_le (by omega)) (by omega) h List.Pairwise.nil (fun p hp=>by cases hp)
         have hI:=item_obj y2 y3
         rw [show 24 - deep + 1 = 25 - deep by omega] at hI
         have hj:=osum_join l' y1
         simp only [osum,cntP] at y4 y6
         refine ⟨by omega,hI,by simp only [mkO,cntM,cntL_map]; omega,y5,?_,y7⟩
         unfold mkO
         rw [showM_eq]
         simp
         simp at hj
         omega
     · cases h
   · rw [listM] at h
     split at h
     · cases h
     rename_i x j1 c1 hv
     obtain ⟨v1,v2,v3,v4,v5,v6⟩:=ihv hi hc hv
     rw [show 25 - (deep + 1) = 24 - deep by omega] at v2
     have hg:=blank_ge s j1
     split at h
     · rename_i h93
       have hlt:=byte_lt (s:=s) (i:=blankM s j1) (by omega)
       cases h
       refine ⟨[x],by simp,rfl,fun y hy=>by rw [List.mem_singleton.1 hy]; exact v2,by simp only [cntL]; omega,v4,by simp only [lsum]; omega,by omega⟩
     split at h
     · rename_i h44
       have hlt:=byte_lt (s:=s) (i:=blankM s j1) (by omega)
       obtain ⟨ys,y1,rfl,y3,y4,y5,y6,y7⟩:=ihl (by omega) v4 h
       refine ⟨x :: ys,by simp,by simp,fun y hy=>?_,by simp only [cntL]; omega,y5,by simp only [lsum]; omega,y7⟩
       rcases List.mem_cons.1 hy with rfl | hy
       · exact v2
       · exact y3 y hy
     · cases h
   · rw [objM] at h
     try simp only at h
     have hb1:=blank_ge s i
     have hb2:=blank_le hi
     generalize blankM s i = i' at *
     split at h
     · cases h
     rename_i h34
     split at h
     · cases h
     rename_i key j1 c1 hq
     unfold quotM at hq
     obtain ⟨a1,a2,a3,a4,a5,a6⟩:=quot_back hq .nil
     simp only [List.flatMap_nil,List.length_nil,Nat.zero_add] at a6
     have hql:(quoteM key).length = (key.flatMap escB).length + 2:=by simp [quoteM]
     split at h
     · cases h
     rename_i hget
     have hn:=get_none (by simpa using hget)
     have hg1:=blank_ge s j1
     split at h
     · cases h
     rename_i h58
     have hlt:=byte_lt (s:=s) (i:=blankM s j1) (by omega)
     split at h
     · cases h
     rename_i x j2 c2 hv
     obtain ⟨v1,v2,v3,v4,v5,v6⟩:=ihv (by omega) (by omega) hv
     rw [show 25 - (deep + 1) = 24 - deep by omega] at v2
     have hg2:=blank_ge s j2
     rw [put_mkO hn] at h
     have hr':=rise_ins (x:=x) hr hn
     have hp':∀ p ∈ insP l key x,ItemP (24 - deep) p:=fun p hpm=>by
       rcases (ins_mem p).1 hpm with rfl | hpm
       · exact ⟨a3,(utf_iff key).2 a2,v2⟩
       · exact hp p hpm
     split at h
     · rename_i h125
       have hlt2:=byte_lt (s:=s) (i:=blankM s j2) (by omega)
       cases h
       refine ⟨insP l key x,fun e=>?_,rfl,hr',hp',by rw [ins_cnt]; omega,v4,by rw [ins_osum]; omega,by omega⟩
       have:=ins_len l key x
       rw [e] at this
       simp at this
     split at h
     · rename_i h44
       have hlt2:=byte_lt (s:=s) (i:=blankM s j2) (by omega)
       obtain ⟨l',y1,rfl,y2,y3,y4,y5,y6,y7⟩:=iho (by omega) v4 h hr' hp'
       rw [ins_cnt] at y4
       rw [ins_osum] at y6
       exact ⟨l',y1,rfl,y2,y3,by omega,y5,by omega,y7⟩
     · cases h
theorem val_back {E:ErrNo} {s:Str} {n deep i cnt j c:Nat} {v:JV} (hi:i ≤ s.length) (hc:cnt ≤ 2000) (h:valM E s n deep i cnt = .ok v j c):Back s deep i j cnt c v:=(back_all E s n).1 hi hc h
end Go.Eng
namespace Go.Eng
open Go Go.Num
mutual
/-- what is written is a value's JSON -/
theorem sp_show:∀ (v:JV),plainM v = true → Sp v (showM v)
 | .mk k b t xs ks,hp=>by
   rw [plainM_eq,Bool.and_eq_true] at hp
   have hh:=headOk_out hp.1
   simp only [JV.k,JV.b,JV.t,JV.xs,JV.ks] at hh hp
   simp only [Sp]
   by_cases k5:k = 5
   · subst k5
     rw [if_pos rfl,showM_eq,if_neg (by decide),if_neg (by decide),if_neg (by decide),if_neg (by decide),if_neg (by decide)]
     by_cases hx:xs = []
     · subst hx
       exact .inl ⟨rfl,[],BL.nil,rfl⟩
     · exact .inr ⟨joinM (showL xs),spL_show xs hp.2 hx,rfl⟩
   rw [if_neg k5]
   by_cases k6:k = 6
   · subst k6
     have hl:ks.length = xs.length:=hh.2.2.2.2.2.2.2.2.1 rfl
     rw [if_pos rfl,showM_eq,if_neg (by decide),if_neg (by decide),if_neg (by decide),if_neg (by decide),if_pos rfl]
     by_cases hx:xs = []
     · subst hx
       have:ks = []:=List.eq_nil_of_length_eq_zero hl
       subst this
       exact .inl ⟨rfl,rfl,[],BL.nil,rfl⟩
     · exact .inr ⟨_,spO_show xs ks hp.2 hl hx,rfl⟩
   rw [if_neg k6]
   trivial
theorem spL_show:∀ (xs:List JV),plainL xs = true → xs ≠ [] → SpL xs (joinM (showL xs))
 | [],_,h=>absurd rfl h
 | [x],hp,_=>by
   simp only [plainL,Bool.and_eq_true] at hp
   simp only [SpL,showL,joinM]
   exact .inl ⟨trivial,[],showM x,[],BL.nil,sp_show x hp.1,BL.nil,by simp⟩
 | x :: y :: r,hp,_=>by
   rw [plainL,Bool.and_eq_true] at hp
   have ih:=spL_show (y :: r) hp.2 (by simp)
   rw [SpL]
   exact .inr ⟨[],showM x,[],joinM (showL (y :: r)),BL.nil,sp_show x hp.1,BL.nil,ih,by simp [showL,join_two]⟩
theorem spO_show:∀ (xs:List JV) (ks:List Str),plainL xs = true → ks.length = xs.length → xs ≠ [] → SpO xs ks (joinM (List.zipWith (fun a b=>quoteM a ++ [58] ++ b) ks (showL xs)))
 | [],_,_,_,h=>absurd rfl h
 | _ :: _,[],_,h,_=>by simp at h
 | [x],[k],hp,_,_=>by
   simp only [plainL,Bool.and_eq_true] at hp
   simp only [SpO,showL,List.zipWith_cons_cons,List.zipWith_nil_left,joinM]
   exact .inl ⟨trivial,trivial,[],[],[],showM x,[],BL.nil,BL.nil,BL.nil,sp_show x hp.1,BL.nil,by simp⟩
 | [x],_ :: _ :: _,_,h,_=>by simp at h
 | x :: y :: r,[k],_,h,_=>by simp at h
 | x :: y :: r,k :: k' :: ks,hp,hl,_=>by
   rw [plainL,Bool.and_eq_true] at hp
   have ih:=spO_show (y :: r) (k' :: ks) hp.2 (by simpa using hl) (by simp)
   rw [SpO]
   exact .inr ⟨[],[],[],showM x,[],_,BL.nil,BL.nil,BL.nil,sp_show x hp.1,BL.nil,ih,by simp [showL,join_two]⟩
end
theorem dec_sp {E:ErrNo} {v:JV} {a t b:Str} (hs:Sp v t) (ha:BL a) (hb:BL b) (hi:Item 24 v) (hc:cntM v ≤ 2000) (hl:(a ++ t ++ b).length ≤ 65536):∃ j,decM E (a ++ t ++ b) = .ok v j (cntM v):=by
 have h0:(a ++ t ++ b).drop 0 = a ++ t ++ b:=rfl
 have hv:=val_read (E:=E) (n:=5000) (deep:=1) (m:=24) (cnt:=0) v hs hi.plain hi.texts hi.known hi.deep (by omega) (by omega) (by omega) h0 ha (by
   have:=Stop.bl hb (r:=[]) (.inl rfl)
   rwa [List.append_nil] at this)
 have hd:(a ++ t ++ b).drop (0 + a.length + t.length) = b:=by
   have:=drop_app h0
   rwa [List.length_append,← Nat.add_assoc] at this
 have he:=blank_end hb hd
 refine ⟨0 + a.length + t.length,?_⟩
 unfold decM
 rw [if_neg (by omega),hv]
 simp only [he]
 rw [if_neg (by simp only [List.length_append]; omega),Nat.zero_add,Nat.zero_add]
theorem dec_show {E:ErrNo} {v:JV} (hi:Item 24 v) (hc:cntM v ≤ 2000) (hl:(showM v).length ≤ 65536):∃ j,decM E (showM v) = .ok v j (cntM v):=by
 have:=dec_sp (E:=E) (sp_show v hi.plain) BL.nil BL.nil hi hc (by simpa using hl)
 simpa using this
theorem dec_back {E:ErrNo} {s:Str} {v:JV} {j c:Nat} (h:decM E s = .ok v j c):Item 24 v ∧ cntM v ≤ 2000 ∧ (showM v).length ≤ s.length ∧ s.length ≤ 65536:=by
 unfold decM at h
 split at h
 · cases h
 split at h
 · cases h
 rename_i hl _ v' i' c' hv
 split at h
 · cases h
 cases h
 have hb:=val_back (Nat.zero_le _) (Nat.zero_le _) hv
 exact ⟨hb.item,by have:=hb.cnt; have:=hb.max; omega,by have:=hb.len; have:=hb.fits; omega,by omega⟩
end Go.Eng
namespace Go.Eng
open Go
def letB (c:UInt8):Bool:=(decide (97 ≤ c.toNat) && decide (c.toNat ≤ 122)) || (decide (65 ≤ c.toNat) && decide (c.toNat ≤ 90)) || decide (c.toNat = 95)
def nmB (c:UInt8):Bool:=letB c || (decide (48 ≤ c.toNat) && decide (c.toNat ≤ 57)) || decide (c.toNat = 45)
def nameM:Str → Bool
 | []=>false
 | c :: r=>letB c && r.all nmB && decide (r.length < 32)
structure AV where
 mods:List Str
 typ:Str
 nm:Str
 kind:Int
 num:Int
 key:Str
 aside:Bool
def AV.zero:AV:=⟨[],[],[],0,0,[],false⟩
def goodAd (a:AV):Bool:=
 decide (a.mods.length ≤ 4) && nameM a.typ && nameM a.nm && a.mods.all nameM &&
 (if a.kind = 0 then decide (a.num = 0) && decide (a.key = []) else if a.kind = 1 then decide (0 ≤ a.num) && decide (a.num ≤ 1000000000) && decide (a.key = [])
  else decide (a.kind = 2) && decide (a.num = 0) && utfM a.key && decide (a.key.length ≤ 16384) && decide ((quoteM a.key).length ≤ 65536))
def headA (a:AV):Str:=a.mods.flatMap (fun m=>m ++ [47]) ++ a.typ ++ [46] ++ a.nm
def brA (a:AV):Str:=if a.kind = 1 then [91] ++ Lib.itoa a.num ++ [93] else if a.kind = 2 then [91] ++ quoteM a.key ++ [93] else []
def showA (a:AV):Str:=headA a ++ brA a ++ (if a.aside then [126] else [])
def cmpA (a b:AV):Int:=
 orI (cmpKs a.mods b.mods) (orI (cmpB a.typ b.typ) (orI (cmpB a.nm b.nm) (orI (cmpI a.kind b.kind) (orI (cmpI a.num b.num) (orI (cmpB a.key b.key) (cmpI (truthI a.aside) (truthI b.aside)))))))
structure Lin {α:Type} (c:α → α → Int):Prop where
 zero:∀ a b,c a b = 0 ↔ a = b
 anti:∀ a b,c b a = - c a b
 trans:∀ a b d,c a b ≤ 0 → c b d ≤ 0 → c a d ≤ 0
theorem orI_le (x y:Int):orI x y ≤ 0 ↔ x < 0 ∨ (x = 0 ∧ y ≤ 0):=by
 unfold orI
 split <;> omega
theorem orI_neg (x y:Int):orI (-x) (-y) = - orI x y:=by
 unfold orI
 split <;> split <;> omega
theorem Lin.lex {α β γ:Type} {c1:α → α → Int} {c2:β → β → Int} (f:γ → α) (g:γ → β) (hfg:∀ a b,f a = f b → g a = g b → a = b) (h1:Lin c1) (h2:Lin c2):Lin (fun a b=>orI (c1 (f a) (f b)) (c2 (g a) (g b))) where
 zero a b:=by
   rw [orI_zero,h1.zero,h2.zero]
   exact ⟨fun ⟨x,y⟩=>hfg a b x y,fun e=>by rw [e]; exact ⟨rfl,rfl⟩⟩
 anti a b:=by
   rw [h1.anti (f a) (f b),h2.anti (g a) (g b),orI_neg]
 trans a b d h k:=by
   rw [orI_le] at h k ⊢
   rcases h with h | ⟨h,h'⟩
   · rcases k with k | ⟨k,k'⟩
     · have:=h1.trans _ _ _ (by omega:c1 (f a) (f b) ≤ 0) (by omega:c1 (f b) (f d) ≤ 0)
       rcases Int.lt_or_eq_of_le this with h3 | h3
       · exact .inl h3
       · have e:=(h1.zero _ _).1 h3
         rw [← e,h1.anti] at k
         omega
     · rw [(h1.zero _ _).1 k] at h
       exact .inl h
   · have e:=(h1.zero _ _).1 h
     rw [e]
     rcases k with k | ⟨k,k'⟩
     · exact .inl k
     · exact .inr ⟨k,h2.trans _ _ _ h' k'⟩
theorem Lin.of {α β:Type} {c:β → β → Int} (f:α → β) (hf:∀ a b,f a = f b → a = b) (h:Lin c):Lin (fun a b=>c (f a) (f b)) where
 zero a b:=by rw [h.zero]; exact ⟨hf a b,fun e=>by rw [e]⟩
 anti a b:=h.anti _ _
 trans a b d:=h.trans _ _ _
theorem lin_int:Lin cmpI where
 zero:=cmpI_zero
 anti a b:=by unfold cmpI; split <;> split <;> (try split) <;> omega
 trans a b d:=by unfold cmpI; split <;> split <;> (try split) <;> (try split) <;> (try split) <;> (try split) <;> omega
theorem cmpB_le (a b:Str):cmpB a b ≤ 0 ↔ Op.bytesLess b a = false:=by
 unfold cmpB
 constructor
 · intro h
   by_cases h1:Op.bytesLess a b = true
   · exact less_anti h1
   · rw [if_neg h1] at h
     by_cases h2:a = b
     · rw [h2]; exact less_irr b
     · rw [if_neg h2] at h; omega
 · intro h
   rcases less_tri a b with h1 | h1 | h1
   · rw [if_pos h1]; omega
   · rw [h1,if_neg (by rw [less_irr]; simp),if_pos rfl]; omega
   · rw [h1] at h; cases h
theorem lin_str:Lin cmpB where
 zero:=cmpB_zero
 anti a b:=by
   unfold cmpB
   rcases less_tri a b with h | h | h
   · rw [if_neg (by rw [less_anti h]; simp),if_pos h,if_neg (fun e=>by rw [e,less_irr] at h; cases h)]; omega
   · rw [h,if_neg (by rw [less_irr]; simp),if_pos rfl]; omega
   · rw [if_pos h,if_neg (by rw [less_anti h]; simp),if_neg (fun e=>by rw [e,less_irr] at h; cases h)]
 trans a b d h k:=by
   rw [cmpB_le] at h k ⊢
   cases hx:Op.bytesLess d a with
   | false=>rfl
   | true=>
     rcases less_tri b d with h1 | h1 | h1
     · rw [less_trans h1 hx] at h; cases h
     · rw [h1,hx] at h; cases h
     · rw [h1] at k; cases k
theorem lin_strs:Lin cmpKs where
 zero:=cmpKs_zero
 anti:=by
   intro a
   induction a with
   | nil=>intro b; cases b <;> simp [cmpKs]
   | cons x a ih=>
     intro b
     cases b with
     | nil=>simp [cmpKs]
     | cons y b=>simp only [cmpKs]; rw [lin_str.anti x y,ih b,orI_neg]
 trans:=by
   intro a
   induction a with
   | nil=>intro b d h k; cases d <;> simp [cmpKs]
   | cons x a ih=>
     intro b d h k
     cases b with
     | nil=>simp [cmpKs] at h
     | cons y b=>
       cases d with
       | nil=>simp [cmpKs] at k
       | cons z d=>
         simp only [cmpKs,orI_le] at h k ⊢
         rcases h with h | ⟨h,h'⟩
         · rcases k with k | ⟨k,k'⟩
           · have:=lin_str.trans x y z (by omega) (by omega)
             rcases Int.lt_or_eq_of_le this with h3 | h3
             · exact .inl h3
             · have e:=(lin_str.zero _ _).1 h3
               rw [← e,lin_str.anti] at k
               omega
           · rw [(lin_str.zero _ _).1 k] at h
             exact .inl h
         · rw [(lin_str.zero _ _).1 h]
           rcases k with k | ⟨k,k'⟩
           · exact .inl k
           · exact .inr ⟨k,ih _ _ h' k'⟩
theorem lin_bool:Lin (fun a b=>cmpI (truthI a) (truthI b)):=Lin.of truthI (fun a b h=>by cases a <;> cases b <;> first | rfl | (exact absurd h (by decide))) lin_int
theorem lin_addr:Lin cmpA:=by
 have h6:=Lin.lex (γ:=Str × Bool) (·.1) (·.2) (fun a b h k=>Prod.ext h k) lin_str lin_bool
 have h5:=Lin.lex (γ:=Int × (Str × Bool)) (·.1) (·.2) (fun a b h k=>Prod.ext h k) lin_int h6
 have h4:=Lin.lex (γ:=Int × (Int × (Str × Bool))) (·.1) (·.2) (fun a b h k=>Prod.ext h k) lin_int h5
 have h3:=Lin.lex (γ:=Str × (Int × (Int × (Str × Bool)))) (·.1) (·.2) (fun a b h k=>Prod.ext h k) lin_str h4
 have h2:=Lin.lex (γ:=Str × (Str × (Int × (Int × (Str × Bool))))) (·.1) (·.2) (fun a b h k=>Prod.ext h k) lin_str h3
 have h1:=Lin.lex (γ:=List Str × (Str × (Str × (Int × (Int × (Str × Bool)))))) (·.1) (·.2) (fun a b h k=>Prod.ext h k) lin_strs h2
 exact Lin.of (fun a:AV=>(a.mods,(a.typ,(a.nm,(a.kind,(a.num,(a.key,a.aside))))))) (fun a b h=>by
   cases a; cases b; simp only [Prod.mk.injEq] at h; obtain ⟨rfl,rfl,rfl,rfl,rfl,rfl,rfl⟩:=h; rfl) h1
end Go.Eng
namespace Go.Eng
open Go
set_option maxRecDepth 100000
def splitM (c:UInt8):Str → List Str
 | []=>[[]]
 | x :: r=>if x = c then [] :: splitM c r else (match splitM c r with | []=>[[x]] | h :: t=>(x :: h) :: t)
theorem split_ne (c:UInt8) (s:Str):splitM c s ≠ []:=by
 cases s with
 | nil=>simp [splitM]
 | cons x r=>
   rw [splitM]
   split
   · simp
   · split <;> simp
theorem split_none {c:UInt8}:∀ {l:Str},(∀ x ∈ l,x ≠ c) → splitM c l = [l]
 | [],_=>rfl
 | x :: l,h=>by rw [splitM,if_neg (h x (by simp)),split_none fun y hy=>h y (by simp [hy])]
theorem split_app {c:UInt8} {r:Str}:∀ {l:Str},(∀ x ∈ l,x ≠ c) → splitM c (l ++ c :: r) = l :: splitM c r
 | [],_=>by rw [List.nil_append,splitM,if_pos rfl]
 | x :: l,h=>by rw [List.cons_append,splitM,if_neg (h x (by simp)),split_app fun y hy=>h y (by simp [hy])]
theorem split_count (c:UInt8):∀ s:Str,(splitM c s).length = s.count c + 1
 | []=>rfl
 | x :: r=>by
   rw [splitM]
   by_cases h:x = c
   · subst h
     rw [if_pos rfl,List.length_cons,split_count x r,List.count_cons_self]
   · rw [if_neg h,List.count_cons_of_ne (by simpa using h)]
     have:=split_count c r
     cases hs:splitM c r with
     | nil=>exact absurd hs (split_ne c r)
     | cons a t=>rw [hs] at this; simpa using this
theorem name_out {s:Str} (h:nameM s = true):s ≠ [] ∧ s.length ≤ 32 ∧ ∀ c ∈ s,nmB c = true:=by
 cases s with
 | nil=>cases h
 | cons c r=>
   simp only [nameM,Bool.and_eq_true,List.all_eq_true,decide_eq_true_eq] at h
   refine ⟨by simp,by rw [List.length_cons]; omega,fun x hx=>?_⟩
   rcases List.mem_cons.1 hx with rfl | hx
   · unfold nmB; rw [h.1.1]; rfl
   · exact h.1.2 x hx
theorem nm_not {c:UInt8} (h:nmB c = true):c ≠ 46 ∧ c ≠ 47 ∧ c ≠ 91 ∧ c ≠ 93 ∧ c ≠ 126:=by
 refine ⟨?_,?_,?_,?_,?_⟩ <;> (rintro rfl; exact absurd h (by decide))
theorem good_out {a:AV} (h:goodAd a = true):a.mods.length ≤ 4 ∧ nameM a.typ = true ∧ nameM a.nm = true ∧ (∀ m ∈ a.mods,nameM m = true) ∧
   ((a.kind = 0 ∧ a.num = 0 ∧ a.key = [] ∧ brA a = []) ∨ (a.kind = 1 ∧ 0 ≤ a.num ∧ a.num ≤ 1000000000 ∧ a.key = [] ∧ brA a = 91 :: (Lib.itoa a.num ++ [93])) ∨
    (a.kind = 2 ∧ a.num = 0 ∧ utfM a.key = true ∧ a.key.length ≤ 16384 ∧ (quoteM a.key).length ≤ 65536 ∧ brA a = 91 :: (quoteM a.key ++ [93]))):=by
 unfold goodAd at h
 simp only [Bool.and_eq_true,decide_eq_true_eq,List.all_eq_true] at h
 obtain ⟨⟨⟨⟨h1,h2⟩,h3⟩,h4⟩,h5⟩:=h
 refine ⟨h1,h2,h3,h4,?_⟩
 unfold brA
 split at h5
 · rename_i e
   simp only [Bool.and_eq_true,decide_eq_true_eq] at h5
   exact .inl ⟨e,h5.1,h5.2,by rw [if_neg (by omega),if_neg (by omega)]⟩
 · split at h5
   · rename_i e
     simp only [Bool.and_eq_true,decide_eq_true_eq] at h5
     exact .inr (.inl ⟨e,h5.1.1,h5.1.2,h5.2,by rw [if_pos e]; simp⟩)
   · rename_i e0 e
     simp only [Bool.and_eq_true,decide_eq_true_eq] at h5
     exact .inr (.inr ⟨h5.1.1.1.1,h5.1.1.1.2,h5.1.1.2,h5.1.2,h5.2,by rw [if_neg e,if_pos h5.1.1.1.1]; simp⟩)
theorem head_mem {a:AV} (hg:goodAd a = true) {c:UInt8} (hc:c ∈ headA a):c ≠ 91 ∧ c ≠ 126:=by
 obtain ⟨_,h2,h3,h4,_⟩:=good_out hg
 unfold headA at hc
 simp only [List.mem_append,List.mem_flatMap,List.mem_singleton] at hc
 rcases hc with ((⟨m,hm,hc | rfl⟩ | hc) | rfl) | hc
 · have:=nm_not ((name_out (h4 m hm)).2.2 c hc)
   exact ⟨this.2.2.1,this.2.2.2.2⟩
 · decide
 · have:=nm_not ((name_out h2).2.2 c hc)
   exact ⟨this.2.2.1,this.2.2.2.2⟩
 · decide
 · have:=nm_not ((name_out h3).2.2 c hc)
   exact ⟨this.2.2.1,this.2.2.2.2⟩
theorem last_no {a:AV} (hg:goodAd a = true) (l:Str):headA a ++ brA a ≠ l ++ [126]:=by
 intro h
 have hl:(headA a ++ brA a).getLast? = some 126:=by rw [h]; simp
 rcases (good_out hg).2.2.2.2 with ⟨_,_,_,hb⟩ | ⟨_,_,_,_,hb⟩ | ⟨_,_,_,_,_,hb⟩
 · rw [hb,List.append_nil] at hl
   exact (head_mem hg (List.mem_of_getLast? hl)).2 rfl
 · rw [hb] at hl
   simp [List.getLast?_append,List.getLast?_cons] at hl
 · rw [hb] at hl
   simp [List.getLast?_append,List.getLast?_cons] at hl
theorem show_aside (a:AV):(a.aside = true ∧ showA a = (headA a ++ brA a) ++ [126]) ∨ (a.aside = false ∧ showA a = headA a ++ brA a):=by
 unfold showA
 cases a.aside with
 | true=>exact .inl ⟨rfl,by simp⟩
 | false=>exact .inr ⟨rfl,by simp⟩
theorem split_head {a:AV} (hg:goodAd a = true):splitM 47 (headA a) = a.mods ++ [a.typ ++ 46 :: a.nm]:=by
 obtain ⟨_,h2,h3,h4,_⟩:=good_out hg
 have key:∀ ms:List Str,(∀ m ∈ ms,nameM m = true) → splitM 47 (ms.flatMap (fun m=>m ++ [47]) ++ (a.typ ++ 46 :: a.nm)) = ms ++ [a.typ ++ 46 :: a.nm]:=by
   intro ms
   induction ms with
   | nil=>
     intro _
     simp only [List.flatMap_nil,List.nil_append]
     refine split_none fun x hx=>?_
     simp only [List.mem_append,List.mem_cons] at hx
     rcases hx with hx | rfl | hx
     · exact (nm_not ((name_out h2).2.2 x hx)).2.1
     · decide
     · exact (nm_not ((name_out h3).2.2 x hx)).2.1
   | cons m ms ih=>
     intro hm
     have e:(m :: ms).flatMap (fun m=>m ++ [47]) ++ (a.typ ++ 46 :: a.nm) = m ++ 47 :: (ms.flatMap (fun m=>m ++ [47]) ++ (a.typ ++ 46 :: a.nm)):=by simp
     rw [e,split_app fun x hx=>(nm_not ((name_out (hm m (by simp))).2.2 x hx)).2.1,ih fun x hx=>hm x (by simp [hx])]
     rfl
 have e:headA a = a.mods.flatMap (fun m=>m ++ [47]) ++ (a.typ ++ 46 :: a.nm):=by unfold headA; simp
 rw [e]
 exact key _ h4
theorem typ_not {a:AV} (hg:goodAd a = true):(46:UInt8) ∉ a.typ:=fun h=>(nm_not ((name_out (good_out hg).2.1).2.2 46 h)).1 rfl
theorem decD_all:∀ (n u:Nat),u < n → (Lib.decDigits u).all Num.isDig = true ∧ (Lib.decDigits u) ≠ [] ∧ ((Lib.decDigits u).head? = some 48 → u = 0):=by
 intro n
 induction n with
 | zero=>intro u h; omega
 | succ n ih=>
   intro u h
   rw [Lib.decDigits]
   have hd:∀ k,k < 10 → Num.isDig (UInt8.ofNat (48 + k)) = true:=by
     intro k hk
     have:∀ k:Fin 10,Num.isDig (UInt8.ofNat (48 + k.val)) = true:=by decide
     exact this ⟨k,hk⟩
   split
   · rename_i h10
     refine ⟨by rw [List.all_cons,hd u h10]; rfl,by simp,fun e=>?_⟩
     have:∀ k:Fin 10,([UInt8.ofNat (48 + k.val)].head? = some 48) → k.val = 0:=by decide
     exact this ⟨u,h10⟩ e
   · have hi:=ih (u / 10) (by omega)
     refine ⟨by rw [List.all_append,hi.1,List.all_cons,hd (u % 10) (by omega)]; rfl,by simp,fun e=>?_⟩
     have e:(Lib.decDigits (u / 10)).head? = some 48:=by
       cases hq:Lib.decDigits (u / 10) with
       | nil=>exact absurd hq hi.2.1
       | cons x y=>rw [hq] at e; simpa using e
     have:=hi.2.2 e
     omega
theorem decD_len:∀ (k u:Nat),u < 10 ^ k → 1 ≤ k → (Lib.decDigits u).length ≤ k:=by
 intro k
 induction k with
 | zero=>intro u _ h; omega
 | succ k ih=>
   intro u h _
   rw [Lib.decDigits]
   split
   · simp
   · have:=ih (u / 10) (by rw [Nat.pow_succ] at h; omega) (by
       rcases Nat.eq_zero_or_pos k with rfl | h0
       · simp at h; omega
       · exact h0)
     rw [List.length_append,List.length_singleton]; omega
theorem itoa_pos {n:Int} (h:0 ≤ n):Lib.itoa n = Lib.decDigits n.toNat:=by unfold Lib.itoa; rw [if_neg (by omega)]
theorem itoa_good {n:Int} (h0:0 ≤ n) (h1:n ≤ 1000000000):Num.goodN (Lib.itoa n) = true ∧ (Lib.itoa n).length ≤ 10 ∧ (Lib.itoa n).head? ≠ some 45:=by
 rw [itoa_pos h0]
 obtain ⟨a1,a2,a3⟩:=decD_all _ n.toNat (Nat.lt_succ_self _)
 have hl:=decD_len 10 n.toNat (by omega) (by omega)
 have hz:n.toNat = 0 → Lib.decDigits n.toNat = [48]:=fun e=>by rw [e,Lib.decDigits,dif_pos (by decide)]; rfl
 cases hd:Lib.decDigits n.toNat with
 | nil=>exact absurd hd a2
 | cons c r=>
   rw [hd] at a1 a3 hl
   have hc:Num.isDig c = true:=by simp only [List.all_cons,Bool.and_eq_true] at a1; exact a1.1
   have h45:c ≠ 45:=by rintro rfl; exact absurd hc (by decide)
   have edig:Num.dig (c :: r) = c :: r:=by simp [Num.dig,h45]
   refine ⟨?_,hl,by simp [h45]⟩
   unfold Num.goodN
   rw [edig,a1]
   simp only [Bool.and_eq_true,Bool.and_true,decide_eq_true_eq,Bool.or_eq_true,Bool.not_eq_true',List.head?_cons,List.length_cons] at hl ⊢
   refine ⟨⟨by omega,by omega⟩,?_⟩
   by_cases h48:c = 48
   · right
     have:=hz (a3 (by rw [h48]; rfl))
     rw [hd] at this
     exact this
   · left
     simpa using h48
theorem dec_num {E:ErrNo} {n:Int} (h0:0 ≤ n) (h1:n ≤ 1000000000):∃ j c,decM E (Lib.itoa n) = .ok (.mk 3 false (Lib.itoa n) [] []) j c:=by
 obtain ⟨g1,g2,_⟩:=itoa_good h0 h1
 have hi:Item 24 (.mk 3 false (Lib.itoa n) [] []):=by
   have hu:utfM (Lib.itoa n) = true:=goodN_utf g1
   refine ⟨?_,?_,rfl,rfl⟩
   · simp [plainM,plainL,headOk,g1,keysOk]
   · simp [textsM,textsL,hu]
 obtain ⟨j,hd⟩:=dec_show (E:=E) hi (by simp [cntM,cntL]) (by show (Lib.itoa n).length ≤ _; omega)
 exact ⟨j,_,hd⟩
theorem dec_key {E:ErrNo} {k:Str} (hu:utfM k = true) (hl:k.length ≤ 16384) (hq:(quoteM k).length ≤ 65536):∃ j c,decM E (quoteM k) = .ok (.mk 4 false k [] []) j c:=by
 have hi:Item 24 (.mk 4 false k [] []):=by
   refine ⟨?_,?_,rfl,rfl⟩
   · simp [plainM,plainL,headOk,hl,keysOk]
   · simp [textsM,textsL,hu]
 obtain ⟨j,hd⟩:=dec_show (E:=E) hi (by simp [cntM,cntL]) hq
 exact ⟨j,_,hd⟩
end Go.Eng
namespace Go.Eng
open Go
theorem append_own3 {P:Program} {t e T:TypeId} {size bytes:Nat} (hT:ElemT P t e size bytes) {w:World} {base:Nat} {v x:Value} {n m:Nat} {xs news:List Value} {ty:TypeId} {K:Value → World → Prop}
   (hown:Own w base e size v n xs) (hx:SlAt w T x m news) (hl:news.length = m * size) (h1:∀ u ∈ news,one1 u = true) (hlen:n + m ≤ 4611686018427387904) (hb:(n + m) * bytes ≤ 140737488355328) (hbase:base ≤ w.heap.size)
   (hK:∀ v' w',Own w' base e size v' (n + m) (xs ++ news) → Chg (fun k=>v.ownBlock = some k) w w' → (∀ k,v'.ownBlock = some k → v.ownBlock = some k ∨ w.heap.size ≤ k) → K v' w') :
   semE P (Builtin.append_ #[t,t] ty #[v,x]) w K:=by
 obtain ⟨i,z,hi,hz,h2,h3,h4⟩:=hT.get
 have hsame:∀ {K':Value → World → Prop},semE P (Builtin.append_ #[t,t] ty #[v,x]) w K' → ∃ v' w',(Builtin.append_ #[t,t] ty #[v,x]).run P w = .ok v' w' ∧ K' v' w':=by
   intro K' h
   unfold semE at h
   split at h
   · rename_i v' w' hr; exact ⟨v',w',hr,h⟩
   · exact h.elim
 obtain ⟨v1,w1,hr1,hO1,hc1,hn1⟩:=hsame (append_own2 hT hown hx hl h1 hlen hb hbase fun v' w' a b c=>(⟨a,b,c⟩:Own w' base e size v' (n + m) (xs ++ news) ∧ Chg (fun k=>v.ownBlock = some k) w w' ∧ (v' = .slice none 0 0 ↔ v = .slice none 0 0 ∧ m = 0)))
 unfold semE
 rw [hr1]
 refine hK v1 w1 hO1 hc1 ?_
 obtain ⟨hl',⟨rfl,rfl⟩ | ⟨g,cap,cur,rfl,hbg,hg,hnc,hcm,hcs,htake⟩⟩:=hown
 · have hnil:xs = []:=List.eq_nil_of_length_eq_zero (by simpa using hl')
   subst hnil
   obtain ⟨v2,w2,hr2,hO2⟩:=hsame (append_own2 hT (base:=w.heap.size) (show Own w w.heap.size e size (.slice none 0 0) 0 [] from ⟨by simp,.inl ⟨rfl,rfl⟩⟩) hx hl h1 hlen hb (Nat.le_refl _) fun v' w' a _ _=>a)
   rw [hr1] at hr2
   cases hr2
   intro k hk
   exact .inr (hO2.block k hk).1
 · obtain ⟨p,c,rfl,_,hpn,hcells⟩:=hx
   cases p with
   | none=>
     obtain ⟨rfl,rfl⟩:=hpn rfl
     intro k hk
     have hn:news = []:=List.eq_nil_of_length_eq_zero (by simpa using hl)
     subst hn
     have hr:(Builtin.append_ #[t,t] ty #[.slice (some ⟨g,0,none⟩) n cap,.slice none 0 0]).run P w = .ok (.slice (some ⟨g,0,none⟩) n cap) w:=by
       simp [Builtin.append_,run_bind,run_underlying' hT.und,run_sizeOf' (show (P.info? e).isSome = true by rw [hi]; rfl),Builtin.lenOf,run_pure,Builtin.firstCells,hnc,storeCells]
     rw [hr1] at hr
     cases hr
     exact .inl hk
   | some a=>
     have hcell:∀ j u,news[j]? = some u → w.cell? (a.add j) = some u:=by
       intro j u hu
       have hne:news ≠ []:=fun e=>by subst e; simp at hu
       obtain ⟨b,off,c',fr,hp,hb',hcs'⟩:=hcells hne
       cases hp
       rw [add_mk,cell_eq,hb',cellO_some,hcs' j (List.getElem?_eq_some_iff.1 hu).1,hu]
     subst h2
     by_cases hroom:n + m ≤ cap
     · have hfit:n * i.size + news.length ≤ cur.size:=by rw [hl,hcs,← Nat.add_mul]; exact Nat.mul_le_mul_right _ hroom
       have hr:=run_append_room (P:=P) w t ty e i hT.und hi g n cap cur hg a m c news hl hcell (fun u hu=>one1_oneCell' (h1 u hu)) hroom hfit
       rw [hr1] at hr
       cases hr
       intro k hk
       exact .inl (by simpa [Value.ownBlock] using hk)
     · have holds:∀ j u,xs[j]? = some u → w.cell? ((⟨g,0,none⟩:Addr).add j) = some u:=World.ownsRow.cells (base:=base) (e:=e) (size:=i.size) (v:=.slice (some ⟨g,0,none⟩) n cap) (n:=n) ⟨hl',.inr ⟨g,cap,cur,rfl,hbg,hg,hnc,hcm,hcs,htake⟩⟩ rfl
       have hr:=run_append_grow (P:=P) w t ty e i z hT.und hi hz ⟨g,0,none⟩ n cap xs hl' holds a m c news hl hcell (by omega) (by omega) (growslice_fits (by omega) (by rw [h3]; exact hb))
       rw [hr1] at hr
       cases hr
       intro k hk
       right
       simp [Value.ownBlock] at hk
       omega
theorem GdW_pure (c:Bool) (u v:Value) (w:World) (B:List Value → Fr → World → Prop):GdW c [u] w (fun J=>J [v] w) B ↔ ∀ g,B [bif c then v else u] g w:=by
 constructor
 · rintro ⟨J,h1,h2,h3⟩ g
   cases c with
   | true=>exact h3 _ g _ (h1 rfl)
   | false=>exact h3 _ g _ (h2 rfl)
 · intro h
   refine ⟨fun s w'=>s = [bif c then v else u] ∧ w' = w,fun hc=>⟨by rw [hc]; rfl,rfl⟩,fun hc=>⟨by rw [hc]; rfl,rfl⟩,?_⟩
   rintro s g w' ⟨rfl,rfl⟩
   exact h g
theorem GdW_nest_and (g e f:Bool) (w:World) (B:List Value → Fr → World → Prop) :
   GdW g [undef] w (fun J=>pickW (bif g then .bool e else undef) (bif (g && e) then .bool f else undef) (.bool false) fun t=>J [t] w) B ↔ ∀ h,B [bif g then .bool (e && f) else undef] h w:=by
 cases g with
 | true=>
   rw [← GdW_pure]
   cases e <;> exact Iff.rfl
 | false=>
   constructor
   · rintro ⟨J,_,h2,h3⟩ h; exact h3 _ h _ (h2 rfl)
   · intro h; exact GdW.f h
theorem GdW_nest_or (g e f:Bool) (w:World) (B:List Value → Fr → World → Prop) :
   GdW g [undef] w (fun J=>pickW (bif g then .bool e else undef) (.bool true) (bif (g && !e) then .bool f else undef) fun t=>J [t] w) B ↔ ∀ h,B [bif g then .bool (e || f) else undef] h w:=by
 cases g with
 | true=>
   rw [← GdW_pure]
   cases e <;> exact Iff.rfl
 | false=>
   constructor
   · rintro ⟨J,_,h2,h3⟩ h; exact h3 _ h _ (h2 rfl)
   · intro h; exact GdW.f h
theorem pick_gd_and (c e:Bool) (K:Value → Prop):pickW (.bool c) (bif c then .bool e else undef) (.bool false) K ↔ K (.bool (c && e)):=by cases c <;> exact Iff.rfl
theorem pick_gd_or (c e:Bool) (K:Value → Prop):pickW (.bool c) (.bool true) (bif !c then .bool e else undef) K ↔ K (.bool (c || e)):=by cases c <;> exact Iff.rfl
theorem isB_gd_t (c e:Bool):isB (bif c then .bool e else undef) true = (c && e):=by cases c <;> cases e <;> rfl
theorem isB_gd_f (c e:Bool):isB (bif c then .bool e else undef) false = (c && !e):=by cases c <;> cases e <;> rfl
theorem GdW.look {c:Bool} {w:World} {A:(List Value → World → Prop) → Prop} {B:List Value → Fr → World → Prop} (e:Bool) (h1:c = true → ∀ J:List Value → World → Prop,J [.bool e] w → A J) (h2:∀ g,B [bif c then .bool e else undef] g w):GdW c [undef] w A B:=by
 refine ⟨fun s w'=>s = [bif c then .bool e else undef] ∧ w' = w,fun hc=>h1 hc _ ⟨by rw [hc]; rfl,rfl⟩,fun hc=>⟨by rw [hc]; rfl,rfl⟩,?_⟩
 rintro s g w' ⟨rfl,rfl⟩
 exact h2 g
theorem GdW.act {c:Bool} {w:World} {A:(List Value → World → Prop) → Prop} {B:List Value → Fr → World → Prop} (e:Bool) (R:World → Prop) (h0:c = false → R w) (h1:c = true → ∀ J:List Value → World → Prop,(∀ w',R w' → J [.bool e] w') → A J) (h2:∀ g w',R w' → B [bif c then .bool e else undef] g w'):GdW c [undef] w A B:=by
 refine ⟨fun s w'=>s = [bif c then .bool e else undef] ∧ R w',fun hc=>h1 hc _ fun w' hR=>⟨by rw [hc]; rfl,hR⟩,fun hc=>⟨by rw [hc]; rfl,h0 hc⟩,?_⟩
 rintro s g w' ⟨rfl,hR⟩
 exact h2 g w' hR
theorem GqW_f (A:(Value → Prop) → Prop) (B:Value → Prop):GqW false A B ↔ B undef:=by
 constructor
 · rintro ⟨v,_,h,hb⟩; rw [← h rfl]; exact hb
 · intro h; exact ⟨undef,(fun e=>by cases e),fun _=>rfl,h⟩
theorem GqW_t (A:(Value → Prop) → Prop) (B:Value → Prop):GqW true A B ↔ ∃ v,A (fun x=>x = v) ∧ B v:=by
 constructor
 · rintro ⟨v,h,_,hb⟩; exact ⟨v,h rfl,hb⟩
 · rintro ⟨v,h,hb⟩; exact ⟨v,fun _=>h,(fun e=>by cases e),hb⟩
theorem GdW_f (u:List Value) (w:World) (A:(List Value → World → Prop) → Prop) (B:List Value → Fr → World → Prop):GdW false u w A B ↔ ∀ g,B u g w:=by
 constructor
 · rintro ⟨J,_,h2,h3⟩ g; exact h3 _ g _ (h2 rfl)
 · intro h; exact GdW.f h
theorem isB_u (c:Bool):isB undef c = false:=rfl
theorem eq_bb (a b:Bool) (K:Value → Prop):eqW .bool false (.bool a) (.bool b) K ↔ K (.bool (a == b)):=by simp [eqW]
theorem condW_b (b:Bool) (A B:Prop):condW (.bool b) A B ↔ (b = true → A) ∧ (b = false → B):=Iff.rfl
def wsv0:=And.intro @put_nil <| And.intro @put_map <| And.intro @put_int <| And.intro @put_str <| And.intro @put_bool <| And.intro @put_ptr <| And.intro @put_slice <| And.intro @bin_add <| And.intro @bin_sub <| And.intro @bin_mul <|
 And.intro @bin_quo <| And.intro @bin_rem <| And.intro @bin_eql <| And.intro @bin_neq <| And.intro @bin_lss <| And.intro @bin_leq <| And.intro @bin_gtr <| And.intro @bin_geq <| And.intro @bin_sadd <| And.intro @bin_seq <| And.intro @bin_sne <|
 And.intro @bin_slt <| And.intro @bin_sgt <| And.intro @bin_sge <| And.intro @bin_sle <| And.intro @nil_ptr <| And.intro @fld_ptr <| And.intro @ld_one <| And.intro @one_int <| And.intro @one_bool <| And.intro @one_str <| And.intro @one_slice <|
 And.intro @one_ptr <| And.intro @one_map <| And.intro @ext_tuple <| And.intro @ixa_slice <| And.intro @ixa_arr <| And.intro @ixs_str <| And.intro @lens_str <| And.intro @lenl_sl <| And.intro @un_not <| And.intro @un_neg <| And.intro @cvt_int <|
 And.intro @min_int <| And.intro @max_int <| And.intro @bd_none <| And.intro @bd_some <| And.intro @sls_str <| And.intro @pick_t <| And.intro @pick_f <| And.intro @condW_true @condW_false
def wsg0:=And.intro @isB_u <| And.intro @GqW_f <| And.intro @GqW_t <| And.intro @GdW_f <| And.intro @GdW_pure <| And.intro @GdW_nest_and <| And.intro @GdW_nest_or <| And.intro @pick_gd_and <| And.intro @pick_gd_or <| And.intro @isB_gd_t <| And.intro @isB_gd_f <| And.intro @isB_t @isB_f
def wsh0:=And.intro @add_mk <| And.intro @cell_eq <| And.intro @cellO_some <| And.intro @frozen_eq <| And.intro @frO_zero <| And.intro @heap_drew @size_drew
def wsl0:=And.intro @true_and <| And.intro @and_true <| And.intro @Bool.and_true <| And.intro @Bool.and_false <| And.intro @Bool.true_and <| And.intro @Bool.false_and <| And.intro @Bool.or_true <|
 And.intro @Bool.or_false <| And.intro @Bool.true_or <| And.intro @Bool.false_or <| And.intro @Bool.not_true @Bool.not_false
theorem wsv:type_of% wsv0:=wsv0
theorem wsg:type_of% wsg0:=wsg0
theorem wsh:type_of% wsh0:=wsh0
theorem wsl:type_of% wsl0:=wsl0
universe u
def wsu0 := And.intro @Option.some.injEq.{u} <| And.intro @Option.isSome_some.{u} <| And.intro @List.getElem?_toArray.{u} <| And.intro @List.getElem?_cons_zero.{u} <| And.intro @List.getElem?_cons_succ.{u} <| And.intro @List.length_cons.{u} <| And.intro @List.length_nil.{u} <| And.intro @List.set_cons_zero.{u} <| And.intro @List.set_cons_succ.{u} <| And.intro @List.getD_cons_zero.{u} <| And.intro @List.getD_cons_succ.{u} <| And.intro @Nat.zero_add @Nat.add_zero
theorem wsu : type_of% wsu0.{u} := wsu0.{u}
end Go.Eng
namespace Go.Proofs.YtnoepcndjljolaaGreatDoor
open Go Go.Eng
theorem mixed:Tryz.prog.follows .mixedOrders = true:=by kernel_rfl
end Go.Proofs.YtnoepcndjljolaaGreatDoor
namespace Go.Proofs.YtnoepcndjljolaaGreatDoor
open Go Go.Eng
set_option maxRecDepth 100000
variable [HX]
def plan21:Plan:={ js:=[(14,⟨[13],[4,5],13⟩)],ds:=[(26,⟨[0,1,2,3,4,5,6,7,8],[[],[],[0,1],[0,1,2],[],[],[4,5],[4,5,6],[0,1,2,3,4,5,6,7]]⟩)] }
def W21 (v0 v1:Value) (w:World) (K:Value → World → Prop):Prop:=
 lenlW v0 fun t7=>
 lenlW v1 fun t9=>
 binW .neq t7 t9 fun t10=>
 condW t10 (
 K (.bool false) w) (
 lenlW v0 fun t12=>
 LoopW [(.int .i64 0)] w fun s1 _ w2 L1=>
 binW .lss (s1.getD 0 undef) t12 fun t14=>
 condW t14 (
 ixaW none 1 v0 (s1.getD 0 undef) fun t18=>
 ldW false 1 t18 w2.drew fun t19=>
 ixaW none 1 v1 (s1.getD 0 undef) fun t22=>
 ldW false 1 t22 w2.drew fun t23=>
 binW .neq t19 t23 fun t24=>
 condW t24 (
 K (.bool false) w2.drew) (
 binW .add (s1.getD 0 undef) (.int .i64 1) fun t25=>
 L1 [t25] w2.drew)) (
 K (.bool true) w2))
theorem W21_ok {v0 v1:Value} {w:World} {K:Value → World → Prop} (h:W21 v0 v1 w K):callF Tryz.prog 21 [v0,v1] w K:=
 tie _ 21 Tryz.f21 plan21 _ w K 2 _ rfl mixed Tryz.func21 (by kernel_rfl) (by kernel_rfl) Tryz.call21 h
def plan233:Plan:={ js:=[(41,⟨[],[],8⟩),(6,⟨[8],[],8⟩),(26,⟨[8],[8],21⟩),(28008,⟨[32],[],26⟩),(15,⟨[8,20],[8,9],20⟩)],ds:=[(38,⟨[0,1,2,3,4,5,6,9],[[],[0],[],[2],[],[2,3,4],[2,3,4,5],[2,3,4,5,6],[0,1,2,3,4,5,6,7],[0,1,2,3,4,5,6,7,8],[0,1,2,3,4,5,6,7,8,9]]⟩),(37,⟨[0,1,2,3,4,5,6,9],[[],[0],[],[2],[],[2,3,4],[2,3,4,5],[2,3,4,5,6],[0,1,2,3,4,5,6,7],[0,1,2,3,4,5,6,7,8],[0,1,2,3,4,5,6,7,8,9]]⟩)] }
def W233 (v0 v1 v2:Value) (w:World) (K:Value → World → Prop):Prop:=
 boxW 40 v0 w fun t3 w1=>
 boxW 40 v2 w1 fun t5 w2=>
 allocW 40 [(.int .i64 0),(.bool false),(.string (ofL [])),(.slice none 0 0),(.slice none 0 0)] w2 fun t6 w3=>
 putW [(.int .i64 0),(.bool false),(.string (ofL [])),(.slice none 0 0),(.slice none 0 0)] [(0,1,(.int .i64 6))] fun c4=>
 allocW 40 [(.int .i64 0),(.bool false),(.string (ofL [])),(.slice none 0 0),(.slice none 0 0)] w3 fun t7 w5=>
 stW 5 t7 (.agg c4.toArray) w5 fun w6=>
 JoinW (fun J7=>
 fldW 0 t3 fun t11=>
 ldW false 1 t11 w6 fun t12=>
 binW .eql t12 (.int .i64 6) fun t13=>
 condW t13 (
 ldW true 5 t3 w6 fun t14=>
 callF Tryz.prog 252 [t14,v1] w6 fun t16 w8=>
 stW 5 t3 t16 w8 fun w9=>
 fldW 4 t3 fun t17=>
 ldW false 1 t17 w9 fun t18=>
 lenlW t18 fun t19=>
 LoopW [(.bool false),(.int .i64 0)] w9 fun s10 _ w11 L10=>
 binW .lss (s10.getD 1 undef) t19 fun t21=>
 condW t21 (
 JoinW (fun J12=>
 unW .not (s10.getD 0 undef) fun t24=>
 GdW (isB t24 true) [undef] w11 (fun J13=>
 fldW 4 t3 fun t27=>
 ldW false 1 t27 w11 fun t28=>
 ixaW none 1 t28 (s10.getD 1 undef) fun t30=>
 ldW false 1 t30 w11 fun t31=>
 binW .lss v1 t31 fun t32=>
 J13 [t32] w11)
 fun s13 _ w14=>
 pickW t24 (s13.getD 0 undef) (.bool false) fun t33=>
 condW t33 (
 fldW 4 t7 fun t34=>
 ldW false 1 t34 w14 fun t35=>
 bslW 9 1 [(.string (ofL []))] [(0,1,v1)] w14 fun t37 w15=>
 semE Tryz.prog (Builtin.append_ #[38,38] 38 #[t35,t37]) w15 fun t38 w16=>
 fldW 4 t7 fun t39=>
 stW 1 t39 t38 w16 fun w17=>
 fldW 3 t7 fun t40=>
 ldW false 1 t40 w17 fun t41=>
 ldW true 5 t5 w17 fun t42=>
 bslW 40 1 [(.int .i64 0),(.bool false),(.string (ofL [])),(.slice none 0 0),(.slice none 0 0)] [(0,5,t42)] w17 fun t43 w18=>
 semE Tryz.prog (Builtin.append_ #[37,37] 37 #[t41,t43]) w18 fun t44 w19=>
 fldW 3 t7 fun t45=>
 stW 1 t45 t44 w19 fun w20=>
 J12 [(.bool true)] w20) (
 J12 [(s10.getD 0 undef)] w14))
 fun s12 _ w21=>
 fldW 4 t7 fun t46=>
 ldW false 1 t46 w21.drew fun t47=>
 fldW 4 t3 fun t48=>
 ldW false 1 t48 w21.drew fun t49=>
 ixaW none 1 t49 (s10.getD 1 undef) fun t51=>
 ldW false 1 t51 w21.drew fun t52=>
 bslW 9 1 [(.string (ofL []))] [(0,1,t52)] w21.drew fun t53 w22=>
 (ldW false 1 t46 w22 fun x=>x = t47) ∧
 semE Tryz.prog (Builtin.append_ #[38,38] 38 #[t47,t53]) w22 fun t54 w23=>
 fldW 4 t7 fun t55=>
 stW 1 t55 t54 w23 fun w24=>
 fldW 3 t7 fun t56=>
 ldW false 1 t56 w24.drew fun t57=>
 fldW 3 t3 fun t58=>
 ldW false 1 t58 w24.drew fun t59=>
 ixaW none 5 t59 (s10.getD 1 undef) fun t61=>
 ldW true 5 t61 w24.drew fun t62=>
 bslW 40 1 [(.int .i64 0),(.bool false),(.string (ofL [])),(.slice none 0 0),(.slice none 0 0)] [(0,5,t62)] w24.drew fun t63 w25=>
 (ldW false 1 t56 w25 fun x=>x = t57) ∧
 semE Tryz.prog (Builtin.append_ #[37,37] 37 #[t57,t63]) w25 fun t64 w26=>
 fldW 3 t7 fun t65=>
 stW 1 t65 t64 w26 fun w27=>
 binW .add (s10.getD 1 undef) (.int .i64 1) fun t66=>
 L10 [(s12.getD 0 undef),t66] w27) (
 J7 [(s10.getD 0 undef)] w11)) (
 J7 [(.bool false)] w6))
 fun s7 _ w28=>
 JoinW (fun J29=>
 unW .not (s7.getD 0 undef) fun t68=>
 condW t68 (
 fldW 4 t7 fun t69=>
 ldW false 1 t69 w28 fun t70=>
 bslW 9 1 [(.string (ofL []))] [(0,1,v1)] w28 fun t72 w30=>
 semE Tryz.prog (Builtin.append_ #[38,38] 38 #[t70,t72]) w30 fun t73 w31=>
 fldW 4 t7 fun t74=>
 stW 1 t74 t73 w31 fun w32=>
 fldW 3 t7 fun t75=>
 ldW false 1 t75 w32 fun t76=>
 ldW true 5 t5 w32 fun t77=>
 bslW 40 1 [(.int .i64 0),(.bool false),(.string (ofL [])),(.slice none 0 0),(.slice none 0 0)] [(0,5,t77)] w32 fun t78 w33=>
 semE Tryz.prog (Builtin.append_ #[37,37] 37 #[t76,t78]) w33 fun t79 w34=>
 fldW 3 t7 fun t80=>
 stW 1 t80 t79 w34 fun w35=>
 J29 [] w35) (
 J29 [] w28))
 fun s29 _ w36=>
 ldW true 5 t7 w36 fun t81=>
 stW 5 t6 t81 w36 fun w37=>
 ldW true 5 t6 w37 fun r38=>
 K r38 w37
theorem W233_ok {v0 v1 v2:Value} {w:World} {K:Value → World → Prop} (h:W233 v0 v1 v2 w K):callF Tryz.prog 233 [v0,v1,v2] w K:=
 tie _ 233 Tryz.f233 plan233 _ w K 3 _ rfl mixed Tryz.func233 (by kernel_rfl) (by kernel_rfl) Tryz.call233 h
def plan203:Plan:={ js:=[],ds:=[] }
def W203 (v0:Value) (w:World) (K:Value → World → Prop):Prop:=
 allocW 40 [(.int .i64 0),(.bool false),(.string (ofL [])),(.slice none 0 0),(.slice none 0 0)] w fun t2 w1=>
 putW [(.int .i64 0),(.bool false),(.string (ofL [])),(.slice none 0 0),(.slice none 0 0)] [(0,1,(.int .i64 4)),(2,1,v0)] fun c2=>
 stW 5 t2 (.agg c2.toArray) w1 fun w3=>
 ldW true 5 t2 w3 fun r4=>
 K r4 w3
theorem W203_ok {v0:Value} {w:World} {K:Value → World → Prop} (h:W203 v0 w K):callF Tryz.prog 203 [v0] w K:=
 tie _ 203 Tryz.f203 plan203 _ w K 1 _ rfl mixed Tryz.func203 (by kernel_rfl) (by kernel_rfl) Tryz.call203 h
def plan252:Plan:={ js:=[(23,⟨[],[6],16⟩),(16,⟨[15],[6],15⟩)],ds:=[(32,⟨[0,1,2,3,4,5,6,9],[[],[0],[],[2],[],[2,3,4],[2,3,4,5],[2,3,4,5,6],[0,1,2,3,4,5,6,7],[0,1,2,3,4,5,6,7,8],[0,1,2,3,4,5,6,7,8,9]]⟩),(31,⟨[0,1,2,3,4,5,6,9],[[],[0],[],[2],[],[2,3,4],[2,3,4,5],[2,3,4,5,6],[0,1,2,3,4,5,6,7],[0,1,2,3,4,5,6,7,8],[0,1,2,3,4,5,6,7,8,9]]⟩)] }
def W252 (v0 v1:Value) (w:World) (K:Value → World → Prop):Prop:=
 boxW 40 v0 w fun t2 w1=>
 allocW 40 [(.int .i64 0),(.bool false),(.string (ofL [])),(.slice none 0 0),(.slice none 0 0)] w1 fun t4 w2=>
 fldW 0 t2 fun t7=>
 ldW false 1 t7 w2 fun t8=>
 binW .neq t8 (.int .i64 6) fun t9=>
 condW t9 (
 ldW true 5 t2 w2 fun t10=>
 stW 5 t4 t10 w2 fun w3=>
 ldW true 5 t4 w3 fun r4=>
 K r4 w3) (
 putW [(.int .i64 0),(.bool false),(.string (ofL [])),(.slice none 0 0),(.slice none 0 0)] [(0,1,(.int .i64 6))] fun c5=>
 allocW 40 [(.int .i64 0),(.bool false),(.string (ofL [])),(.slice none 0 0),(.slice none 0 0)] w2 fun t5 w6=>
 stW 5 t5 (.agg c5.toArray) w6 fun w7=>
 fldW 4 t2 fun t12=>
 ldW false 1 t12 w7 fun t13=>
 lenlW t13 fun t14=>
 LoopW [(.int .i64 0)] w7 fun s8 _ w9 L8=>
 binW .lss (s8.getD 0 undef) t14 fun t16=>
 condW t16 (
 JoinW (fun J10=>
 fldW 4 t2 fun t18=>
 ldW false 1 t18 w9 fun t19=>
 ixaW none 1 t19 (s8.getD 0 undef) fun t21=>
 ldW false 1 t21 w9 fun t22=>
 binW .neq t22 v1 fun t24=>
 condW t24 (
 fldW 4 t5 fun t25=>
 ldW false 1 t25 w9.drew fun t26=>
 fldW 4 t2 fun t27=>
 ldW false 1 t27 w9.drew fun t28=>
 ixaW none 1 t28 (s8.getD 0 undef) fun t30=>
 ldW false 1 t30 w9.drew fun t31=>
 bslW 9 1 [(.string (ofL []))] [(0,1,t31)] w9.drew fun t32 w11=>
 (ldW false 1 t25 w11 fun x=>x = t26) ∧
 semE Tryz.prog (Builtin.append_ #[38,38] 38 #[t26,t32]) w11 fun t33 w12=>
 fldW 4 t5 fun t34=>
 stW 1 t34 t33 w12 fun w13=>
 fldW 3 t5 fun t35=>
 ldW false 1 t35 w13.drew fun t36=>
 fldW 3 t2 fun t37=>
 ldW false 1 t37 w13.drew fun t38=>
 ixaW none 5 t38 (s8.getD 0 undef) fun t40=>
 ldW true 5 t40 w13.drew fun t41=>
 bslW 40 1 [(.int .i64 0),(.bool false),(.string (ofL [])),(.slice none 0 0),(.slice none 0 0)] [(0,5,t41)] w13.drew fun t42 w14=>
 (ldW false 1 t35 w14 fun x=>x = t36) ∧
 semE Tryz.prog (Builtin.append_ #[37,37] 37 #[t36,t42]) w14 fun t43 w15=>
 fldW 3 t5 fun t44=>
 stW 1 t44 t43 w15 fun w16=>
 J10 [] w16) (
 J10 [] w9))
 fun s10 _ w17=>
 binW .add (s8.getD 0 undef) (.int .i64 1) fun t45=>
 L8 [t45] w17) (
 ldW true 5 t5 w9 fun t46=>
 stW 5 t4 t46 w9 fun w18=>
 ldW true 5 t4 w18 fun r19=>
 K r19 w18))
theorem W252_ok {v0 v1:Value} {w:World} {K:Value → World → Prop} (h:W252 v0 v1 w K):callF Tryz.prog 252 [v0,v1] w K:=
 tie _ 252 Tryz.f252 plan252 _ w K 2 _ rfl mixed Tryz.func252 (by kernel_rfl) (by kernel_rfl) Tryz.call252 h
def plan232:Plan:={ js:=[(6,⟨[9],[4,5],9⟩)],ds:=[] }
def W232 (v0 v1:Value) (w:World) (K:Value → World → Prop):Prop:=
 boxW 40 v0 w fun t2 w1=>
 fldW 4 t2 fun t6=>
 ldW false 1 t6 w1 fun t7=>
 lenlW t7 fun t8=>
 LoopW [(.int .i64 0)] w1 fun s2 _ w3 L2=>
 binW .lss (s2.getD 0 undef) t8 fun t10=>
 condW t10 (
 fldW 4 t2 fun t12=>
 ldW false 1 t12 w3 fun t13=>
 ixaW none 1 t13 (s2.getD 0 undef) fun t15=>
 ldW false 1 t15 w3 fun t16=>
 binW .eql t16 v1 fun t18=>
 condW t18 (
 K (s2.getD 0 undef) w3) (
 binW .add (s2.getD 0 undef) (.int .i64 1) fun t20=>
 L2 [t20] w3)) (
 K (.int .i64 (-1)) w3)
theorem W232_ok {v0 v1:Value} {w:World} {K:Value → World → Prop} (h:W232 v0 v1 w K):callF Tryz.prog 232 [v0,v1] w K:=
 tie _ 232 Tryz.f232 plan232 _ w K 2 _ rfl mixed Tryz.func232 (by kernel_rfl) (by kernel_rfl) Tryz.call232 h
def plan153:Plan:={ js:=[(32005,⟨[53],[],50⟩),(22,⟨[4],[2],4⟩),(12002,⟨[37],[],25⟩),(12003,⟨[36],[],29⟩),(12006,⟨[35],[],33⟩),(12010,⟨[32],[],29⟩),(12014,⟨[28],[],25⟩),(12019,⟨[22],[],20⟩),(4,⟨[3],[],1⟩),(6004,⟨[12],[],10⟩)],ds:=[] }
def W153 (v0:Value) (w:World) (K:Value → World → Prop):Prop:=
 JoinW (fun J1=>
 lensW v0 fun t7=>
 binW .gtr t7 (.int .i64 0) fun t8=>
 GdW (isB t8 true) [undef] w (fun J2=>
 ixsW v0 (.int .i64 0) fun t11=>
 binW .eql t11 (.int .u8 45) fun t12=>
 J2 [t12] w)
 fun s2 _ w3=>
 pickW t8 (s2.getD 0 undef) (.bool false) fun t13=>
 condW t13 (
 slsW v0 (some (.int .i64 1)) none fun t15=>
 J1 [t15] w3) (
 J1 [v0] w3))
 fun s1 _ w4=>
 lensW (s1.getD 0 undef) fun t17=>
 binW .eql t17 (.int .i64 0) fun t18=>
 GdW (isB t18 false) [undef] w4 (fun J5=>
 lensW (s1.getD 0 undef) fun t21=>
 binW .gtr t21 (.int .i64 100) fun t22=>
 J5 [t22] w4)
 fun s5 _ w6=>
 pickW t18 (.bool true) (s5.getD 0 undef) fun t23=>
 GdW (isB t23 false) [undef] w6 (fun J7=>
 ixsW (s1.getD 0 undef) (.int .i64 0) fun t26=>
 binW .eql t26 (.int .u8 48) fun t27=>
 J7 [t27] w6)
 fun s7 _ w8=>
 GdW (isB (s7.getD 0 undef) true) [undef] w8 (fun J9=>
 lensW (s1.getD 0 undef) fun t30=>
 binW .gtr t30 (.int .i64 1) fun t31=>
 J9 [t31] w8)
 fun s9 _ w10=>
 GdW (isB (s9.getD 0 undef) false) [undef] w10 (fun J11=>
 lensW v0 fun t34=>
 binW .gtr t34 (.int .i64 1) fun t35=>
 J11 [t35] w10)
 fun s11 _ w12=>
 GdW (isB (s7.getD 0 undef) true) [undef] w12 (fun J13=>
 pickW (s9.getD 0 undef) (.bool true) (s11.getD 0 undef) fun t36=>
 J13 [t36] w12)
 fun s13 _ w14=>
 GdW (isB t23 false) [undef] w14 (fun J15=>
 pickW (s7.getD 0 undef) (s13.getD 0 undef) (.bool false) fun t37=>
 J15 [t37] w14)
 fun s15 _ w16=>
 pickW t23 (.bool true) (s15.getD 0 undef) fun t38=>
 condW t38 (
 K (.bool false) w16) (
 LoopW [(.int .i64 0)] w16 fun s17 _ w18 L17=>
 lensW (s1.getD 0 undef) fun t41=>
 binW .lss (s17.getD 0 undef) t41 fun t42=>
 condW t42 (
 ixsW (s1.getD 0 undef) (s17.getD 0 undef) fun t47=>
 binW .lss t47 (.int .u8 48) fun t48=>
 GdW (isB t48 false) [undef] w18 (fun J19=>
 ixsW (s1.getD 0 undef) (s17.getD 0 undef) fun t52=>
 binW .gtr t52 (.int .u8 57) fun t53=>
 J19 [t53] w18)
 fun s19 _ w20=>
 pickW t48 (.bool true) (s19.getD 0 undef) fun t54=>
 condW t54 (
 K (.bool false) w20) (
 binW .add (s17.getD 0 undef) (.int .i64 1) fun t44=>
 L17 [t44] w20)) (
 K (.bool true) w18))
theorem W153_ok {v0:Value} {w:World} {K:Value → World → Prop} (h:W153 v0 w K):callF Tryz.prog 153 [v0] w K:=
 tie _ 153 Tryz.f153 plan153 _ w K 1 _ rfl mixed Tryz.func153 (by kernel_rfl) (by kernel_rfl) Tryz.call153 h
def plan98:Plan:={ js:=[(27,⟨[5],[],5⟩),(16,⟨[3,4],[],1⟩)],ds:=[] }
def W98 (v0:Value) (w:World) (K:Value → World → Prop):Prop:=
 binW .eql v0 (.int .i64 0) fun t7=>
 condW t7 (
 K (.string (ofL [48])) w) (
 LoopW [(.string (ofL [])),v0] w fun s1 _ w2 L1=>
 binW .neq (s1.getD 1 undef) (.int .i64 0) fun t10=>
 condW t10 (
 binW .rem (s1.getD 1 undef) (.int .i64 10) fun t14=>
 JoinW (fun J3=>
 binW .lss t14 (.int .i64 0) fun t16=>
 condW t16 (
 unW .neg t14 fun t18=>
 J3 [t18] w2) (
 J3 [t14] w2))
 fun s3 _ w4=>
 binW .add (.int .i64 48) (s3.getD 0 undef) fun t20=>
 cvtW .u8 t20 fun t21=>
 bslW 5 1 [(.int .u8 0)] [(0,1,t21)] w4 fun t22 w5=>
 semQ Tryz.prog (convert 27 9 t22) w5 fun t23=>
 binW .add t23 (s1.getD 0 undef) fun t25=>
 binW .quo (s1.getD 1 undef) (.int .i64 10) fun t12=>
 L1 [t25,t12] w5) (
 binW .lss v0 (.int .i64 0) fun t27=>
 callF Tryz.prog 157 [t27,(s1.getD 0 undef)] w2 fun t29 w6=>
 K t29 w6))
theorem W98_ok {v0:Value} {w:World} {K:Value → World → Prop} (h:W98 v0 w K):callF Tryz.prog 98 [v0] w K:=
 tie _ 98 Tryz.f98 plan98 _ w K 1 _ rfl mixed Tryz.func98 (by kernel_rfl) (by kernel_rfl) Tryz.call98 h
def plan157:Plan:={ js:=[(4003,⟨[8],[],7⟩)],ds:=[] }
def W157 (v0 v1:Value) (w:World) (K:Value → World → Prop):Prop:=
 GdW (isB v0 true) [undef] w (fun J1=>
 binW .neq v1 (.string (ofL [48])) fun t8=>
 J1 [t8] w)
 fun s1 _ w2=>
 pickW v0 (s1.getD 0 undef) (.bool false) fun t9=>
 condW t9 (
 binW .add (.string (ofL [45])) v1 fun t11=>
 K t11 w2) (
 K v1 w2)
theorem W157_ok {v0 v1:Value} {w:World} {K:Value → World → Prop} (h:W157 v0 v1 w K):callF Tryz.prog 157 [v0,v1] w K:=
 tie _ 157 Tryz.f157 plan157 _ w K 2 _ rfl mixed Tryz.func157 (by kernel_rfl) (by kernel_rfl) Tryz.call157 h
end Go.Proofs.YtnoepcndjljolaaGreatDoor
namespace Go.Proofs.YtnoepcndjljolaaGreatDoor
open Go Go.Eng Go.Num
set_option maxRecDepth 100000
abbrev VT:TypeId:=40
structure ValB (w:World) (a:Nat) (v:JV) (sv kv:Value):Prop where
 hb:w.heap[a]? = some (.cells [i64 v.k,.bool v.b,str v.t,sv,kv].toArray VT (0,0))
 items:∃ T L,SlAt w T sv v.xs.length L ∧ VReps w v.xs L
 keys:∃ T,SlAt w T kv v.ks.length (v.ks.map str)
 fits:Fits v.xs.length v.ks v.t
theorem ValB.ext {w w':World} {a:Nat} {v:JV} {sv kv:Value} (h:ValB w a v sv kv) (hx:Ext w w'):ValB w' a v sv kv:=
 ⟨hx.at h.hb id,let ⟨T,L,h1,h2⟩:=h.items; ⟨T,L,h1.ext hx,h2.ext hx⟩,let ⟨T,h1⟩:=h.keys; ⟨T,h1.ext hx⟩,h.fits⟩
theorem ValB.rep {w:World} {a:Nat} {v:JV} {sv kv:Value} (h:ValB w a v sv kv):VRep w v [i64 v.k,.bool v.b,str v.t,sv,kv]:=by
 obtain ⟨T,L,h1,h2⟩:=h.items
 obtain ⟨T',h3⟩:=h.keys
 exact VRep.mk h1 h2 h3 h.fits
theorem ValB.ld {w:World} {a:Nat} {v:JV} {sv kv:Value} {K:Value → Prop} (h:ValB w a v sv kv) (hK:∀ cs,VRep w v cs → K (.agg cs.toArray)):ldW true 5 (.pointer (some ⟨a,0,none⟩)) w K:=ld_all h.hb rfl (hK _ h.rep)
theorem ValB.lenk {w:World} {a:Nat} {v:JV} {sv kv:Value} (h:ValB w a v sv kv) (K:Value → Prop):lenlW kv K ↔ K (i64 v.ks.length):=by obtain ⟨T,h1⟩:=h.keys; exact lenl_at h1 K
theorem ValB.item {w:World} {a:Nat} {v:JV} {sv kv:Value} {k:IntKind} {i:Nat} {x:JV} {K:Value → Prop} (h:ValB w a v sv kv) (hi:v.xs[i]? = some x) (hK:∀ cs,VRep w x cs → K (.agg cs.toArray)):ixaW none 5 sv (.int k i) fun p=>ldW true 5 p w K:=by
 obtain ⟨T,L,h1,h2⟩:=h.items; exact item_ld h1 h2 hi hK
theorem ValB.key {w:World} {a:Nat} {v:JV} {sv kv:Value} {k:IntKind} {i:Nat} {x:Str} {K:Value → Prop} (h:ValB w a v sv kv) (hi:v.ks[i]? = some x) (hK:K (str x)):ixaW none 1 kv (.int k i) fun p=>ldW false 1 p w K:=by
 obtain ⟨T,h1⟩:=h.keys; exact text_ld h1 hi hK
theorem box_val {w:World} {v:JV} {cs:List Value} {K:Value → World → Prop} (h:VRep w v cs) (hK:∀ a w' sv kv,ValB w' a v sv kv → Ext w w' → w.heap.size ≤ a → K (.pointer (some ⟨a,0,none⟩)) w'):boxW VT (.agg cs.toArray) w K:=by
 obtain ⟨sv,kv,T1,T2,L,rfl,h1,h2,h3,h4⟩:=h.out
 refine box_new fun a w' ha hz hb hx=>hK a w' sv kv ⟨hb,⟨T1,L,h1.ext hx,h2.ext hx⟩,⟨T2,h3.ext hx⟩,h4⟩ hx (by omega)
structure ValI (w:World) (v:JV) (sv kv:Value):Prop where
 items:∃ T L,SlAt w T sv v.xs.length L ∧ VReps w v.xs L
 keys:∃ T,SlAt w T kv v.ks.length (v.ks.map str)
 fits:Fits v.xs.length v.ks v.t
theorem ValI.box {w w':World} {a:Nat} {v:JV} {sv kv:Value} (h:ValI w v sv kv) (hx:Ext w w') (hb:w'.heap[a]? = some (.cells [i64 v.k,.bool v.b,str v.t,sv,kv].toArray VT (0,0))):ValB w' a v sv kv:=
 ⟨hb,let ⟨T,L,h1,h2⟩:=h.items; ⟨T,L,h1.ext hx,h2.ext hx⟩,let ⟨T,h1⟩:=h.keys; ⟨T,h1.ext hx⟩,h.fits⟩
theorem box_vali {w0 w:World} {v:JV} {cs:List Value} {K:Value → World → Prop} (h:VRep w0 v cs) (hK:∀ a w' sv kv,w'.heap[a]? = some (.cells [i64 v.k,.bool v.b,str v.t,sv,kv].toArray VT (0,0)) → ValI w0 v sv kv → Ext w w' → w.heap.size ≤ a → w'.heap.size = a + 1 → K (.pointer (some ⟨a,0,none⟩)) w'):boxW VT (.agg cs.toArray) w K:=by
 obtain ⟨sv,kv,T1,T2,L,rfl,h1,h2,h3,h4⟩:=h.out
 refine box_new fun a w' ha hz hb hx=>hK a w' sv kv hb ⟨⟨T1,L,h1,h2⟩,⟨T2,h3⟩,h4⟩ hx (by omega) (by omega)
theorem ValI.item_old {w0 w:World} {v:JV} {sv kv:Value} {k:IntKind} {i:Nat} {x:JV} {K:Value → Prop} (h:ValI w0 v sv kv) (hx:Ext w0 w) (hi:v.xs[i]? = some x) (hK:∀ cs,VRep w0 x cs → K (.agg cs.toArray)):ixaW none 5 sv (.int k i) fun p=>ldW true 5 p w K:=by
 obtain ⟨T,L,h1,h2⟩:=h.items
 obtain ⟨cs,hc,hg⟩:=h2.get hi
 refine ixa_at (size:=5) (h1.ext hx) h2.len (by omega) (List.getElem?_eq_some_iff.1 hi).1 fun b o c fr hb hcc=>?_
 exact ld_cells hb hc.len (fun j hj=>(hcc j hj).trans (hg j hj)) (hK cs hc)
def VRepS (w0 w:World) (v:JV) (cs:List Value):Prop:=∃ sv kv T1 T2 L,cs = [i64 v.k,.bool v.b,str v.t,sv,kv] ∧ SlAt w T1 sv v.xs.length L ∧ VReps w0 v.xs L ∧ SlAt w T2 kv v.ks.length (v.ks.map str) ∧ Fits v.xs.length v.ks v.t
theorem VRep.s {w w':World} {v:JV} {cs:List Value} (h:VRep w v cs) (hx:Ext w w'):VRepS w w' v cs:=by
 obtain ⟨sv,kv,T1,T2,L,rfl,h1,h2,h3,h4⟩:=h.out
 exact ⟨sv,kv,T1,T2,L,rfl,h1.ext hx,h2,h3.ext hx,h4⟩
theorem loop_up (n:Nat) {w1:World} {B:List Value → Fr → World → (List Value → World → Prop) → Prop} (R:Nat → World → Prop) (h0:R 0 w1)
   (step:∀ i w g L,i < n → R i w → (∀ w',R (i + 1) w' → L [i64 ((i + 1:Nat):Int)] w') → B [i64 (i:Nat)] g w L)
   (fin:∀ w g L,R n w → B [i64 (n:Nat)] g w L):LoopW [i64 0] w1 B:=by
 refine ⟨fun s w=>∃ i,i ≤ n ∧ s = [i64 (i:Nat)] ∧ R i w,fun s _=>match s with | [.int _ i]=>n - i.toNat | _=>0,⟨0,Nat.zero_le _,rfl,h0⟩,?_⟩
 rintro s g w ⟨i,hi,rfl,hR⟩
 rcases Nat.lt_or_ge i n with hlt | hge
 · exact step i w g _ hlt hR fun w' h'=>⟨⟨i + 1,hlt,rfl,h'⟩,by simp only [Int.toNat_natCast]; omega⟩
 · obtain rfl:i = n:=by omega
   exact fin w g _ hR
theorem up1 {i:Nat} (h:(i:Int) < 9223372036854775807):IntKind.i64.wrap ((i:Int) + 1) = ((i + 1:Nat):Int):=by rw [wrap_id (by omega) (by omega)]; simp
section
variable [HX]
theorem texts_ref {a b:List Str} {x y:Value} {T1 T2:TypeId} {w:World} {K:Value → World → Prop} (h1:SlAt w T1 x a.length (a.map str)) (h2:SlAt w T2 y b.length (b.map str)) (ha:a.length ≤ 9223372036854775807)
   (hK:∀ w',Ext w w' → K (.bool (decide (a = b))) w'):callF Tryz.prog 21 [x,y] w K:=by
 refine W21_ok ?_
 unfold W21
 rw [lenl_at h1,lenl_at h2]
 simp only [wsv,wsg,wsh,wsl,cond_true,cond_false,exists_eq_left',wsu,Nat.reduceAdd,Nat.reduceLT,Nat.lt_add_one,Nat.zero_lt_succ,decide_true,decide_false,ne_eq,reduceCtorEq,condW_dec]
 refine ⟨fun hne=>?_,fun he=>?_⟩
 · have:a ≠ b:=by rintro rfl; exact hne rfl
   have:=hK w (Chg.refl _ _)
   rw [decide_eq_false ‹a ≠ b›] at this
   exact this
 · have hl:a.length = b.length:=by omega
   rw [lenl_at h1]
   refine loop_up a.length (fun i w'=>Ext w w' ∧ a.take i = b.take i) ⟨Chg.refl _ _,rfl⟩ ?_ ?_
   · rintro i w2 g L hi ⟨hx2,htk⟩ hL
     have hx3:=hx2.trans (Chg.drew (Chg.refl (fun _=>False) w2))
     obtain ⟨u,hu⟩:∃ u,a[i]? = some u:=⟨_,List.getElem?_eq_getElem hi⟩
     obtain ⟨v,hv⟩:∃ v,b[i]? = some v:=⟨_,List.getElem?_eq_getElem (by omega)⟩
     have hlt:((i:Int) < (a.length:Int)):=by omega
     simp only [wsv,wsg,wsh,wsl,cond_true,cond_false,exists_eq_left',wsu,Nat.reduceAdd,Nat.reduceLT,Nat.lt_add_one,Nat.zero_lt_succ,decide_true,decide_false,ne_eq,reduceCtorEq,hlt]
     refine text_ld (h1.ext hx3) hu ?_
     refine text_ld (h2.ext hx3) hv ?_
     simp only [wsv,wsg,wsh,wsl,cond_true,cond_false,exists_eq_left',wsu,Nat.reduceAdd,Nat.reduceLT,Nat.lt_add_one,Nat.zero_lt_succ,decide_true,decide_false,ne_eq,reduceCtorEq,condW_dec]
     refine ⟨fun hne=>?_,fun he=>?_⟩
     · have:=hK _ hx3
       rw [decide_eq_false (take_ne hu hv hne)] at this
       exact this
     · rw [up1 (by omega)]
       have he:u = v:=by simpa using he
       exact hL _ ⟨hx3,take_eq htk hu (by rw [he]; exact hv)⟩
   · rintro w2 g L ⟨hx2,htk⟩
     simp only [wsv,wsg,wsh,wsl,cond_true,cond_false,exists_eq_left',wsu,Nat.reduceAdd,Nat.reduceLT,Nat.lt_add_one,Nat.zero_lt_succ,decide_true,decide_false,ne_eq,reduceCtorEq,Int.lt_irrefl]
     rw [List.take_length,hl,List.take_length] at htk
     have:=hK w2 hx2
     rw [decide_eq_true htk] at this
     exact this
theorem at_ref {v:JV} {cs:List Value} {k:Str} {w:World} {K:Value → World → Prop} (h:VRep w v cs) (hK:∀ w',Ext w w' → K (i64 (idxI v.ks k)) w'):callF Tryz.prog 232 [.agg cs.toArray,str k] w K:=by
 refine W232_ok ?_
 unfold W232
 refine box_val h fun a w1 sv kv hB hx _=>?_
 simp only [wsv,wsg,wsh,wsl,cond_true,cond_false,exists_eq_left',wsu,Nat.reduceAdd,Nat.reduceLT,Nat.lt_add_one,Nat.zero_lt_succ,decide_true,decide_false,ne_eq,reduceCtorEq,wsh,hB.hb]
 rw [hB.lenk]
 refine loop_up v.ks.length (fun i w'=>Ext w1 w' ∧ idxK (v.ks.take i) k = none) ⟨Chg.refl _ _,rfl⟩ ?_ ?_
 · rintro i w2 g L hi ⟨hx2,hno⟩ hL
   have hB:=hB.ext hx2
   obtain ⟨u,hu⟩:∃ u,v.ks[i]? = some u:=⟨_,List.getElem?_eq_getElem hi⟩
   have hlt:((i:Int) < (v.ks.length:Int)):=by omega
   simp only [wsv,wsg,wsh,wsl,cond_true,cond_false,exists_eq_left',wsu,Nat.reduceAdd,Nat.reduceLT,Nat.lt_add_one,Nat.zero_lt_succ,decide_true,decide_false,ne_eq,reduceCtorEq,wsh,hB.hb,hlt]
   refine hB.key hu ?_
   simp only [wsv,wsg,wsh,wsl,cond_true,cond_false,exists_eq_left',wsu,Nat.reduceAdd,Nat.reduceLT,Nat.lt_add_one,Nat.zero_lt_succ,decide_true,decide_false,ne_eq,reduceCtorEq,condW_dec]
   refine ⟨fun he=>?_,fun hne=>?_⟩
   · have:=hK w2 (hx.trans hx2)
     rw [idxI,idxK_hit hno (by rw [hu,he])] at this
     exact this
   · rw [up1 (by have:=hB.fits.2.1; omega)]
     exact hL w2 ⟨hx2,idxK_miss hno hu hne⟩
 · rintro w2 g L ⟨hx2,hno⟩
   simp only [wsv,wsg,wsh,wsl,cond_true,cond_false,exists_eq_left',wsu,Nat.reduceAdd,Nat.reduceLT,Nat.lt_add_one,Nat.zero_lt_succ,decide_true,decide_false,ne_eq,reduceCtorEq,Int.lt_irrefl]
   rw [List.take_length] at hno
   have:=hK w2 (hx.trans hx2)
   rw [idxI,hno] at this
   exact this
end
end Go.Proofs.YtnoepcndjljolaaGreatDoor
namespace Go.Proofs.YtnoepcndjljolaaGreatDoor
open Go Go.Eng Go.Num
set_option maxRecDepth 100000
section
variable [HX]
theorem isDig_out (c:UInt8):(decide (((c.toNat:Nat):Int) < 48) || decide ((57:Int) < ((c.toNat:Nat):Int))) = !Num.isDig c:=by
 unfold Num.isDig
 rcases Nat.lt_or_ge c.toNat 48 with h | h
 · rw [decide_eq_true (by omega),decide_eq_false (show ¬ 48 ≤ c.toNat by omega)]; rfl
 · rw [decide_eq_false (show ¬ ((c.toNat:Nat):Int) < 48 by omega),decide_eq_true (show 48 ≤ c.toNat by omega)]
   rcases Nat.lt_or_ge 57 c.toNat with h2 | h2
   · rw [decide_eq_true (by omega),decide_eq_false (show ¬ c.toNat ≤ 57 by omega)]; rfl
   · rw [decide_eq_false (by omega),decide_eq_true (show c.toNat ≤ 57 by omega)]; rfl
theorem u8_is (c:UInt8) (m:Int) (d:UInt8) (hm:m = (d.toNat:Nat)):decide (((c.toNat:Nat):Int) = m) = (c == d):=by
 rw [Bool.eq_iff_iff,decide_eq_true_eq,beq_iff_eq,hm]
 constructor
 · intro h; exact UInt8.toNat_inj.1 (by omega)
 · intro h; rw [h]
theorem goodN_def (a:Str):goodN a = (!decide ((dig a).length = 0) && !decide (100 < (dig a).length) && !((dig a).head? == some 48 && (decide (1 < (dig a).length) || decide (1 < a.length))) && (dig a).all Num.isDig):=by
 unfold goodN
 have key:(dig a).head? = some 48 → (decide (a = [48]) = !(decide (1 < (dig a).length) || decide (1 < a.length))):=by
   intro h
   have h1:a = [48] ↔ ¬ (1 < (dig a).length ∨ 1 < a.length):=by
     cases a with
     | nil=>simp [dig] at h
     | cons c r=>
       by_cases hc:c = 45
       · have e:dig (c :: r) = r:=by simp [dig,hc]
         rw [e] at h ⊢
         cases r with
         | nil=>simp at h
         | cons e r=>simp
       · have e:dig (c :: r) = c :: r:=by simp [dig,hc]
         rw [e] at h ⊢
         simp only [List.head?_cons,Option.some.injEq] at h
         subst h
         cases r <;> simp
   rw [← Bool.decide_or,← decide_not]
   exact decide_eq_decide.2 h1
 have e1:decide (1 ≤ (dig a).length) = !decide ((dig a).length = 0):=by rw [← decide_not]; exact decide_eq_decide.2 (by omega)
 have e2:decide ((dig a).length ≤ 100) = !decide (100 < (dig a).length):=by rw [← decide_not]; exact decide_eq_decide.2 (by omega)
 rw [e1,e2]
 cases hh:((dig a).head? == some 48) with
 | false=>simp
 | true=>rw [key (by simpa using hh)]; simp
theorem good01_ref {a:Str} {w:World} {K:Value → World → Prop} (ha:a.length ≤ 9223372036854775807) (hK:∀ w',Ext w w' → K (.bool (goodN a)) w'):callF Tryz.prog 153 [str a] w K:=by
 refine W153_ok ?_
 unfold W153
 refine JoinW.cut (fun s w'=>s = [str (dig a)] ∧ w' = w) ?_ ?_
 · cases a with
   | nil=>
     have h0:¬ (0:Int) < ((0:Nat):Int):=by simp
     simp only [wsv,wsg,wsh,wsl,cond_true,cond_false,exists_eq_left',wsu,Nat.reduceAdd,Nat.reduceLT,Nat.lt_add_one,Nat.zero_lt_succ,decide_true,decide_false,ne_eq,reduceCtorEq,h0]
     intros
     (try simp only [wsv,wsg,wsh,wsl,cond_true,cond_false,exists_eq_left',wsu,Nat.reduceAdd,Nat.reduceLT,Nat.lt_add_one,Nat.zero_lt_succ,decide_true,decide_false,ne_eq,reduceCtorEq])
     first | exact ⟨rfl,rfl⟩ | rfl
   | cons c r=>
     have h0:(0:Int) < ((r.length + 1:Nat):Int):=by omega
     simp only [wsv,wsg,wsh,wsl,cond_true,cond_false,exists_eq_left',wsu,Nat.reduceAdd,Nat.reduceLT,Nat.lt_add_one,Nat.zero_lt_succ,decide_true,decide_false,ne_eq,reduceCtorEq,h0,Int.le_refl,Int.toNat_zero]
     intro _
     rw [u8_is c 45 45 rfl]
     simp only [wsv,wsg,wsh,wsl,cond_true,cond_false,exists_eq_left',wsu,Nat.reduceAdd,Nat.reduceLT,Nat.lt_add_one,Nat.zero_lt_succ,decide_true,decide_false,ne_eq,reduceCtorEq,condW_b]
     refine ⟨fun h=>?_,fun h=>?_⟩
     · have e:dig (c :: r) = r:=by simp [dig,(beq_iff_eq.1 h)]
       rw [e,show (1:Int).toNat = 1 from rfl,← List.length_cons (a:=c),List.take_length]
       exact ⟨by omega,by simp only [List.length_cons]; omega,rfl⟩
     · have:c ≠ 45:=by simpa using h
       have e:dig (c :: r) = c :: r:=by simp [dig,this]
       rw [e]
 · rintro s g w' ⟨rfl,rfl⟩
   have hdl:(dig a).length ≤ a.length:=by
     cases a with
     | nil=>simp [dig]
     | cons c r=>simp only [dig]; split <;> simp
   rw [goodN_def] at hK
   cases hd:dig a with
   | nil=>
     rw [hd] at hK
     have hz:decide (((0:Nat):Int) = 0) = true:=by decide
     simp only [wsv,wsg,wsh,wsl,cond_true,cond_false,exists_eq_left',wsu,Nat.reduceAdd,Nat.reduceLT,Nat.lt_add_one,Nat.zero_lt_succ,decide_true,decide_false,ne_eq,reduceCtorEq,hz]
     intros
     exact hK _ (Chg.refl _ _)
   | cons c r=>
     rw [hd] at hK hdl
     have hz:decide (((r.length + 1:Nat):Int) = 0) = false:=decide_eq_false (by omega)
     simp only [wsv,wsg,wsh,wsl,cond_true,cond_false,exists_eq_left',wsu,Nat.reduceAdd,Nat.reduceLT,Nat.lt_add_one,Nat.zero_lt_succ,decide_true,decide_false,ne_eq,reduceCtorEq,Int.le_refl,Int.toNat_zero,u8_is c 48 48 rfl,hz,condW_b]
     intros
     have e1:decide ((100:Int) < ((r.length + 1:Nat):Int)) = decide (100 < (c :: r).length):=decide_eq_decide.2 (by simp only [List.length_cons]; omega)
     have e2:decide ((1:Int) < ((r.length + 1:Nat):Int)) = decide (1 < (c :: r).length):=decide_eq_decide.2 (by simp only [List.length_cons]; omega)
     have e3:decide ((1:Int) < (a.length:Int)) = decide (1 < a.length):=decide_eq_decide.2 (by omega)
     rw [e1,e2,e3]
     have e4:decide ((c :: r).length = 0) = false:=decide_eq_false (by simp)
     have e5:((c :: r).head? == some 48) = (c == 48):=by simp
     rw [e4,e5] at hK
     generalize decide (100 < (c :: r).length) = b1 at *
     generalize ((c == 48) && (decide (1 < (c :: r).length) || decide (1 < a.length))) = b2 at *
     refine ⟨fun h=>?_,fun h=>?_⟩
     · have:=hK _ (Chg.refl _ _)
       have e:(!false && !b1 && !b2 && (c :: r).all Num.isDig) = false:=by
         cases b1 <;> cases b2 <;> simp at h ⊢
       rw [e] at this
       exact this
     · have hb:b1 = false ∧ b2 = false:=by simpa using h
       rw [hb.1,hb.2] at hK
       have hn:((r.length + 1:Nat):Int) = (((c :: r).length:Nat):Int):=by simp
       rw [hn]
       generalize c :: r = D at *
       refine loop_up D.length (fun i w2=>Ext w' w2 ∧ (D.take i).all Num.isDig = true) ⟨Chg.refl _ _,rfl⟩ ?_ ?_
       · rintro i w2 g L hi ⟨hx2,hall⟩ hL
         obtain ⟨e,he⟩:∃ e,D[i]? = some e:=⟨_,List.getElem?_eq_getElem hi⟩
         have hlt:((i:Int) < ((D.length:Nat):Int)):=by omega
         simp only [wsv,wsg,wsh,wsl,cond_true,cond_false,exists_eq_left',wsu,Nat.reduceAdd,Nat.reduceLT,Nat.lt_add_one,Nat.zero_lt_succ,decide_true,decide_false,ne_eq,reduceCtorEq,hlt,Int.toNat_natCast,Int.natCast_nonneg,he,isDig_out]
         intros
         rw [condW_b]
         refine ⟨fun hf=>?_,fun ht=>?_⟩
         · have hf:Num.isDig e = false:=by simpa using hf
           have:=hK _ hx2
           rw [all_no he hf] at this
           exact this
         · have ht:Num.isDig e = true:=by simpa using ht
           rw [up1 (by omega)]
           exact hL _ ⟨hx2,by rw [all_take he,hall,ht]; rfl⟩
       · rintro w2 g L ⟨hx2,hall⟩
         simp only [wsv,wsg,wsh,wsl,cond_true,cond_false,exists_eq_left',wsu,Nat.reduceAdd,Nat.reduceLT,Nat.lt_add_one,Nat.zero_lt_succ,decide_true,decide_false,ne_eq,reduceCtorEq,Int.lt_irrefl]
         rw [List.take_length] at hall
         have:=hK w2 hx2
         rw [hall] at this
         exact this
theorem keysOk_two {ks:List Str} {i:Nat} {a b:Str} (ha:ks[i]? = some a) (hb:ks[i + 1]? = some b) (h:Op.bytesLess a b = false):keysOk ks = false:=by
 induction ks generalizing i with
 | nil=>simp at ha
 | cons x r ih=>
   cases r with
   | nil=>simp at hb
   | cons y r=>
     cases i with
     | zero=>simp only [List.getElem?_cons_zero,Option.some.injEq,Nat.zero_add,List.getElem?_cons_succ] at ha hb; subst ha hb; simp [keysOk,h]
     | succ i=>
       simp only [List.getElem?_cons_succ] at ha hb
       rw [keysOk,ih (by simpa using ha) (by simpa using hb)]; simp
theorem keysOk_long {ks:List Str} {i:Nat} {a:Str} (ha:ks[i]? = some a) (h:16384 < a.length):keysOk ks = false:=by
 induction ks generalizing i with
 | nil=>simp at ha
 | cons x r ih=>
   cases i with
   | zero=>
     simp only [List.getElem?_cons_zero,Option.some.injEq] at ha
     subst ha
     cases r with
     | nil=>simp only [keysOk,decide_eq_false_iff_not]; omega
     | cons y r=>rw [keysOk,decide_eq_false (by omega)]; rfl
   | succ i=>
     simp only [List.getElem?_cons_succ] at ha
     cases r with
     | nil=>simp at ha
     | cons y r=>rw [keysOk,ih ha]; simp
theorem keysOk_mk {ks:List Str} (h1:∀ (i:Nat) (a:Str),ks[i]? = some a → a.length ≤ 16384) (h2:∀ (i:Nat) (a b:Str),ks[i]? = some a → ks[i + 1]? = some b → Op.bytesLess a b = true):keysOk ks = true:=by
 induction ks with
 | nil=>rfl
 | cons x r ih=>
   have:=ih (fun i a h=>h1 (i + 1) a (by rw [List.getElem?_cons_succ]; exact h)) (fun i a b ha hb=>h2 (i + 1) a b (by rw [List.getElem?_cons_succ]; exact ha) (by rw [List.getElem?_cons_succ]; exact hb))
   cases r with
   | nil=>simp only [keysOk,decide_eq_true_eq]; exact h1 0 x rfl
   | cons y r=>rw [keysOk,this,h2 0 x y rfl rfl,decide_eq_true (h1 0 x rfl)]; rfl
end
end Go.Proofs.YtnoepcndjljolaaGreatDoor
namespace Go.Proofs.YtnoepcndjljolaaGreatDoor
open Go Go.Eng Go.Num
set_option maxRecDepth 100000
abbrev ST:TypeId:=9
theorem elem_s:ElemT Tryz.prog 38 ST 1 16:=⟨by kernel_rfl,by kernel_rfl,by decide⟩
theorem elem_v:ElemT Tryz.prog 37 VT 5 80:=⟨by kernel_rfl,by kernel_rfl,by decide⟩
abbrev zv:List Value:=[i64 0,.bool false,str [],.slice none 0 0,.slice none 0 0]
abbrev ptr (b:Nat):Value:=.pointer (some ⟨b,0,none⟩)
theorem own_ge {w:World} {base:Nat} {e:TypeId} {size:Nat} {v:Value} {n:Nat} {xs:List Value} (h:Own w base e size v n xs) {k:Nat} (hk:v.ownBlock = some k):base ≤ k ∧ ∃ c,w.heap[k]? = some (.cells c e (0,0)):=h.block k hk
abbrev Low (g base:Nat) (w w':World):Prop:=Chg (fun k=>k = g ∨ base ≤ k) w w'
theorem low_ext {g base:Nat} {w w1 w2:World} (h1:Low g base w w1) (h2:Ext w1 w2):Low g base w w2:=h1.trans (Chg.of_ext h2)
theorem low_step {g base:Nat} {w w1 w2:World} (h1:Low g base w w1) (h2:Chg (fun k=>base ≤ k) w1 w2):Low g base w w2:=h1.trans (h2.mono fun k _ e=>.inr e)
theorem low_set {g base:Nat} {w w1 w2:World} (h1:Low g base w w1) (h2:Chg (fun k=>k = g) w1 w2):Low g base w w2:=h1.trans (h2.mono fun k _ e=>.inl e)
theorem low_get {g base:Nat} {w w1:World} (h1:Low g base w w1) {j:Nat} (hj:j < base) (hg:j ≠ g) {o:Obj} (h:w.heap[j]? = some o):w1.heap[j]? = some o:=h1.at h (by omega)
theorem low_new {g base:Nat} {w w1 w2:World} (h1:Ext w w1) (hg:w.heap.size ≤ g) (hb:w.heap.size ≤ base) (h2:Low g base w1 w2):Ext w w2:=h1.then h2 fun k hk e=>by omega
structure OwnV (w0 w:World) (base:Nat) (v:JV) (sv kv:Value):Prop where
 items:∃ L,Own w base VT 5 sv v.xs.length L ∧ VReps w0 v.xs L
 keys:Own w base ST 1 kv v.ks.length (v.ks.map str)
 fits:Fits v.xs.length v.ks v.t
theorem OwnV.val {w0 w:World} {base:Nat} {v:JV} {sv kv:Value} (h:OwnV w0 w base v sv kv):VRepS w0 w v [i64 v.k,.bool v.b,str v.t,sv,kv]:=by
 obtain ⟨L,h1,h2⟩:=h.items
 exact ⟨sv,kv,VT,ST,L,rfl,h1.sl,h2,h.keys.sl,h.fits⟩
theorem row_s {w:World} {x:Str} {K:Value → World → Prop} (hK:∀ t w',SlAt w' ST t 1 [str x] → Ext w w' → K t w'):bslW ST 1 [.string (ofL [])] [(0,1,str x)] w K:=by
 unfold bslW
 simp only [wsv,wsg,wsh,wsl,cond_true,cond_false,exists_eq_left',wsu,Nat.reduceAdd,Nat.reduceLT,Nat.lt_add_one,Nat.zero_lt_succ,decide_true,decide_false,ne_eq,reduceCtorEq]
 exact hK _ _ (own_new (w:=w) (base:=w.heap.size) (e:=ST) (size:=1) (n:=1) (cs:=[str x]) (Nat.le_refl _) rfl (by omega)).sl (by repeat (first | assumption | exact Chg.refl _ _ | refine Chg.drew ?_ | refine Chg.alloc ?_ _ | refine Chg.set ?_ (by first | exact .inl rfl | exact .inr (by omega) | exact .inr (by simp only [size_set,size_alloc,size_drew]; omega) | (left; simp; done)) _ | exact Chg.of_ext (by assumption)))
theorem row_v {w:World} {cs:List Value} {K:Value → World → Prop} (hc:cs.length = 5) (hK:∀ t w',SlAt w' VT t 1 cs → Ext w w' → K t w'):bslW VT 1 [(.int .i64 0),(.bool false),(.string (ofL [])),(.slice none 0 0),(.slice none 0 0)] [(0,5,.agg cs.toArray)] w K:=by
 unfold bslW
 have hp:∀ K:List Value → Prop,K cs → putW [(.int .i64 0),(.bool false),(.string (ofL [])),(.slice none 0 0),(.slice none 0 0)] [(0,5,.agg cs.toArray)] K:=by
   intro K hK
   refine ⟨by simp [Value.cells,hc],by simp,?_⟩
   have:List.take 0 [(Value.int .i64 0),(.bool false),(.string (ofL [])),(.slice none 0 0),(.slice none 0 0)] ++ ((Value.agg cs.toArray).cells.toList ++ List.drop (0 + 5) [(Value.int .i64 0),(.bool false),(.string (ofL [])),(.slice none 0 0),(.slice none 0 0)]) = cs:=by simp [Value.cells]
   rw [this]
   exact hK
 refine hp _ ?_
 exact hK _ _ (own_new (w:=w) (base:=w.heap.size) (e:=VT) (size:=5) (n:=1) (cs:=cs) (Nat.le_refl _) (by omega) (by omega)).sl (by repeat (first | assumption | exact Chg.refl _ _ | refine Chg.drew ?_ | refine Chg.alloc ?_ _ | refine Chg.set ?_ (by first | exact .inl rfl | exact .inr (by omega) | exact .inr (by simp only [size_set,size_alloc,size_drew]; omega) | (left; simp; done)) _ | exact Chg.of_ext (by assumption)))
end Go.Proofs.YtnoepcndjljolaaGreatDoor
namespace Go.Proofs.YtnoepcndjljolaaGreatDoor
open Go Go.Eng Go.Num
set_option maxRecDepth 100000
section
variable [HX]
theorem ret_val {w w0:World} {b:Nat} {cs ds:List Value} {v:JV} {K:Value → World → Prop} (hb:w.heap[b]? = some (.cells ds.toArray VT (0,0))) (hd:ds.length = 5) (hl:w0.heap.size ≤ b) (hx:Ext w0 w) (h:VRep w0 v cs)
   (hK:∀ w',Ext w0 w' → Chg (fun k=>k = b) w w' → VRep w' v cs → K (.agg cs.toArray) w'):stW 5 (ptr b) (.agg cs.toArray) w fun w5=>ldW true 5 (ptr b) w5 fun r6=>K r6 w5:=
 ret_agg hb h.len hd h.all_one fun w' hc=>by
   have hx':=hx.new hc hl
   exact hK w' hx' hc (h.ext hx')
theorem ValB.item_old {w0 w:World} {a:Nat} {v:JV} {sv kv:Value} {k:IntKind} {i:Nat} {x:JV} {K:Value → Prop} (h:ValB w0 a v sv kv) (hx:Ext w0 w) (hi:v.xs[i]? = some x) (hK:∀ cs,VRep w0 x cs → K (.agg cs.toArray)):ixaW none 5 sv (.int k i) fun p=>ldW true 5 p w K:=by
 obtain ⟨T,L,h1,h2⟩:=h.items
 obtain ⟨cs,hc,hg⟩:=h2.get hi
 refine ixa_at (size:=5) (h1.ext hx) h2.len (by omega) (List.getElem?_eq_some_iff.1 hi).1 fun b o c fr hb hcc=>?_
 exact ld_cells hb hc.len (fun j hj=>(hcc j hj).trans (hg j hj)) (hK cs hc)
theorem idxI_neg {ks:List Str} {k:Str}:idxI ks k < 0 ↔ idxK ks k = none:=by
 unfold idxI
 cases h:idxK ks k with
 | none=>simp
 | some i=>simp
theorem obj_one {k:Int} {b:Bool} {t:Str} {sv kv:Value} (h1:one1 sv = true) (h2:one1 kv = true):([i64 k,.bool b,str t,sv,kv]:List Value).all one1 = true:=by
 simp only [List.all_cons,List.all_nil,h1,h2,Bool.and_true]; rfl
theorem dropP_take {l:List (Str × JV)} {k:Str} {i:Nat} {p:Str × JV} (hi:l[i]? = some p):dropP (l.take (i + 1)) k = if p.1 = k then dropP (l.take i) k else dropP (l.take i) k ++ [p]:=by
 rw [List.take_add_one,hi]
 simp only [dropP,Option.toList_some,List.filter_append]
 by_cases h:p.1 = k <;> simp [h]
theorem zip_get {ks:List Str} {xs:List JV} {i:Nat} {u:Str} {x:JV} (hu:ks[i]? = some u) (hx:xs[i]? = some x):(ks.zip xs)[i]? = some (u,x):=by
 rw [List.getElem?_zip_eq_some]; exact ⟨hu,hx⟩
theorem insP_take {l:List (Str × JV)} {k:Str} {x:JV}:∀ (i:Nat),(∀ p ∈ l.take i,Op.bytesLess k p.1 = false) → insP l k x = l.take i ++ insP (l.drop i) k x:=by
 induction l with
 | nil=>intro i _; simp [insP]
 | cons p l ih=>
   intro i hi
   cases i with
   | zero=>rfl
   | succ i=>
     simp only [List.take_succ_cons,List.drop_succ_cons,List.cons_append]
     obtain ⟨a,y⟩:=p
     have h0:=hi (a,y) (by simp)
     simp only [insP,h0,Bool.false_eq_true,if_false]
     rw [ih i fun q hq=>hi q (by simp [hq])]
def putGo (l:List (Str × JV)) (k:Str) (x:JV):Nat → List (Str × JV) × Bool
 | 0=>([],false)
 | i + 1=>match l[i]? with
   | none=>putGo l k x i
   | some p=>if (!(putGo l k x i).2 && Op.bytesLess k p.1) then ((putGo l k x i).1 ++ [(k,x)] ++ [p],true) else ((putGo l k x i).1 ++ [p],(putGo l k x i).2)
theorem putGo_spec {l:List (Str × JV)} {k:Str} {x:JV}:∀ (i:Nat),i ≤ l.length → ((putGo l k x i).2 = false → (putGo l k x i).1 = l.take i ∧ ∀ p ∈ l.take i,Op.bytesLess k p.1 = false) ∧ ((putGo l k x i).2 = true → (putGo l k x i).1 ++ l.drop i = insP l k x)
 | 0,_=>by simp [putGo]
 | i + 1,h=>by
   obtain ⟨h1,h2⟩:=putGo_spec (l:=l) (k:=k) (x:=x) i (by omega)
   obtain ⟨p,hp⟩:∃ p,l[i]? = some p:=⟨_,List.getElem?_eq_getElem (by omega)⟩
   have hd:l.drop i = p :: l.drop (i + 1):=by
     have hi:i < l.length:=h
     rw [List.drop_eq_getElem_cons hi]
     congr 1
     exact Option.some.inj ((List.getElem?_eq_getElem hi).symm.trans hp)
   have ht:l.take (i + 1) = l.take i ++ [p]:=by rw [List.take_add_one,hp]; rfl
   simp only [putGo,hp]
   cases hg:(putGo l k x i).2 with
   | true=>
     simp only [Bool.not_true,Bool.false_and,Bool.false_eq_true,if_false]
     refine ⟨(fun e=>by cases e),fun _=>?_⟩
     rw [← h2 hg,hd]; simp
   | false=>
     obtain ⟨e1,e2⟩:=h1 hg
     cases hb:Op.bytesLess k p.1 with
     | true=>
       simp only [Bool.not_false,Bool.and_self,if_true]
       refine ⟨(fun e=>by cases e),fun _=>?_⟩
       obtain ⟨a,y⟩:=p
       rw [e1,insP_take i e2,hd]
       simp only [insP,hb,if_true]
       simp
     | false=>
       simp only [Bool.not_false,Bool.true_and,Bool.false_eq_true,if_false]
       refine ⟨fun _=>⟨by rw [e1,ht],fun q hq=>?_⟩,fun e=>by cases e⟩
       rw [ht] at hq
       rcases List.mem_append.1 hq with hq | hq
       · exact e2 q hq
       · rw [List.mem_singleton.1 hq]; exact hb
theorem putGo_end {l:List (Str × JV)} {k:Str} {x:JV}:insP l k x = if (putGo l k x l.length).2 then (putGo l k x l.length).1 else (putGo l k x l.length).1 ++ [(k,x)]:=by
 obtain ⟨h1,h2⟩:=putGo_spec (k:=k) (x:=x) l.length (Nat.le_refl _)
 cases hg:(putGo l k x l.length).2 with
 | true=>
   rw [if_pos rfl,← h2 hg]; simp
 | false=>
   obtain ⟨e1,e2⟩:=h1 hg
   rw [List.take_length] at e1 e2
   rw [if_neg (by simp),e1]
   have:=insP_take (l:=l) (k:=k) (x:=x) l.length (by rw [List.take_length]; exact e2)
   rw [this]; simp [insP]
theorem putGo_len (l:List (Str × JV)) (k:Str) (x:JV):∀ i,(putGo l k x i).1.length ≤ 2 * i
 | 0=>by simp [putGo]
 | i + 1=>by
   have:=putGo_len l k x i
   simp only [putGo]
   split
   · omega
   · split <;> simp <;> omega
end
end Go.Proofs.YtnoepcndjljolaaGreatDoor

namespace Go.Proofs.YtnoepcndjljolaaGreatDoor
open Go Go.Eng Go.Num
set_option maxRecDepth 100000
section
variable [HX]
theorem text_ref {s:Str} {w:World} {K:Value → World → Prop} (hs:s.length ≤ 9223372036854775807) (hK:∀ cs w',Ext w w' → VRep w' (.mk 4 false s [] []) cs → K (.agg cs.toArray) w'):callF Tryz.prog 203 [str s] w K:=by
 refine W203_ok ?_
 unfold W203
 refine alloc_new fun b w1 hb hz hbb hx=>?_
 simp only [wsv,wsg,wsh,wsl,cond_true,cond_false,exists_eq_left',wsu,Nat.reduceAdd,Nat.reduceLT,Nat.lt_add_one,Nat.zero_lt_succ,decide_true,decide_false,ne_eq,reduceCtorEq]
 have h:VRep w (.mk 4 false s [] []) [i64 4,.bool false,str s,.slice none 0 0,.slice none 0 0]:=VRep.mk (v:=.mk 4 false s [] []) (T1:=0) (T2:=0) (SlAt.nil w 0) (by simp [JV.xs,VReps]) (SlAt.nil w 0) ⟨by simp [JV.xs],by simp [JV.ks],by simpa [JV.t] using hs,by simp [JV.ks]⟩
 exact ret_val hbb rfl (by omega) hx h fun w2 hx2 _ h2=>hK _ w2 hx2 h2
theorem copy_new {w:World} {v:JV} {cs:List Value} {K:Value → World → Prop} (h:VRep w v cs) (hK:∀ a w' sv kv,ValB w' a v sv kv → Ext w w' → K (ptr a) w') :
   allocW VT [(.int .i64 0),(.bool false),(.string (ofL [])),(.slice none 0 0),(.slice none 0 0)] w fun t w1=>stW 5 t (.agg cs.toArray) w1 fun w2=>K t w2:=by
 obtain ⟨sv,kv,T1,T2,L,rfl,h1,h2,h3,h4⟩:=h.out
 refine alloc_new fun a w1 ha hz hb hx=>?_
 refine st_agg_at hb rfl rfl h.all_one fun w2 hz2 hb2 hc2=>?_
 have hx':=hx.new hc2 (by omega)
 exact hK a w2 sv kv ⟨hb2,⟨T1,L,h1.ext hx',h2.ext hx'⟩,⟨T2,h3.ext hx'⟩,h4⟩ hx'
theorem any_take {α:Type} {p:α → Bool} {xs:List α} {i:Nat} {x:α} (hi:xs[i]? = some x):(xs.take (i + 1)).any p = ((xs.take i).any p || p x):=by
 rw [List.take_add_one,hi]; simp
end
end Go.Proofs.YtnoepcndjljolaaGreatDoor
namespace Go.Proofs.YtnoepcndjljolaaGreatDoor
open Go Go.Eng
set_option maxRecDepth 100000
variable [HX]
def plan87:Plan:={ js:=[],ds:=[] }
def W87 (v0 v1:Value) (w:World) (K:Value → World → Prop):Prop:=
 callF Tryz.prog 147 [v0,v1] w fun t7 w1=>
 binW .geq t7 (.int .i64 0) fun t8=>
 K t8 w1
theorem W87_ok {v0 v1:Value} {w:World} {K:Value → World → Prop} (h:W87 v0 v1 w K):callF Tryz.prog 87 [v0,v1] w K:=
 tie _ 87 Tryz.f87 plan87 _ w K 2 _ rfl mixed Tryz.func87 (by kernel_rfl) (by kernel_rfl) Tryz.call87 h
def plan106:Plan:={ js:=[(6004,⟨[19],[],17⟩)],ds:=[] }
def W106 (v0 v1:Value) (w:World) (K:Value → World → Prop):Prop:=
 boxW 40 v0 w fun t2 w1=>
 allocW 40 [(.int .i64 0),(.bool false),(.string (ofL [])),(.slice none 0 0),(.slice none 0 0)] w1 fun t4 w2=>
 fldW 4 t2 fun t9=>
 ldW false 1 t9 w2 fun t10=>
 callF Tryz.prog 161 [t10,v1] w2 fun t12 w3=>
 extW 0 t12 fun t13=>
 extW 1 t12 fun t14=>
 GdW (isB t14 true) [undef] w3 (fun J4=>
 fldW 0 t2 fun t17=>
 ldW false 1 t17 w3 fun t18=>
 binW .eql t18 (.int .i64 6) fun t19=>
 J4 [t19] w3)
 fun s4 _ w5=>
 pickW t14 (s4.getD 0 undef) (.bool false) fun t20=>
 condW t20 (
 fldW 3 t2 fun t21=>
 ldW false 1 t21 w5 fun t22=>
 ixaW none 5 t22 t13 fun t24=>
 ldW true 5 t24 w5 fun t25=>
 callF Tryz.prog 71 [t25] w5 fun t26 w6=>
 stW 5 t4 t26 w6 fun w7=>
 ldW true 5 t4 w7 fun r8=>
 K (.tuple #[r8,(.bool true)]) w7) (
 putW [(.int .i64 0),(.bool false),(.string (ofL [])),(.slice none 0 0),(.slice none 0 0)] [] fun c9=>
 stW 5 t4 (.agg c9.toArray) w5 fun w10=>
 ldW true 5 t4 w10 fun r11=>
 K (.tuple #[r11,(.bool false)]) w10)
theorem W106_ok {v0 v1:Value} {w:World} {K:Value → World → Prop} (h:W106 v0 v1 w K):callF Tryz.prog 106 [v0,v1] w K:=
 tie _ 106 Tryz.f106 plan106 _ w K 2 _ rfl mixed Tryz.func106 (by kernel_rfl) (by kernel_rfl) Tryz.call106 h
def plan48:Plan:={ js:=[(3006,⟨[10],[],7⟩)],ds:=[] }
def W48 (v0:Value) (w:World) (K:Value → World → Prop):Prop:=
 boxW 40 v0 w fun t1 w1=>
 fldW 0 t1 fun t3=>
 ldW false 1 t3 w1 fun t4=>
 binW .neq t4 (.int .i64 1) fun t5=>
 GdW (isB t5 true) [undef] w1 (fun J2=>
 fldW 3 t1 fun t7=>
 ldW false 1 t7 w1 fun t8=>
 callF Tryz.prog 102 [t8,(.func (.func 103) #[] #[])] w1 fun t9 w3=>
 unW .not t9 fun t10=>
 J2 [t10] w3)
 fun s2 _ w4=>
 pickW t5 (s2.getD 0 undef) (.bool false) fun t11=>
 K t11 w4
theorem W48_ok {v0:Value} {w:World} {K:Value → World → Prop} (h:W48 v0 w K):callF Tryz.prog 48 [v0] w K:=
 tie _ 48 Tryz.f48 plan48 _ w K 1 _ rfl mixed Tryz.func48 (by kernel_rfl) (by kernel_rfl) Tryz.call48 h
def plan147:Plan:={ js:=[(6,⟨[8],[4,5],8⟩)],ds:=[] }
def W147 (v0 v1:Value) (w:World) (K:Value → World → Prop):Prop:=
 lenlW v0 fun t7=>
 LoopW [(.int .i64 0)] w fun s1 _ w2 L1=>
 binW .lss (s1.getD 0 undef) t7 fun t9=>
 condW t9 (
 ixaW none 1 v0 (s1.getD 0 undef) fun t14=>
 ldW false 1 t14 w2 fun t15=>
 callV Tryz.prog v1 [t15] w2 fun t16 w3=>
 condW t16 (
 K (s1.getD 0 undef) w3) (
 binW .add (s1.getD 0 undef) (.int .i64 1) fun t18=>
 L1 [t18] w3)) (
 K (.int .i64 (-1)) w2)
theorem W147_ok {v0 v1:Value} {w:World} {K:Value → World → Prop} (h:W147 v0 v1 w K):callF Tryz.prog 147 [v0,v1] w K:=
 tie _ 147 Tryz.f147 plan147 _ w K 2 _ rfl mixed Tryz.func147 (by kernel_rfl) (by kernel_rfl) Tryz.call147 h
def plan161:Plan:={ js:=[(24004,⟨[52],[],36⟩),(24005,⟨[51],[],43⟩),(24007,⟨[50],[],49⟩),(24013,⟨[48],[],43⟩),(24020,⟨[42],[],36⟩),(8,⟨[7,8],[],7⟩)],ds:=[] }
def W161 (v0 v1:Value) (w:World) (K:Value → World → Prop):Prop:=
 lenlW v0 fun t11=>
 LoopW [(.int .i64 0),t11] w fun s1 _ w2 L1=>
 binW .lss (s1.getD 0 undef) (s1.getD 1 undef) fun t15=>
 condW t15 (
 binW .add (s1.getD 0 undef) (s1.getD 1 undef) fun t18=>
 cvtW .u64 t18 fun t19=>
 binW .shr t19 (.int .u64 1) fun t20=>
 cvtW .i64 t20 fun t21=>
 ixaW none 1 v0 t21 fun t24=>
 ldW false 1 t24 w2 fun t25=>
 callF Tryz.prog 209 [t25,v1] w2 fun t27 w3=>
 condW t27 (
 binW .add t21 (.int .i64 1) fun t29=>
 L1 [t29,(s1.getD 1 undef)] w3) (
 L1 [(s1.getD 0 undef),t21] w3)) (
 binW .lss (s1.getD 0 undef) t11 fun t34=>
 GdW (isB t34 true) [undef] w2 (fun J4=>
 ixaW none 1 v0 (s1.getD 0 undef) fun t38=>
 ldW false 1 t38 w2 fun t39=>
 binW .eql t39 v1 fun t41=>
 J4 [t41] w2)
 fun s4 _ w5=>
 GdW (isB (s4.getD 0 undef) false) [undef] w5 (fun J6=>
 ixaW none 1 v0 (s1.getD 0 undef) fun t45=>
 ldW false 1 t45 w5 fun t46=>
 callF Tryz.prog 210 [t46] w5 fun t47 w7=>
 J6 [t47] w7)
 fun s6 _ w8=>
 GdW (isB (s6.getD 0 undef) true) [undef] w8 (fun J9=>
 callF Tryz.prog 210 [v1] w8 fun t50 w10=>
 J9 [t50] w10)
 fun s9 _ w11=>
 GdW (isB (s4.getD 0 undef) false) [undef] w11 (fun J12=>
 pickW (s6.getD 0 undef) (s9.getD 0 undef) (.bool false) fun t51=>
 J12 [t51] w11)
 fun s12 _ w13=>
 GdW (isB t34 true) [undef] w13 (fun J14=>
 pickW (s4.getD 0 undef) (.bool true) (s12.getD 0 undef) fun t52=>
 J14 [t52] w13)
 fun s14 _ w15=>
 pickW t34 (s14.getD 0 undef) (.bool false) fun t53=>
 K (.tuple #[(s1.getD 0 undef),t53]) w15)
theorem W161_ok {v0 v1:Value} {w:World} {K:Value → World → Prop} (h:W161 v0 v1 w K):callF Tryz.prog 161 [v0,v1] w K:=
 tie _ 161 Tryz.f161 plan161 _ w K 2 _ rfl mixed Tryz.func161 (by kernel_rfl) (by kernel_rfl) Tryz.call161 h
def plan71:Plan:={ js:=[],ds:=[(3,⟨[0,1,3,4,6,8],[[],[0],[0,1],[],[3],[0,1,2,3,4],[0,1,2,3,4],[0,1,2,3,4,5,6],[0,1,2,3,4,5,6,7],[0,1,2,3,4,5,6,7,8]]⟩)] }
def W71 (v0:Value) (w:World) (K:Value → World → Prop):Prop:=
 boxW 40 v0 w fun t1 w1=>
 allocW 40 [(.int .i64 0),(.bool false),(.string (ofL [])),(.slice none 0 0),(.slice none 0 0)] w1 fun t2 w2=>
 fldW 4 t1 fun t3=>
 ldW false 1 t3 w2.drew fun t4=>
 fldW 3 t1 fun t6=>
 ldW false 1 t6 w2.drew fun t7=>
 callF Tryz.prog 72 [t4] w2.drew fun t5 w3=>
 (ldW false 1 t6 w3 fun x=>x = t7) ∧
 fldW 4 t1 fun t9=>
 callF Tryz.prog 130 [t7] w3 fun t8 w4=>
 stW 1 t9 t5 w4 fun w5=>
 fldW 3 t1 fun t10=>
 stW 1 t10 t8 w5 fun w6=>
 ldW true 5 t1 w6 fun t11=>
 stW 5 t2 t11 w6 fun w7=>
 ldW true 5 t2 w7 fun r8=>
 K r8 w7
theorem W71_ok {v0:Value} {w:World} {K:Value → World → Prop} (h:W71 v0 w K):callF Tryz.prog 71 [v0] w K:=
 tie _ 71 Tryz.f71 plan71 _ w K 1 _ rfl mixed Tryz.func71 (by kernel_rfl) (by kernel_rfl) Tryz.call71 h
def plan102:Plan:={ js:=[],ds:=[] }
def W102 (v0 v1:Value) (w:World) (K:Value → World → Prop):Prop:=
 callF Tryz.prog 160 [v0,v1] w fun t7 w1=>
 binW .geq t7 (.int .i64 0) fun t8=>
 K t8 w1
theorem W102_ok {v0 v1:Value} {w:World} {K:Value → World → Prop} (h:W102 v0 v1 w K):callF Tryz.prog 102 [v0,v1] w K:=
 tie _ 102 Tryz.f102 plan102 _ w K 2 _ rfl mixed Tryz.func102 (by kernel_rfl) (by kernel_rfl) Tryz.call102 h
def plan103:Plan:={ js:=[],ds:=[] }
def W103 (v0:Value) (w:World) (K:Value → World → Prop):Prop:=
 boxW 40 v0 w fun t1 w1=>
 ldW true 5 t1 w1 fun t3=>
 callF Tryz.prog 48 [t3] w1 fun t4 w2=>
 unW .not t4 fun t5=>
 K t5 w2
theorem W103_ok {v0:Value} {w:World} {K:Value → World → Prop} (h:W103 v0 w K):callF Tryz.prog 103 [v0] w K:=
 tie _ 103 Tryz.f103 plan103 _ w K 1 _ rfl mixed Tryz.func103 (by kernel_rfl) (by kernel_rfl) Tryz.call103 h
def plan62:Plan:={ js:=[(28003,⟨[36],[],35⟩),(16,⟨[28],[2,5],28⟩),(6002,⟨[23],[],17⟩),(6004,⟨[22],[],21⟩),(6008,⟨[20],[],17⟩),(6013,⟨[14],[],12⟩)],ds:=[] }
def W62 (v0:Value) (w:World) (K:Value → World → Prop):Prop:=
 callF Tryz.prog 122 [v0,(.string (ofL [45]))] w fun t7 w1=>
 lensW t7 fun t9=>
 binW .lss t9 (.int .i64 1) fun t10=>
 GdW (isB t10 false) [undef] w1 (fun J2=>
 lensW t7 fun t13=>
 binW .gtr t13 (.int .i64 100) fun t14=>
 J2 [t14] w1)
 fun s2 _ w3=>
 pickW t10 (.bool true) (s2.getD 0 undef) fun t15=>
 GdW (isB t15 false) [undef] w3 (fun J4=>
 ixsW t7 (.int .i64 0) fun t18=>
 binW .eql t18 (.int .u8 48) fun t19=>
 J4 [t19] w3)
 fun s4 _ w5=>
 GdW (isB (s4.getD 0 undef) true) [undef] w5 (fun J6=>
 binW .neq v0 (.string (ofL [48])) fun t22=>
 J6 [t22] w5)
 fun s6 _ w7=>
 GdW (isB t15 false) [undef] w7 (fun J8=>
 pickW (s4.getD 0 undef) (s6.getD 0 undef) (.bool false) fun t23=>
 J8 [t23] w7)
 fun s8 _ w9=>
 pickW t15 (.bool true) (s8.getD 0 undef) fun t24=>
 condW t24 (
 K (.bool false) w9) (
 semE Tryz.prog (convert 9 27 t7) w9 fun t26 w10=>
 lenlW t26 fun t27=>
 LoopW [(.int .i64 0)] w10 fun s11 _ w12 L11=>
 binW .lss (s11.getD 0 undef) t27 fun t29=>
 condW t29 (
 ixaW none 1 t26 (s11.getD 0 undef) fun t30=>
 ldW false 1 t30 w12 fun t31=>
 binW .lss t31 (.int .u8 48) fun t33=>
 GdW (isB t33 false) [undef] w12 (fun J13=>
 binW .gtr t31 (.int .u8 57) fun t36=>
 J13 [t36] w12)
 fun s13 _ w14=>
 pickW t33 (.bool true) (s13.getD 0 undef) fun t37=>
 condW t37 (
 K (.bool false) w14) (
 binW .add (s11.getD 0 undef) (.int .i64 1) fun t38=>
 L11 [t38] w14)) (
 K (.bool true) w12))
theorem W62_ok {v0:Value} {w:World} {K:Value → World → Prop} (h:W62 v0 w K):callF Tryz.prog 62 [v0] w K:=
 tie _ 62 Tryz.f62 plan62 _ w K 1 _ rfl mixed Tryz.func62 (by kernel_rfl) (by kernel_rfl) Tryz.call62 h
def plan72:Plan:={ js:=[],ds:=[] }
def W72 (v0:Value) (w:World) (K:Value → World → Prop):Prop:=
 eqW .slice false v0 (.slice none 0 0) fun t4=>
 condW t4 (
 K (.slice none 0 0) w) (
 bslW 9 0 [] [] w fun t5 w1=>
 semE Tryz.prog (Builtin.append_ #[38,38] 38 #[t5,v0]) w1 fun t7 w2=>
 K t7 w2)
theorem W72_ok {v0:Value} {w:World} {K:Value → World → Prop} (h:W72 v0 w K):callF Tryz.prog 72 [v0] w K:=
 tie _ 72 Tryz.f72 plan72 _ w K 1 _ rfl mixed Tryz.func72 (by kernel_rfl) (by kernel_rfl) Tryz.call72 h
def plan130:Plan:={ js:=[(8,⟨[3,8],[3,5],8⟩)],ds:=[] }
def W130 (v0:Value) (w:World) (K:Value → World → Prop):Prop:=
 lenlW v0 fun t7=>
 LoopW [(.slice none 0 0),(.int .i64 0)] w fun s1 _ w2 L1=>
 binW .lss (s1.getD 1 undef) t7 fun t9=>
 condW t9 (
 ixaW none 5 v0 (s1.getD 1 undef) fun t10=>
 ldW true 5 t10 w2 fun t11=>
 allocW 40 [(.int .i64 0),(.bool false),(.string (ofL [])),(.slice none 0 0),(.slice none 0 0)] w2 fun t5 w3=>
 stW 5 t5 t11 w3 fun w4=>
 ldW true 5 t5 w4 fun t13=>
 callF Tryz.prog 71 [t13] w4 fun t14 w5=>
 bslW 40 1 [(.int .i64 0),(.bool false),(.string (ofL [])),(.slice none 0 0),(.slice none 0 0)] [(0,5,t14)] w5 fun t15 w6=>
 semE Tryz.prog (Builtin.append_ #[37,37] 37 #[(s1.getD 0 undef),t15]) w6 fun t16 w7=>
 binW .add (s1.getD 1 undef) (.int .i64 1) fun t17=>
 L1 [t16,t17] w7) (
 K (s1.getD 0 undef) w2)
theorem W130_ok {v0:Value} {w:World} {K:Value → World → Prop} (h:W130 v0 w K):callF Tryz.prog 130 [v0] w K:=
 tie _ 130 Tryz.f130 plan130 _ w K 1 _ rfl mixed Tryz.func130 (by kernel_rfl) (by kernel_rfl) Tryz.call130 h
def plan84:Plan:={ js:=[],ds:=[] }
def W84 (v0 v1:Value) (w:World) (K:Value → World → Prop):Prop:=
 callF Tryz.prog 146 [v0] w fun t8 w1=>
 callF Tryz.prog 146 [v1] w1 fun t10 w2=>
 condW t8 (
 condW t10 (
 K (.int .i64 0) w2) (
 K (.int .i64 (-1)) w2)) (
 condW t10 (
 K (.int .i64 1) w2) (
 binW .lss v0 v1 fun t16=>
 condW t16 (
 K (.int .i64 (-1)) w2) (
 binW .gtr v0 v1 fun t19=>
 condW t19 (
 K (.int .i64 1) w2) (
 K (.int .i64 0) w2))))
theorem W84_ok {v0 v1:Value} {w:World} {K:Value → World → Prop} (h:W84 v0 v1 w K):callF Tryz.prog 84 [v0,v1] w K:=
 tie _ 84 Tryz.f84 plan84 _ w K 2 _ rfl mixed Tryz.func84 (by kernel_rfl) (by kernel_rfl) Tryz.call84 h
def plan82:Plan:={ js:=[(8,⟨[8],[2,5],8⟩)],ds:=[] }
def W82 (v0:Value) (w:World) (K:Value → World → Prop):Prop:=
 lenlW v0 fun t7=>
 LoopW [(.int .i64 0)] w fun s1 _ w2 L1=>
 binW .lss (s1.getD 0 undef) t7 fun t9=>
 condW t9 (
 ixaW none 1 v0 (s1.getD 0 undef) fun t10=>
 ldW false 1 t10 w2 fun t11=>
 binW .neq t11 (.int .i64 0) fun t14=>
 condW t14 (
 K t11 w2) (
 binW .add (s1.getD 0 undef) (.int .i64 1) fun t16=>
 L1 [t16] w2)) (
 K (.int .i64 0) w2)
theorem W82_ok {v0:Value} {w:World} {K:Value → World → Prop} (h:W82 v0 w K):callF Tryz.prog 82 [v0] w K:=
 tie _ 82 Tryz.f82 plan82 _ w K 1 _ rfl mixed Tryz.func82 (by kernel_rfl) (by kernel_rfl) Tryz.call82 h
def plan83:Plan:={ js:=[(6,⟨[11],[4,5,6,7,8],11⟩)],ds:=[] }
def W83 (v0 v1:Value) (w:World) (K:Value → World → Prop):Prop:=
 lenlW v0 fun t10=>
 LoopW [(.int .i64 0)] w fun s1 _ w2 L1=>
 binW .lss (s1.getD 0 undef) t10 fun t12=>
 condW t12 (
 ixaW none 1 v0 (s1.getD 0 undef) fun t14=>
 ldW false 1 t14 w2 fun t15=>
 lenlW v1 fun t18=>
 binW .geq (s1.getD 0 undef) t18 fun t19=>
 condW t19 (
 K (.int .i64 1) w2) (
 ixaW none 1 v1 (s1.getD 0 undef) fun t22=>
 ldW false 1 t22 w2 fun t23=>
 callF Tryz.prog 70 [t15,t23] w2 fun t26 w3=>
 binW .neq t26 (.int .i64 0) fun t28=>
 condW t28 (
 K t26 w3) (
 binW .add (s1.getD 0 undef) (.int .i64 1) fun t30=>
 L1 [t30] w3))) (
 lenlW v0 fun t32=>
 lenlW v1 fun t34=>
 binW .lss t32 t34 fun t35=>
 condW t35 (
 K (.int .i64 (-1)) w2) (
 K (.int .i64 0) w2))
theorem W83_ok {v0 v1:Value} {w:World} {K:Value → World → Prop} (h:W83 v0 v1 w K):callF Tryz.prog 83 [v0,v1] w K:=
 tie _ 83 Tryz.f83 plan83 _ w K 2 _ rfl mixed Tryz.func83 (by kernel_rfl) (by kernel_rfl) Tryz.call83 h
def plan160:Plan:={ js:=[(6,⟨[8],[4,5],8⟩)],ds:=[] }
def W160 (v0 v1:Value) (w:World) (K:Value → World → Prop):Prop:=
 lenlW v0 fun t7=>
 LoopW [(.int .i64 0)] w fun s1 _ w2 L1=>
 binW .lss (s1.getD 0 undef) t7 fun t9=>
 condW t9 (
 ixaW none 5 v0 (s1.getD 0 undef) fun t14=>
 ldW true 5 t14 w2 fun t15=>
 callV Tryz.prog v1 [t15] w2 fun t16 w3=>
 condW t16 (
 K (s1.getD 0 undef) w3) (
 binW .add (s1.getD 0 undef) (.int .i64 1) fun t18=>
 L1 [t18] w3)) (
 K (.int .i64 (-1)) w2)
theorem W160_ok {v0 v1:Value} {w:World} {K:Value → World → Prop} (h:W160 v0 v1 w K):callF Tryz.prog 160 [v0,v1] w K:=
 tie _ 160 Tryz.f160 plan160 _ w K 2 _ rfl mixed Tryz.func160 (by kernel_rfl) (by kernel_rfl) Tryz.call160 h
def plan146:Plan:={ js:=[],ds:=[] }
def W146 (v0:Value) (w:World) (K:Value → World → Prop):Prop:=
 binW .neq v0 v0 fun t5=>
 K t5 w
theorem W146_ok {v0:Value} {w:World} {K:Value → World → Prop} (h:W146 v0 w K):callF Tryz.prog 146 [v0] w K:=
 tie _ 146 Tryz.f146 plan146 _ w K 1 _ rfl mixed Tryz.func146 (by kernel_rfl) (by kernel_rfl) Tryz.call146 h
def plan70:Plan:={ js:=[],ds:=[] }
def W70 (v0 v1:Value) (w:World) (K:Value → World → Prop):Prop:=
 callF Tryz.prog 129 [v0] w fun t8 w1=>
 callF Tryz.prog 129 [v1] w1 fun t10 w2=>
 condW t8 (
 condW t10 (
 K (.int .i64 0) w2) (
 K (.int .i64 (-1)) w2)) (
 condW t10 (
 K (.int .i64 1) w2) (
 binW .lss v0 v1 fun t16=>
 condW t16 (
 K (.int .i64 (-1)) w2) (
 binW .gtr v0 v1 fun t19=>
 condW t19 (
 K (.int .i64 1) w2) (
 K (.int .i64 0) w2))))
theorem W70_ok {v0 v1:Value} {w:World} {K:Value → World → Prop} (h:W70 v0 v1 w K):callF Tryz.prog 70 [v0,v1] w K:=
 tie _ 70 Tryz.f70 plan70 _ w K 2 _ rfl mixed Tryz.func70 (by kernel_rfl) (by kernel_rfl) Tryz.call70 h
def plan210:Plan:={ js:=[],ds:=[] }
def W210 (v0:Value) (w:World) (K:Value → World → Prop):Prop:=
 binW .neq v0 v0 fun t5=>
 K t5 w
theorem W210_ok {v0:Value} {w:World} {K:Value → World → Prop} (h:W210 v0 w K):callF Tryz.prog 210 [v0] w K:=
 tie _ 210 Tryz.f210 plan210 _ w K 1 _ rfl mixed Tryz.func210 (by kernel_rfl) (by kernel_rfl) Tryz.call210 h
def plan122:Plan:={ js:=[],ds:=[] }
def W122 (v0 v1:Value) (w:World) (K:Value → World → Prop):Prop:=
 callF Tryz.prog 180 [v0,v1] w fun t7 w1=>
 K t7 w1
theorem W122_ok {v0 v1:Value} {w:World} {K:Value → World → Prop} (h:W122 v0 v1 w K):callF Tryz.prog 122 [v0,v1] w K:=
 tie _ 122 Tryz.f122 plan122 _ w K 2 _ rfl mixed Tryz.func122 (by kernel_rfl) (by kernel_rfl) Tryz.call122 h
def plan180:Plan:={ js:=[],ds:=[] }
def W180 (v0 v1:Value) (w:World) (K:Value → World → Prop):Prop:=
 callF Tryz.prog 168 [v0,v1] w fun t7 w1=>
 condW t7 (
 lensW v1 fun t10=>
 slsW v0 (some t10) none fun t11=>
 K t11 w1) (
 K v0 w1)
theorem W180_ok {v0 v1:Value} {w:World} {K:Value → World → Prop} (h:W180 v0 v1 w K):callF Tryz.prog 180 [v0,v1] w K:=
 tie _ 180 Tryz.f180 plan180 _ w K 2 _ rfl mixed Tryz.func180 (by kernel_rfl) (by kernel_rfl) Tryz.call180 h
def plan242:Plan:={ js:=[],ds:=[] }
def W242 (v0 v1 v2:Value) (w:World) (K:Value → World → Prop):Prop:=
 callF Tryz.prog 218 [v0,v1,v2] w fun t14 w1=>
 extW 0 t14 fun t15=>
 extW 1 t14 fun t16=>
 eqQ Tryz.prog .neq 103 false true t16 .nilIface w1 fun t18=>
 condW t18 (
 callF Tryz.prog 121 [(.string (ofL [80,97,114,115,101,85,105,110,116])),v0,v1,v2,t16] w1 fun t24 w2=>
 K (.tuple #[t15,t24]) w2) (
 K (.tuple #[t15,.nilIface]) w1)
theorem W242_ok {v0 v1 v2:Value} {w:World} {K:Value → World → Prop} (h:W242 v0 v1 v2 w K):callF Tryz.prog 242 [v0,v1,v2] w K:=
 tie _ 242 Tryz.f242 plan242 _ w K 3 _ rfl mixed Tryz.func242 (by kernel_rfl) (by kernel_rfl) Tryz.call242 h
def plan209:Plan:={ js:=[(3005,⟨[15],[],13⟩),(3010,⟨[10],[],8⟩)],ds:=[] }
def W209 (v0 v1:Value) (w:World) (K:Value → World → Prop):Prop:=
 callF Tryz.prog 129 [v0] w fun t6 w1=>
 GdW (isB t6 true) [undef] w1 (fun J2=>
 callF Tryz.prog 129 [v1] w1 fun t9 w3=>
 unW .not t9 fun t10=>
 J2 [t10] w3)
 fun s2 _ w4=>
 pickW t6 (s2.getD 0 undef) (.bool false) fun t11=>
 GdW (isB t11 false) [undef] w4 (fun J5=>
 binW .lss v0 v1 fun t15=>
 J5 [t15] w4)
 fun s5 _ w6=>
 pickW t11 (.bool true) (s5.getD 0 undef) fun t16=>
 K t16 w6
theorem W209_ok {v0 v1:Value} {w:World} {K:Value → World → Prop} (h:W209 v0 v1 w K):callF Tryz.prog 209 [v0,v1] w K:=
 tie _ 209 Tryz.f209 plan209 _ w K 2 _ rfl mixed Tryz.func209 (by kernel_rfl) (by kernel_rfl) Tryz.call209 h
def plan129:Plan:={ js:=[],ds:=[] }
def W129 (v0:Value) (w:World) (K:Value → World → Prop):Prop:=
 binW .neq v0 v0 fun t5=>
 K t5 w
theorem W129_ok {v0:Value} {w:World} {K:Value → World → Prop} (h:W129 v0 w K):callF Tryz.prog 129 [v0] w K:=
 tie _ 129 Tryz.f129 plan129 _ w K 1 _ rfl mixed Tryz.func129 (by kernel_rfl) (by kernel_rfl) Tryz.call129 h
end Go.Proofs.YtnoepcndjljolaaGreatDoor
namespace Go.Proofs
open Go.Shelf
def Tryz.lays170_ren:Go.Shelf.Ren:=⟨fun | 170=>53 | n=>n,fun | 70=>91 | 3=>3 | 0=>0 | 72=>93 | 37=>27 | 5=>5 | n=>n,fun | n=>n⟩
theorem Tryz.lays170:Go.Proofs.Lays.n170 Tryz.prog Tryz.lays170_ren:={
 mixed:=by kernel_rfl
 f170:=Tryz.func53.trans (congrArg some (by kernel_rfl))
 t0:=Tryz.underlying0
 a0:=Tryz.isAgg0
 z0:=Tryz.sizeOf0
 v0:=Tryz.zeroValue0
 t3:=Tryz.underlying3
 a3:=Tryz.isAgg3
 z3:=Tryz.sizeOf3
 v3:=Tryz.zeroValue3
 t37:=Tryz.underlying27
 a37:=Tryz.isAgg27
 z37:=Tryz.sizeOf27
 v37:=Tryz.zeroValue27
 t70:=Tryz.underlying91
 a70:=Tryz.isAgg91
 z70:=Tryz.sizeOf91
 v70:=Tryz.zeroValue91
 t72:=Tryz.underlying93
 a72:=Tryz.isAgg93
 z72:=Tryz.sizeOf93
 v72:=Tryz.zeroValue93 }
def Tryz.lays169_ren:Go.Shelf.Ren:=⟨fun | 169=>54 | n=>n,fun | 70=>91 | 9=>9 | 0=>0 | 72=>93 | 37=>27 | 127=>148 | 3=>3 | 5=>5 | n=>n,fun | n=>n⟩
theorem Tryz.lays169:Go.Proofs.Lays.n169 Tryz.prog Tryz.lays169_ren:={
 mixed:=by kernel_rfl
 f169:=Tryz.func54.trans (congrArg some (by kernel_rfl))
 t0:=Tryz.underlying0
 a0:=Tryz.isAgg0
 z0:=Tryz.sizeOf0
 v0:=Tryz.zeroValue0
 t3:=Tryz.underlying3
 a3:=Tryz.isAgg3
 z3:=Tryz.sizeOf3
 v3:=Tryz.zeroValue3
 t9:=Tryz.underlying9
 a9:=Tryz.isAgg9
 z9:=Tryz.sizeOf9
 v9:=Tryz.zeroValue9
 t37:=Tryz.underlying27
 a37:=Tryz.isAgg27
 z37:=Tryz.sizeOf27
 v37:=Tryz.zeroValue27
 t70:=Tryz.underlying91
 a70:=Tryz.isAgg91
 z70:=Tryz.sizeOf91
 v70:=Tryz.zeroValue91
 t72:=Tryz.underlying93
 a72:=Tryz.isAgg93
 z72:=Tryz.sizeOf93
 v72:=Tryz.zeroValue93
 t127:=Tryz.underlying148
 a127:=Tryz.isAgg148
 z127:=Tryz.sizeOf148
 v127:=Tryz.zeroValue148 }
theorem Tryz.Builder_Extra_169:Builder.Extra Tryz.prog Tryz.lays169_ren:={
 sizeBuilder:=by kernel_rfl
 liesBuilder:=by kernel_rfl
 t5:=Tryz.underlying5
 a5:=Tryz.isAgg5
 z5:=Tryz.sizeOf5
 v5:=Tryz.zeroValue5
 infoByte:=by kernel_rfl
 cellsByte:=by kernel_rfl
 sizeByte:=by kernel_rfl
 neB5:=by decide }
def Tryz.lays125_ren:Go.Shelf.Ren:=⟨fun | 125=>81 | 128=>144 | 129=>145 | n=>n,fun | 46=>31 | 3=>3 | 51=>171 | 53=>173 | 4=>4 | 5=>5 | 9=>9 | n=>n,fun | n=>n⟩
theorem Tryz.lays125:Go.Proofs.Lays.n125 Tryz.prog Tryz.lays125_ren:={
 mixed:=by kernel_rfl
 f125:=Tryz.func81.trans (congrArg some (by kernel_rfl))
 f128:=Tryz.func144.trans (congrArg some (by kernel_rfl))
 f129:=Tryz.func145.trans (congrArg some (by kernel_rfl))
 t3:=Tryz.underlying3
 a3:=Tryz.isAgg3
 z3:=Tryz.sizeOf3
 v3:=Tryz.zeroValue3
 t4:=Tryz.underlying4
 a4:=Tryz.isAgg4
 z4:=Tryz.sizeOf4
 v4:=Tryz.zeroValue4
 t5:=Tryz.underlying5
 a5:=Tryz.isAgg5
 z5:=Tryz.sizeOf5
 v5:=Tryz.zeroValue5
 t9:=Tryz.underlying9
 a9:=Tryz.isAgg9
 z9:=Tryz.sizeOf9
 v9:=Tryz.zeroValue9
 t46:=Tryz.underlying31
 a46:=Tryz.isAgg31
 z46:=Tryz.sizeOf31
 v46:=Tryz.zeroValue31
 t51:=Tryz.underlying171
 a51:=Tryz.isAgg171
 z51:=Tryz.sizeOf171
 v51:=Tryz.zeroValue171
 t53:=Tryz.underlying173
 a53:=Tryz.isAgg173
 z53:=Tryz.sizeOf173
 v53:=Tryz.zeroValue173 }
theorem Tryz.bits_Len (x:Int) (w:World) (h0:0 ≤ x) (h1:x ≤ 18446744073709551615) :
   Calls Tryz.prog 81 #[.int .u64 x] w fun e w'=>e = .returned (.int .i64 (Lib.bitLen x.toNat)) ∧ w' = w:=Any.bits_Len Tryz.lays125 x w h0 h1
def Tryz.lays137_ren:Go.Shelf.Ren:=⟨fun | 137=>76 | 217=>133 | 266=>185 | n=>n,fun | 9=>9 | 5=>5 | 3=>3 | n=>n,fun | n=>n⟩
theorem Tryz.lays137:Go.Proofs.Lays.n137 Tryz.prog Tryz.lays137_ren:={
 mixed:=by kernel_rfl
 f137:=Tryz.func76.trans (congrArg some (by kernel_rfl))
 f217:=Tryz.func133.trans (congrArg some (by kernel_rfl))
 f266:=Tryz.func185.trans (congrArg some (by kernel_rfl))
 t3:=Tryz.underlying3
 a3:=Tryz.isAgg3
 z3:=Tryz.sizeOf3
 v3:=Tryz.zeroValue3
 t5:=Tryz.underlying5
 a5:=Tryz.isAgg5
 z5:=Tryz.sizeOf5
 v5:=Tryz.zeroValue5
 t9:=Tryz.underlying9
 a9:=Tryz.isAgg9
 z9:=Tryz.sizeOf9
 v9:=Tryz.zeroValue9 }
open Go.RowKit in
theorem Tryz.strings_IndexByte (s:ByteArray) (c:Int) (w:World) :
   Calls Tryz.prog 76 #[.string s,.int .u8 c] w fun e w'=>e = .returned (.int .i64 (Lib.indexByte s.data.toList c.toNat.toUInt8)) ∧ w' = w:=Any.strings_IndexByte Tryz.lays137 s c w
def Tryz.lays121_ren:Go.Shelf.Ren:=⟨fun | 121=>110 | 214=>164 | n=>n,fun | 4=>4 | 9=>9 | n=>n,fun | n=>n⟩
theorem Tryz.lays121:Go.Proofs.Lays.n121 Tryz.prog Tryz.lays121_ren:={
 mixed:=by kernel_rfl
 f121:=Tryz.func110.trans (congrArg some (by kernel_rfl))
 f214:=Tryz.func164.trans (congrArg some (by kernel_rfl))
 t4:=Tryz.underlying4
 a4:=Tryz.isAgg4
 z4:=Tryz.sizeOf4
 v4:=Tryz.zeroValue4
 t9:=Tryz.underlying9
 a9:=Tryz.isAgg9
 z9:=Tryz.sizeOf9
 v9:=Tryz.zeroValue9 }
open Go.RowKit in
theorem Tryz.strconv_FormatBool (b:Bool) (w:World) :
   Calls Tryz.prog 110 #[.bool b] w fun e w'=>e = .returned (.string ⟨(Lib.formatBool b).toArray⟩) ∧ w' = w:=Any.strconv_FormatBool Tryz.lays121 b w
open Go.RowKit in
theorem Tryz.Builder_Len_f (B b:Nat) (bs:List Value) (w:World) (h:Lib.IsBuilderF 93 5 B b bs w) :
   Calls Tryz.prog 53 #[.pointer (some ⟨b,0,none⟩)] w fun e w'=>e = .returned (.int .i64 bs.length) ∧ w' = w:=Any.Builder_Len_f Tryz.lays170 B b bs w h
open Go.RowKit in
theorem Tryz.Builder_String_any_k (B b:Nat) (l:List UInt8) (w:World) (h:Lib.IsBuilderF 93 5 B b (Lib.byteCells l) w) (hBw:B ≤ w.heap.size) :
   Calls Tryz.prog 54 #[.pointer (some ⟨b,0,none⟩)] w fun e w'=>e = .returned (.string ⟨l.toArray⟩) ∧ (Lib.IsBuilderF 93 5 B b (Lib.byteCells l) w' ∧ Below B w w' ∧ Lib.OthersKept 5 (some b) w w'):=Any.Builder_String_any_k Tryz.lays169 Tryz.Builder_Extra_169 B b l w h hBw
def Tryz.lays244_ren:Go.Shelf.Ren:=⟨fun | 244=>120 | 247=>175 | 287=>218 | 321=>243 | 322=>244 | n=>n,fun | 9=>9 | 3=>3 | 75=>103 | 4=>4 | 5=>5 | 167=>201 | 37=>27 | 0=>0 | 85=>202 | 2=>2 | 53=>173 | 175=>229 | 46=>31 | 21=>21 | 80=>96 | n=>n,fun | n=>n⟩
theorem Tryz.lays244:Go.Proofs.Lays.n244 Tryz.prog Tryz.lays244_ren:={
 mixed:=by kernel_rfl
 f244:=Tryz.func120.trans (congrArg some (by kernel_rfl))
 f247:=Tryz.func175.trans (congrArg some (by kernel_rfl))
 f287:=Tryz.func218.trans (congrArg some (by kernel_rfl))
 f321:=Tryz.func243.trans (congrArg some (by kernel_rfl))
 f322:=Tryz.func244.trans (congrArg some (by kernel_rfl))
 t0:=Tryz.underlying0
 a0:=Tryz.isAgg0
 z0:=Tryz.sizeOf0
 v0:=Tryz.zeroValue0
 t2:=Tryz.underlying2
 a2:=Tryz.isAgg2
 z2:=Tryz.sizeOf2
 v2:=Tryz.zeroValue2
 t3:=Tryz.underlying3
 a3:=Tryz.isAgg3
 z3:=Tryz.sizeOf3
 v3:=Tryz.zeroValue3
 t4:=Tryz.underlying4
 a4:=Tryz.isAgg4
 z4:=Tryz.sizeOf4
 v4:=Tryz.zeroValue4
 t5:=Tryz.underlying5
 a5:=Tryz.isAgg5
 z5:=Tryz.sizeOf5
 v5:=Tryz.zeroValue5
 t9:=Tryz.underlying9
 a9:=Tryz.isAgg9
 z9:=Tryz.sizeOf9
 v9:=Tryz.zeroValue9
 t21:=Tryz.underlying21
 a21:=Tryz.isAgg21
 z21:=Tryz.sizeOf21
 v21:=Tryz.zeroValue21
 t37:=Tryz.underlying27
 a37:=Tryz.isAgg27
 z37:=Tryz.sizeOf27
 v37:=Tryz.zeroValue27
 t46:=Tryz.underlying31
 a46:=Tryz.isAgg31
 z46:=Tryz.sizeOf31
 v46:=Tryz.zeroValue31
 t53:=Tryz.underlying173
 a53:=Tryz.isAgg173
 z53:=Tryz.sizeOf173
 v53:=Tryz.zeroValue173
 t75:=Tryz.underlying103
 a75:=Tryz.isAgg103
 z75:=Tryz.sizeOf103
 v75:=Tryz.zeroValue103
 t85:=Tryz.underlying202
 a85:=Tryz.isAgg202
 z85:=Tryz.sizeOf202
 v85:=Tryz.zeroValue202
 t167:=Tryz.underlying201
 a167:=Tryz.isAgg201
 z167:=Tryz.sizeOf201
 v167:=Tryz.zeroValue201
 t175:=Tryz.underlying229
 a175:=Tryz.isAgg229
 z175:=Tryz.sizeOf229
 v175:=Tryz.zeroValue229 }
open Go.RowKit in
theorem Tryz.internal_strconv_Atoi (s:ByteArray) (n:Int) (hl:s.size ≤ 18) (h:Lib.atoi s.data.toList = some n) (w:World) :
   Calls Tryz.prog 120 #[.string s] w fun e w'=>e = .returned (.tuple #[.int .i64 n,.nilIface]) ∧ ∃ t,w' = Lib.bytesWorld w 5 t:=Any.internal_strconv_Atoi Tryz.lays244 s n hl h w
def Tryz.laysM171_ren:Go.Shelf.Ren:=⟨fun | 171=>90 | 243=>149 | 246=>196 | 283=>227 | 284=>228 | 285=>229 | 286=>230 | 129=>145 | 317=>246 | 318=>247 | 319=>248 | 320=>249 | 337=>258 | 338=>259 | n=>n,fun | 3=>3 | 9=>9 | 2=>2 | 4=>4 | 171=>238 | 0=>0 | 53=>173 | 37=>27 | 5=>5 | 173=>240 | 212=>250 | 51=>171 | 20=>20 | 213=>251 | 46=>31 | 232=>260 | 233=>261 | n=>n,fun | 17=>5 | 18=>6 | 19=>7 | n=>n⟩
theorem Tryz.laysM171:Go.Proofs.LaysM.n171 Tryz.prog Tryz.laysM171_ren:={
 mixed:=by kernel_rfl
 f129:=Tryz.func145.trans (congrArg some (by kernel_rfl))
 f171:=Tryz.func90.trans (congrArg some (by kernel_rfl))
 f243:=Tryz.func149.trans (congrArg some (by kernel_rfl))
 f246:=Tryz.func196.trans (congrArg some (by kernel_rfl))
 f283:=Tryz.func227.trans (congrArg some (by kernel_rfl))
 f284:=Tryz.func228.trans (congrArg some (by kernel_rfl))
 f285:=Tryz.func229.trans (congrArg some (by kernel_rfl))
 f286:=Tryz.func230.trans (congrArg some (by kernel_rfl))
 f317:=Tryz.func246.trans (congrArg some (by kernel_rfl))
 f318:=Tryz.func247.trans (congrArg some (by kernel_rfl))
 f319:=Tryz.func248.trans (congrArg some (by kernel_rfl))
 f320:=Tryz.func249.trans (congrArg some (by kernel_rfl))
 f337:=Tryz.func258.trans (congrArg some (by kernel_rfl))
 f338:=Tryz.func259.trans (congrArg some (by kernel_rfl))
 t0:=Tryz.underlying0
 a0:=Tryz.isAgg0
 z0:=Tryz.sizeOf0
 v0:=Tryz.zeroValue0
 t2:=Tryz.underlying2
 a2:=Tryz.isAgg2
 z2:=Tryz.sizeOf2
 v2:=Tryz.zeroValue2
 t3:=Tryz.underlying3
 a3:=Tryz.isAgg3
 z3:=Tryz.sizeOf3
 v3:=Tryz.zeroValue3
 t4:=Tryz.underlying4
 a4:=Tryz.isAgg4
 z4:=Tryz.sizeOf4
 v4:=Tryz.zeroValue4
 t5:=Tryz.underlying5
 a5:=Tryz.isAgg5
 z5:=Tryz.sizeOf5
 v5:=Tryz.zeroValue5
 t9:=Tryz.underlying9
 a9:=Tryz.isAgg9
 z9:=Tryz.sizeOf9
 v9:=Tryz.zeroValue9
 t20:=Tryz.underlying20
 a20:=Tryz.isAgg20
 z20:=Tryz.sizeOf20
 v20:=Tryz.zeroValue20
 t37:=Tryz.underlying27
 a37:=Tryz.isAgg27
 z37:=Tryz.sizeOf27
 v37:=Tryz.zeroValue27
 t46:=Tryz.underlying31
 a46:=Tryz.isAgg31
 z46:=Tryz.sizeOf31
 v46:=Tryz.zeroValue31
 t51:=Tryz.underlying171
 a51:=Tryz.isAgg171
 z51:=Tryz.sizeOf171
 v51:=Tryz.zeroValue171
 t53:=Tryz.underlying173
 a53:=Tryz.isAgg173
 z53:=Tryz.sizeOf173
 v53:=Tryz.zeroValue173
 t171:=Tryz.underlying238
 a171:=Tryz.isAgg238
 z171:=Tryz.sizeOf238
 v171:=Tryz.zeroValue238
 t173:=Tryz.underlying240
 a173:=Tryz.isAgg240
 z173:=Tryz.sizeOf240
 v173:=Tryz.zeroValue240
 t212:=Tryz.underlying250
 a212:=Tryz.isAgg250
 z212:=Tryz.sizeOf250
 v212:=Tryz.zeroValue250
 t213:=Tryz.underlying251
 a213:=Tryz.isAgg251
 z213:=Tryz.sizeOf251
 t232:=Tryz.underlying260
 a232:=Tryz.isAgg260
 z232:=Tryz.sizeOf260
 v232:=Tryz.zeroValue260
 t233:=Tryz.underlying261
 a233:=Tryz.isAgg261
 z233:=Tryz.sizeOf261
 v233:=Tryz.zeroValue261
 g17:=by kernel_rfl
 g18:=by kernel_rfl
 g19:=by kernel_rfl
 i0:=by kernel_rfl
 i2:=by kernel_rfl
 i3:=by kernel_rfl
 i4:=by kernel_rfl
 i5:=by kernel_rfl
 i9:=by kernel_rfl
 i20:=by kernel_rfl
 i37:=by kernel_rfl
 i46:=by kernel_rfl
 i51:=by kernel_rfl
 i53:=by kernel_rfl
 i171:=by kernel_rfl
 i173:=by kernel_rfl
 i212:=by kernel_rfl
 i232:=by kernel_rfl
 i233:=by kernel_rfl
 m17:=by kernel_rfl
 m18:=by kernel_rfl
 m19:=by kernel_rfl }
open Go.RowKit Go.Sort Go.Lib in
theorem Tryz.strconv_Itoa (n:Int) (h0:-9223372036854775808 ≤ n) (h1:n ≤ 9223372036854775807) (w:World) (htab:Lib.TabIs Tryz.prog w "internal/strconv.uint64pow10" .u64 Lib.pow10Tab) :
   Calls Tryz.prog 90 #[.int .i64 n] w fun e w'=>e = .returned (.string ⟨(Lib.itoa n).toArray⟩) ∧ ∃ k os,w' = grow (w.drewN k) os:=Any.strconv_Itoa Tryz.laysM171 n h0 h1 w htab
open Go.RowKit in
theorem Tryz.internal_strconv_Atoi_fail (s:ByteArray) (hl:s.size ≤ 18) (h:Lib.atoi s.data.toList = none) (w:World) :
   Calls Tryz.prog 120 #[.string s] w fun e w'=>e = .returned (.tuple #[.int .i64 0,(.iface 201 (.int .i64 2))]) ∧ (w' = w ∨ ∃ t,w' = Lib.bytesWorld w 5 t):=Any.internal_strconv_Atoi_fail Tryz.lays244 s hl h w
def Tryz.laysM316_ren:Go.Shelf.Ren:=⟨fun | 316=>219 | n=>n,fun | 9=>9 | 3=>3 | 4=>4 | 37=>27 | 0=>0 | 127=>148 | 5=>5 | n=>n,fun | n=>n⟩
theorem Tryz.laysM316:Go.Proofs.LaysM.n316 Tryz.prog Tryz.laysM316_ren:={
 mixed:=by kernel_rfl
 f316:=Tryz.func219.trans (congrArg some (by kernel_rfl))
 t0:=Tryz.underlying0
 a0:=Tryz.isAgg0
 z0:=Tryz.sizeOf0
 v0:=Tryz.zeroValue0
 t3:=Tryz.underlying3
 a3:=Tryz.isAgg3
 z3:=Tryz.sizeOf3
 v3:=Tryz.zeroValue3
 t4:=Tryz.underlying4
 a4:=Tryz.isAgg4
 z4:=Tryz.sizeOf4
 v4:=Tryz.zeroValue4
 t9:=Tryz.underlying9
 a9:=Tryz.isAgg9
 z9:=Tryz.sizeOf9
 v9:=Tryz.zeroValue9
 t37:=Tryz.underlying27
 a37:=Tryz.isAgg27
 z37:=Tryz.sizeOf27
 v37:=Tryz.zeroValue27
 t127:=Tryz.underlying148
 a127:=Tryz.isAgg148
 z127:=Tryz.sizeOf148
 v127:=Tryz.zeroValue148
 t5:=Tryz.underlying5
 a5:=Tryz.isAgg5
 z5:=Tryz.sizeOf5
 v5:=Tryz.zeroValue5
 i0:=by kernel_rfl
 i3:=by kernel_rfl
 i4:=by kernel_rfl
 i5:=by kernel_rfl
 i9:=by kernel_rfl
 i37:=by kernel_rfl
 i127:=by kernel_rfl }
open Go.RowKit in
theorem Tryz.stringslite_Clone (s:ByteArray) (w:World) (hlim:s.size ≤ 281474976710656) :
   Calls Tryz.prog 219 #[.string s] w fun e w'=>e = .returned (.string s) ∧ Below w.heap.size w w':=Any.stringslite_Clone Tryz.laysM316 s w hlim
def Tryz.laysC245_ren:Go.Shelf.Ren:=⟨fun | 245=>121 | 279=>176 | 280=>177 | 281=>178 | 282=>179 | 316=>219 | 171=>90 | 205=>220 | 243=>149 | 246=>196 | 283=>227 | 284=>228 | 285=>229 | 286=>230 | 129=>145 | 317=>246 | 318=>247 | 319=>248 | 320=>249 | 337=>258 | 338=>259 | n=>n,fun | 9=>9 | 3=>3 | 75=>103 | 167=>201 | 4=>4 | 168=>204 | 210=>232 | 37=>27 | 0=>0 | 127=>148 | 145=>247 | 143=>245 | 2=>2 | 171=>238 | 53=>173 | 5=>5 | 173=>240 | 212=>250 | 51=>171 | 20=>20 | 213=>251 | 46=>31 | 232=>260 | 233=>261 | 80=>96 | n=>n,fun | 15=>2 | 16=>3 | 17=>5 | 18=>6 | 19=>7 | n=>n⟩
theorem Tryz.laysC245:Go.Proofs.LaysC.n245 Tryz.prog Tryz.laysC245_ren:={
 mixed:=by kernel_rfl
 f129:=Tryz.func145.trans (congrArg some (by kernel_rfl))
 f171:=Tryz.func90.trans (congrArg some (by kernel_rfl))
 f205:=Tryz.func220.trans (congrArg some (by kernel_rfl))
 f243:=Tryz.func149.trans (congrArg some (by kernel_rfl))
 f245:=Tryz.func121.trans (congrArg some (by kernel_rfl))
 f246:=Tryz.func196.trans (congrArg some (by kernel_rfl))
 f279:=Tryz.func176.trans (congrArg some (by kernel_rfl))
 f280:=Tryz.func177.trans (congrArg some (by kernel_rfl))
 f281:=Tryz.func178.trans (congrArg some (by kernel_rfl))
 f282:=Tryz.func179.trans (congrArg some (by kernel_rfl))
 f283:=Tryz.func227.trans (congrArg some (by kernel_rfl))
 f284:=Tryz.func228.trans (congrArg some (by kernel_rfl))
 f285:=Tryz.func229.trans (congrArg some (by kernel_rfl))
 f286:=Tryz.func230.trans (congrArg some (by kernel_rfl))
 f316:=Tryz.func219.trans (congrArg some (by kernel_rfl))
 f317:=Tryz.func246.trans (congrArg some (by kernel_rfl))
 f318:=Tryz.func247.trans (congrArg some (by kernel_rfl))
 f319:=Tryz.func248.trans (congrArg some (by kernel_rfl))
 f320:=Tryz.func249.trans (congrArg some (by kernel_rfl))
 f337:=Tryz.func258.trans (congrArg some (by kernel_rfl))
 f338:=Tryz.func259.trans (congrArg some (by kernel_rfl))
 t0:=Tryz.underlying0
 a0:=Tryz.isAgg0
 z0:=Tryz.sizeOf0
 v0:=Tryz.zeroValue0
 t2:=Tryz.underlying2
 a2:=Tryz.isAgg2
 z2:=Tryz.sizeOf2
 v2:=Tryz.zeroValue2
 t3:=Tryz.underlying3
 a3:=Tryz.isAgg3
 z3:=Tryz.sizeOf3
 v3:=Tryz.zeroValue3
 t4:=Tryz.underlying4
 a4:=Tryz.isAgg4
 z4:=Tryz.sizeOf4
 v4:=Tryz.zeroValue4
 t5:=Tryz.underlying5
 a5:=Tryz.isAgg5
 z5:=Tryz.sizeOf5
 v5:=Tryz.zeroValue5
 t9:=Tryz.underlying9
 a9:=Tryz.isAgg9
 z9:=Tryz.sizeOf9
 v9:=Tryz.zeroValue9
 t20:=Tryz.underlying20
 a20:=Tryz.isAgg20
 z20:=Tryz.sizeOf20
 v20:=Tryz.zeroValue20
 t37:=Tryz.underlying27
 a37:=Tryz.isAgg27
 z37:=Tryz.sizeOf27
 v37:=Tryz.zeroValue27
 t46:=Tryz.underlying31
 a46:=Tryz.isAgg31
 z46:=Tryz.sizeOf31
 v46:=Tryz.zeroValue31
 t51:=Tryz.underlying171
 a51:=Tryz.isAgg171
 z51:=Tryz.sizeOf171
 v51:=Tryz.zeroValue171
 t53:=Tryz.underlying173
 a53:=Tryz.isAgg173
 z53:=Tryz.sizeOf173
 v53:=Tryz.zeroValue173
 t75:=Tryz.underlying103
 a75:=Tryz.isAgg103
 z75:=Tryz.sizeOf103
 v75:=Tryz.zeroValue103
 t127:=Tryz.underlying148
 a127:=Tryz.isAgg148
 z127:=Tryz.sizeOf148
 v127:=Tryz.zeroValue148
 t143:=Tryz.underlying245
 a143:=Tryz.isAgg245
 z143:=Tryz.sizeOf245
 v143:=Tryz.zeroValue245
 t145:=Tryz.underlying247
 a145:=Tryz.isAgg247
 z145:=Tryz.sizeOf247
 v145:=Tryz.zeroValue247
 t167:=Tryz.underlying201
 a167:=Tryz.isAgg201
 z167:=Tryz.sizeOf201
 v167:=Tryz.zeroValue201
 t168:=Tryz.underlying204
 a168:=Tryz.isAgg204
 z168:=Tryz.sizeOf204
 v168:=Tryz.zeroValue204
 t171:=Tryz.underlying238
 a171:=Tryz.isAgg238
 z171:=Tryz.sizeOf238
 v171:=Tryz.zeroValue238
 t173:=Tryz.underlying240
 a173:=Tryz.isAgg240
 z173:=Tryz.sizeOf240
 v173:=Tryz.zeroValue240
 t210:=Tryz.underlying232
 a210:=Tryz.isAgg232
 z210:=Tryz.sizeOf232
 v210:=Tryz.zeroValue232
 t212:=Tryz.underlying250
 a212:=Tryz.isAgg250
 z212:=Tryz.sizeOf250
 v212:=Tryz.zeroValue250
 t213:=Tryz.underlying251
 a213:=Tryz.isAgg251
 z213:=Tryz.sizeOf251
 t232:=Tryz.underlying260
 a232:=Tryz.isAgg260
 z232:=Tryz.sizeOf260
 v232:=Tryz.zeroValue260
 t233:=Tryz.underlying261
 a233:=Tryz.isAgg261
 z233:=Tryz.sizeOf261
 v233:=Tryz.zeroValue261
 g15:=by kernel_rfl
 g16:=by kernel_rfl
 g17:=by kernel_rfl
 g18:=by kernel_rfl
 g19:=by kernel_rfl
 t80:=Tryz.underlying96
 a80:=Tryz.isAgg96
 z80:=Tryz.sizeOf96
 v80:=Tryz.zeroValue96
 i0:=by kernel_rfl
 i2:=by kernel_rfl
 i3:=by kernel_rfl
 i4:=by kernel_rfl
 i5:=by kernel_rfl
 i9:=by kernel_rfl
 i20:=by kernel_rfl
 i37:=by kernel_rfl
 i46:=by kernel_rfl
 i51:=by kernel_rfl
 i53:=by kernel_rfl
 i75:=by kernel_rfl
 i80:=by kernel_rfl
 i127:=by kernel_rfl
 i143:=by kernel_rfl
 i145:=by kernel_rfl
 i167:=by kernel_rfl
 i168:=by kernel_rfl
 i171:=by kernel_rfl
 i173:=by kernel_rfl
 i210:=by kernel_rfl
 i212:=by kernel_rfl
 i232:=by kernel_rfl
 i233:=by kernel_rfl
 m15:=by kernel_rfl
 m16:=by kernel_rfl
 m17:=by kernel_rfl
 m18:=by kernel_rfl
 m19:=by kernel_rfl
 c0:=by kernel_rfl
 c2:=by kernel_rfl
 c3:=by kernel_rfl
 c4:=by kernel_rfl
 c5:=by kernel_rfl
 c9:=by kernel_rfl
 c20:=by kernel_rfl
 c37:=by kernel_rfl
 c46:=by kernel_rfl
 c51:=by kernel_rfl
 c53:=by kernel_rfl
 c75:=by kernel_rfl
 c80:=by kernel_rfl
 c127:=by kernel_rfl
 c143:=by kernel_rfl
 c145:=by kernel_rfl
 c167:=by kernel_rfl
 c168:=by kernel_rfl
 c171:=by kernel_rfl
 c173:=by kernel_rfl
 c210:=by kernel_rfl
 c212:=by kernel_rfl
 c213:=by kernel_rfl
 c232:=by kernel_rfl
 c233:=by kernel_rfl }
open Go.RowKit in
theorem Tryz.strconv_toError_syntax (fn s:ByteArray) (base bits:Int) (ev:Value) (w:World) (hlim:s.size ≤ 281474976710656) (hv:w.cell? ⟨2,0,none⟩ = some ev) (hev:ev = .nilIface ∨ ∃ te pe,ev = .iface te pe) :
   Calls Tryz.prog 121 #[.string fn,.string s,.int .i64 base,.int .i64 bits,.iface 201 (.int .i64 2)] w fun e w'=>∃ N,e = .returned (.iface 204 (.pointer (some ⟨N,0,none⟩))) ∧ w.heap.size ≤ N ∧ w'.heap[N]? = some (.cells #[.string fn,.string s,ev] 232 (0,0)) ∧ Below w.heap.size w w':=Any.strconv_toError_syntax Tryz.laysC245 fn s base bits ev w hlim hv hev
def Tryz.laysC247_ren:Go.Shelf.Ren:=⟨fun | 247=>175 | 287=>218 | 321=>243 | 322=>244 | n=>n,fun | 9=>9 | 3=>3 | 2=>2 | 75=>103 | 4=>4 | 167=>201 | 5=>5 | 53=>173 | 175=>229 | 46=>31 | 37=>27 | 0=>0 | 21=>21 | 80=>96 | n=>n,fun | n=>n⟩
theorem Tryz.laysC247:Go.Proofs.LaysC.n247 Tryz.prog Tryz.laysC247_ren:={
 mixed:=by kernel_rfl
 f247:=Tryz.func175.trans (congrArg some (by kernel_rfl))
 f287:=Tryz.func218.trans (congrArg some (by kernel_rfl))
 f321:=Tryz.func243.trans (congrArg some (by kernel_rfl))
 f322:=Tryz.func244.trans (congrArg some (by kernel_rfl))
 t0:=Tryz.underlying0
 a0:=Tryz.isAgg0
 z0:=Tryz.sizeOf0
 v0:=Tryz.zeroValue0
 t2:=Tryz.underlying2
 a2:=Tryz.isAgg2
 z2:=Tryz.sizeOf2
 v2:=Tryz.zeroValue2
 t3:=Tryz.underlying3
 a3:=Tryz.isAgg3
 z3:=Tryz.sizeOf3
 v3:=Tryz.zeroValue3
 t4:=Tryz.underlying4
 a4:=Tryz.isAgg4
 z4:=Tryz.sizeOf4
 v4:=Tryz.zeroValue4
 t5:=Tryz.underlying5
 a5:=Tryz.isAgg5
 z5:=Tryz.sizeOf5
 v5:=Tryz.zeroValue5
 t9:=Tryz.underlying9
 a9:=Tryz.isAgg9
 z9:=Tryz.sizeOf9
 v9:=Tryz.zeroValue9
 t21:=Tryz.underlying21
 a21:=Tryz.isAgg21
 z21:=Tryz.sizeOf21
 v21:=Tryz.zeroValue21
 t37:=Tryz.underlying27
 a37:=Tryz.isAgg27
 z37:=Tryz.sizeOf27
 v37:=Tryz.zeroValue27
 t46:=Tryz.underlying31
 a46:=Tryz.isAgg31
 z46:=Tryz.sizeOf31
 v46:=Tryz.zeroValue31
 t53:=Tryz.underlying173
 a53:=Tryz.isAgg173
 z53:=Tryz.sizeOf173
 v53:=Tryz.zeroValue173
 t75:=Tryz.underlying103
 a75:=Tryz.isAgg103
 z75:=Tryz.sizeOf103
 v75:=Tryz.zeroValue103
 t167:=Tryz.underlying201
 a167:=Tryz.isAgg201
 z167:=Tryz.sizeOf201
 v167:=Tryz.zeroValue201
 t175:=Tryz.underlying229
 a175:=Tryz.isAgg229
 z175:=Tryz.sizeOf229
 v175:=Tryz.zeroValue229
 t80:=Tryz.underlying96
 a80:=Tryz.isAgg96
 z80:=Tryz.sizeOf96
 v80:=Tryz.zeroValue96
 i0:=by kernel_rfl
 i2:=by kernel_rfl
 i3:=by kernel_rfl
 i4:=by kernel_rfl
 i5:=by kernel_rfl
 i9:=by kernel_rfl
 i21:=by kernel_rfl
 i37:=by kernel_rfl
 i46:=by kernel_rfl
 i53:=by kernel_rfl
 i75:=by kernel_rfl
 i80:=by kernel_rfl
 i167:=by kernel_rfl
 i175:=by kernel_rfl
 c0:=by kernel_rfl
 c2:=by kernel_rfl
 c3:=by kernel_rfl
 c4:=by kernel_rfl
 c5:=by kernel_rfl
 c9:=by kernel_rfl
 c21:=by kernel_rfl
 c37:=by kernel_rfl
 c46:=by kernel_rfl
 c53:=by kernel_rfl
 c75:=by kernel_rfl
 c80:=by kernel_rfl
 c167:=by kernel_rfl
 c175:=by kernel_rfl }
open Go.RowKit in
theorem Tryz.internal_strconv_ParseInt_10 (s:ByteArray) (hne:s.size ≠ 0) (hmax:s.size ≤ 9223372036854775806) (w:World) :
   Calls Tryz.prog 175 #[.string s,.int .i64 10,.int .i64 0] w fun e w'=>e = .returned (Lib.intTuple 201 (Lib.atoiSat s.data.toList) (Lib.atoiAll s.data.toList)) ∧ (w' = w ∨ ∃ t,w' = Lib.bytesWorld w 5 t):=Any.internal_strconv_ParseInt_10 Tryz.laysC247 s hne hmax w
open Go.RowKit in
theorem Tryz.strconv_toError_range (fn s:ByteArray) (base bits:Int) (ev:Value) (w:World) (hlim:s.size ≤ 281474976710656) (hv:w.cell? ⟨3,0,none⟩ = some ev) (hev:ev = .nilIface ∨ ∃ te pe,ev = .iface te pe) :
   Calls Tryz.prog 121 #[.string fn,.string s,.int .i64 base,.int .i64 bits,.iface 201 (.int .i64 1)] w fun e w'=>∃ N,e = .returned (.iface 204 (.pointer (some ⟨N,0,none⟩))) ∧ w.heap.size ≤ N ∧ w'.heap[N]? = some (.cells #[.string fn,.string s,ev] 232 (0,0)) ∧ Below w.heap.size w w':=Any.strconv_toError_range Tryz.laysC245 fn s base bits ev w hlim hv hev
def Tryz.lays217_ren:Go.Shelf.Ren:=⟨fun | 217=>133 | 266=>185 | n=>n,fun | 9=>9 | 5=>5 | 3=>3 | n=>n,fun | n=>n⟩
theorem Tryz.lays217:Go.Proofs.Lays.n217 Tryz.prog Tryz.lays217_ren:={
 mixed:=by kernel_rfl
 f217:=Tryz.func133.trans (congrArg some (by kernel_rfl))
 f266:=Tryz.func185.trans (congrArg some (by kernel_rfl))
 t3:=Tryz.underlying3
 a3:=Tryz.isAgg3
 z3:=Tryz.sizeOf3
 v3:=Tryz.zeroValue3
 t5:=Tryz.underlying5
 a5:=Tryz.isAgg5
 z5:=Tryz.sizeOf5
 v5:=Tryz.zeroValue5
 t9:=Tryz.underlying9
 a9:=Tryz.isAgg9
 z9:=Tryz.sizeOf9
 v9:=Tryz.zeroValue9 }
open Go.RowKit Go.Lib in
theorem Tryz.stringslite_IndexByte (s:ByteArray) (c:Int) (w:World) :
   Calls Tryz.prog 133 #[.string s,.int .u8 c] w fun e w'=>e = .returned (.int .i64 (Lib.indexByte s.data.toList c.toNat.toUInt8)) ∧ w' = w:=Any.stringslite_IndexByte Tryz.lays217 s c w
def Tryz.lays138_ren:Go.Shelf.Ren:=⟨fun | 138=>187 | 195=>221 | 218=>222 | 143=>188 | 219=>189 | 217=>133 | 225=>223 | 224=>224 | 267=>225 | 266=>185 | 314=>245 | n=>n,fun | 9=>9 | 3=>3 | 4=>4 | 5=>5 | 0=>0 | 46=>31 | 146=>248 | 51=>171 | n=>n,fun | 1=>4 | n=>n⟩
theorem Tryz.lays138:Go.Proofs.Lays.n138 Tryz.prog Tryz.lays138_ren:={
 mixed:=by kernel_rfl
 f138:=Tryz.func187.trans (congrArg some (by kernel_rfl))
 f143:=Tryz.func188.trans (congrArg some (by kernel_rfl))
 f195:=Tryz.func221.trans (congrArg some (by kernel_rfl))
 f217:=Tryz.func133.trans (congrArg some (by kernel_rfl))
 f218:=Tryz.func222.trans (congrArg some (by kernel_rfl))
 f219:=Tryz.func189.trans (congrArg some (by kernel_rfl))
 f224:=Tryz.func224.trans (congrArg some (by kernel_rfl))
 f225:=Tryz.func223.trans (congrArg some (by kernel_rfl))
 f266:=Tryz.func185.trans (congrArg some (by kernel_rfl))
 f267:=Tryz.func225.trans (congrArg some (by kernel_rfl))
 f314:=Tryz.func245.trans (congrArg some (by kernel_rfl))
 t0:=Tryz.underlying0
 a0:=Tryz.isAgg0
 z0:=Tryz.sizeOf0
 v0:=Tryz.zeroValue0
 t3:=Tryz.underlying3
 a3:=Tryz.isAgg3
 z3:=Tryz.sizeOf3
 v3:=Tryz.zeroValue3
 t4:=Tryz.underlying4
 a4:=Tryz.isAgg4
 z4:=Tryz.sizeOf4
 v4:=Tryz.zeroValue4
 t5:=Tryz.underlying5
 a5:=Tryz.isAgg5
 z5:=Tryz.sizeOf5
 v5:=Tryz.zeroValue5
 t9:=Tryz.underlying9
 a9:=Tryz.isAgg9
 z9:=Tryz.sizeOf9
 v9:=Tryz.zeroValue9
 t46:=Tryz.underlying31
 a46:=Tryz.isAgg31
 z46:=Tryz.sizeOf31
 v46:=Tryz.zeroValue31
 t51:=Tryz.underlying171
 a51:=Tryz.isAgg171
 z51:=Tryz.sizeOf171
 v51:=Tryz.zeroValue171
 t146:=Tryz.underlying248
 a146:=Tryz.isAgg248
 z146:=Tryz.sizeOf248
 v146:=Tryz.zeroValue248
 g1:=by kernel_rfl }
open Go.RowKit Go.Lib in
theorem Tryz.strings_Count_one (s:ByteArray) (c:UInt8) (w:World) :
   Calls Tryz.prog 187 #[.string s,.string ⟨#[c]⟩] w fun e w'=>e = .returned (.int .i64 (Lib.countByte s.data.toList c)) ∧ w' = w:=Any.strings_Count_one Tryz.lays138 s c w
def Tryz.lays206_ren:Go.Shelf.Ren:=⟨fun | 206=>168 | n=>n,fun | 9=>9 | 4=>4 | 3=>3 | n=>n,fun | n=>n⟩
theorem Tryz.lays206:Go.Proofs.Lays.n206 Tryz.prog Tryz.lays206_ren:={
 mixed:=by kernel_rfl
 f206:=Tryz.func168.trans (congrArg some (by kernel_rfl))
 t3:=Tryz.underlying3
 a3:=Tryz.isAgg3
 z3:=Tryz.sizeOf3
 v3:=Tryz.zeroValue3
 t4:=Tryz.underlying4
 a4:=Tryz.isAgg4
 z4:=Tryz.sizeOf4
 v4:=Tryz.zeroValue4
 t9:=Tryz.underlying9
 a9:=Tryz.isAgg9
 z9:=Tryz.sizeOf9
 v9:=Tryz.zeroValue9 }
open Go.RowKit Go.Lib in
theorem Tryz.stringslite_HasPrefix (s p:ByteArray) (w:World) :
   Calls Tryz.prog 168 #[.string s,.string p] w fun e w'=>e = .returned (.bool (Lib.hasPrefix s.data.toList p.data.toList)) ∧ w' = w:=Any.stringslite_HasPrefix Tryz.lays206 s p w
def Tryz.lays99_ren:Go.Shelf.Ren:=⟨fun | 99=>113 | 206=>168 | n=>n,fun | 9=>9 | 4=>4 | 3=>3 | n=>n,fun | n=>n⟩
theorem Tryz.lays99:Go.Proofs.Lays.n99 Tryz.prog Tryz.lays99_ren:={
 mixed:=by kernel_rfl
 f99:=Tryz.func113.trans (congrArg some (by kernel_rfl))
 f206:=Tryz.func168.trans (congrArg some (by kernel_rfl))
 t3:=Tryz.underlying3
 a3:=Tryz.isAgg3
 z3:=Tryz.sizeOf3
 v3:=Tryz.zeroValue3
 t4:=Tryz.underlying4
 a4:=Tryz.isAgg4
 z4:=Tryz.sizeOf4
 v4:=Tryz.zeroValue4
 t9:=Tryz.underlying9
 a9:=Tryz.isAgg9
 z9:=Tryz.sizeOf9
 v9:=Tryz.zeroValue9 }
open Go.RowKit Go.Lib in
theorem Tryz.strings_HasPrefix (s p:ByteArray) (w:World) :
   Calls Tryz.prog 113 #[.string s,.string p] w fun e w'=>e = .returned (.bool (Lib.hasPrefix s.data.toList p.data.toList)) ∧ w' = w:=Any.strings_HasPrefix Tryz.lays99 s p w
def Tryz.lays197_ren:Go.Shelf.Ren:=⟨fun | 197=>171 | 260=>216 | n=>n,fun | 9=>9 | 21=>21 | 3=>3 | 4=>4 | 5=>5 | 105=>197 | 119=>185 | 0=>0 | 46=>31 | 139=>188 | 138=>187 | n=>n,fun | 3=>0 | 4=>1 | n=>n⟩
theorem Tryz.lays197:Go.Proofs.Lays.n197 Tryz.prog Tryz.lays197_ren:={
 mixed:=by kernel_rfl
 f197:=Tryz.func171.trans (congrArg some (by kernel_rfl))
 f260:=Tryz.func216.trans (congrArg some (by kernel_rfl))
 t0:=Tryz.underlying0
 a0:=Tryz.isAgg0
 z0:=Tryz.sizeOf0
 v0:=Tryz.zeroValue0
 t3:=Tryz.underlying3
 a3:=Tryz.isAgg3
 z3:=Tryz.sizeOf3
 v3:=Tryz.zeroValue3
 t4:=Tryz.underlying4
 a4:=Tryz.isAgg4
 z4:=Tryz.sizeOf4
 v4:=Tryz.zeroValue4
 t5:=Tryz.underlying5
 a5:=Tryz.isAgg5
 z5:=Tryz.sizeOf5
 v5:=Tryz.zeroValue5
 t9:=Tryz.underlying9
 a9:=Tryz.isAgg9
 z9:=Tryz.sizeOf9
 v9:=Tryz.zeroValue9
 t21:=Tryz.underlying21
 a21:=Tryz.isAgg21
 z21:=Tryz.sizeOf21
 v21:=Tryz.zeroValue21
 t46:=Tryz.underlying31
 a46:=Tryz.isAgg31
 z46:=Tryz.sizeOf31
 v46:=Tryz.zeroValue31
 t105:=Tryz.underlying197
 a105:=Tryz.isAgg197
 z105:=Tryz.sizeOf197
 v105:=Tryz.zeroValue197
 t119:=Tryz.underlying185
 a119:=Tryz.isAgg185
 z119:=Tryz.sizeOf185
 t138:=Tryz.underlying187
 a138:=Tryz.isAgg187
 z138:=Tryz.sizeOf187
 v138:=Tryz.zeroValue187
 t139:=Tryz.underlying188
 a139:=Tryz.isAgg188
 z139:=Tryz.sizeOf188
 v139:=Tryz.zeroValue188
 g3:=by kernel_rfl
 g4:=by kernel_rfl }
open Go.RowKit Go.Lib in
theorem Tryz.utf8_DecodeRuneInString (s:ByteArray) (w:World) (hT:Lib.Utf8Tabs 0 1 w) :
   Calls Tryz.prog 171 #[.string s] w fun e w'=>e = .returned (.tuple #[.int .i32 (Lib.decodeGo s).1,.int .i64 (Lib.decodeGo s).2]) ∧ Below w.heap.size w w':=Any.utf8_DecodeRuneInString Tryz.lays197 s w hT
def Tryz.laysValid_ren:Go.Shelf.Ren:=⟨fun | 196=>100 | 259=>158 | n=>n,fun | 9=>9 | 4=>4 | 3=>3 | 5=>5 | 12=>12 | 119=>185 | 0=>0 | 46=>31 | 139=>188 | 138=>187 | 53=>173 | n=>n,fun | 3=>0 | 4=>1 | n=>n⟩
theorem Tryz.laysValid:Go.Proofs.Lays.n196 Tryz.prog Tryz.laysValid_ren:={
 mixed:=by kernel_rfl
 f196:=Tryz.func100.trans (congrArg some (by kernel_rfl))
 f259:=Tryz.func158.trans (congrArg some (by kernel_rfl))
 t0:=Tryz.underlying0
 a0:=Tryz.isAgg0
 z0:=Tryz.sizeOf0
 v0:=Tryz.zeroValue0
 t3:=Tryz.underlying3
 a3:=Tryz.isAgg3
 z3:=Tryz.sizeOf3
 v3:=Tryz.zeroValue3
 t4:=Tryz.underlying4
 a4:=Tryz.isAgg4
 z4:=Tryz.sizeOf4
 v4:=Tryz.zeroValue4
 t5:=Tryz.underlying5
 a5:=Tryz.isAgg5
 z5:=Tryz.sizeOf5
 v5:=Tryz.zeroValue5
 t9:=Tryz.underlying9
 a9:=Tryz.isAgg9
 z9:=Tryz.sizeOf9
 v9:=Tryz.zeroValue9
 t12:=Tryz.underlying12
 a12:=Tryz.isAgg12
 z12:=Tryz.sizeOf12
 v12:=Tryz.zeroValue12
 t46:=Tryz.underlying31
 a46:=Tryz.isAgg31
 z46:=Tryz.sizeOf31
 v46:=Tryz.zeroValue31
 t53:=Tryz.underlying173
 a53:=Tryz.isAgg173
 z53:=Tryz.sizeOf173
 v53:=Tryz.zeroValue173
 t119:=Tryz.underlying185
 a119:=Tryz.isAgg185
 z119:=Tryz.sizeOf185
 t138:=Tryz.underlying187
 a138:=Tryz.isAgg187
 z138:=Tryz.sizeOf187
 v138:=Tryz.zeroValue187
 t139:=Tryz.underlying188
 a139:=Tryz.isAgg188
 z139:=Tryz.sizeOf188
 v139:=Tryz.zeroValue188
 g3:=by kernel_rfl
 g4:=by kernel_rfl }
open Go.RowKit Go.Lib in
theorem Tryz.utf8_ValidString (s:ByteArray) (w:World) (hs:s.size ≤ 9223372036854775807) (hT:Lib.Utf8Tabs (Tryz.laysValid_ren.g 3) (Tryz.laysValid_ren.g 4) w) :
   Calls Tryz.prog 100 #[.string s] w fun e w'=>e = .returned (.bool (Lib.validD s.data.toList)) ∧ Below w.heap.size w w':=Any.utf8_ValidString Tryz.laysValid s w hs hT
end Go.Proofs
namespace Go.Proofs.YtnoepcndjljolaaGreatDoor
open Go Go.Eng Go.Num
set_option maxRecDepth 100000
abbrev u64 (n:Nat):Value:=.int .u64 (n:Int)
abbrev U8:TypeId:=5
theorem bytes_ext (w:World) (e:TypeId) (s:ByteArray):Ext w (Lib.bytesWorld w e s):=
 ⟨rfl,rfl,rfl,by rw [Lib.bytesWorld_size]; omega,fun k hk _=>Lib.bytesWorld_at_old w e s k hk⟩
theorem to_bytes {l:Str} {w:World} {src dst:TypeId} {K:Value → World → Prop} (hs:Tryz.prog.underlying src = some .string) (hd:Tryz.prog.underlying dst = some (.slice U8)) (he:Tryz.prog.underlying U8 = some (.int .u8))
   (hK:∀ v w',Byt w' U8 v l → Ext w w' → K v w'):semE Tryz.prog (convert src dst (str l)) w K:=by
 unfold semE
 rw [Lib.run_convert_string_bytes w src dst U8 (ofL l) hs hd he]
 refine hK _ _ ?_ (bytes_ext _ _ _)
 have hle:(ofL l).size ≤ grownCap w (ofL l).size 0 U8:=by
   exact grownCap_ge w (ofL l).size 0 U8
 refine ⟨some ⟨w.heap.size,0,none⟩,grownCap w (ofL l).size 0 U8,by rw [ofL_size],by rw [← ofL_size]; exact hle,(fun e=>by cases e),fun _=>⟨w.heap.size,0,_,_,rfl,Lib.bytesWorld_at_new w U8 (ofL l),fun i hi=>?_⟩⟩
 have hi:i < (ofL l).size:=by rw [ofL_size]; simpa [u8s_length] using hi
 have:=Lib.bytesWorld_cell w U8 (ofL l) i hi
 rw [cell_eq,Lib.bytesWorld_at_new,cellO_some] at this
 rw [Nat.zero_add,this,u8s_get,ofL_data]
 have hi':i < l.length:=by rw [ofL_size] at hi; exact hi
 simp [List.getD_eq_getElem?_getD,List.getElem?_eq_getElem hi']
theorem of_calls [HX] {g:FuncId} {args:Array Value} {w:World} {K:Value → World → Prop} (hr:∀ (ar:Array Value) (w:World),(callFunc g ar).run Tryz.prog w = .ok (.enter g ar) w)
   (h:Calls Tryz.prog g args w fun e w'=>∃ v,e = .returned v ∧ K v w'):callF Tryz.prog g args.toList w K:=by
 unfold callF
 rw [show args.toList.toArray = args from by simp,hr]
 refine h.mono ?_
 rintro e w' ⟨v,rfl,hk⟩
 exact hk
section
variable [HX]
theorem nan_i (n:Int) (KK:Value → Prop) (h:KK (.bool false)):binW .neq (i64 n) (i64 n) KK:=by rw [bin_neq]; simpa using h
theorem nan_s (s:Str) (KK:Value → Prop) (h:KK (.bool false)):binW .neq (str s) (str s) KK:=by rw [bin_sne]; simpa using h
theorem isnan_i {n:Int} {w:World} {K:Value → World → Prop} (hK:K (.bool false) w):callF Tryz.prog 146 [i64 n] w K:=by
 refine W146_ok ?_
 exact nan_i n _ hK
theorem isnan_s {s:Str} {w:World} {K:Value → World → Prop} (hK:K (.bool false) w):callF Tryz.prog 129 [str s] w K:=by
 refine W129_ok ?_
 exact nan_s s _ hK
theorem isnan_s2 {s:Str} {w:World} {K:Value → World → Prop} (hK:K (.bool false) w):callF Tryz.prog 210 [str s] w K:=by
 refine W210_ok ?_
 exact nan_s s _ hK
theorem cmpI_K {a b:Int} {w:World} {K:Value → World → Prop} (hK:K (i64 (cmpI a b)) w):(a < b → K (i64 (-1)) w) ∧ (¬ a < b → (b < a → K (i64 1) w) ∧ (¬ b < a → K (i64 0) w)):=by
 unfold cmpI at hK
 refine ⟨fun h=>?_,fun h=>⟨fun h2=>?_,fun h2=>?_⟩⟩
 · rw [if_pos h] at hK; exact hK
 · rw [if_neg h,if_pos h2] at hK; exact hK
 · rw [if_neg h,if_neg h2] at hK; exact hK
theorem cmp_i {a b:Int} {w:World} {K:Value → World → Prop} (hK:K (i64 (cmpI a b)) w):callF Tryz.prog 84 [i64 a,i64 b] w K:=by
 refine W84_ok ?_
 unfold W84
 refine isnan_i (isnan_i ?_)
 simp only [wsv,wsg,wsh,wsl,cond_true,cond_false,exists_eq_left',wsu,Nat.reduceAdd,Nat.reduceLT,Nat.lt_add_one,Nat.zero_lt_succ,decide_true,decide_false,ne_eq,reduceCtorEq,condW_dec]
 exact cmpI_K hK
theorem less_total {a b:Str} (h1:Op.bytesLess a b = false) (h2:(!(Op.bytesLess a b || decide (a = b))) = false):a = b:=by
 rw [h1] at h2; simpa using h2
theorem cmp_s {a b:Str} {w:World} {K:Value → World → Prop} (hK:K (i64 (cmpB a b)) w):callF Tryz.prog 70 [str a,str b] w K:=by
 refine W70_ok ?_
 unfold W70
 refine isnan_s (isnan_s ?_)
 simp only [wsv,wsg,wsh,wsl,cond_true,cond_false,exists_eq_left',wsu,Nat.reduceAdd,Nat.reduceLT,Nat.lt_add_one,Nat.zero_lt_succ,decide_true,decide_false,ne_eq,reduceCtorEq]
 simp only [condW_b]
 unfold cmpB at hK
 refine ⟨fun h=>?_,fun h=>⟨fun h2=>?_,fun h2=>?_⟩⟩
 · rw [if_pos h] at hK; exact hK
 · have hne:a ≠ b:=by rintro rfl; simp at h2
   rw [if_neg (by rw [h]; simp),if_neg hne] at hK; exact hK
 · rw [if_neg (by rw [h]; simp),if_pos (less_total h h2)] at hK; exact hK
theorem cmp_less {a b:Str} {w:World} {K:Value → World → Prop} (hK:K (.bool (Op.bytesLess a b)) w):callF Tryz.prog 209 [str a,str b] w K:=by
 refine W209_ok ?_
 unfold W209
 refine isnan_s ?_
 simp only [wsv,wsg,wsh,wsl,cond_true,cond_false,exists_eq_left',wsu,Nat.reduceAdd,Nat.reduceLT,Nat.lt_add_one,Nat.zero_lt_succ,decide_true,decide_false,ne_eq,reduceCtorEq]
 intros
 exact hK
theorem pre_ref {s p:Str} {w:World} {K:Value → World → Prop} (hs:s.length ≤ 9223372036854775807) (hK:K (.bool (p.isPrefixOf s)) w):callF Tryz.prog 168 [str s,str p] w K:=by
 refine of_calls (args:=#[str s,str p]) Tryz.call168 ((Tryz.stringslite_HasPrefix (ofL s) (ofL p) w).mono ?_)
 rintro e w' ⟨rfl,rfl⟩
 refine ⟨_,rfl,?_⟩
 rw [ofL_data,ofL_data]
 exact hK
theorem trimpre_ref {a:Str} {w:World} {K:Value → World → Prop} (hs:a.length ≤ 9223372036854775807) (hK:K (str (dig a)) w):callF Tryz.prog 122 [str a,str [45]] w K:=by
 refine W122_ok ?_
 unfold W122
 refine W180_ok ?_
 unfold W180
 refine pre_ref hs ?_
 cases a with
 | nil=>
   rw [show ([45]:Str).isPrefixOf [] = false from rfl]
   simp only [wsv,wsg,wsh,wsl,cond_true,cond_false,exists_eq_left',wsu,Nat.reduceAdd,Nat.reduceLT,Nat.lt_add_one,Nat.zero_lt_succ,decide_true,decide_false,ne_eq,reduceCtorEq]
   exact hK
 | cons c r=>
   by_cases hc:c = 45
   · subst hc
     have e:([45]:Str).isPrefixOf (45 :: r) = true:=by simp [List.isPrefixOf]
     have ed:dig (45 :: r) = r:=by simp [dig]
     rw [ed] at hK
     rw [e]
     have e1:((0 + 1:Nat):Int).toNat = 1:=rfl
     simp only [wsv,wsg,wsh,wsl,cond_true,cond_false,exists_eq_left',wsu,Nat.reduceAdd,Nat.reduceLT,Nat.lt_add_one,Nat.zero_lt_succ,decide_true,decide_false,ne_eq,reduceCtorEq,e1]
     refine ⟨by omega,by omega,?_⟩
     rw [← List.length_cons (a:=(45:UInt8)),List.take_length]
     exact hK
   · have e:([45]:Str).isPrefixOf (c :: r) = false:=by simp [List.isPrefixOf,Ne.symm hc]
     have ed:dig (c :: r) = c :: r:=by simp [dig,hc]
     rw [ed] at hK
     rw [e]
     simp only [wsv,wsg,wsh,wsl,cond_true,cond_false,exists_eq_left',wsu,Nat.reduceAdd,Nat.reduceLT,Nat.lt_add_one,Nat.zero_lt_succ,decide_true,decide_false,ne_eq,reduceCtorEq]
     exact hK
theorem numgood_ref {a:Str} {w:World} {K:Value → World → Prop} (ha:a.length ≤ 9223372036854775807) (hK:∀ w',Ext w w' → K (.bool (goodN a)) w'):callF Tryz.prog 62 [str a] w K:=by
 refine W62_ok ?_
 unfold W62
 refine trimpre_ref ha ?_
 have hg:goodN a = (!decide ((dig a).length < 1) && !decide (100 < (dig a).length) && !((dig a).head? == some 48 && !decide (a = [48])) && (dig a).all Num.isDig):=by
   unfold goodN
   have e1:decide (1 ≤ (dig a).length) = !decide ((dig a).length < 1):=by rw [← decide_not]; exact decide_eq_decide.2 (by omega)
   have e2:decide ((dig a).length ≤ 100) = !decide (100 < (dig a).length):=by rw [← decide_not]; exact decide_eq_decide.2 (by omega)
   rw [e1,e2]
   cases ((dig a).head? == some 48) <;> cases decide (a = [48]) <;> simp
 rw [hg] at hK
 have hdl:(dig a).length ≤ a.length:=by
   cases a with
   | nil=>simp [dig]
   | cons c r=>simp only [dig]; split <;> simp
 cases hd:dig a with
 | nil=>
   rw [hd] at hK
   have hz:decide (((0:Nat):Int) < 1) = true:=by decide
   simp only [wsv,wsg,wsh,wsl,cond_true,cond_false,exists_eq_left',wsu,Nat.reduceAdd,Nat.reduceLT,Nat.lt_add_one,Nat.zero_lt_succ,decide_true,decide_false,ne_eq,reduceCtorEq,hz]
   intros
   exact hK _ (Chg.refl _ _)
 | cons c r=>
   rw [hd] at hK hdl
   have hz:decide (((r.length + 1:Nat):Int) < 1) = false:=decide_eq_false (by omega)
   simp only [wsv,wsg,wsh,wsl,cond_true,cond_false,exists_eq_left',wsu,Nat.reduceAdd,Nat.reduceLT,Nat.lt_add_one,Nat.zero_lt_succ,decide_true,decide_false,ne_eq,reduceCtorEq,Int.le_refl,Int.toNat_zero,u8_is c 48 48 rfl,hz]
   intros
   rw [condW_b]
   have e1:decide ((100:Int) < ((r.length + 1:Nat):Int)) = decide (100 < (c :: r).length):=decide_eq_decide.2 (by simp only [List.length_cons]; omega)
   have e4:decide ((c :: r).length < 1) = false:=decide_eq_false (by simp)
   have e5:((c :: r).head? == some 48) = (c == 48):=by simp
   rw [e1]
   rw [e4,e5] at hK
   simp only [decide_not]
   generalize decide (100 < (c :: r).length) = b1 at *
   generalize ((c == 48) && !decide (a = [48])) = b2 at *
   refine ⟨fun h=>?_,fun h=>?_⟩
   · have:=hK _ (Chg.refl _ _)
     have e:(!false && !b1 && !b2 && (c :: r).all Num.isDig) = false:=by
       cases b1 <;> cases b2 <;> simp at h ⊢
     rw [e] at this
     exact this
   · have hb:b1 = false ∧ b2 = false:=by simpa using h
     rw [hb.1,hb.2] at hK
     refine to_bytes (l:=c :: r) (by kernel_rfl) (by kernel_rfl) (by kernel_rfl) fun v w1 hv hx1=>?_
     rw [lenl_at hv]
     generalize c :: r = D at *
     refine loop_up D.length (fun i w2=>Ext w1 w2 ∧ (D.take i).all Num.isDig = true) ⟨Chg.refl _ _,rfl⟩ ?_ ?_
     · rintro i w2 g L hi ⟨hx2,hall⟩ hL
       obtain ⟨e,he⟩:∃ e,D[i]? = some e:=⟨_,List.getElem?_eq_getElem hi⟩
       have hlt:((i:Int) < ((D.length:Nat):Int)):=by omega
       simp only [wsv,wsg,wsh,wsl,cond_true,cond_false,exists_eq_left',wsu,Nat.reduceAdd,Nat.reduceLT,Nat.lt_add_one,Nat.zero_lt_succ,decide_true,decide_false,ne_eq,reduceCtorEq,hlt]
       refine ixa_ld (hv.ext hx2) (by rw [u8s_length]) (by rw [u8s_get,he]; rfl) ?_
       simp only [wsv,wsg,wsh,wsl,cond_true,cond_false,exists_eq_left',wsu,Nat.reduceAdd,Nat.reduceLT,Nat.lt_add_one,Nat.zero_lt_succ,decide_true,decide_false,ne_eq,reduceCtorEq,isDig_out]
       intros
       rw [condW_b]
       refine ⟨fun hf=>?_,fun ht=>?_⟩
       · have hf:Num.isDig e = false:=by simpa using hf
         have:=hK _ (hx1.trans hx2)
         rw [all_no he hf] at this
         exact this
       · have ht:Num.isDig e = true:=by simpa using ht
         rw [up1 (by omega)]
         exact hL _ ⟨hx2,by rw [all_take he,hall,ht]; rfl⟩
     · rintro w2 g L ⟨hx2,hall⟩
       simp only [wsv,wsg,wsh,wsl,cond_true,cond_false,exists_eq_left',wsu,Nat.reduceAdd,Nat.reduceLT,Nat.lt_add_one,Nat.zero_lt_succ,decide_true,decide_false,ne_eq,reduceCtorEq,Int.lt_irrefl]
       rw [List.take_length] at hall
       have:=hK w2 (hx1.trans hx2)
       rw [hall] at this
       exact this
end
end Go.Proofs.YtnoepcndjljolaaGreatDoor
namespace Go.Proofs
open Go.RowKit Go.Lib Go.Shelf
abbrev BdT:TypeId:=93
set_option maxHeartbeats 1000000 in
set_option maxRecDepth 100000 in
theorem Tryz.check_used (b:Nat) (w:World) (h0:w.cell? ⟨b,0,none⟩ = some (.pointer (some ⟨b,0,none⟩))) :
   Calls Tryz.prog 148 #[.pointer (some ⟨b,0,none⟩)] w fun e w'=>e = .returned (.tuple #[]) ∧ w' = w:=by
 obtain ⟨j,hj,_⟩:=Option.map_eq_some_iff.1 (show (Tryz.prog.info? 93).map (·.size) = some 2 by kernel_rfl)
 go_enter Tryz.func148,Tryz.ntmps148
 go_wp2
 rw [Lib.run_neq_ptr_same w _ Tryz.underlying91 hj]
 go_wp2
 go_end0
 exact ⟨rfl,rfl⟩
set_option maxHeartbeats 1000000 in
set_option maxRecDepth 100000 in
theorem Tryz.check_fresh (b:Nat) (w:World) (h0:w.cell? ⟨b,0,none⟩ = some (.pointer none)) (hsh:w.shape? b = some (93,2)) (hfz:w.frozen? ⟨b,0,none⟩ = false) :
   Calls Tryz.prog 148 #[.pointer (some ⟨b,0,none⟩)] w fun e w'=>e = .returned (.tuple #[]) ∧ w' = w.setCell ⟨b,0,none⟩ (.pointer (some ⟨b,0,none⟩)):=by
 obtain ⟨j,hj,hjs⟩:=Option.map_eq_some_iff.1 (show (Tryz.prog.info? 93).map (·.size) = some 2 by kernel_rfl)
 go_enter Tryz.func148,Tryz.ntmps148
 go_wp2
 rw [Lib.run_to_unsafe w ⟨b,0,none⟩ Tryz.underlying91 Tryz.underlying215 hj (by rw [hjs]; decide) hsh (Nat.zero_lt_succ 1)]
 simp only [Result.andThen]
 rw [Oper.upon_value]
 go_wp2
 rw [run_callFunc_extern Tryz.func195 (by kernel_rfl) (by kernel_rfl) (by kernel_rfl) (e:=Extern.AbiNoEscape.same) (by kernel_rfl)]
 rw [Lib.run_noEscape]
 simp only [Result.andThen]
 rw [Oper.upon_value]
 go_wp2
 rw [Lib.run_from_unsafe w ⟨b,0,none⟩ Tryz.underlying215 Tryz.underlying91 hj hsh (show liesAt Tryz.prog Tryz.prog.depth 93 (2 / Tryz.prog.cellsOf 93) 0 93 1 = true by kernel_rfl)]
 simp only [Result.andThen]
 rw [Oper.upon_value]
 go_wp2
 go_end0
 exact ⟨rfl,rfl⟩
end Go.Proofs
namespace Go.Proofs.YtnoepcndjljolaaGreatDoor
open Go Go.Eng
set_option maxRecDepth 100000
variable [HX]
def plan89:Plan:={ js:=[],ds:=[] }
def W89 (v0 v1:Value) (w:World) (K:Value → World → Prop):Prop:=
 callF Tryz.prog 148 [v0] w fun t7 w1=>
 nilW v0 fun t10=>
 fldW 1 t10 fun t11=>
 ldW false 1 t11 w1 fun t12=>
 semE Tryz.prog (Builtin.append_ #[27,9] 27 #[t12,v1]) w1 fun t14 w2=>
 nilW v0 fun t15=>
 fldW 1 t15 fun t16=>
 stW 1 t16 t14 w2 fun w3=>
 lensW v1 fun t18=>
 K (.tuple #[t18,.nilIface]) w3
theorem W89_ok {v0 v1:Value} {w:World} {K:Value → World → Prop} (h:W89 v0 v1 w K):callF Tryz.prog 89 [v0,v1] w K:=
 tie _ 89 Tryz.f89 plan89 _ w K 2 _ rfl mixed Tryz.func89 (by kernel_rfl) (by kernel_rfl) Tryz.call89 h
def plan91:Plan:={ js:=[],ds:=[] }
def W91 (v0 v1:Value) (w:World) (K:Value → World → Prop):Prop:=
 callF Tryz.prog 148 [v0] w fun t6 w1=>
 nilW v0 fun t9=>
 fldW 1 t9 fun t10=>
 ldW false 1 t10 w1 fun t11=>
 bslW 5 1 [(.int .u8 0)] [(0,1,v1)] w1 fun t13 w2=>
 semE Tryz.prog (Builtin.append_ #[27,27] 27 #[t11,t13]) w2 fun t14 w3=>
 nilW v0 fun t15=>
 fldW 1 t15 fun t16=>
 stW 1 t16 t14 w3 fun w4=>
 K .nilIface w4
theorem W91_ok {v0 v1:Value} {w:World} {K:Value → World → Prop} (h:W91 v0 v1 w K):callF Tryz.prog 91 [v0,v1] w K:=
 tie _ 91 Tryz.f91 plan91 _ w K 2 _ rfl mixed Tryz.func91 (by kernel_rfl) (by kernel_rfl) Tryz.call91 h
def plan167:Plan:={ js:=[],ds:=[] }
def W167 (v0 v1:Value) (w:World) (K:Value → World → Prop):Prop:=
 callF Tryz.prog 148 [v0] w fun t8 w1=>
 nilW v0 fun t10=>
 fldW 1 t10 fun t11=>
 ldW false 1 t11 w1 fun t12=>
 lenlW t12 fun t13=>
 nilW v0 fun t16=>
 fldW 1 t16 fun t17=>
 ldW false 1 t17 w1 fun t18=>
 callF Tryz.prog 215 [t18,v1] w1 fun t20 w2=>
 nilW v0 fun t21=>
 fldW 1 t21 fun t22=>
 stW 1 t22 t20 w2 fun w3=>
 nilW v0 fun t24=>
 fldW 1 t24 fun t25=>
 ldW false 1 t25 w3 fun t26=>
 lenlW t26 fun t27=>
 binW .sub t27 t13 fun t29=>
 K (.tuple #[t29,.nilIface]) w3
theorem W167_ok {v0 v1:Value} {w:World} {K:Value → World → Prop} (h:W167 v0 v1 w K):callF Tryz.prog 167 [v0,v1] w K:=
 tie _ 167 Tryz.f167 plan167 _ w K 2 _ rfl mixed Tryz.func167 (by kernel_rfl) (by kernel_rfl) Tryz.call167 h
def plan215:Plan:={ js:=[],ds:=[] }
def W215 (v0 v1:Value) (w:World) (K:Value → World → Prop):Prop:=
 cvtW .u32 v1 fun t6=>
 binW .leq t6 (.int .u32 127) fun t7=>
 condW t7 (
 cvtW .u8 v1 fun t10=>
 bslW 5 1 [(.int .u8 0)] [(0,1,t10)] w fun t11 w1=>
 semE Tryz.prog (Builtin.append_ #[27,27] 27 #[v0,t11]) w1 fun t12 w2=>
 K t12 w2) (
 callF Tryz.prog 240 [v0,v1] w fun t15 w3=>
 K t15 w3)
theorem W215_ok {v0 v1:Value} {w:World} {K:Value → World → Prop} (h:W215 v0 v1 w K):callF Tryz.prog 215 [v0,v1] w K:=
 tie _ 215 Tryz.f215 plan215 _ w K 2 _ rfl mixed Tryz.func215 (by kernel_rfl) (by kernel_rfl) Tryz.call215 h
def plan240:Plan:={ js:=[(22004,⟨[55],[],54⟩),(11,⟨[25],[],6⟩),(16004,⟨[32],[],31⟩)],ds:=[] }
def W240 (v0 v1:Value) (w:World) (K:Value → World → Prop):Prop:=
 cvtW .u32 v1 fun t7=>
 binW .leq t7 (.int .u32 2047) fun t13=>
 condW t13 (
 binW .shr v1 (.int .u64 6) fun t16=>
 cvtW .u8 t16 fun t17=>
 binW .or (.int .u8 192) t17 fun t18=>
 cvtW .u8 v1 fun t20=>
 binW .and t20 (.int .u8 63) fun t21=>
 binW .or (.int .u8 128) t21 fun t22=>
 bslW 5 2 [(.int .u8 0),(.int .u8 0)] [(0,1,t18),(1,1,t22)] w fun t23 w1=>
 semE Tryz.prog (Builtin.append_ #[27,27] 27 #[v0,t23]) w1 fun t24 w2=>
 K t24 w2) (
 JoinW (fun J3=>
 binW .lss t7 (.int .u32 55296) fun t27=>
 condW t27 (
 J3 [t27] w) (
 binW .lss (.int .u32 57343) t7 fun t29=>
 GdW (isB t29 true) [undef] w (fun J4=>
 binW .leq t7 (.int .u32 65535) fun t32=>
 J4 [t32] w)
 fun s4 _ w5=>
 pickW t29 (s4.getD 0 undef) (.bool false) fun t33=>
 J3 [t33] w5))
 fun s3 _ w6=>
 condW (s3.getD 0 undef) (
 binW .shr v1 (.int .u64 12) fun t36=>
 cvtW .u8 t36 fun t37=>
 binW .or (.int .u8 224) t37 fun t38=>
 binW .shr v1 (.int .u64 6) fun t40=>
 cvtW .u8 t40 fun t41=>
 binW .and t41 (.int .u8 63) fun t42=>
 binW .or (.int .u8 128) t42 fun t43=>
 cvtW .u8 v1 fun t45=>
 binW .and t45 (.int .u8 63) fun t46=>
 binW .or (.int .u8 128) t46 fun t47=>
 bslW 5 3 [(.int .u8 0),(.int .u8 0),(.int .u8 0)] [(0,1,t38),(1,1,t43),(2,1,t47)] w6 fun t48 w7=>
 semE Tryz.prog (Builtin.append_ #[27,27] 27 #[v0,t48]) w7 fun t49 w8=>
 K t49 w8) (
 binW .gtr t7 (.int .u32 65535) fun t52=>
 GdW (isB t52 true) [undef] w6 (fun J9=>
 binW .leq t7 (.int .u32 1114111) fun t55=>
 J9 [t55] w6)
 fun s9 _ w10=>
 pickW t52 (s9.getD 0 undef) (.bool false) fun t56=>
 condW t56 (
 binW .shr v1 (.int .u64 18) fun t59=>
 cvtW .u8 t59 fun t60=>
 binW .or (.int .u8 240) t60 fun t61=>
 binW .shr v1 (.int .u64 12) fun t63=>
 cvtW .u8 t63 fun t64=>
 binW .and t64 (.int .u8 63) fun t65=>
 binW .or (.int .u8 128) t65 fun t66=>
 binW .shr v1 (.int .u64 6) fun t68=>
 cvtW .u8 t68 fun t69=>
 binW .and t69 (.int .u8 63) fun t70=>
 binW .or (.int .u8 128) t70 fun t71=>
 cvtW .u8 v1 fun t73=>
 binW .and t73 (.int .u8 63) fun t74=>
 binW .or (.int .u8 128) t74 fun t75=>
 bslW 5 4 [(.int .u8 0),(.int .u8 0),(.int .u8 0),(.int .u8 0)] [(0,1,t61),(1,1,t66),(2,1,t71),(3,1,t75)] w10 fun t76 w11=>
 semE Tryz.prog (Builtin.append_ #[27,27] 27 #[v0,t76]) w11 fun t77 w12=>
 K t77 w12) (
 bslW 5 3 [(.int .u8 0),(.int .u8 0),(.int .u8 0)] [(0,1,(.int .u8 239)),(1,1,(.int .u8 191)),(2,1,(.int .u8 189))] w10 fun t9 w13=>
 semE Tryz.prog (Builtin.append_ #[27,27] 27 #[v0,t9]) w13 fun t10 w14=>
 K t10 w14)))
theorem W240_ok {v0 v1:Value} {w:World} {K:Value → World → Prop} (h:W240 v0 v1 w K):callF Tryz.prog 240 [v0,v1] w K:=
 tie _ 240 Tryz.f240 plan240 _ w K 2 _ rfl mixed Tryz.func240 (by kernel_rfl) (by kernel_rfl) Tryz.call240 h
def plan166:Plan:={ js:=[],ds:=[] }
def W166 (v0 v1:Value) (w:World) (K:Value → World → Prop):Prop:=
 callF Tryz.prog 196 [v0,v1] w fun t7 w1=>
 K t7 w1
theorem W166_ok {v0 v1:Value} {w:World} {K:Value → World → Prop} (h:W166 v0 v1 w K):callF Tryz.prog 166 [v0,v1] w K:=
 tie _ 166 Tryz.f166 plan166 _ w K 2 _ rfl mixed Tryz.func166 (by kernel_rfl) (by kernel_rfl) Tryz.call166 h
def plan196:Plan:={ js:=[(18,⟨[6],[],6⟩),(8003,⟨[16],[],15⟩)],ds:=[] }
def W196 (v0 v1:Value) (w:World) (K:Value → World → Prop):Prop:=
 binW .eql v1 (.int .i64 10) fun t11=>
 condW t11 (
 binW .leq (.int .i64 0) v0 fun t13=>
 GdW (isB t13 true) [undef] w (fun J1=>
 binW .lss v0 (.int .i64 100) fun t16=>
 J1 [t16] w)
 fun s1 _ w2=>
 pickW t13 (s1.getD 0 undef) (.bool false) fun t17=>
 condW t17 (
 callF Tryz.prog 227 [v0] w2 fun t19 w3=>
 K t19 w3) (
 allocW 238 (List.replicate 24 (.int .u8 0)) w2 fun t5 w4=>
 cvtW .u64 v0 fun t21=>
 JoinW (fun J5=>
 binW .lss v0 (.int .i64 0) fun t23=>
 condW t23 (
 unW .neg t21 fun t25=>
 J5 [t25] w4) (
 J5 [t21] w4))
 fun s5 _ w6=>
 callF Tryz.prog 228 [(s5.getD 0 undef)] w6 fun t27 w7=>
 binW .add (.int .i64 1) t27 fun t29=>
 slaW 24 1 t5 (some (.int .i64 1)) (some t29) none fun t30=>
 callF Tryz.prog 229 [t30,(s5.getD 0 undef)] w7 fun t32 w8=>
 binW .lss v0 (.int .i64 0) fun t34=>
 condW t34 (
 ixaW (some 24) 1 t5 (.int .i64 0) fun t35=>
 stW 1 t35 (.int .u8 45) w8 fun w9=>
 binW .add (.int .i64 1) t27 fun t37=>
 slaW 24 1 t5 none (some t37) none fun t38=>
 semQ Tryz.prog (convert 27 9 t38) w9 fun t39=>
 K t39 w9) (
 binW .add (.int .i64 1) t27 fun t41=>
 slaW 24 1 t5 (some (.int .i64 1)) (some t41) none fun t42=>
 semQ Tryz.prog (convert 27 9 t42) w8 fun t43=>
 K t43 w8))) (
 cvtW .u64 v0 fun t46=>
 binW .lss v0 (.int .i64 0) fun t49=>
 callF Tryz.prog 230 [(.slice none 0 0),t46,v1,t49,(.bool false)] w fun t50 w10=>
 extW 0 t50 fun t51=>
 extW 1 t50 fun t52=>
 K t52 w10)
theorem W196_ok {v0 v1:Value} {w:World} {K:Value → World → Prop} (h:W196 v0 v1 w K):callF Tryz.prog 196 [v0,v1] w K:=
 tie _ 196 Tryz.f196 plan196 _ w K 2 _ rfl mixed Tryz.func196 (by kernel_rfl) (by kernel_rfl) Tryz.call196 h
def plan230:Plan:={ js:=[(68,⟨[13],[],13⟩),(18,⟨[13],[1],13⟩),(50,⟨[1,13],[1,13],18⟩),(30,⟨[1,13],[1,13],17⟩),(12,⟨[1],[1],14⟩),(2,⟨[],[],12⟩),(4003,⟨[27],[],26⟩),(4007,⟨[23],[],22⟩)],ds:=[] }
def W230 (v0 v1 v2 v3 v4:Value) (w:World) (K:Value → World → Prop):Prop:=
 JoinW (fun J1=>
 binW .lss v2 (.int .i64 2) fun t20=>
 GdW (isB t20 false) [undef] w (fun J2=>
 binW .eql v2 (.int .i64 10) fun t23=>
 J2 [t23] w)
 fun s2 _ w3=>
 pickW t20 (.bool true) (s2.getD 0 undef) fun t24=>
 GdW (isB t24 false) [undef] w3 (fun J4=>
 binW .gtr v2 (.int .i64 36) fun t27=>
 J4 [t27] w3)
 fun s4 _ w5=>
 pickW t24 (.bool true) (s4.getD 0 undef) fun t28=>
 condW t28 (
 pncW (.iface 9 (.string (ofL [115,116,114,99,111,110,118,58,32,105,108,108,101,103,97,108,32,65,112,112,101,110,100,73,110,116,47,70,111,114,109,97,116,73,110,116,32,98,97,115,101]))) w5) (
 J1 [] w5))
 fun s1 _ w6=>
 allocW 251 (List.replicate 65 (.int .u8 0)) w6 fun t12 w7=>
 JoinW (fun J8=>
 condW v3 (
 unW .neg v1 fun t32=>
 J8 [t32] w7) (
 J8 [v1] w7))
 fun s8 _ w9=>
 JoinW (fun J10=>
 callF Tryz.prog 248 [v2] w9 fun t34 w11=>
 condW t34 (
 cvtW .u64 v2 fun t36=>
 callF Tryz.prog 249 [t36] w11 fun t37 w12=>
 cvtW .u64 t37 fun t38=>
 cvtW .u64 v2 fun t40=>
 cvtW .u64 v2 fun t42=>
 binW .sub t42 (.int .u64 1) fun t43=>
 LoopW [(s8.getD 0 undef),(.int .i64 65)] w12 fun s13 _ w14 L13=>
 binW .geq (s13.getD 0 undef) t40 fun t46=>
 condW t46 (
 binW .sub (s13.getD 1 undef) (.int .i64 1) fun t48=>
 binW .and (s13.getD 0 undef) t43 fun t52=>
 ixsW (.string (ofL [48,49,50,51,52,53,54,55,56,57,97,98,99,100,101,102,103,104,105,106,107,108,109,110,111,112,113,114,115,116,117,118,119,120,121,122])) t52 fun t53=>
 ixaW (some 65) 1 t12 t48 fun t54=>
 stW 1 t54 t53 w14 fun w15=>
 binW .shr (s13.getD 0 undef) t38 fun t57=>
 L13 [t57,t48] w15) (
 binW .sub (s13.getD 1 undef) (.int .i64 1) fun t59=>
 ixsW (.string (ofL [48,49,50,51,52,53,54,55,56,57,97,98,99,100,101,102,103,104,105,106,107,108,109,110,111,112,113,114,115,116,117,118,119,120,121,122])) (s13.getD 0 undef) fun t62=>
 ixaW (some 65) 1 t12 t59 fun t63=>
 stW 1 t63 t62 w14 fun w16=>
 J10 [t59] w16)) (
 cvtW .u64 v2 fun t65=>
 LoopW [(s8.getD 0 undef),(.int .i64 65)] w11 fun s17 _ w18 L17=>
 binW .geq (s17.getD 0 undef) t65 fun t68=>
 condW t68 (
 binW .sub (s17.getD 1 undef) (.int .i64 1) fun t70=>
 binW .quo (s17.getD 0 undef) t65 fun t73=>
 binW .mul t73 t65 fun t78=>
 binW .sub (s17.getD 0 undef) t78 fun t79=>
 ixsW (.string (ofL [48,49,50,51,52,53,54,55,56,57,97,98,99,100,101,102,103,104,105,106,107,108,109,110,111,112,113,114,115,116,117,118,119,120,121,122])) t79 fun t80=>
 ixaW (some 65) 1 t12 t70 fun t81=>
 stW 1 t81 t80 w18 fun w19=>
 L17 [t73,t70] w19) (
 binW .sub (s17.getD 1 undef) (.int .i64 1) fun t84=>
 ixsW (.string (ofL [48,49,50,51,52,53,54,55,56,57,97,98,99,100,101,102,103,104,105,106,107,108,109,110,111,112,113,114,115,116,117,118,119,120,121,122])) (s17.getD 0 undef) fun t87=>
 ixaW (some 65) 1 t12 t84 fun t88=>
 stW 1 t88 t87 w18 fun w20=>
 J10 [t84] w20)))
 fun s10 _ w21=>
 JoinW (fun J22=>
 condW v3 (
 binW .sub (s10.getD 0 undef) (.int .i64 1) fun t91=>
 ixaW (some 65) 1 t12 t91 fun t93=>
 stW 1 t93 (.int .u8 45) w21 fun w23=>
 J22 [t91] w23) (
 J22 [(s10.getD 0 undef)] w21))
 fun s22 _ w24=>
 condW v4 (
 slaW 65 1 t12 (some (s22.getD 0 undef)) none none fun t97=>
 semE Tryz.prog (Builtin.append_ #[27,27] 27 #[v0,t97]) w24 fun t98 w25=>
 K (.tuple #[t98,(.string (ofL []))]) w25) (
 slaW 65 1 t12 (some (s22.getD 0 undef)) none none fun t100=>
 semQ Tryz.prog (convert 27 9 t100) w24 fun t101=>
 K (.tuple #[(.slice none 0 0),t101]) w24)
theorem W230_ok {v0 v1 v2 v3 v4:Value} {w:World} {K:Value → World → Prop} (h:W230 v0 v1 v2 v3 v4 w K):callF Tryz.prog 230 [v0,v1,v2,v3,v4] w K:=
 tie _ 230 Tryz.f230 plan230 _ w K 5 _ rfl mixed Tryz.func230 (by kernel_rfl) (by kernel_rfl) Tryz.call230 h
def plan248:Plan:={ js:=[],ds:=[] }
def W248 (v0:Value) (w:World) (K:Value → World → Prop):Prop:=
 binW .sub v0 (.int .i64 1) fun t5=>
 binW .and v0 t5 fun t6=>
 binW .eql t6 (.int .i64 0) fun t7=>
 K t7 w
theorem W248_ok {v0:Value} {w:World} {K:Value → World → Prop} (h:W248 v0 w K):callF Tryz.prog 248 [v0] w K:=
 tie _ 248 Tryz.f248 plan248 _ w K 1 _ rfl mixed Tryz.func248 (by kernel_rfl) (by kernel_rfl) Tryz.call248 h
end Go.Proofs.YtnoepcndjljolaaGreatDoor
namespace Go.Proofs.YtnoepcndjljolaaGreatDoor
open Go Go.Eng Go.RowKit
set_option maxRecDepth 100000
abbrev BdT:TypeId:=93
theorem elem_u8:ElemT Tryz.prog 27 U8 1 1:=⟨by kernel_rfl,by kernel_rfl,by decide⟩
def Bld (w:World) (B b:Nat) (l:Str):Prop:=
 ∃ p v,w.heap[b]? = some (.cells [p,v].toArray BdT (0,0)) ∧ (p = .pointer none ∨ p = .pointer (some ⟨b,0,none⟩)) ∧ Own w B U8 1 v l.length (u8s l) ∧ B ≤ b
def BCh (w:World) (B b:Nat) (k:Nat):Prop:=k = b ∨ OwnS w B U8 k
theorem Bld.chg {S:Nat → Prop} {w w':World} {B b:Nat} {l:Str} (h:Bld w B b l) (hc:Chg S w w') (hb:¬ S b) (hS:∀ k,OwnS w B U8 k → ¬ S k):Bld w' B b l:=by
 obtain ⟨p,v,h1,h2,h3,h4⟩:=h
 exact ⟨p,v,hc.at h1 hb,h2,h3.chg hc hS,h4⟩
theorem Bld.ext {w w':World} {B b:Nat} {l:Str} (h:Bld w B b l) (hc:Ext w w'):Bld w' B b l:=h.chg hc (fun e=>e) fun _ _ e=>e
theorem Bld.lt {w:World} {B b:Nat} {l:Str} (h:Bld w B b l):b < w.heap.size:=by
 obtain ⟨p,v,h1,_⟩:=h
 exact at_lt h1
theorem Bld.base {w:World} {B b:Nat} {l:Str} (h:Bld w B b l):B ≤ b:=by obtain ⟨p,v,_,_,_,h4⟩:=h; exact h4
theorem bd_ne {w:World} {B b:Nat} {p v:Value} (h1:w.heap[b]? = some (.cells [p,v].toArray BdT (0,0))):¬ OwnS w B U8 b:=by
 rintro ⟨_,c,hc⟩
 rw [h1] at hc
 simp only [Option.some.injEq,Obj.cells.injEq] at hc
 exact absurd hc.2.1 (by decide)
theorem BCh.trans {w w1 w2:World} {B b:Nat} (h1:Chg (BCh w B b) w w1) (h2:Chg (BCh w1 B b) w1 w2):Chg (BCh w B b) w w2:=by
 refine ⟨h2.os.trans h1.os,h2.tape.trans h1.tape,h2.output.trans h1.output,Nat.le_trans h1.size h2.size,fun k hk hn=>?_⟩
 have e1:=h1.heap k hk hn
 rw [← e1]
 refine h2.heap k (Nat.lt_of_lt_of_le hk h1.size) fun e=>hn ?_
 rcases e with e | ⟨e2,c,e3⟩
 · exact .inl e
 · exact .inr ⟨e2,c,by rw [← e1]; exact e3⟩
theorem BCh.ext {w w1 w2:World} {B b:Nat} (h1:Chg (BCh w B b) w w1) (h2:Ext w1 w2):Chg (BCh w B b) w w2:=h1.then h2 fun _ _ e=>e.elim
theorem BCh.from {w w1 w2:World} {B b:Nat} (h1:Ext w w1) (h2:Chg (BCh w1 B b) w1 w2):Chg (BCh w B b) w w2:=BCh.trans (Chg.of_ext h1) h2
theorem BCh.new {w0 w w':World} {B b:Nat} (h0:Ext w0 w) (hB:w0.heap.size ≤ B) (hb:B ≤ b) (h:Chg (BCh w B b) w w'):Ext w0 w':=
 h0.then h fun k hk e=>by
   rcases e with rfl | ⟨e,_⟩
   · omega
   · omega
theorem BCh.keep {w w':World} {B b k:Nat} {c:Array Value} {T:TypeId} {fr:Nat × Nat} (h:Chg (BCh w B b) w w') (hk:w.heap[k]? = some (.cells c T fr)) (hb:k ≠ b) (hT:T ≠ U8):w'.heap[k]? = some (.cells c T fr):=
 h.at hk fun e=>by
   rcases e with e | ⟨_,c',e⟩
   · exact hb e
   · rw [hk] at e
     simp only [Option.some.injEq,Obj.cells.injEq] at e
     exact hT e.2.1
theorem BCh.iter {w w':World} {B b k p:Nat} {s:ByteArray} (h:Chg (BCh w B b) w w') (hk:w.heap[k]? = some (.stringIter s p)) (hb:k ≠ b):w'.heap[k]? = some (.stringIter s p):=
 h.at hk fun e=>by
   rcases e with e | ⟨_,c',e⟩
   · exact hb e
   · rw [hk] at e; cases e
section
variable [HX]
theorem bnew {w:World} {B:Nat} {K:Value → World → Prop} (hB:B ≤ w.heap.size) (hK:∀ b w',b = w.heap.size → Bld w' B b [] → Ext w w' → K (.pointer (some ⟨b,0,none⟩)) w'):allocW BdT [.pointer none,.slice none 0 0] w K:=
 alloc_new fun a w' ha hz hb hx=>hK a w' ha ⟨_,_,hb,.inl rfl,⟨by simp [u8s],.inl ⟨rfl,rfl⟩⟩,by omega⟩ hx
theorem check_p {w:World} {B b:Nat} {l:Str} {K:Value → World → Prop} (h:Bld w B b l)
   (hK:∀ v w',w'.heap[b]? = some (.cells [.pointer (some ⟨b,0,none⟩),v].toArray BdT (0,0)) → Own w' B U8 1 v l.length (u8s l) → w'.heap.size = w.heap.size → Chg (BCh w B b) w w' → K (.tuple #[]) w') :
   callF Tryz.prog 148 [.pointer (some ⟨b,0,none⟩)] w K:=by
 obtain ⟨p,v,h1,h2,h3,h4⟩:=h
 have c0:w.cell? ⟨b,0,none⟩ = some p:=by rw [cell_eq,h1]; rfl
 rcases h2 with rfl | rfl
 · refine of_calls (args:=#[.pointer (some ⟨b,0,none⟩)]) Tryz.call148 ((Tryz.check_fresh b w c0 (by simp [World.shape?,h1]) (by rw [frozen_eq,h1]; rfl)).mono ?_)
   rintro e w' ⟨rfl,rfl⟩
   refine ⟨_,rfl,hK v _ ?_ ?_ (size_set _ _ _) (Chg.set (Chg.refl _ _) (.inl (.inl rfl)) _)⟩
   · rw [heap_set_same,h1]; rfl
   · refine h3.chg (Chg.set (S:=fun k=>k = b) (Chg.refl _ _) (.inl rfl) _) fun k hk e=>?_
     subst e
     exact bd_ne h1 hk
 · refine of_calls (args:=#[.pointer (some ⟨b,0,none⟩)]) Tryz.call148 ((Tryz.check_used b w c0).mono ?_)
   rintro e w' ⟨rfl,rfl⟩
   exact ⟨_,rfl,hK v _ h1 h3 rfl (Chg.refl _ _)⟩
theorem bstore {w w3:World} {B b n:Nat} {l l':Str} {v v':Value} {K:World → Prop} (h1:w.heap[b]? = some (.cells [.pointer (some ⟨b,0,none⟩),v].toArray BdT (0,0))) (hO:Own w B U8 1 v l.length (u8s l)) (hb:B ≤ b)
   (hc:Chg (fun k=>v.ownBlock = some k) w w3) (hO':Own w3 B U8 1 v' l'.length (u8s l')) (hK:∀ w',Bld w' B b l' → Chg (BCh w B b) w w' → w'.heap.size = w3.heap.size → K w') :
   stW 1 (.pointer (some ⟨b,1,none⟩)) v' w3 K:=by
 have hne:¬ v.ownBlock = some b:=fun e=>bd_ne h1 (hO.block b e)
 have h3:=hc.at h1 hne
 have hsh:one1 v' = true:=by obtain ⟨p,c,rfl,_⟩:=hO'.sl.shape; rfl
 refine st_at h3 hsh (by simp) fun w4 hz hb4 hc4=>?_
 refine hK w4 ⟨.pointer (some ⟨b,0,none⟩),v',by rw [hb4]; simp,.inr rfl,hO'.chg hc4 fun k hk e=>by subst e; exact bd_ne h3 hk,hb⟩ ?_ hz
 have s1:Chg (BCh w B b) w w3:=hc.mono fun k _ e=>.inr (hO.block k e)
 exact s1.then hc4 fun k _ e=>.inl e
theorem wstr_p {w:World} {B b:Nat} {l s:Str} {K:Value → World → Prop} (h:Bld w B b l) (hB:B ≤ w.heap.size) (hl:l.length + s.length ≤ 140737488355328)
   (hK:∀ v w',Bld w' B b (l ++ s) → Chg (BCh w B b) w w' → K v w'):callF Tryz.prog 89 [.pointer (some ⟨b,0,none⟩),str s] w K:=by
 have hb:=h.base
 refine W89_ok ?_
 unfold W89
 refine check_p h fun v w1 h1 hO hz hc=>?_
 rw [nil_ptr,fld_ptr,ld_one]
 refine ⟨v,by rw [add_mk,cell_eq,h1]; rfl,?_⟩
 obtain ⟨i,z,hi,hzr,h2,h3,h4⟩:=elem_u8.get
 have hz0:i.zero = some (.int .u8 0):=by
   have:(Tryz.prog.info? U8).map (·.zero) = some (some (.int .u8 0)):=by kernel_rfl
   rw [hi] at this; simpa using this
 obtain ⟨v',w3,hr,hO',hg,_⟩:=Lib.run_append_own_string (P:=Tryz.prog) w1 B 27 9 27 U8 i elem_u8.und (by kernel_rfl) hi hz0 h2 h3 v l.length (u8s l) hO (ofL s) (by rw [ofL_size]; unfold maxLen; omega) (by rw [ofL_size]; omega) (by omega)
 unfold semE
 rw [hr]
 dsimp only
 rw [nil_ptr,fld_ptr]
 have hO2:Own w3 B U8 1 v' (l ++ s).length (u8s (l ++ s)):=by
   rw [u8s_app,List.length_append]
   have e1:Lib.strCells (ofL s) = u8s s:=by unfold Lib.strCells u8s; rw [ofL_data]
   rw [ofL_size,e1] at hO'
   exact hO'
 refine bstore (n:=0) h1 hO hb (Chg.of_grown hg fun k e=>e) hO2 fun w4 hb4 hc4 _=>?_
 rw [lens_str]
 exact hK _ w4 hb4 (BCh.trans hc hc4)
theorem row_u8 {w:World} {n:Nat} {K:Value → World → Prop} (hK:∀ t w',SlAt w' U8 t 1 [.int .u8 (n:Int)] → Ext w w' → K t w'):bslW U8 1 [(.int .u8 0)] [(0,1,.int .u8 (n:Int))] w K:=by
 rw [bslW]
 simp only [put_int,put_nil,List.length_cons,List.length_nil,List.set_cons_zero]
 refine ⟨by omega,?_⟩
 refine hK _ _ ⟨_,_,rfl,Nat.le_refl _,fun e=>(by cases e),fun _=>⟨_,_,_,_,rfl,heap_anew _ _ _ rfl,fun i _=>by rw [Nat.zero_add]; simp⟩⟩ (Chg.alloc (Chg.refl _ _) _)
theorem wbyte_p {w:World} {B b n:Nat} {l:Str} {K:Value → World → Prop} (h:Bld w B b l) (hB:B ≤ w.heap.size) (hl:l.length + 1 ≤ 140737488355328) (hn:n < 256)
   (hK:∀ w',Bld w' B b (l ++ [UInt8.ofNat n]) → Chg (BCh w B b) w w' → K .nilIface w'):callF Tryz.prog 91 [.pointer (some ⟨b,0,none⟩),.int .u8 (n:Int)] w K:=by
 have hb:=h.base
 refine W91_ok ?_
 unfold W91
 refine check_p h fun v w1 h1 hO hz hc=>?_
 rw [nil_ptr,fld_ptr,ld_one]
 refine ⟨v,by rw [add_mk,cell_eq,h1]; rfl,?_⟩
 refine row_u8 fun t w2 ht hx2=>?_
 refine append_own2 elem_u8 (hO.ext hx2) ht (m:=1) rfl (fun u hu=>by simp only [List.mem_singleton] at hu; subst hu; rfl) (by omega) (by omega) (by have:=hx2.size; omega) fun v' w3 hO3 hc3 _=>?_
 rw [nil_ptr,fld_ptr]
 have hO2:Own w3 B U8 1 v' (l ++ [UInt8.ofNat n]).length (u8s (l ++ [UInt8.ofNat n])):=by
   rw [u8s_app,List.length_append]
   have e1:u8s [UInt8.ofNat n] = [.int .u8 (n:Int)]:=by
     simp only [u8s,List.map_cons,List.map_nil,UInt8.toNat_ofNat']
     rw [Nat.mod_eq_of_lt (by omega)]
   rw [e1]
   exact hO3
 refine bstore (n:=0) (hx2.at h1 id) (hO.ext hx2) hb hc3 hO2 fun w4 hb4 hc4 _=>?_
 exact hK w4 hb4 (BCh.trans hc (BCh.from hx2 hc4))
end
end Go.Proofs.YtnoepcndjljolaaGreatDoor
namespace Go.Proofs.YtnoepcndjljolaaGreatDoor
open Go Go.Eng Go.RowKit
set_option maxRecDepth 100000
abbrev u8 (n:Nat):Value:=.int .u8 (n:Int)
theorem or192:∀ x:Fin 32,IntKind.u8.wrap (BitVec.ofInt IntKind.u8.bits 192 ||| BitVec.ofInt IntKind.u8.bits ((x.val:Nat):Int)).toNat = ((192 + x.val:Nat):Int):=by decide +kernel
theorem or224:∀ x:Fin 16,IntKind.u8.wrap (BitVec.ofInt IntKind.u8.bits 224 ||| BitVec.ofInt IntKind.u8.bits ((x.val:Nat):Int)).toNat = ((224 + x.val:Nat):Int):=by decide +kernel
theorem or240:∀ x:Fin 8,IntKind.u8.wrap (BitVec.ofInt IntKind.u8.bits 240 ||| BitVec.ofInt IntKind.u8.bits ((x.val:Nat):Int)).toNat = ((240 + x.val:Nat):Int):=by decide +kernel
theorem or128:∀ x:Fin 64,IntKind.u8.wrap (BitVec.ofInt IntKind.u8.bits 128 ||| BitVec.ofInt IntKind.u8.bits ((x.val:Nat):Int)).toNat = ((128 + x.val:Nat):Int):=by decide +kernel
theorem and63:∀ x:Fin 256,IntKind.u8.wrap (BitVec.ofInt IntKind.u8.bits ((x.val:Nat):Int) &&& BitVec.ofInt IntKind.u8.bits 63).toNat = ((x.val % 64:Nat):Int):=by decide +kernel
theorem u8_wrap (n:Nat):IntKind.u8.wrap (n:Int) = ((n % 256:Nat):Int):=by
 simp only [IntKind.wrap,IntKind.bits,IntKind.signed,Bool.false_and]
 rw [show (2:Int) ^ 8 = 256 by decide]
 simp
theorem u32_wrap {n:Nat} (h:n < 4294967296):IntKind.u32.wrap (n:Int) = (n:Int):=by
 simp only [IntKind.wrap,IntKind.bits,IntKind.signed,Bool.false_and]
 rw [show (2:Int) ^ 32 = 4294967296 by decide]
 simp only [Bool.false_eq_true,if_false]
 omega
theorem shr_n (r k:Nat) (hk:k ≤ 32) (K:Value → Prop):binW .shr (.int .i32 (r:Int)) (.int .u64 (k:Int)) K ↔ K (.int .i32 ((r / 2 ^ k:Nat):Int)):=by
 have e:(r:Int).fdiv (2 ^ min (k:Int).toNat IntKind.i32.bits) = ((r / 2 ^ k:Nat):Int):=by
   rw [Int.toNat_natCast,show min k IntKind.i32.bits = k from Nat.min_eq_left hk,Int.fdiv_eq_ediv_of_nonneg _ (by exact Int.le_of_lt (Int.pow_pos (by decide)))]
   rw [Int.natCast_ediv,Int.natCast_pow]; rfl
 simp only [binW]
 rw [e]
 constructor
 · exact fun h=>h.2
 · exact fun h=>⟨by omega,h⟩
theorem tail_n (x:Nat) (K:Value → Prop):(cvtW .u8 (.int .i32 (x:Int)) fun t=>binW .and t (.int .u8 63) fun t=>binW .or (.int .u8 128) t K) ↔ K (u8 (128 + x % 64)):=by
 rw [cvt_int,u8_wrap,bin_and,and63 ⟨x % 256,by omega⟩,bin_or,or128 ⟨x % 256 % 64,by omega⟩]
 simp only
 rw [show x % 256 % 64 = x % 64 by omega]
theorem row2 {w:World} {a b:Nat} {K:Value → World → Prop} (hK:∀ t w',SlAt w' U8 t 2 [u8 a,u8 b] → Ext w w' → K t w'):bslW U8 2 [(.int .u8 0),(.int .u8 0)] [(0,1,u8 a),(1,1,u8 b)] w K:=by
 rw [bslW]
 simp only [put_int,put_nil,List.length_cons,List.length_nil,List.set_cons_zero,List.set_cons_succ]
 refine ⟨by omega,by omega,?_⟩
 refine hK _ _ ⟨_,_,rfl,Nat.le_refl _,fun e=>(by cases e),fun _=>⟨_,_,_,_,rfl,heap_anew _ _ _ rfl,fun i _=>by rw [Nat.zero_add]; simp⟩⟩ (Chg.alloc (Chg.refl _ _) _)
theorem row3 {w:World} {a b c:Nat} {K:Value → World → Prop} (hK:∀ t w',SlAt w' U8 t 3 [u8 a,u8 b,u8 c] → Ext w w' → K t w'):bslW U8 3 [(.int .u8 0),(.int .u8 0),(.int .u8 0)] [(0,1,u8 a),(1,1,u8 b),(2,1,u8 c)] w K:=by
 rw [bslW]
 simp only [put_int,put_nil,List.length_cons,List.length_nil,List.set_cons_zero,List.set_cons_succ]
 refine ⟨by omega,by omega,by omega,?_⟩
 refine hK _ _ ⟨_,_,rfl,Nat.le_refl _,fun e=>(by cases e),fun _=>⟨_,_,_,_,rfl,heap_anew _ _ _ rfl,fun i _=>by rw [Nat.zero_add]; simp⟩⟩ (Chg.alloc (Chg.refl _ _) _)
theorem row4 {w:World} {a b c d:Nat} {K:Value → World → Prop} (hK:∀ t w',SlAt w' U8 t 4 [u8 a,u8 b,u8 c,u8 d] → Ext w w' → K t w'):bslW U8 4 [(.int .u8 0),(.int .u8 0),(.int .u8 0),(.int .u8 0)] [(0,1,u8 a),(1,1,u8 b),(2,1,u8 c),(3,1,u8 d)] w K:=by
 rw [bslW]
 simp only [put_int,put_nil,List.length_cons,List.length_nil,List.set_cons_zero,List.set_cons_succ]
 refine ⟨by omega,by omega,by omega,by omega,?_⟩
 refine hK _ _ ⟨_,_,rfl,Nat.le_refl _,fun e=>(by cases e),fun _=>⟨_,_,_,_,rfl,heap_anew _ _ _ rfl,fun i _=>by rw [Nat.zero_add]; simp⟩⟩ (Chg.alloc (Chg.refl _ _) _)
theorem u8s_nat (l:List Nat) (h:∀ x ∈ l,x < 256):u8s (l.map b8) = l.map u8:=by
 unfold u8s
 rw [List.map_map]
 apply List.map_congr_left
 intro x hx
 have:=h x hx
 simp only [Function.comp,b8,UInt8.toNat_ofNat',u8]
 rw [Nat.mod_eq_of_lt (by omega)]
section
variable [HX]
theorem arune_p {w:World} {B r:Nat} {l:Str} {v:Value} {K:Value → World → Prop} (hO:Own w B U8 1 v l.length (u8s l)) (hB:B ≤ w.heap.size) (hl:l.length + 4 ≤ 140737488355328) (hr:r < 55296 ∨ 57343 < r ∧ r ≤ 1114111)
   (hK:∀ v' w',Own w' B U8 1 v' (l ++ wrM r).length (u8s (l ++ wrM r)) → (∀ k,¬ OwnS w B U8 k → k < w.heap.size → w'.heap[k]? = w.heap[k]?) → Chg (fun k=>v.ownBlock = some k) w w' → K v' w') :
   callF Tryz.prog 215 [v,.int .i32 (r:Int)] w K:=by
 have fin:∀ (bs:List Nat) (t:Value) (w1:World),wrM r = bs.map b8 → (∀ x ∈ bs,x < 256) → bs.length ≤ 4 → SlAt w1 U8 t bs.length (bs.map u8) → Ext w w1 → semE Tryz.prog (Builtin.append_ #[27,27] 27 #[v,t]) w1 K:=by
   intro bs t w1 he hlt hlen ht hx
   refine append_own2 elem_u8 (hO.ext hx) ht (m:=bs.length) (by simp) (fun u hu=>by simp only [List.mem_map] at hu; obtain ⟨x,_,rfl⟩:=hu; rfl) (by omega) (by omega) (by have:=hx.size; omega) fun v' w3 hO3 hc3 _=>?_
   have hc:Chg (fun k=>v.ownBlock = some k) w w3:=(Chg.of_ext hx).trans hc3
   refine hK v' w3 ?_ (fun k hk hlt=>hc.heap k hlt fun e=>hk (hO.block k e)) hc
   rw [u8s_app,he,u8s_nat bs hlt,List.length_append,List.length_map]
   exact hO3
 refine W215_ok ?_
 unfold W215
 rw [cvt_int,u32_wrap (by omega),bin_leq,condW_dec]
 refine ⟨fun h=>?_,fun h=>?_⟩
 · rw [cvt_int,u8_wrap,Nat.mod_eq_of_lt (by omega)]
   refine row_u8 fun t w1 ht hx=>?_
   refine fin [r] t w1 ?_ (fun x hx=>by simp only [List.mem_singleton] at hx; omega) (by simp) ht hx
   unfold wrM; rw [if_pos (by omega)]; rfl
 refine W240_ok ?_
 unfold W240
 rw [cvt_int,u32_wrap (by omega),bin_leq,condW_dec]
 refine ⟨fun h2=>?_,fun h2=>?_⟩
 · rw [show (6:Int) = ((6:Nat):Int) from rfl,shr_n r 6 (by omega),cvt_int,u8_wrap,show r / 2 ^ 6 % 256 = r / 64 by omega,bin_or,or192 ⟨r / 64,by omega⟩,tail_n]
   refine row2 fun t w1 ht hx=>?_
   refine fin [192 + r / 64,128 + r % 64] t w1 ?_ (fun x hx=>by simp only [List.mem_cons,List.not_mem_nil,or_false] at hx; omega) (by simp) ht hx
   unfold wrM; rw [if_neg (by omega),if_pos (by omega)]; rfl
 refine JoinW.cut (fun s' w'=>s' = [.bool (decide (r ≤ 65535))] ∧ w' = w) ?_ ?_
 · rw [bin_lss,condW_dec]
   refine ⟨fun h3=>?_,fun h3=>?_⟩
   · rw [decide_eq_true h3,decide_eq_true (by omega)]; exact ⟨rfl,rfl⟩
   · rw [bin_lss,decide_eq_true (show (57343:Int) < (r:Int) by omega)]
     refine GdW.look (decide (r ≤ 65535)) (fun _ J hJ=>?_) fun g=>?_
     · rw [bin_leq]
       rw [show decide ((r:Int) ≤ 65535) = decide (r ≤ 65535) by rw [decide_eq_decide]; omega]
       exact hJ
     · exact ⟨rfl,rfl⟩
 rintro s' g w' ⟨rfl,rfl⟩
 simp only [List.getD_cons_zero]
 rw [condW_dec]
 refine ⟨fun h3=>?_,fun h3=>?_⟩
 · rw [show (12:Int) = ((12:Nat):Int) from rfl,shr_n r 12 (by omega),cvt_int,u8_wrap,show r / 2 ^ 12 % 256 = r / 4096 by omega,bin_or,or224 ⟨r / 4096,by omega⟩,show (6:Int) = ((6:Nat):Int) from rfl,shr_n r 6 (by omega),tail_n,tail_n]
   refine row3 fun t w1 ht hx=>?_
   refine fin [224 + r / 4096,128 + r / 64 % 64,128 + r % 64] t w1 ?_ (fun x hx=>by simp only [List.mem_cons,List.not_mem_nil,or_false] at hx; omega) (by simp) ht hx
   unfold wrM; rw [if_neg (by omega),if_neg (by omega),if_pos (by omega)]; rfl
 rw [bin_gtr,decide_eq_true (show (65535:Int) < (r:Int) by omega)]
 refine GdW.look true (fun _ J hJ=>?_) fun g=>?_
 · rw [bin_leq,decide_eq_true (show (r:Int) ≤ 1114111 by omega)]; exact hJ
 show condW (.bool true) _ _
 rw [condW_true]
 rw [show (18:Int) = ((18:Nat):Int) from rfl,shr_n r 18 (by omega),cvt_int,u8_wrap,show r / 2 ^ 18 % 256 = r / 262144 by omega,bin_or,or240 ⟨r / 262144,by omega⟩,show (12:Int) = ((12:Nat):Int) from rfl,shr_n r 12 (by omega),tail_n,show (6:Int) = ((6:Nat):Int) from rfl,shr_n r 6 (by omega),tail_n,tail_n]
 refine row4 fun t w1 ht hx=>?_
 refine fin [240 + r / 262144,128 + r / 4096 % 64,128 + r / 64 % 64,128 + r % 64] t w1 ?_ (fun x hx=>by simp only [List.mem_cons,List.not_mem_nil,or_false] at hx; omega) (by simp) ht hx
 unfold wrM; rw [if_neg (by omega),if_neg (by omega),if_neg (by omega)]; rfl
theorem wrune_p {w:World} {B b r:Nat} {l:Str} {K:Value → World → Prop} (h:Bld w B b l) (hB:B ≤ w.heap.size) (hl:l.length + 4 ≤ 140737488355328) (hr:r < 55296 ∨ 57343 < r ∧ r ≤ 1114111)
   (hK:∀ v w',Bld w' B b (l ++ wrM r) → Chg (BCh w B b) w w' → K v w'):callF Tryz.prog 167 [.pointer (some ⟨b,0,none⟩),.int .i32 (r:Int)] w K:=by
 have hb:=h.base
 refine W167_ok ?_
 unfold W167
 refine check_p h fun v w1 h1 hO hz hc=>?_
 have hc1:w1.cell? (⟨b,0,none⟩:Addr) |>.isSome:=by rw [cell_eq,h1]; rfl
 rw [nil_ptr,fld_ptr,ld_one]
 refine ⟨v,by rw [add_mk,cell_eq,h1]; rfl,?_⟩
 rw [lenl_at hO.sl,nil_ptr,fld_ptr,ld_one]
 refine ⟨v,by rw [add_mk,cell_eq,h1]; rfl,?_⟩
 refine arune_p hO (by omega) hl hr fun v' w2 hO2 _ hc2=>?_
 rw [nil_ptr,fld_ptr]
 refine bstore (n:=0) h1 hO hb hc2 hO2 fun w4 hb4 hc4 _=>?_
 obtain ⟨p,v4,h4,_,hO4,_⟩:=id hb4
 rw [nil_ptr,fld_ptr,ld_one]
 refine ⟨v4,by rw [add_mk,cell_eq,h4]; rfl,?_⟩
 rw [lenl_at hO4.sl,bin_sub]
 exact hK _ w4 hb4 (BCh.trans hc hc4)
end
end Go.Proofs.YtnoepcndjljolaaGreatDoor

namespace Go.Proofs.YtnoepcndjljolaaGreatDoor
open Go Go.Eng
set_option maxRecDepth 100000
variable [HX]
def plan123:Plan:={ js:=[(49003,⟨[122],[],121⟩),(44005,⟨[93],[],90⟩),(44011,⟨[87],[],84⟩),(44017,⟨[81],[],78⟩),(44021,⟨[75],[],74⟩),(28,⟨[],[4],6⟩),(35002,⟨[69],[],64⟩),(35004,⟨[68],[],67⟩),(35007,⟨[66],[],64⟩),(30005,⟨[43],[],40⟩),(30011,⟨[37],[],34⟩),(30015,⟨[31],[],30⟩),(22005,⟨[25],[],22⟩),(22009,⟨[19],[],18⟩)],ds:=[] }
def W123 (v0 v1:Value) (w:World) (K:Value → World → Prop):Prop:=
 callF Tryz.prog 181 [v0,v1] w fun t10 w1=>
 binW .lss t10 (.int .i64 0) fun t12=>
 condW t12 (
 K (.int .i64 0) w1) (
 binW .lss t10 (.int .i64 128) fun t14=>
 condW t14 (
 K (.int .i64 1) w1) (
 binW .geq t10 (.int .i64 194) fun t16=>
 GdW (isB t16 true) [undef] w1 (fun J2=>
 binW .lss t10 (.int .i64 224) fun t19=>
 J2 [t19] w1)
 fun s2 _ w3=>
 pickW t16 (s2.getD 0 undef) (.bool false) fun t20=>
 GdW (isB t20 true) [undef] w3 (fun J4=>
 binW .add v1 (.int .i64 1) fun t24=>
 callF Tryz.prog 182 [v0,t24] w3 fun t25 w5=>
 J4 [t25] w5)
 fun s4 _ w6=>
 pickW t20 (s4.getD 0 undef) (.bool false) fun t26=>
 condW t26 (
 K (.int .i64 2) w6) (
 JoinW (fun J7=>
 binW .geq t10 (.int .i64 224) fun t28=>
 GdW (isB t28 true) [undef] w6 (fun J8=>
 binW .lss t10 (.int .i64 240) fun t31=>
 J8 [t31] w6)
 fun s8 _ w9=>
 pickW t28 (s8.getD 0 undef) (.bool false) fun t32=>
 GdW (isB t32 true) [undef] w9 (fun J10=>
 binW .add v1 (.int .i64 1) fun t36=>
 callF Tryz.prog 182 [v0,t36] w9 fun t37 w11=>
 J10 [t37] w11)
 fun s10 _ w12=>
 pickW t32 (s10.getD 0 undef) (.bool false) fun t38=>
 GdW (isB t38 true) [undef] w12 (fun J13=>
 binW .add v1 (.int .i64 2) fun t42=>
 callF Tryz.prog 182 [v0,t42] w12 fun t43 w14=>
 J13 [t43] w14)
 fun s13 _ w15=>
 pickW t38 (s13.getD 0 undef) (.bool false) fun t44=>
 condW t44 (
 binW .sub t10 (.int .i64 224) fun t46=>
 binW .mul t46 (.int .i64 4096) fun t47=>
 binW .add v1 (.int .i64 1) fun t50=>
 callF Tryz.prog 181 [v0,t50] w15 fun t51 w16=>
 binW .sub t51 (.int .i64 128) fun t52=>
 binW .mul t52 (.int .i64 64) fun t53=>
 binW .add t47 t53 fun t54=>
 binW .add v1 (.int .i64 2) fun t57=>
 callF Tryz.prog 181 [v0,t57] w16 fun t58 w17=>
 binW .add t54 t58 fun t59=>
 binW .sub t59 (.int .i64 128) fun t60=>
 binW .geq t60 (.int .i64 2048) fun t62=>
 GdW (isB t62 true) [undef] w17 (fun J18=>
 binW .lss t60 (.int .i64 55296) fun t65=>
 J18 [t65] w17)
 fun s18 _ w19=>
 GdW (isB (s18.getD 0 undef) false) [undef] w19 (fun J20=>
 binW .gtr t60 (.int .i64 57343) fun t68=>
 J20 [t68] w19)
 fun s20 _ w21=>
 GdW (isB t62 true) [undef] w21 (fun J22=>
 pickW (s18.getD 0 undef) (.bool true) (s20.getD 0 undef) fun t69=>
 J22 [t69] w21)
 fun s22 _ w23=>
 pickW t62 (s22.getD 0 undef) (.bool false) fun t70=>
 condW t70 (
 K (.int .i64 3) w23) (
 J7 [] w23)) (
 J7 [] w15))
 fun s7 _ w24=>
 binW .geq t10 (.int .i64 240) fun t72=>
 GdW (isB t72 true) [undef] w24 (fun J25=>
 binW .lss t10 (.int .i64 245) fun t75=>
 J25 [t75] w24)
 fun s25 _ w26=>
 pickW t72 (s25.getD 0 undef) (.bool false) fun t76=>
 GdW (isB t76 true) [undef] w26 (fun J27=>
 binW .add v1 (.int .i64 1) fun t80=>
 callF Tryz.prog 182 [v0,t80] w26 fun t81 w28=>
 J27 [t81] w28)
 fun s27 _ w29=>
 pickW t76 (s27.getD 0 undef) (.bool false) fun t82=>
 GdW (isB t82 true) [undef] w29 (fun J30=>
 binW .add v1 (.int .i64 2) fun t86=>
 callF Tryz.prog 182 [v0,t86] w29 fun t87 w31=>
 J30 [t87] w31)
 fun s30 _ w32=>
 pickW t82 (s30.getD 0 undef) (.bool false) fun t88=>
 GdW (isB t88 true) [undef] w32 (fun J33=>
 binW .add v1 (.int .i64 3) fun t92=>
 callF Tryz.prog 182 [v0,t92] w32 fun t93 w34=>
 J33 [t93] w34)
 fun s33 _ w35=>
 pickW t88 (s33.getD 0 undef) (.bool false) fun t94=>
 condW t94 (
 binW .sub t10 (.int .i64 240) fun t96=>
 binW .mul t96 (.int .i64 262144) fun t97=>
 binW .add v1 (.int .i64 1) fun t100=>
 callF Tryz.prog 181 [v0,t100] w35 fun t101 w36=>
 binW .sub t101 (.int .i64 128) fun t102=>
 binW .mul t102 (.int .i64 4096) fun t103=>
 binW .add t97 t103 fun t104=>
 binW .add v1 (.int .i64 2) fun t107=>
 callF Tryz.prog 181 [v0,t107] w36 fun t108 w37=>
 binW .sub t108 (.int .i64 128) fun t109=>
 binW .mul t109 (.int .i64 64) fun t110=>
 binW .add t104 t110 fun t111=>
 binW .add v1 (.int .i64 3) fun t114=>
 callF Tryz.prog 181 [v0,t114] w37 fun t115 w38=>
 binW .add t111 t115 fun t116=>
 binW .sub t116 (.int .i64 128) fun t117=>
 binW .geq t117 (.int .i64 65536) fun t119=>
 GdW (isB t119 true) [undef] w38 (fun J39=>
 binW .leq t117 (.int .i64 1114111) fun t122=>
 J39 [t122] w38)
 fun s39 _ w40=>
 pickW t119 (s39.getD 0 undef) (.bool false) fun t123=>
 condW t123 (
 K (.int .i64 4) w40) (
 K (.int .i64 0) w40)) (
 K (.int .i64 0) w35))))
theorem W123_ok {v0 v1:Value} {w:World} {K:Value → World → Prop} (h:W123 v0 v1 w K):callF Tryz.prog 123 [v0,v1] w K:=
 tie _ 123 Tryz.f123 plan123 _ w K 2 _ rfl mixed Tryz.func123 (by kernel_rfl) (by kernel_rfl) Tryz.call123 h
def plan181:Plan:={ js:=[],ds:=[] }
def W181 (v0 v1:Value) (w:World) (K:Value → World → Prop):Prop:=
 lensW v0 fun t7=>
 binW .geq v1 t7 fun t8=>
 condW t8 (
 K (.int .i64 (-1)) w) (
 ixsW v0 v1 fun t11=>
 cvtW .i64 t11 fun t12=>
 K t12 w)
theorem W181_ok {v0 v1:Value} {w:World} {K:Value → World → Prop} (h:W181 v0 v1 w K):callF Tryz.prog 181 [v0,v1] w K:=
 tie _ 181 Tryz.f181 plan181 _ w K 2 _ rfl mixed Tryz.func181 (by kernel_rfl) (by kernel_rfl) Tryz.call181 h
def plan182:Plan:={ js:=[(3006,⟨[13],[],10⟩)],ds:=[] }
def W182 (v0 v1:Value) (w:World) (K:Value → World → Prop):Prop:=
 callF Tryz.prog 181 [v0,v1] w fun t7 w1=>
 binW .geq t7 (.int .i64 128) fun t8=>
 GdW (isB t8 true) [undef] w1 (fun J2=>
 callF Tryz.prog 181 [v0,v1] w1 fun t12 w3=>
 binW .lss t12 (.int .i64 192) fun t13=>
 J2 [t13] w3)
 fun s2 _ w4=>
 pickW t8 (s2.getD 0 undef) (.bool false) fun t14=>
 K t14 w4
theorem W182_ok {v0 v1:Value} {w:World} {K:Value → World → Prop} (h:W182 v0 v1 w K):callF Tryz.prog 182 [v0,v1] w K:=
 tie _ 182 Tryz.f182 plan182 _ w K 2 _ rfl mixed Tryz.func182 (by kernel_rfl) (by kernel_rfl) Tryz.call182 h
def plan79:Plan:={ js:=[],ds:=[] }
def W79 (v0 v1:Value) (w:World) (K:Value → World → Prop):Prop:=
 callF Tryz.prog 135 [v0,v1] w fun t9 w1=>
 extW 0 t9 fun t10=>
 extW 1 t9 fun t11=>
 extW 2 t9 fun t12=>
 K (.tuple #[t10,t11,t12]) w1
theorem W79_ok {v0 v1:Value} {w:World} {K:Value → World → Prop} (h:W79 v0 v1 w K):callF Tryz.prog 79 [v0,v1] w K:=
 tie _ 79 Tryz.f79 plan79 _ w K 2 _ rfl mixed Tryz.func79 (by kernel_rfl) (by kernel_rfl) Tryz.call79 h
def plan135:Plan:={ js:=[],ds:=[(9,⟨[0,1,2,3,4,5,6,7,8,9,10,11],[[],[],[0,1],[],[],[],[5],[4,5,6],[3,4,5,6,7],[0,1,2],[0,1,2,3,4,5,6,7,8,9],[0,1,2,3,4,5,6,7,8,9,10]]⟩)] }
def W135 (v0 v1:Value) (w:World) (K:Value → World → Prop):Prop:=
 callF Tryz.prog 189 [v0,v1] w fun t10 w1=>
 binW .geq t10 (.int .i64 0) fun t12=>
 condW t12 (
 slsW v0 none (some t10) fun t15=>
 lensW v1 fun t19=>
 binW .add t10 t19 fun t20=>
 slsW v0 (some t20) none fun t21=>
 K (.tuple #[t15,t21,(.bool true)]) w1.drew) (
 K (.tuple #[v0,(.string (ofL [])),(.bool false)]) w1)
theorem W135_ok {v0 v1:Value} {w:World} {K:Value → World → Prop} (h:W135 v0 v1 w K):callF Tryz.prog 135 [v0,v1] w K:=
 tie _ 135 Tryz.f135 plan135 _ w K 2 _ rfl mixed Tryz.func135 (by kernel_rfl) (by kernel_rfl) Tryz.call135 h
def plan189:Plan:={ js:=[(96004,⟨[131],[],129⟩),(96011,⟨[126],[],122⟩),(80005,⟨[106],[],103⟩),(69009,⟨[92],[],85⟩),(51,⟨[8],[4,8],11⟩),(43,⟨[8,10],[4,8],10⟩),(25005,⟨[43],[],41⟩),(7005,⟨[22],[],20⟩)],ds:=[] }
def W189 (v0 v1:Value) (w:World) (K:Value → World → Prop):Prop:=
 lensW v1 fun t15=>
 binW .eql t15 (.int .i64 0) fun t18=>
 GdW (isB t18 false) [undef] w (fun J1=>
 binW .eql v1 v0 fun t22=>
 J1 [t22] w)
 fun s1 _ w2=>
 pickW t18 (.bool true) (s1.getD 0 undef) fun t23=>
 condW t23 (
 K (.int .i64 0) w2) (
 binW .eql t15 (.int .i64 1) fun t26=>
 condW t26 (
 ixsW v1 (.int .i64 0) fun t29=>
 callF Tryz.prog 133 [v0,t29] w2 fun t30 w3=>
 K t30 w3) (
 lensW v0 fun t34=>
 binW .geq t15 t34 fun t35=>
 condW t35 (
 K (.int .i64 (-1)) w2) (
 ldW false 1 (.pointer (some ⟨4,0,none⟩)) w2 fun t38=>
 binW .leq t15 t38 fun t39=>
 GdW (isB t39 true) [undef] w2 (fun J4=>
 lensW v0 fun t42=>
 binW .leq t42 (.int .i64 64) fun t43=>
 J4 [t43] w2)
 fun s4 _ w5=>
 pickW t39 (s4.getD 0 undef) (.bool false) fun t44=>
 condW t44 (
 callF Tryz.prog 223 [v0,v1] w5 fun t47 w6=>
 K t47 w6) (
 ixsW v1 (.int .i64 0) fun t49=>
 ixsW v1 (.int .i64 1) fun t51=>
 lensW v0 fun t53=>
 binW .sub t53 t15 fun t55=>
 binW .add t55 (.int .i64 1) fun t56=>
 LoopW [(.int .i64 0),(.int .i64 0)] w5 fun s7 _ w8 L7=>
 binW .lss (s7.getD 0 undef) t56 fun t59=>
 condW t59 (
 JoinW (fun J9=>
 ixsW v0 (s7.getD 0 undef) fun t62=>
 binW .neq t62 t49 fun t64=>
 condW t64 (
 binW .add (s7.getD 0 undef) (.int .i64 1) fun t67=>
 slsW v0 (some t67) (some t56) fun t69=>
 callF Tryz.prog 133 [t69,t49] w8 fun t71 w10=>
 binW .lss t71 (.int .i64 0) fun t73=>
 condW t73 (
 K (.int .i64 (-1)) w10) (
 binW .add t71 (.int .i64 1) fun t76=>
 binW .add (s7.getD 0 undef) t76 fun t77=>
 J9 [t77] w10)) (
 J9 [(s7.getD 0 undef)] w8))
 fun s9 _ w11=>
 binW .add (s9.getD 0 undef) (.int .i64 1) fun t80=>
 ixsW v0 t80 fun t81=>
 binW .eql t81 t51 fun t83=>
 GdW (isB t83 true) [undef] w11 (fun J12=>
 binW .add (s9.getD 0 undef) t15 fun t89=>
 slsW v0 (some (s9.getD 0 undef)) (some t89) fun t90=>
 binW .eql t90 v1 fun t92=>
 J12 [t92] w11)
 fun s12 _ w13=>
 pickW t83 (s12.getD 0 undef) (.bool false) fun t93=>
 condW t93 (
 K (s9.getD 0 undef) w13) (
 binW .add (s9.getD 0 undef) (.int .i64 1) fun t96=>
 binW .add (s7.getD 1 undef) (.int .i64 1) fun t98=>
 ldW false 1 (.pointer (some ⟨4,0,none⟩)) w13 fun t100=>
 binW .leq t15 t100 fun t101=>
 GdW (isB t101 true) [undef] w13 (fun J14=>
 callF Tryz.prog 224 [t96] w13 fun t105 w15=>
 binW .gtr t98 t105 fun t106=>
 J14 [t106] w15)
 fun s14 _ w16=>
 pickW t101 (s14.getD 0 undef) (.bool false) fun t107=>
 condW t107 (
 slsW v0 (some t96) none fun t110=>
 callF Tryz.prog 223 [t110,v1] w16 fun t112 w17=>
 binW .geq t112 (.int .i64 0) fun t114=>
 condW t114 (
 binW .add t112 t96 fun t117=>
 K t117 w17) (
 K (.int .i64 (-1)) w17)) (
 ldW false 1 (.pointer (some ⟨4,0,none⟩)) w16 fun t119=>
 binW .gtr t15 t119 fun t120=>
 GdW (isB t120 true) [undef] w16 (fun J18=>
 binW .shr t96 (.int .u64 4) fun t124=>
 binW .add (.int .i64 4) t124 fun t125=>
 binW .geq t98 t125 fun t126=>
 J18 [t126] w16)
 fun s18 _ w19=>
 pickW t120 (s18.getD 0 undef) (.bool false) fun t127=>
 GdW (isB t127 true) [undef] w19 (fun J20=>
 binW .lss t96 t56 fun t131=>
 J20 [t131] w19)
 fun s20 _ w21=>
 pickW t127 (s20.getD 0 undef) (.bool false) fun t132=>
 condW t132 (
 slsW v0 (some t96) none fun t135=>
 callF Tryz.prog 225 [t135,v1] w21 fun t137 w22=>
 binW .lss t137 (.int .i64 0) fun t139=>
 condW t139 (
 K (.int .i64 (-1)) w22) (
 binW .add t96 t137 fun t142=>
 K t142 w22)) (
 L7 [t96,t98] w21)))) (
 K (.int .i64 (-1)) w8)))))
theorem W189_ok {v0 v1:Value} {w:World} {K:Value → World → Prop} (h:W189 v0 v1 w K):callF Tryz.prog 189 [v0,v1] w K:=
 tie _ 189 Tryz.f189 plan189 _ w K 2 _ rfl mixed Tryz.func189 (by kernel_rfl) (by kernel_rfl) Tryz.call189 h
end Go.Proofs.YtnoepcndjljolaaGreatDoor
namespace Go.Proofs.YtnoepcndjljolaaGreatDoor
open Go Go.Eng
set_option maxRecDepth 100000
section
variable [HX]
theorem byteM_lo (s:Str) (i:Nat):-1 ≤ byteM s i ∧ byteM s i ≤ 255:=by
 rcases Nat.lt_or_ge i s.length with h | h
 · rw [byteM_in h]; have:=bt_lt s i; omega
 · rw [byteM_out h]; omega
theorem one_ref {s:Str} {i:Nat} {w:World} {K:Value → World → Prop} (hl:s.length ≤ 4611686018427387904) (hK:K (i64 (byteM s i)) w):callF Tryz.prog 181 [str s,i64 (i:Int)] w K:=by
 refine W181_ok ?_
 unfold W181
 rw [lens_str,bin_geq]
 rcases Nat.lt_or_ge i s.length with h | h
 · rw [decide_eq_false (by omega),condW_false,ixs_str]
   refine ⟨by omega,s[i],by simp [h],?_⟩
   rw [cvt_int]
   have e:byteM s i = (s[i].toNat:Int):=by
     rw [byteM_in h]; unfold bt
     rw [List.getD_eq_getElem?_getD,List.getElem?_eq_getElem h]; rfl
   rw [e] at hK
   have:=UInt8.toNat_lt s[i]
   rw [wrap_id (by omega) (by omega)]
   exact hK
 · rw [decide_eq_true (by omega),condW_true]
   rw [byteM_out h] at hK
   exact hK
theorem more_ref {s:Str} {i:Nat} {w:World} {K:Value → World → Prop} (hl:s.length ≤ 4611686018427387904) (hK:K (.bool (moreM s i)) w):callF Tryz.prog 182 [str s,i64 (i:Int)] w K:=by
 refine W182_ok ?_
 unfold W182
 refine one_ref hl ?_
 rw [bin_geq]
 refine GdW.look (decide (byteM s i < 192)) (fun _ J hJ=>?_) fun g=>?_
 · refine one_ref hl ?_
   rw [bin_lss]
   exact hJ
 · simp only [wsv,wsg,wsh,wsl,cond_true,cond_false,exists_eq_left',wsu,Nat.reduceAdd,Nat.reduceLT,Nat.lt_add_one,Nat.zero_lt_succ,decide_true,decide_false,ne_eq,reduceCtorEq]
   exact hK
theorem add1 {i k:Nat} (h:i ≤ 4611686018427387904) (hk:k ≤ 10):IntKind.i64.wrap ((i:Int) + (k:Nat)) = ((i + k:Nat):Int):=by rw [wrap_id (by omega) (by omega)]; omega
theorem rune_ref {s:Str} {i:Nat} {w:World} {K:Value → World → Prop} (hl:s.length ≤ 4611686018427387904) (hi:i ≤ 4611686018427387904) (hK:K (i64 (runeM s i)) w):callF Tryz.prog 123 [str s,i64 (i:Int)] w K:=by
 have b0:=byteM_lo s i
 have b1:=byteM_lo s (i + 1)
 have b2:=byteM_lo s (i + 2)
 have b3:=byteM_lo s (i + 3)
 have a1:IntKind.i64.wrap ((i:Int) + 1) = ((i + 1:Nat):Int):=add1 (k:=1) hi (by omega)
 have a2:IntKind.i64.wrap ((i:Int) + 2) = ((i + 2:Nat):Int):=add1 (k:=2) hi (by omega)
 have a3:IntKind.i64.wrap ((i:Int) + 3) = ((i + 3:Nat):Int):=add1 (k:=3) hi (by omega)
 refine W123_ok ?_
 unfold W123
 refine one_ref hl ?_
 unfold runeM at hK
 dsimp only at hK
 rw [bin_lss,condW_dec]
 refine ⟨fun c0=>by rw [if_pos c0] at hK; exact hK,fun c0=>?_⟩
 rw [if_neg c0] at hK
 rw [bin_lss,condW_dec]
 refine ⟨fun c1=>by rw [if_pos c1] at hK; exact hK,fun c1=>?_⟩
 rw [if_neg c1] at hK
 simp only [wsv,wsg,wsh,wsl,cond_true,cond_false,exists_eq_left',wsu,Nat.reduceAdd,Nat.reduceLT,Nat.lt_add_one,Nat.zero_lt_succ,decide_true,decide_false,ne_eq,reduceCtorEq]
 intros
 refine GdW.look (moreM s (i + 1)) (fun _ J hJ=>?_) fun g=>?_
 · rw [a1]; exact more_ref hl hJ
 simp only [wsv,wsg,wsh,wsl,cond_true,cond_false,exists_eq_left',wsu,Nat.reduceAdd,Nat.reduceLT,Nat.lt_add_one,Nat.zero_lt_succ,decide_true,decide_false,ne_eq,reduceCtorEq]
 rw [condW_b]
 refine ⟨fun c2=>?_,fun c2=>?_⟩
 · simp only [Bool.and_eq_true,decide_eq_true_eq] at c2
   rw [if_pos ⟨c2.1.1,c2.1.2,c2.2⟩] at hK
   exact hK
 have c2':¬ (194 ≤ byteM s i ∧ byteM s i < 224 ∧ moreM s (i + 1) = true):=fun h=>by
   rw [decide_eq_true h.1,decide_eq_true h.2.1,h.2.2] at c2; cases c2
 rw [if_neg c2'] at hK
 have four:(¬ (224 ≤ byteM s i ∧ byteM s i < 240 ∧ moreM s (i + 1) = true ∧ moreM s (i + 2) = true ∧
   2048 ≤ (byteM s i - 224) * 4096 + (byteM s (i + 1) - 128) * 64 + byteM s (i + 2) - 128 ∧ ((byteM s i - 224) * 4096 + (byteM s (i + 1) - 128) * 64 + byteM s (i + 2) - 128 < 55296 ∨ 57343 < (byteM s i - 224) * 4096 + (byteM s (i + 1) - 128) * 64 + byteM s (i + 2) - 128))) → K (.int .i64 (if 240 ≤ byteM s i ∧ byteM s i < 245 ∧ moreM s (i + 1) = true ∧ moreM s (i + 2) = true ∧ moreM s (i + 3) = true ∧
   65536 ≤ (byteM s i - 240) * 262144 + (byteM s (i + 1) - 128) * 4096 + (byteM s (i + 2) - 128) * 64 + byteM s (i + 3) - 128 ∧ (byteM s i - 240) * 262144 + (byteM s (i + 1) - 128) * 4096 + (byteM s (i + 2) - 128) * 64 + byteM s (i + 3) - 128 ≤ 1114111 then 4 else 0:Nat)) w:=fun h=>by
   rw [if_neg h] at hK; exact hK
 refine JoinW.cut (fun s' w'=>s' = [] ∧ w' = w ∧ (¬ (224 ≤ byteM s i ∧ byteM s i < 240 ∧ moreM s (i + 1) = true ∧ moreM s (i + 2) = true ∧
   2048 ≤ (byteM s i - 224) * 4096 + (byteM s (i + 1) - 128) * 64 + byteM s (i + 2) - 128 ∧ ((byteM s i - 224) * 4096 + (byteM s (i + 1) - 128) * 64 + byteM s (i + 2) - 128 < 55296 ∨ 57343 < (byteM s i - 224) * 4096 + (byteM s (i + 1) - 128) * 64 + byteM s (i + 2) - 128)))) ?_ ?_
 · simp only [wsv,wsg,wsh,wsl,cond_true,cond_false,exists_eq_left',wsu,Nat.reduceAdd,Nat.reduceLT,Nat.lt_add_one,Nat.zero_lt_succ,decide_true,decide_false,ne_eq,reduceCtorEq]
   intros
   refine GdW.look (moreM s (i + 1)) (fun _ J hJ=>?_) fun g=>?_
   · rw [a1]; exact more_ref hl hJ
   simp only [wsv,wsg,wsh,wsl,cond_true,cond_false,exists_eq_left',wsu,Nat.reduceAdd,Nat.reduceLT,Nat.lt_add_one,Nat.zero_lt_succ,decide_true,decide_false,ne_eq,reduceCtorEq]
   refine GdW.look (moreM s (i + 2)) (fun _ J hJ=>?_) fun g=>?_
   · rw [a2]; exact more_ref hl hJ
   simp only [wsv,wsg,wsh,wsl,cond_true,cond_false,exists_eq_left',wsu,Nat.reduceAdd,Nat.reduceLT,Nat.lt_add_one,Nat.zero_lt_succ,decide_true,decide_false,ne_eq,reduceCtorEq]
   rw [condW_b]
   refine ⟨fun c3=>?_,fun c3 h=>?_⟩
   · simp only [Bool.and_eq_true,decide_eq_true_eq] at c3
     obtain ⟨⟨⟨d1,d2⟩,d3⟩,d4⟩:=c3
     rw [a1]
     refine one_ref hl ?_
     simp only [wsv,wsg,wsh,wsl,cond_true,cond_false,exists_eq_left',wsu,Nat.reduceAdd,Nat.reduceLT,Nat.lt_add_one,Nat.zero_lt_succ,decide_true,decide_false,ne_eq,reduceCtorEq]
     rw [a2]
     refine one_ref hl ?_
     simp only [wsv,wsg,wsh,wsl,cond_true,cond_false,exists_eq_left',wsu,Nat.reduceAdd,Nat.reduceLT,Nat.lt_add_one,Nat.zero_lt_succ,decide_true,decide_false,ne_eq,reduceCtorEq]
     have e1:IntKind.i64.wrap (byteM s i - 224) = byteM s i - 224:=wrap_id (by omega) (by omega)
     have e2:IntKind.i64.wrap ((byteM s i - 224) * 4096) = (byteM s i - 224) * 4096:=wrap_id (by omega) (by omega)
     have e3:IntKind.i64.wrap (byteM s (i + 1) - 128) = byteM s (i + 1) - 128:=wrap_id (by omega) (by omega)
     have e4:IntKind.i64.wrap ((byteM s (i + 1) - 128) * 64) = (byteM s (i + 1) - 128) * 64:=wrap_id (by omega) (by omega)
     have e5:IntKind.i64.wrap ((byteM s i - 224) * 4096 + (byteM s (i + 1) - 128) * 64) = (byteM s i - 224) * 4096 + (byteM s (i + 1) - 128) * 64:=wrap_id (by omega) (by omega)
     have e6:IntKind.i64.wrap ((byteM s i - 224) * 4096 + (byteM s (i + 1) - 128) * 64 + byteM s (i + 2)) = (byteM s i - 224) * 4096 + (byteM s (i + 1) - 128) * 64 + byteM s (i + 2):=wrap_id (by omega) (by omega)
     have e7:IntKind.i64.wrap ((byteM s i - 224) * 4096 + (byteM s (i + 1) - 128) * 64 + byteM s (i + 2) - 128) = (byteM s i - 224) * 4096 + (byteM s (i + 1) - 128) * 64 + byteM s (i + 2) - 128:=wrap_id (by omega) (by omega)
     simp only [e1,e2,e3,e4,e5,e6,e7]
     intro _ _ _
     rw [condW_b]
     refine ⟨fun c4=>?_,fun c4 h=>?_⟩
     · simp only [Bool.and_eq_true,Bool.or_eq_true,decide_eq_true_eq] at c4
       rw [if_pos ⟨d1,d2,d3,d4,c4.1,c4.2⟩] at hK
       exact hK
     · have:(decide (2048 ≤ (byteM s i - 224) * 4096 + (byteM s (i + 1) - 128) * 64 + byteM s (i + 2) - 128) && (decide ((byteM s i - 224) * 4096 + (byteM s (i + 1) - 128) * 64 + byteM s (i + 2) - 128 < 55296) || decide (57343 < (byteM s i - 224) * 4096 + (byteM s (i + 1) - 128) * 64 + byteM s (i + 2) - 128))) = true:=by
         simp only [Bool.and_eq_true,Bool.or_eq_true,decide_eq_true_eq]
         exact h.2.2.2.2
       rw [c4] at this; cases this
   · rw [decide_eq_true h.1,decide_eq_true h.2.1,h.2.2.1,h.2.2.2.1] at c3; cases c3
 · rintro s' g w' ⟨rfl,rfl,hno⟩
   have hK:=four hno
   intro g2
   refine GdW.look (moreM s (i + 1)) (fun _ J hJ=>?_) fun g=>?_
   · rw [a1]; exact more_ref hl hJ
   simp only [wsv,wsg,wsh,wsl,cond_true,cond_false,exists_eq_left',wsu,Nat.reduceAdd,Nat.reduceLT,Nat.lt_add_one,Nat.zero_lt_succ,decide_true,decide_false,ne_eq,reduceCtorEq]
   refine GdW.look (moreM s (i + 2)) (fun _ J hJ=>?_) fun g=>?_
   · rw [a2]; exact more_ref hl hJ
   simp only [wsv,wsg,wsh,wsl,cond_true,cond_false,exists_eq_left',wsu,Nat.reduceAdd,Nat.reduceLT,Nat.lt_add_one,Nat.zero_lt_succ,decide_true,decide_false,ne_eq,reduceCtorEq]
   refine GdW.look (moreM s (i + 3)) (fun _ J hJ=>?_) fun g=>?_
   · rw [a3]; exact more_ref hl hJ
   simp only [wsv,wsg,wsh,wsl,cond_true,cond_false,exists_eq_left',wsu,Nat.reduceAdd,Nat.reduceLT,Nat.lt_add_one,Nat.zero_lt_succ,decide_true,decide_false,ne_eq,reduceCtorEq]
   rw [condW_b]
   refine ⟨fun c3=>?_,fun c3=>?_⟩
   · simp only [Bool.and_eq_true,decide_eq_true_eq] at c3
     obtain ⟨⟨⟨⟨d1,d2⟩,d3⟩,d4⟩,d5⟩:=c3
     rw [a1]
     refine one_ref hl ?_
     simp only [wsv,wsg,wsh,wsl,cond_true,cond_false,exists_eq_left',wsu,Nat.reduceAdd,Nat.reduceLT,Nat.lt_add_one,Nat.zero_lt_succ,decide_true,decide_false,ne_eq,reduceCtorEq]
     rw [a2]
     refine one_ref hl ?_
     simp only [wsv,wsg,wsh,wsl,cond_true,cond_false,exists_eq_left',wsu,Nat.reduceAdd,Nat.reduceLT,Nat.lt_add_one,Nat.zero_lt_succ,decide_true,decide_false,ne_eq,reduceCtorEq]
     rw [a3]
     refine one_ref hl ?_
     simp only [wsv,wsg,wsh,wsl,cond_true,cond_false,exists_eq_left',wsu,Nat.reduceAdd,Nat.reduceLT,Nat.lt_add_one,Nat.zero_lt_succ,decide_true,decide_false,ne_eq,reduceCtorEq]
     have e1:IntKind.i64.wrap (byteM s i - 240) = byteM s i - 240:=wrap_id (by omega) (by omega)
     have e2:IntKind.i64.wrap ((byteM s i - 240) * 262144) = (byteM s i - 240) * 262144:=wrap_id (by omega) (by omega)
     have e3:IntKind.i64.wrap (byteM s (i + 1) - 128) = byteM s (i + 1) - 128:=wrap_id (by omega) (by omega)
     have e4:IntKind.i64.wrap ((byteM s (i + 1) - 128) * 4096) = (byteM s (i + 1) - 128) * 4096:=wrap_id (by omega) (by omega)
     have e5:IntKind.i64.wrap ((byteM s i - 240) * 262144 + (byteM s (i + 1) - 128) * 4096) = (byteM s i - 240) * 262144 + (byteM s (i + 1) - 128) * 4096:=wrap_id (by omega) (by omega)
     have e6:IntKind.i64.wrap (byteM s (i + 2) - 128) = byteM s (i + 2) - 128:=wrap_id (by omega) (by omega)
     have e7:IntKind.i64.wrap ((byteM s (i + 2) - 128) * 64) = (byteM s (i + 2) - 128) * 64:=wrap_id (by omega) (by omega)
     have e8:IntKind.i64.wrap ((byteM s i - 240) * 262144 + (byteM s (i + 1) - 128) * 4096 + (byteM s (i + 2) - 128) * 64) = (byteM s i - 240) * 262144 + (byteM s (i + 1) - 128) * 4096 + (byteM s (i + 2) - 128) * 64:=wrap_id (by omega) (by omega)
     have e9:IntKind.i64.wrap ((byteM s i - 240) * 262144 + (byteM s (i + 1) - 128) * 4096 + (byteM s (i + 2) - 128) * 64 + byteM s (i + 3)) = (byteM s i - 240) * 262144 + (byteM s (i + 1) - 128) * 4096 + (byteM s (i + 2) - 128) * 64 + byteM s (i + 3):=wrap_id (by omega) (by omega)
     have e10:IntKind.i64.wrap ((byteM s i - 240) * 262144 + (byteM s (i + 1) - 128) * 4096 + (byteM s (i + 2) - 128) * 64 + byteM s (i + 3) - 128) = (byteM s i - 240) * 262144 + (byteM s (i + 1) - 128) * 4096 + (byteM s (i + 2) - 128) * 64 + byteM s (i + 3) - 128:=wrap_id (by omega) (by omega)
     simp only [e1,e2,e3,e4,e5,e6,e7,e8,e9,e10]
     intro _
     rw [condW_b]
     refine ⟨fun c4=>?_,fun c4=>?_⟩
     · simp only [Bool.and_eq_true,decide_eq_true_eq] at c4
       rw [if_pos ⟨d1,d2,d3,d4,d5,c4.1,c4.2⟩] at hK
       exact hK
     · rw [if_neg (fun h=>by rw [decide_eq_true h.2.2.2.2.2.1,decide_eq_true h.2.2.2.2.2.2] at c4; cases c4)] at hK
       exact hK
   · rw [if_neg (fun h=>by rw [decide_eq_true h.1,decide_eq_true h.2.1,h.2.2.1,h.2.2.2.1,h.2.2.2.2.1] at c3; cases c3)] at hK
     exact hK
end
end Go.Proofs.YtnoepcndjljolaaGreatDoor

namespace Go.Proofs.YtnoepcndjljolaaGreatDoor
open Go Go.Eng Go.RowKit
set_option maxRecDepth 100000
section
variable [HX]
theorem range_str {l:Str} {w:World} {K:Value → World → Prop} (hK:K (.pointer (some ⟨w.heap.size,0,none⟩)) (w.alloc (.stringIter (ofL l) 0))):semE Tryz.prog (Instr.range 9 (str l)) w K:=by
 have hT:Tryz.prog.underlying 9 = some .string:=by kernel_rfl
 have hr:(Instr.range 9 (str l)).run Tryz.prog w = .ok (.pointer (some ⟨w.heap.size,0,none⟩)) (w.alloc (.stringIter (ofL l) 0)):=by
   simp [Instr.range,run_bind,run_underlying' hT,run_pure,newObj,Sem.run]
 unfold semE
 rw [hr]
 exact hK
theorem setObj_chg' {w:World} {r:Nat} {o:Obj} (h:r < w.heap.size):Chg (· = r) w { w with heap:=w.heap.setIfInBounds r o }:=
 ⟨rfl,rfl,rfl,by simp,fun k _ hk=>by
   show (w.heap.setIfInBounds r o)[k]? = _
   rw [Array.getElem?_setIfInBounds_ne (by omega)]⟩
theorem next_str {r pos:Nat} {l:Str} {T:TypeId} {w:World} {K:Value → World → Prop} (hw:w.heap[r]? = some (.stringIter (ofL l) pos))
   (h0:l.length ≤ pos → K (.tuple #[.bool false]) w)
   (h1:pos < l.length → ∀ w',w'.heap[r]? = some (.stringIter (ofL l) (pos + (Utf8.decode (ofL l) pos).2)) → Chg (· = r) w w' → w'.heap.size = w.heap.size → K (.tuple #[.bool true,i64 pos,.int .i32 (Utf8.decode (ofL l) pos).1]) w') :
   semE Tryz.prog (Instr.next (.pointer (some ⟨r,0,none⟩)) true T) w K:=by
 have hg:(getObj r).run Tryz.prog w = .ok (.stringIter (ofL l) pos) w:=by simp [getObj,Sem.run,hw]
 have hlt:r < w.heap.size:=(Array.getElem?_eq_some_iff.1 hw).1
 unfold semE
 simp only [Instr.next,run_bind,hg,ofL_size]
 by_cases hp:pos < l.length
 · have hset:(setObj r (.stringIter (ofL l) (pos + (Utf8.decode (ofL l) pos).2))).run Tryz.prog w = .ok () { w with heap:=w.heap.setIfInBounds r (.stringIter (ofL l) (pos + (Utf8.decode (ofL l) pos).2)) }:=by simp [setObj,Sem.run,hw]
   rw [if_pos hp]
   simp only [run_bind,hset,run_pure]
   exact h1 hp _ (by simp [hlt]) (setObj_chg' hlt) (by simp)
 · rw [if_neg hp]
   simp only [run_pure]
   exact h0 (by omega)
end
end Go.Proofs.YtnoepcndjljolaaGreatDoor
namespace Go.Proofs.YtnoepcndjljolaaGreatDoor
open Go Go.Eng
set_option maxRecDepth 100000
variable [HX]
def plan25:Plan:={ js:=[],ds:=[] }
def W25 (v0:Value) (w:World) (K:Value → World → Prop):Prop:=
 boxW 40 v0 w fun t1 w1=>
 ldW true 5 t1 w1 fun t6=>
 callF Tryz.prog 47 [t6] w1 fun t7 w2=>
 unW .not t7 fun t8=>
 condW t8 (
 K (.tuple #[(.string (ofL [])),(.int .i64 1)]) w2) (
 ldW true 5 t1 w2 fun t10=>
 callF Tryz.prog 48 [t10] w2 fun t11 w3=>
 unW .not t11 fun t12=>
 condW t12 (
 K (.tuple #[(.string (ofL [])),(.int .i64 20)]) w3) (
 ldW true 5 t1 w3 fun t14=>
 callF Tryz.prog 51 [t14] w3 fun t15 w4=>
 unW .not t15 fun t16=>
 condW t16 (
 K (.tuple #[(.string (ofL [])),(.int .i64 31)]) w4) (
 allocW 93 [(.pointer none),(.slice none 0 0)] w4 fun t4 w5=>
 ldW true 5 t1 w5 fun t17=>
 callF Tryz.prog 52 [t4,t17] w5 fun t18 w6=>
 callF Tryz.prog 53 [t4] w6 fun t19 w7=>
 binW .gtr t19 (.int .i64 65536) fun t20=>
 condW t20 (
 K (.tuple #[(.string (ofL [])),(.int .i64 3)]) w7) (
 callF Tryz.prog 54 [t4] w7 fun t21 w8=>
 K (.tuple #[t21,(.int .i64 0)]) w8))))
theorem W25_ok {v0:Value} {w:World} {K:Value → World → Prop} (h:W25 v0 w K):callF Tryz.prog 25 [v0] w K:=
 tie _ 25 Tryz.f25 plan25 _ w K 1 _ rfl mixed Tryz.func25 (by kernel_rfl) (by kernel_rfl) Tryz.call25 h
def plan51:Plan:={ js:=[(5006,⟨[20],[],17⟩),(5013,⟨[14],[],10⟩)],ds:=[] }
def W51 (v0:Value) (w:World) (K:Value → World → Prop):Prop:=
 boxW 40 v0 w fun t1 w1=>
 fldW 2 t1 fun t5=>
 ldW false 1 t5 w1 fun t6=>
 callV Tryz.prog (.func (.func 108) #[] #[]) [t6] w1 fun t7 w2=>
 unW .not t7 fun t8=>
 GdW (isB t8 true) [undef] w2 (fun J3=>
 fldW 4 t1 fun t10=>
 ldW false 1 t10 w2 fun t11=>
 callF Tryz.prog 87 [t11,(.func (.func 108) #[] #[])] w2 fun t13 w4=>
 unW .not t13 fun t14=>
 J3 [t14] w4)
 fun s3 _ w5=>
 pickW t8 (s3.getD 0 undef) (.bool false) fun t15=>
 GdW (isB t15 true) [undef] w5 (fun J6=>
 fldW 3 t1 fun t17=>
 ldW false 1 t17 w5 fun t18=>
 callF Tryz.prog 102 [t18,(.func (.func 109) #[] #[])] w5 fun t19 w7=>
 unW .not t19 fun t20=>
 J6 [t20] w7)
 fun s6 _ w8=>
 pickW t15 (s6.getD 0 undef) (.bool false) fun t21=>
 K t21 w8
theorem W51_ok {v0:Value} {w:World} {K:Value → World → Prop} (h:W51 v0 w K):callF Tryz.prog 51 [v0] w K:=
 tie _ 51 Tryz.f51 plan51 _ w K 1 _ rfl mixed Tryz.func51 (by kernel_rfl) (by kernel_rfl) Tryz.call51 h
def plan52:Plan:={ js:=[(70,⟨[],[],63⟩),(59,⟨[62],[6,7],62⟩),(41,⟨[],[],41⟩),(30,⟨[40],[4,5],40⟩)],ds:=[] }
def W52 (v0 v1:Value) (w:World) (K:Value → World → Prop):Prop:=
 boxW 40 v1 w fun t3 w1=>
 fldW 0 t3 fun t8=>
 ldW false 1 t8 w1 fun t9=>
 binW .eql t9 (.int .i64 0) fun t11=>
 condW t11 (
 callF Tryz.prog 89 [v0,(.string (ofL [110,117,108,108]))] w1 fun t13 w2=>
 K (.tuple #[]) w2) (
 binW .eql t9 (.int .i64 2) fun t15=>
 condW t15 (
 fldW 1 t3 fun t17=>
 ldW false 1 t17 w1 fun t18=>
 callF Tryz.prog 110 [t18] w1 fun t19 w3=>
 callF Tryz.prog 89 [v0,t19] w3 fun t20 w4=>
 K (.tuple #[]) w4) (
 binW .eql t9 (.int .i64 3) fun t22=>
 condW t22 (
 fldW 2 t3 fun t24=>
 ldW false 1 t24 w1 fun t25=>
 callF Tryz.prog 89 [v0,t25] w1 fun t26 w5=>
 K (.tuple #[]) w5) (
 binW .eql t9 (.int .i64 4) fun t28=>
 condW t28 (
 fldW 2 t3 fun t30=>
 ldW false 1 t30 w1 fun t31=>
 callF Tryz.prog 111 [v0,t31] w1 fun t32 w6=>
 K (.tuple #[]) w6) (
 binW .eql t9 (.int .i64 5) fun t34=>
 condW t34 (
 callF Tryz.prog 91 [v0,(.int .u8 91)] w1 fun t36 w7=>
 fldW 3 t3 fun t37=>
 ldW false 1 t37 w7 fun t38=>
 lenlW t38 fun t39=>
 LoopW [(.int .i64 0)] w7 fun s8 _ w9 L8=>
 binW .lss (s8.getD 0 undef) t39 fun t41=>
 condW t41 (
 ixaW none 5 t38 (s8.getD 0 undef) fun t43=>
 ldW true 5 t43 w9 fun t44=>
 allocW 40 [(.int .i64 0),(.bool false),(.string (ofL [])),(.slice none 0 0),(.slice none 0 0)] w9 fun t5 w10=>
 stW 5 t5 t44 w10 fun w11=>
 JoinW (fun J12=>
 binW .gtr (s8.getD 0 undef) (.int .i64 0) fun t46=>
 condW t46 (
 callF Tryz.prog 91 [v0,(.int .u8 44)] w11 fun t48 w13=>
 J12 [] w13) (
 J12 [] w11))
 fun s12 _ w14=>
 ldW true 5 t5 w14 fun t50=>
 callF Tryz.prog 52 [v0,t50] w14 fun t51 w15=>
 binW .add (s8.getD 0 undef) (.int .i64 1) fun t52=>
 L8 [t52] w15) (
 callF Tryz.prog 91 [v0,(.int .u8 93)] w9 fun t54 w16=>
 K (.tuple #[]) w16)) (
 binW .eql t9 (.int .i64 6) fun t56=>
 condW t56 (
 callF Tryz.prog 91 [v0,(.int .u8 123)] w1 fun t58 w17=>
 fldW 3 t3 fun t59=>
 ldW false 1 t59 w17 fun t60=>
 lenlW t60 fun t61=>
 LoopW [(.int .i64 0)] w17 fun s18 _ w19 L18=>
 binW .lss (s18.getD 0 undef) t61 fun t63=>
 condW t63 (
 ixaW none 5 t60 (s18.getD 0 undef) fun t65=>
 ldW true 5 t65 w19 fun t66=>
 allocW 40 [(.int .i64 0),(.bool false),(.string (ofL [])),(.slice none 0 0),(.slice none 0 0)] w19 fun t7 w20=>
 stW 5 t7 t66 w20 fun w21=>
 JoinW (fun J22=>
 binW .gtr (s18.getD 0 undef) (.int .i64 0) fun t68=>
 condW t68 (
 callF Tryz.prog 91 [v0,(.int .u8 44)] w21 fun t70 w23=>
 J22 [] w23) (
 J22 [] w21))
 fun s22 _ w24=>
 fldW 4 t3 fun t72=>
 ldW false 1 t72 w24 fun t73=>
 ixaW none 1 t73 (s18.getD 0 undef) fun t75=>
 ldW false 1 t75 w24 fun t76=>
 callF Tryz.prog 111 [v0,t76] w24 fun t77 w25=>
 callF Tryz.prog 91 [v0,(.int .u8 58)] w25 fun t79 w26=>
 ldW true 5 t7 w26 fun t81=>
 callF Tryz.prog 52 [v0,t81] w26 fun t82 w27=>
 binW .add (s18.getD 0 undef) (.int .i64 1) fun t83=>
 L18 [t83] w27) (
 callF Tryz.prog 91 [v0,(.int .u8 125)] w19 fun t85 w28=>
 K (.tuple #[]) w28)) (
 K (.tuple #[]) w1))))))
theorem W52_ok {v0 v1:Value} {w:World} {K:Value → World → Prop} (h:W52 v0 v1 w K):callF Tryz.prog 52 [v0,v1] w K:=
 tie _ 52 Tryz.f52 plan52 _ w K 2 _ rfl mixed Tryz.func52 (by kernel_rfl) (by kernel_rfl) Tryz.call52 h
def plan64:Plan:={ js:=[(6,⟨[3],[],1⟩)],ds:=[] }
def W64 (v0:Value) (w:World) (K:Value → World → Prop):Prop:=
 LoopW [(.int .i64 0)] w fun s1 _ w2 L1=>
 lensW v0 fun t7=>
 binW .lss (s1.getD 0 undef) t7 fun t8=>
 condW t8 (
 callF Tryz.prog 123 [v0,(s1.getD 0 undef)] w2 fun t11 w3=>
 binW .eql t11 (.int .i64 0) fun t13=>
 condW t13 (
 K (s1.getD 0 undef) w3) (
 binW .add (s1.getD 0 undef) t11 fun t17=>
 L1 [t17] w3)) (
 K (.int .i64 (-1)) w2)
theorem W64_ok {v0:Value} {w:World} {K:Value → World → Prop} (h:W64 v0 w K):callF Tryz.prog 64 [v0] w K:=
 tie _ 64 Tryz.f64 plan64 _ w K 1 _ rfl mixed Tryz.func64 (by kernel_rfl) (by kernel_rfl) Tryz.call64 h
def plan99:Plan:={ js:=[(15,⟨[3],[3],5⟩),(22,⟨[32],[],17⟩),(8,⟨[3,4],[],1⟩)],ds:=[] }
def W99 (v0:Value) (w:World) (K:Value → World → Prop):Prop:=
 bslW 5 1 [(.int .u8 0)] [(0,1,(.int .u8 34))] w fun t6 w1=>
 LoopW [t6,(.int .i64 0)] w1 fun s2 _ w3 L2=>
 lensW v0 fun t9=>
 binW .lss (s2.getD 1 undef) t9 fun t10=>
 condW t10 (
 JoinW (fun J4=>
 ixsW v0 (s2.getD 1 undef) fun t15=>
 JoinW (fun J5=>
 binW .eql t15 (.int .u8 34) fun t33=>
 condW t33 (
 J5 [t33] w3) (
 binW .eql t15 (.int .u8 92) fun t34=>
 J5 [t34] w3))
 fun s5 _ w6=>
 condW (s5.getD 0 undef) (
 bslW 5 2 [(.int .u8 0),(.int .u8 0)] [(0,1,(.int .u8 92)),(1,1,t15)] w6 fun t37 w7=>
 semE Tryz.prog (Builtin.append_ #[27,27] 27 #[(s2.getD 0 undef),t37]) w7 fun t38 w8=>
 J4 [t38] w8) (
 binW .eql t15 (.int .u8 8) fun t40=>
 condW t40 (
 bslW 5 2 [(.int .u8 0),(.int .u8 0)] [(0,1,(.int .u8 92)),(1,1,(.int .u8 98))] w6 fun t42 w9=>
 semE Tryz.prog (Builtin.append_ #[27,27] 27 #[(s2.getD 0 undef),t42]) w9 fun t43 w10=>
 J4 [t43] w10) (
 binW .eql t15 (.int .u8 12) fun t45=>
 condW t45 (
 bslW 5 2 [(.int .u8 0),(.int .u8 0)] [(0,1,(.int .u8 92)),(1,1,(.int .u8 102))] w6 fun t47 w11=>
 semE Tryz.prog (Builtin.append_ #[27,27] 27 #[(s2.getD 0 undef),t47]) w11 fun t48 w12=>
 J4 [t48] w12) (
 binW .eql t15 (.int .u8 10) fun t50=>
 condW t50 (
 bslW 5 2 [(.int .u8 0),(.int .u8 0)] [(0,1,(.int .u8 92)),(1,1,(.int .u8 110))] w6 fun t52 w13=>
 semE Tryz.prog (Builtin.append_ #[27,27] 27 #[(s2.getD 0 undef),t52]) w13 fun t53 w14=>
 J4 [t53] w14) (
 binW .eql t15 (.int .u8 13) fun t55=>
 condW t55 (
 bslW 5 2 [(.int .u8 0),(.int .u8 0)] [(0,1,(.int .u8 92)),(1,1,(.int .u8 114))] w6 fun t57 w15=>
 semE Tryz.prog (Builtin.append_ #[27,27] 27 #[(s2.getD 0 undef),t57]) w15 fun t58 w16=>
 J4 [t58] w16) (
 binW .eql t15 (.int .u8 9) fun t60=>
 condW t60 (
 bslW 5 2 [(.int .u8 0),(.int .u8 0)] [(0,1,(.int .u8 92)),(1,1,(.int .u8 116))] w6 fun t62 w17=>
 semE Tryz.prog (Builtin.append_ #[27,27] 27 #[(s2.getD 0 undef),t62]) w17 fun t63 w18=>
 J4 [t63] w18) (
 binW .lss t15 (.int .u8 32) fun t18=>
 condW t18 (
 binW .quo t15 (.int .u8 16) fun t21=>
 binW .add (.int .u8 48) t21 fun t22=>
 binW .rem t15 (.int .u8 16) fun t24=>
 ixsW (.string (ofL [48,49,50,51,52,53,54,55,56,57,97,98,99,100,101,102])) t24 fun t25=>
 bslW 5 6 [(.int .u8 0),(.int .u8 0),(.int .u8 0),(.int .u8 0),(.int .u8 0),(.int .u8 0)] [(0,1,(.int .u8 92)),(1,1,(.int .u8 117)),(2,1,(.int .u8 48)),(3,1,(.int .u8 48)),(4,1,t22),(5,1,t25)] w6 fun t26 w19=>
 semE Tryz.prog (Builtin.append_ #[27,27] 27 #[(s2.getD 0 undef),t26]) w19 fun t27 w20=>
 J4 [t27] w20) (
 bslW 5 1 [(.int .u8 0)] [(0,1,t15)] w6 fun t30 w21=>
 semE Tryz.prog (Builtin.append_ #[27,27] 27 #[(s2.getD 0 undef),t30]) w21 fun t31 w22=>
 J4 [t31] w22))))))))
 fun s4 _ w23=>
 binW .add (s2.getD 1 undef) (.int .i64 1) fun t12=>
 L2 [(s4.getD 0 undef),t12] w23) (
 bslW 5 1 [(.int .u8 0)] [(0,1,(.int .u8 34))] w3 fun t65 w24=>
 semE Tryz.prog (Builtin.append_ #[27,27] 27 #[(s2.getD 0 undef),t65]) w24 fun t66 w25=>
 semQ Tryz.prog (convert 27 9 t66) w25 fun t67=>
 K t67 w25)
theorem W99_ok {v0:Value} {w:World} {K:Value → World → Prop} (h:W99 v0 w K):callF Tryz.prog 99 [v0] w K:=
 tie _ 99 Tryz.f99 plan99 _ w K 1 _ rfl mixed Tryz.func99 (by kernel_rfl) (by kernel_rfl) Tryz.call99 h
def plan108:Plan:={ js:=[],ds:=[] }
def W108 (v0:Value) (w:World) (K:Value → World → Prop):Prop:=
 callF Tryz.prog 100 [v0] w fun t4 w1=>
 unW .not t4 fun t5=>
 K t5 w1
theorem W108_ok {v0:Value} {w:World} {K:Value → World → Prop} (h:W108 v0 w K):callF Tryz.prog 108 [v0] w K:=
 tie _ 108 Tryz.f108 plan108 _ w K 1 _ rfl mixed Tryz.func108 (by kernel_rfl) (by kernel_rfl) Tryz.call108 h
def plan109:Plan:={ js:=[],ds:=[] }
def W109 (v0:Value) (w:World) (K:Value → World → Prop):Prop:=
 boxW 40 v0 w fun t1 w1=>
 ldW true 5 t1 w1 fun t3=>
 callF Tryz.prog 51 [t3] w1 fun t4 w2=>
 unW .not t4 fun t5=>
 K t5 w2
theorem W109_ok {v0:Value} {w:World} {K:Value → World → Prop} (h:W109 v0 w K):callF Tryz.prog 109 [v0] w K:=
 tie _ 109 Tryz.f109 plan109 _ w K 1 _ rfl mixed Tryz.func109 (by kernel_rfl) (by kernel_rfl) Tryz.call109 h
def plan111:Plan:={ js:=[(6,⟨[],[5,6],11⟩)],ds:=[] }
def W111 (v0 v1:Value) (w:World) (K:Value → World → Prop):Prop:=
 callF Tryz.prog 91 [v0,(.int .u8 34)] w fun t8 w1=>
 semE Tryz.prog (Instr.range 9 v1) w1 fun t10 w2=>
 LoopW [] w2 fun s3 _ w4 L3=>
 semE Tryz.prog (Instr.next t10 true 0) w4 fun t11 w5=>
 extW 0 t11 fun t12=>
 condW t12 (
 extW 2 t11 fun t13=>
 callF Tryz.prog 165 [t13] w5 fun t15 w6=>
 binW .neq t15 (.int .u8 0) fun t21=>
 condW t21 (
 cvtW .i32 t15 fun t24=>
 cvsW t24 fun t25=>
 binW .add (.string (ofL [92])) t25 fun t26=>
 callF Tryz.prog 89 [v0,t26] w6 fun t27 w7=>
 L3 [] w7) (
 binW .lss t13 (.int .i32 32) fun t30=>
 condW t30 (
 cvtW .i64 t13 fun t33=>
 binW .add t33 (.int .i64 256) fun t34=>
 callF Tryz.prog 166 [t34,(.int .i64 16)] w6 fun t35 w8=>
 slsW t35 (some (.int .i64 1)) none fun t36=>
 binW .add (.string (ofL [92,117,48,48])) t36 fun t37=>
 callF Tryz.prog 89 [v0,t37] w8 fun t38 w9=>
 L3 [] w9) (
 callF Tryz.prog 167 [v0,t13] w6 fun t18 w10=>
 L3 [] w10))) (
 callF Tryz.prog 91 [v0,(.int .u8 34)] w5 fun t40 w11=>
 K (.tuple #[]) w11)
theorem W111_ok {v0 v1:Value} {w:World} {K:Value → World → Prop} (h:W111 v0 v1 w K):callF Tryz.prog 111 [v0,v1] w K:=
 tie _ 111 Tryz.f111 plan111 _ w K 2 _ rfl mixed Tryz.func111 (by kernel_rfl) (by kernel_rfl) Tryz.call111 h
def plan165:Plan:={ js:=[(6,⟨[4],[],4⟩)],ds:=[] }
def W165 (v0:Value) (w:World) (K:Value → World → Prop):Prop:=
 JoinW (fun J1=>
 binW .eql v0 (.int .i32 34) fun t5=>
 condW t5 (
 J1 [t5] w) (
 binW .eql v0 (.int .i32 92) fun t6=>
 J1 [t6] w))
 fun s1 _ w2=>
 condW (s1.getD 0 undef) (
 cvtW .u8 v0 fun t8=>
 K t8 w2) (
 binW .eql v0 (.int .i32 8) fun t10=>
 condW t10 (
 K (.int .u8 98) w2) (
 binW .eql v0 (.int .i32 12) fun t12=>
 condW t12 (
 K (.int .u8 102) w2) (
 binW .eql v0 (.int .i32 10) fun t14=>
 condW t14 (
 K (.int .u8 110) w2) (
 binW .eql v0 (.int .i32 13) fun t16=>
 condW t16 (
 K (.int .u8 114) w2) (
 binW .eql v0 (.int .i32 9) fun t18=>
 condW t18 (
 K (.int .u8 116) w2) (
 K (.int .u8 0) w2))))))
theorem W165_ok {v0:Value} {w:World} {K:Value → World → Prop} (h:W165 v0 w K):callF Tryz.prog 165 [v0] w K:=
 tie _ 165 Tryz.f165 plan165 _ w K 1 _ rfl mixed Tryz.func165 (by kernel_rfl) (by kernel_rfl) Tryz.call165 h
def plan47:Plan:={ js:=[],ds:=[] }
def W47 (v0:Value) (w:World) (K:Value → World → Prop):Prop:=
 boxW 40 v0 w fun t1 w1=>
 allocW 3 [(.int .i64 0)] w1 fun t3 w2=>
 stW 1 t3 (.int .i64 2000) w2 fun w3=>
 ldW true 5 t1 w3 fun t4=>
 callF Tryz.prog 101 [t4,(.int .i64 24),t3] w3 fun t5 w4=>
 K t5 w4
theorem W47_ok {v0:Value} {w:World} {K:Value → World → Prop} (h:W47 v0 w K):callF Tryz.prog 47 [v0] w K:=
 tie _ 47 Tryz.f47 plan47 _ w K 1 _ rfl mixed Tryz.func47 (by kernel_rfl) (by kernel_rfl) Tryz.call47 h
def plan101:Plan:={ js:=[(89007,⟨[130],[],126⟩),(12,⟨[],[],6⟩),(78002,⟨[119],[],108⟩),(78010,⟨[118],[],111⟩),(78013,⟨[110],[],108⟩),(66,⟨[99],[6,7,8],99⟩),(40010,⟨[79],[],72⟩),(34010,⟨[63],[],56⟩),(28010,⟨[48],[],41⟩),(16,⟨[33],[],33⟩),(6002,⟨[29],[],23⟩),(6005,⟨[28],[],26⟩),(6008,⟨[25],[],23⟩),(6014,⟨[20],[],17⟩)],ds:=[] }
def W101 (v0 v1 v2:Value) (w:World) (K:Value → World → Prop):Prop:=
 boxW 40 v0 w fun t3 w1=>
 boxW 3 v1 w1 fun t4 w2=>
 boxW 141 v2 w2 fun t5 w3=>
 ldW false 1 t5 w3 fun t9=>
 nilW t9 fun t10=>
 ldW false 1 t10 w3 fun t11=>
 binW .sub t11 (.int .i64 1) fun t12=>
 nilW t9 fun t13=>
 stW 1 t13 t12 w3 fun w4=>
 ldW false 1 t4 w4 fun t14=>
 binW .eql t14 (.int .i64 0) fun t15=>
 GdW (isB t15 false) [undef] w4 (fun J5=>
 ldW false 1 t5 w4 fun t17=>
 nilW t17 fun t18=>
 ldW false 1 t18 w4 fun t19=>
 binW .lss t19 (.int .i64 0) fun t20=>
 J5 [t20] w4)
 fun s5 _ w6=>
 pickW t15 (.bool true) (s5.getD 0 undef) fun t21=>
 GdW (isB t21 false) [undef] w6 (fun J7=>
 fldW 1 t3 fun t23=>
 ldW false 1 t23 w6 fun t24=>
 J7 [t24] w6)
 fun s7 _ w8=>
 GdW (isB (s7.getD 0 undef) true) [undef] w8 (fun J9=>
 fldW 0 t3 fun t26=>
 ldW false 1 t26 w8 fun t27=>
 binW .neq t27 (.int .i64 2) fun t28=>
 J9 [t28] w8)
 fun s9 _ w10=>
 GdW (isB t21 false) [undef] w10 (fun J11=>
 pickW (s7.getD 0 undef) (s9.getD 0 undef) (.bool false) fun t29=>
 J11 [t29] w10)
 fun s11 _ w12=>
 pickW t21 (.bool true) (s11.getD 0 undef) fun t30=>
 condW t30 (
 K (.bool false) w12) (
 JoinW (fun J13=>
 fldW 0 t3 fun t31=>
 ldW false 1 t31 w12 fun t32=>
 JoinW (fun J14=>
 binW .eql t32 (.int .i64 0) fun t34=>
 condW t34 (
 J14 [t34] w12) (
 binW .eql t32 (.int .i64 1) fun t35=>
 condW t35 (
 J14 [t35] w12) (
 binW .eql t32 (.int .i64 2) fun t36=>
 J14 [t36] w12)))
 fun s14 _ w15=>
 condW (s14.getD 0 undef) (
 fldW 2 t3 fun t37=>
 ldW false 1 t37 w15 fun t38=>
 binW .eql t38 (.string (ofL [])) fun t39=>
 GdW (isB t39 true) [undef] w15 (fun J16=>
 fldW 3 t3 fun t41=>
 ldW false 1 t41 w15 fun t42=>
 lenlW t42 fun t43=>
 fldW 4 t3 fun t44=>
 ldW false 1 t44 w15 fun t45=>
 lenlW t45 fun t46=>
 binW .add t43 t46 fun t47=>
 binW .eql t47 (.int .i64 0) fun t48=>
 J16 [t48] w15)
 fun s16 _ w17=>
 pickW t39 (s16.getD 0 undef) (.bool false) fun t49=>
 K t49 w17) (
 binW .eql t32 (.int .i64 3) fun t51=>
 condW t51 (
 fldW 2 t3 fun t52=>
 ldW false 1 t52 w15 fun t53=>
 callF Tryz.prog 62 [t53] w15 fun t54 w18=>
 GdW (isB t54 true) [undef] w18 (fun J19=>
 fldW 3 t3 fun t56=>
 ldW false 1 t56 w18 fun t57=>
 lenlW t57 fun t58=>
 fldW 4 t3 fun t59=>
 ldW false 1 t59 w18 fun t60=>
 lenlW t60 fun t61=>
 binW .add t58 t61 fun t62=>
 binW .eql t62 (.int .i64 0) fun t63=>
 J19 [t63] w18)
 fun s19 _ w20=>
 pickW t54 (s19.getD 0 undef) (.bool false) fun t64=>
 K t64 w20) (
 binW .eql t32 (.int .i64 4) fun t66=>
 condW t66 (
 fldW 2 t3 fun t67=>
 ldW false 1 t67 w15 fun t68=>
 lensW t68 fun t69=>
 binW .leq t69 (.int .i64 16384) fun t70=>
 GdW (isB t70 true) [undef] w15 (fun J21=>
 fldW 3 t3 fun t72=>
 ldW false 1 t72 w15 fun t73=>
 lenlW t73 fun t74=>
 fldW 4 t3 fun t75=>
 ldW false 1 t75 w15 fun t76=>
 lenlW t76 fun t77=>
 binW .add t74 t77 fun t78=>
 binW .eql t78 (.int .i64 0) fun t79=>
 J21 [t79] w15)
 fun s21 _ w22=>
 pickW t70 (s21.getD 0 undef) (.bool false) fun t80=>
 K t80 w22) (
 binW .eql t32 (.int .i64 5) fun t82=>
 condW t82 (
 fldW 4 t3 fun t83=>
 ldW false 1 t83 w15 fun t84=>
 lenlW t84 fun t85=>
 binW .gtr t85 (.int .i64 0) fun t86=>
 condW t86 (
 K (.bool false) w15) (
 J13 [] w15)) (
 binW .eql t32 (.int .i64 6) fun t88=>
 condW t88 (
 fldW 4 t3 fun t89=>
 ldW false 1 t89 w15 fun t90=>
 lenlW t90 fun t91=>
 fldW 3 t3 fun t92=>
 ldW false 1 t92 w15 fun t93=>
 lenlW t93 fun t94=>
 binW .neq t91 t94 fun t95=>
 condW t95 (
 K (.bool false) w15) (
 fldW 4 t3 fun t96=>
 ldW false 1 t96 w15 fun t97=>
 lenlW t97 fun t98=>
 LoopW [(.int .i64 0)] w15 fun s23 _ w24 L23=>
 binW .lss (s23.getD 0 undef) t98 fun t100=>
 condW t100 (
 ixaW none 1 t97 (s23.getD 0 undef) fun t102=>
 ldW false 1 t102 w24 fun t103=>
 lensW t103 fun t105=>
 binW .gtr t105 (.int .i64 16384) fun t106=>
 GdW (isB t106 false) [undef] w24 (fun J25=>
 binW .gtr (s23.getD 0 undef) (.int .i64 0) fun t109=>
 J25 [t109] w24)
 fun s25 _ w26=>
 GdW (isB (s25.getD 0 undef) true) [undef] w26 (fun J27=>
 fldW 4 t3 fun t111=>
 ldW false 1 t111 w26 fun t112=>
 binW .sub (s23.getD 0 undef) (.int .i64 1) fun t114=>
 ixaW none 1 t112 t114 fun t115=>
 ldW false 1 t115 w26 fun t116=>
 binW .geq t116 t103 fun t118=>
 J27 [t118] w26)
 fun s27 _ w28=>
 GdW (isB t106 false) [undef] w28 (fun J29=>
 pickW (s25.getD 0 undef) (s27.getD 0 undef) (.bool false) fun t119=>
 J29 [t119] w28)
 fun s29 _ w30=>
 pickW t106 (.bool true) (s29.getD 0 undef) fun t120=>
 condW t120 (
 K (.bool false) w30) (
 binW .add (s23.getD 0 undef) (.int .i64 1) fun t121=>
 L23 [t121] w30)) (
 J13 [] w24))) (
 K (.bool false) w15))))))
 fun s13 _ w31=>
 fldW 2 t3 fun t122=>
 ldW false 1 t122 w31 fun t123=>
 binW .eql t123 (.string (ofL [])) fun t124=>
 GdW (isB t124 true) [undef] w31 (fun J32=>
 fldW 3 t3 fun t126=>
 ldW false 1 t126 w31 fun t127=>
 callF Tryz.prog 102 [t127,(.func (.func 159) #[] #[t4,t5])] w31 fun t129 w33=>
 unW .not t129 fun t130=>
 J32 [t130] w33)
 fun s32 _ w34=>
 pickW t124 (s32.getD 0 undef) (.bool false) fun t131=>
 K t131 w34)
theorem W101_ok {v0 v1 v2:Value} {w:World} {K:Value → World → Prop} (h:W101 v0 v1 v2 w K):callF Tryz.prog 101 [v0,v1,v2] w K:=
 tie _ 101 Tryz.f101 plan101 _ w K 3 _ rfl mixed Tryz.func101 (by kernel_rfl) (by kernel_rfl) Tryz.call101 h
def plan159:Plan:={ js:=[],ds:=[] }
def W159 (v0 v1 v2:Value) (w:World) (K:Value → World → Prop):Prop:=
 boxW 40 v0 w fun t3 w1=>
 ldW true 5 t3 w1 fun t5=>
 ldW false 1 v1 w1 fun t6=>
 binW .sub t6 (.int .i64 1) fun t7=>
 ldW false 1 v2 w1 fun t8=>
 callF Tryz.prog 101 [t5,t7,t8] w1 fun t9 w2=>
 unW .not t9 fun t10=>
 K t10 w2
theorem W159_ok {v0 v1 v2:Value} {w:World} {K:Value → World → Prop} (h:W159 v0 v1 v2 w K):callF Tryz.prog 159 [v0,v1,v2] w K:=
 tie _ 159 Tryz.f159 plan159 _ w K 3 _ rfl mixed Tryz.func159 (by kernel_rfl) (by kernel_rfl) Tryz.call159 h
end Go.Proofs.YtnoepcndjljolaaGreatDoor
namespace Go.Proofs.YtnoepcndjljolaaGreatDoor
open Go Go.Eng Go.RowKit
set_option maxRecDepth 100000
def shortM (r:Nat):Nat:=if r = 34 ∨ r = 92 then r else if r = 8 then 98 else if r = 12 then 102 else if r = 10 then 110 else if r = 13 then 114 else if r = 9 then 116 else 0
def hexS (r:Nat):Str:=[b8 (48 + r / 16),hexD (r % 16)]
theorem esc_short {c:UInt8} (h:shortM c.toNat ≠ 0):escB c = [92,b8 (shortM c.toNat)] ∧ shortM c.toNat < 128:=by
 have e:∀ n:Nat,n < 256 → (c = UInt8.ofNat n ↔ c.toNat = n):=fun n hn=>by
   constructor
   · rintro rfl; simp only [UInt8.toNat_ofNat']; omega
   · intro h; rw [← h]; simp
 unfold shortM at h ⊢
 unfold escB
 by_cases a1:c.toNat = 34 ∨ c.toNat = 92
 · rw [if_pos a1,if_pos (by rcases a1 with a | a; exact .inl ((e 34 (by omega)).2 a); exact .inr ((e 92 (by omega)).2 a))]
   refine ⟨?_,by omega⟩
   unfold b8; simp
 rw [if_neg a1] at h ⊢
 rw [if_neg (by rintro (a | a); exact a1 (.inl ((e 34 (by omega)).1 a)); exact a1 (.inr ((e 92 (by omega)).1 a)))]
 by_cases a2:c.toNat = 8
 · rw [if_pos a2,if_pos (show c = (8:UInt8) from (e 8 (by omega)).2 a2)]; exact ⟨rfl,by omega⟩
 rw [if_neg a2] at h ⊢
 rw [if_neg fun (a:c = (8:UInt8))=>a2 ((e 8 (by omega)).1 a)]
 by_cases a3:c.toNat = 12
 · rw [if_pos a3,if_pos (show c = (12:UInt8) from (e 12 (by omega)).2 a3)]; exact ⟨rfl,by omega⟩
 rw [if_neg a3] at h ⊢
 rw [if_neg fun (a:c = (12:UInt8))=>a3 ((e 12 (by omega)).1 a)]
 by_cases a4:c.toNat = 10
 · rw [if_pos a4,if_pos (show c = (10:UInt8) from (e 10 (by omega)).2 a4)]; exact ⟨rfl,by omega⟩
 rw [if_neg a4] at h ⊢
 rw [if_neg fun (a:c = (10:UInt8))=>a4 ((e 10 (by omega)).1 a)]
 by_cases a5:c.toNat = 13
 · rw [if_pos a5,if_pos (show c = (13:UInt8) from (e 13 (by omega)).2 a5)]; exact ⟨rfl,by omega⟩
 rw [if_neg a5] at h ⊢
 rw [if_neg fun (a:c = (13:UInt8))=>a5 ((e 13 (by omega)).1 a)]
 by_cases a6:c.toNat = 9
 · rw [if_pos a6,if_pos (show c = (9:UInt8) from (e 9 (by omega)).2 a6)]; exact ⟨rfl,by omega⟩
 rw [if_neg a6] at h
 exact absurd rfl h
theorem esc_long {c:UInt8} (h:shortM c.toNat = 0):escB c = if c.toNat < 32 then [92,117,48,48] ++ hexS c.toNat else [c]:=by
 have e:∀ n:Nat,n < 256 → c = UInt8.ofNat n → c.toNat = n:=fun n hn a=>by subst a; simp only [UInt8.toNat_ofNat']; omega
 have hn:¬ (c.toNat = 34 ∨ c.toNat = 92) ∧ c.toNat ≠ 8 ∧ c.toNat ≠ 12 ∧ c.toNat ≠ 10 ∧ c.toNat ≠ 13 ∧ c.toNat ≠ 9:=by
   unfold shortM at h
   split at h
   · omega
   · repeat' split at h
     all_goals omega
 obtain ⟨n1,n2,n3,n4,n5,n6⟩:=hn
 unfold escB
 rw [if_neg (by rintro (a | a); exact n1 (.inl (e 34 (by omega) a)); exact n1 (.inr (e 92 (by omega) a))),if_neg fun (a:c = (8:UInt8))=>n2 (e 8 (by omega) a),if_neg fun (a:c = (12:UInt8))=>n3 (e 12 (by omega) a),if_neg fun (a:c = (10:UInt8))=>n4 (e 10 (by omega) a),if_neg fun (a:c = (13:UInt8))=>n5 (e 13 (by omega) a),if_neg fun (a:c = (9:UInt8))=>n6 (e 9 (by omega) a)]
 by_cases a:c.toNat < 32
 · rw [if_pos a,if_pos (show c < 32 from a)]; rfl
 · rw [if_neg a,if_neg (show ¬ c < 32 from a)]
theorem enc_low {n:Nat} (h:n < 128):Utf8.encode (n:Int) = ofL [b8 n]:=by
 unfold Utf8.encode
 have:Utf8.valid (n:Int) = true:=by unfold Utf8.valid; simp only [Bool.or_eq_true,Bool.and_eq_true,decide_eq_true_eq]; omega
 simp only [this,if_true,Int.toNat_natCast]
 rw [if_pos h]; rfl
section
variable [HX]
def FmtOk (w0:World):Prop:=∀ r:Nat,r < 32 → ∀ (w:World) (K:Value → World → Prop),Ext w0 w → (∀ w',Ext w w' → K (str ([49] ++ hexS r)) w') → callF Tryz.prog 166 [i64 ((r + 256:Nat):Int),i64 16] w K
theorem short_p {r:Nat} {w:World} {K:Value → World → Prop} (hr:r ≤ 1114111) (hK:K (u8 (shortM r)) w):callF Tryz.prog 165 [.int .i32 (r:Int)] w K:=by
 refine W165_ok ?_
 unfold W165
 unfold shortM at hK
 refine JoinW.cut (fun s' w'=>s' = [.bool (decide (r = 34 ∨ r = 92))] ∧ w' = w) ?_ ?_
 · rw [bin_eql,condW_dec]
   refine ⟨fun h=>?_,fun h=>?_⟩
   · rw [decide_eq_true h,decide_eq_true (.inl (by omega))]; exact ⟨rfl,rfl⟩
   · rw [bin_eql]
     rw [show decide (((r:Nat):Int) = 92) = decide (r = 34 ∨ r = 92) by rw [decide_eq_decide]; omega]
     exact ⟨rfl,rfl⟩
 rintro s' g w' ⟨rfl,rfl⟩
 simp only [List.getD_cons_zero]
 rw [condW_dec]
 refine ⟨fun h=>?_,fun h=>?_⟩
 · rw [cvt_int,u8_wrap,Nat.mod_eq_of_lt (by omega)]
   rw [if_pos h] at hK; exact hK
 rw [if_neg h] at hK
 rw [bin_eql,condW_dec]
 refine ⟨fun h=>by rw [if_pos (by omega)] at hK; exact hK,fun h=>?_⟩
 rw [if_neg (by omega)] at hK
 rw [bin_eql,condW_dec]
 refine ⟨fun h=>by rw [if_pos (by omega)] at hK; exact hK,fun h=>?_⟩
 rw [if_neg (by omega)] at hK
 rw [bin_eql,condW_dec]
 refine ⟨fun h=>by rw [if_pos (by omega)] at hK; exact hK,fun h=>?_⟩
 rw [if_neg (by omega)] at hK
 rw [bin_eql,condW_dec]
 refine ⟨fun h=>by rw [if_pos (by omega)] at hK; exact hK,fun h=>?_⟩
 rw [if_neg (by omega)] at hK
 rw [bin_eql,condW_dec]
 refine ⟨fun h=>by rw [if_pos (by omega)] at hK; exact hK,fun h=>?_⟩
 rw [if_neg (by omega)] at hK
 exact hK
theorem i32_wrap {n:Nat} (h:n < 2147483648):IntKind.i32.wrap (n:Int) = (n:Int):=by
 have e1:(2:Int) ^ 32 = 4294967296:=by decide
 have e2:(2:Int) ^ (32 - 1) = 2147483648:=by decide
 simp only [IntKind.wrap,IntKind.bits,IntKind.signed,Bool.true_and,e1,e2]
 rw [if_neg (by simp; omega)]
 omega
theorem flat_len (s:Str):(s.flatMap escB).length ≤ 6 * s.length:=by
 induction s with
 | nil=>simp
 | cons c s ih=>rw [List.flatMap_cons,List.length_append,List.length_cons]; have:=escB_le c; omega
theorem short_high {r : Nat} (h : 128 ≤ r) : shortM r = 0 := by unfold shortM; repeat' split
                                                                all_goals omega
theorem quote_p {w0 w:World} {B b:Nat} {l s:Str} {K:Value → World → Prop} (h0:Ext w0 w) (hB0:w0.heap.size ≤ B) (h:Bld w B b l) (hB:B ≤ w.heap.size) (hs:Utf s) (hl:l.length + 6 * s.length + 2 ≤ 1000000000) (hF:∀ c ∈ s,c.toNat < 32 → FmtOk w0)
   (hK:∀ w',Bld w' B b (l ++ quoteM s) → Chg (BCh w B b) w w' → K (.tuple #[]) w'):callF Tryz.prog 111 [.pointer (some ⟨b,0,none⟩),str s] w K:=by
 have hb:=h.base
 have hbl:=h.lt
 refine W111_ok ?_
 unfold W111
 refine wbyte_p (n:=34) h hB (by omega) (by omega) fun w1 h1 hc1=>?_
 refine range_str ?_
 have hz1:=hc1.size
 have hc2:Chg (BCh w B b) w (w1.alloc (.stringIter (ofL s) 0)):=BCh.ext hc1 (Chg.alloc (Chg.refl _ _) _)
 refine ⟨fun s' w4=>∃ p,p ≤ s.length ∧ s' = [] ∧ Utf (s.drop p) ∧ w4.heap[w1.heap.size]? = some (.stringIter (ofL s) p) ∧ Bld w4 B b (l ++ [34] ++ (s.take p).flatMap escB) ∧ Chg (BCh w B b) w w4,
   fun _ w4=>match w4.heap[w1.heap.size]? with | some (.stringIter _ p)=>s.length - p | _=>0,
   ⟨0,Nat.zero_le _,rfl,by rw [List.drop_zero]; exact hs,heap_anew _ _ _ rfl,by rw [List.take_zero,List.flatMap_nil,List.append_nil]; exact h1.ext (Chg.alloc (Chg.refl _ _) _),hc2⟩,?_⟩
 rintro s' g w4 ⟨p,hp,rfl,hu,hit,h4,hc4⟩
 have hz4:=hc4.size
 have hfl:=flat_len (s.take p)
 have htl:(s.take p).length = p:=by rw [List.length_take]; omega
 have hll:(l ++ [34] ++ (s.take p).flatMap escB).length = l.length + 1 + ((s.take p).flatMap escB).length:=by simp only [List.length_append,List.length_cons,List.length_nil]
 refine next_str hit (fun hpe=>?_) (fun hpl w5 hit5 hc5 hz5=>?_)
 · rw [ext_tuple]
   refine ⟨.bool false,rfl,?_⟩
   rw [condW_false]
   obtain rfl:p = s.length:=by omega
   rw [List.take_length] at h4 hll hfl
   refine wbyte_p (n:=34) h4 (by omega) (by omega) (by omega) fun w6 h6 hc6=>?_
   refine hK w6 ?_ (BCh.trans hc4 hc6)
   rw [List.append_assoc,List.append_assoc] at h6
   unfold quoteM
   rw [List.append_assoc]
   exact h6
 · have hne:s.drop p ≠ []:=fun e=>by have:=List.drop_eq_nil_iff.1 e; omega
   -- the rune that comes next
   obtain ⟨u,r,hru,hur,hdr⟩:∃ u r,Rn u ∧ Utf r ∧ s.drop p = u ++ r:=by
     cases hd:s.drop p with
     | nil=>exact absurd hd hne
     | cons x y=>
       rw [hd] at hu
       generalize he:x :: y = z at hu
       cases hu with
       | nil=>cases he
       | cons h1 h2=>exact ⟨_,_,h1,h2,rfl⟩
   have hrm:runeM s p = u.length:=hru.at hdr
   have hup:=hru.pos
   obtain ⟨c,hc⟩:=rune_good hpl (by omega)
   rw [hrm] at hc
   have htk:(s.drop p).take u.length = u:=by rw [hdr,List.take_left]
   have hnext:s.take (p + u.length) = s.take p ++ u:=by rw [List.take_add,htk]
   have hdr2:s.drop (p + u.length) = r:=drop_app hdr
   have hdec:=hc.dec
   have hct:=hc.top
   have hcv:=hc.val
   have hcu:wrM c = u:=by rw [← wr_enc (by omega),hc.bytes,htk]
   rw [hdec] at hit5
   have h5:Bld w5 B b (l ++ [34] ++ (s.take p).flatMap escB):=h4.chg hc5 (fun e=>by have:=h1.lt; have:=e; omega) fun k hk e=>by
     obtain ⟨_,c',hc'⟩:=hk
     have e:k = w1.heap.size:=e
     rw [e,hit] at hc'; cases hc'
   have hc5':Chg (BCh w B b) w w5:=hc4.then hc5 fun k hk e=>by omega
   have hx0:Ext w0 w5:=BCh.new h0 hB0 hb hc5'
   have hfit:=hc.fits
   -- once the rune's text is written
   have fin:∀ w6,Bld w6 B b (l ++ [34] ++ (s.take p).flatMap escB ++ u.flatMap escB) → Chg (BCh w5 B b) w5 w6 → (fun (s':List Value) w4=>∃ p,p ≤ s.length ∧ s' = [] ∧ Utf (s.drop p) ∧ w4.heap[w1.heap.size]? = some (.stringIter (ofL s) p) ∧ Bld w4 B b (l ++ [34] ++ (s.take p).flatMap escB) ∧ Chg (BCh w B b) w w4) [] w6 ∧
       (match w6.heap[w1.heap.size]? with | some (.stringIter _ p)=>s.length - p | _=>0) < (match w4.heap[w1.heap.size]? with | some (.stringIter _ p)=>s.length - p | _=>0):=by
     intro w6 h6 hc6
     have hit6:=BCh.iter hc6 hit5 (by have:=h1.lt; omega)
     refine ⟨⟨p + u.length,hfit,rfl,by rw [hdr2]; exact hur,hit6,?_,BCh.trans hc5' hc6⟩,?_⟩
     · rw [hnext,List.flatMap_append,← List.append_assoc]; exact h6
     · rw [hit6,hit]
       show s.length - (p + u.length) < s.length - p
       omega
   rw [ext_tuple]
   refine ⟨.bool true,rfl,?_⟩
   rw [condW_true,ext_tuple]
   refine ⟨.int .i32 (c:Int),by rw [hdec]; rfl,?_⟩
   refine short_p hct ?_
   rw [bin_neq,condW_dec]
   rcases hru.cases with ⟨x,hx,hxl⟩ | hh
   · -- one byte
     subst hx
     have hcx:c = x.toNat:=by
       have:=(hc.low rfl).1
       rw [this]
       have e:=byteM_in hpl
       rw [Go.Eng.byte_at (show s.drop p = x :: r from hdr)] at e
       omega
     subst hcx
     have e1:[x].flatMap escB = escB x:=by simp
     rw [e1] at fin
     refine ⟨fun hne=>?_,fun he=>?_⟩
     · obtain ⟨f1,f2⟩:=esc_short (c:=x) (by omega)
       rw [cvt_int,i32_wrap (by omega)]
       show cvsW _ _
       unfold cvsW
       dsimp only
       rw [enc_low f2,bin_sadd]
       refine ⟨by simp only [List.length_cons,List.length_nil]; decide,?_⟩
       refine wstr_p h5 (by omega) (by rw [hll]; simp only [List.length_append,List.length_cons,List.length_nil]; omega) fun v w6 h6 hc6=>?_
       refine fin w6 ?_ hc6
       rw [f1]; exact h6
     · have f:=esc_long (c:=x) (by omega)
       rw [bin_lss,condW_dec]
       refine ⟨fun hlt=>?_,fun hge=>?_⟩
       · rw [if_pos (by omega)] at f
         have hmem:x ∈ s:=List.mem_of_mem_drop (i:=p) (by rw [hdr]; simp)
         rw [cvt_int,wrap_id (by omega) (by omega),bin_add,wrap_id (by omega) (by omega)]
         have hfm:=hF x hmem (by omega) x.toNat (by omega) w5
         rw [show ((x.toNat + 256:Nat):Int) = (x.toNat:Int) + 256 by omega] at hfm
         refine hfm _ hx0 fun w6 hx6=>?_
         rw [sls_str,bd_none,bd_some]
         refine ⟨by decide,by simp [hexS],?_⟩
         rw [bin_sadd]
         refine ⟨by simp [hexS],?_⟩
         refine wstr_p (h5.ext hx6) (by have:=hx6.size; omega) (by rw [hll]; clear fin h4 h5 hll; generalize ((s.take p).flatMap escB).length = q at *; simp [hexS]; omega) fun v w7 h7 hc7=>?_
         refine fin w7 ?_ (BCh.from hx6 hc7)
         rw [f]
         simpa [hexS] using h7
       · rw [if_neg (by omega)] at f
         refine wrune_p h5 (by omega) (by omega) (by omega) fun v w6 h6 hc6=>?_
         refine fin w6 ?_ hc6
         rw [f,← hcu]; exact h6
   · -- more than one
     have hc128:128 ≤ c:=by
       have hb0:=byte_pref (j:=0) hdr hup
       have h128:=hh u[0] (List.getElem_mem ..)
       rw [Nat.add_zero,byteM_in hpl] at hb0
       by_cases h1:u.length = 1
       · have:=hc.low h1; omega
       · exact (hc.high (by omega)).1
     rw [esc_high hh] at fin
     refine ⟨fun hne=>absurd (short_high hc128) (by omega),fun he=>?_⟩
     rw [bin_lss,condW_dec]
     refine ⟨fun hlt=>by omega,fun hge=>?_⟩
     refine wrune_p h5 (by omega) (by omega) (by omega) fun v w6 h6 hc6=>?_
     refine fin w6 ?_ hc6
     rw [← hcu]; exact h6
end
end Go.Proofs.YtnoepcndjljolaaGreatDoor
namespace Go.Proofs.YtnoepcndjljolaaGreatDoor
open Go Go.Eng Go.Num
set_option maxRecDepth 100000
abbrev U64:TypeId:=173
theorem u64_wrap {n:Int} (h1:0 ≤ n) (h2:n < 18446744073709551616):IntKind.u64.wrap n = n:=by
 simp only [IntKind.wrap,IntKind.signed,IntKind.bits,IntKind.max,IntKind.min]
 simp
 omega
section
variable [HX]
end
end Go.Proofs.YtnoepcndjljolaaGreatDoor

namespace Go.Proofs.YtnoepcndjljolaaGreatDoor
open Go Go.Eng Go.Num
set_option maxRecDepth 100000
section
variable [HX]
theorem callV_fn {P:Program} {g:FuncId} {args:List Value} {w:World} {K:Value → World → Prop} (h:callF P g args w K):callV P (.func (.func g) #[] #[]) args w K:=by
 unfold callV semN
 unfold callF at h
 have:(do let d ← (Deferred.ofValue (.func (.func g) #[] #[]) args.toArray); invoke d.target d.args:Sem Next) = callFunc g args.toArray:=by
   show callFunc g (#[] ++ args.toArray ++ #[]) = _
   simp
 rw [this]
 exact h
structure ItemsAt (w:World) (sv:Value) (xs:List JV):Prop where
 it:∃ T L,SlAt w T sv xs.length L ∧ VReps w xs L
 few:xs.length ≤ 9223372036854775807
theorem ItemsAt.ext {w w':World} {sv:Value} {xs:List JV} (h:ItemsAt w sv xs) (hx:Ext w w'):ItemsAt w' sv xs:=⟨let ⟨T,L,h1,h2⟩:=h.it; ⟨T,L,h1.ext hx,h2.ext hx⟩,h.few⟩
theorem ValB.itemsAt {w:World} {a:Nat} {v:JV} {sv kv:Value} (h:ValB w a v sv kv):ItemsAt w sv v.xs:=⟨h.items,h.fits.1⟩
theorem ItemsAt.len {w:World} {sv:Value} {xs:List JV} (h:ItemsAt w sv xs) (K:Value → Prop):lenlW sv K ↔ K (i64 xs.length):=by obtain ⟨T,L,h1,_⟩:=h.it; exact lenl_at h1 K
theorem ItemsAt.at {w:World} {sv:Value} {xs:List JV} {k:IntKind} {i:Nat} {x:JV} {K:Value → Prop} (h:ItemsAt w sv xs) (hi:xs[i]? = some x) (hK:∀ cs,VRep w x cs → K (.agg cs.toArray)):ixaW none 5 sv (.int k i) fun p=>ldW true 5 p w K:=by
 obtain ⟨T,L,h1,h2⟩:=h.it; exact item_ld h1 h2 hi hK
def findI {α:Type} (p:α → Bool) (xs:List α):Int:=match xs.findIdx? p with | some i=>i | none=>-1
theorem findI_ge {α:Type} (p:α → Bool) (xs:List α):decide ((0:Int) ≤ findI p xs) = xs.any p:=by
 unfold findI
 cases h:xs.findIdx? p with
 | none=>
   have:=List.findIdx?_eq_none_iff.1 h
   have:xs.any p = false:=List.any_eq_false.2 fun x hx=>by simp [this x hx]
   rw [this]; decide
 | some i=>
   obtain ⟨hi,hp,_⟩:=List.findIdx?_eq_some_iff_getElem.1 h
   rw [List.any_eq_true.2 ⟨_,List.getElem_mem hi,hp⟩]
   exact decide_eq_true (by simp)
theorem findIdx_hit {α:Type} {p:α → Bool} {xs:List α} {i:Nat} {x:α} (h:(xs.take i).any p = false) (hi:xs[i]? = some x) (hx:p x = true):xs.findIdx? p = some i:=by
 obtain ⟨hl,e⟩:=List.getElem?_eq_some_iff.1 hi
 rw [List.findIdx?_eq_some_iff_getElem]
 refine ⟨hl,by rw [e]; exact hx,fun j hj=>?_⟩
 have:=List.any_eq_false.1 h xs[j] (List.mem_of_getElem? (i:=j) (by rw [List.getElem?_take,if_pos hj]; exact List.getElem?_eq_getElem _))
 simpa using this
theorem index_v {sv f:Value} {xs:List JV} {p:JV → Bool} {w:World} {K:Value → World → Prop} (h:ItemsAt w sv xs)
   (hf:∀ x ∈ xs,∀ {cs:List Value} {w:World} {K:Value → World → Prop},VRep w x cs → (∀ w',Ext w w' → K (.bool (p x)) w') → callV Tryz.prog f [.agg cs.toArray] w K)
   (hK:∀ w',Ext w w' → K (i64 (findI p xs)) w'):callF Tryz.prog 160 [sv,f] w K:=by
 refine W160_ok ?_
 unfold W160
 rw [h.len]
 refine loop_up xs.length (fun i w'=>Ext w w' ∧ (xs.take i).any p = false) ⟨Chg.refl _ _,by simp⟩ ?_ ?_
 · rintro i w2 g L hi ⟨hx2,hno⟩ hL
   obtain ⟨x,hxi⟩:∃ x,xs[i]? = some x:=⟨_,List.getElem?_eq_getElem hi⟩
   have hlt:((i:Int) < (xs.length:Int)):=by omega
   simp only [wsv,wsg,wsh,wsl,cond_true,cond_false,exists_eq_left',wsu,Nat.reduceAdd,Nat.reduceLT,Nat.lt_add_one,Nat.zero_lt_succ,decide_true,decide_false,ne_eq,reduceCtorEq,hlt]
   refine (h.ext hx2).at hxi fun cs hcs=>?_
   refine hf x (List.mem_of_getElem? hxi) hcs fun w3 hx3=>?_
   rw [condW_b]
   refine ⟨fun ht=>?_,fun hn=>?_⟩
   · have:=hK w3 (hx2.trans hx3)
     unfold findI at this
     rw [findIdx_hit hno hxi ht] at this
     exact this
   · have:=h.few
     rw [up1 (by omega)]
     exact hL w3 ⟨hx2.trans hx3,by rw [any_take hxi,hno,hn]; rfl⟩
 · rintro w2 g L ⟨hx2,hno⟩
   simp only [wsv,wsg,wsh,wsl,cond_true,cond_false,exists_eq_left',wsu,Nat.reduceAdd,Nat.reduceLT,Nat.lt_add_one,Nat.zero_lt_succ,decide_true,decide_false,ne_eq,reduceCtorEq,Int.lt_irrefl]
   rw [List.take_length] at hno
   have:=hK w2 hx2
   unfold findI at this
   rw [List.findIdx?_eq_none_iff.2 fun x hx=>by simpa using List.any_eq_false.1 hno x hx] at this
   exact this
theorem contains_v {sv f:Value} {xs:List JV} {p:JV → Bool} {w:World} {K:Value → World → Prop} (h:ItemsAt w sv xs)
   (hf:∀ x ∈ xs,∀ {cs:List Value} {w:World} {K:Value → World → Prop},VRep w x cs → (∀ w',Ext w w' → K (.bool (p x)) w') → callV Tryz.prog f [.agg cs.toArray] w K)
   (hK:∀ w',Ext w w' → K (.bool (xs.any p)) w'):callF Tryz.prog 102 [sv,f] w K:=by
 refine W102_ok ?_
 unfold W102
 refine index_v h hf fun w1 hx1=>?_
 simp only [wsv,wsg,wsh,wsl,cond_true,cond_false,exists_eq_left',wsu,Nat.reduceAdd,Nat.reduceLT,Nat.lt_add_one,Nat.zero_lt_succ,decide_true,decide_false,ne_eq,reduceCtorEq,findI_ge]
 exact hK w1 hx1
theorem index_x {sv f:Value} {xs:List JV} {p:JV → Bool} {w:World} {K:Value → World → Prop} (h:ItemsAt w sv xs)
   (hf:∀ x ∈ xs,∀ {cs:List Value} {w1:World} {K:Value → World → Prop},Ext w w1 → VRep w1 x cs → (∀ w',Ext w1 w' → K (.bool (p x)) w') → callV Tryz.prog f [.agg cs.toArray] w1 K)
   (hK:∀ w',Ext w w' → K (i64 (findI p xs)) w'):callF Tryz.prog 160 [sv,f] w K:=by
 refine W160_ok ?_
 unfold W160
 rw [h.len]
 refine loop_up xs.length (fun i w'=>Ext w w' ∧ (xs.take i).any p = false) ⟨Chg.refl _ _,by simp⟩ ?_ ?_
 · rintro i w2 g L hi ⟨hx2,hno⟩ hL
   obtain ⟨x,hxi⟩:∃ x,xs[i]? = some x:=⟨_,List.getElem?_eq_getElem hi⟩
   have hlt:((i:Int) < (xs.length:Int)):=by omega
   simp only [wsv,wsg,wsh,wsl,cond_true,cond_false,exists_eq_left',wsu,Nat.reduceAdd,Nat.reduceLT,Nat.lt_add_one,Nat.zero_lt_succ,decide_true,decide_false,ne_eq,reduceCtorEq,hlt]
   refine (h.ext hx2).at hxi fun cs hcs=>?_
   refine hf x (List.mem_of_getElem? hxi) hx2 hcs fun w3 hx3=>?_
   rw [condW_b]
   refine ⟨fun ht=>?_,fun hn=>?_⟩
   · have:=hK w3 (hx2.trans hx3)
     unfold findI at this
     rw [findIdx_hit hno hxi ht] at this
     exact this
   · have:=h.few
     rw [up1 (by omega)]
     exact hL w3 ⟨hx2.trans hx3,by rw [any_take hxi,hno,hn]; rfl⟩
 · rintro w2 g L ⟨hx2,hno⟩
   simp only [wsv,wsg,wsh,wsl,cond_true,cond_false,exists_eq_left',wsu,Nat.reduceAdd,Nat.reduceLT,Nat.lt_add_one,Nat.zero_lt_succ,decide_true,decide_false,ne_eq,reduceCtorEq,Int.lt_irrefl]
   rw [List.take_length] at hno
   have:=hK w2 hx2
   unfold findI at this
   rw [List.findIdx?_eq_none_iff.2 fun x hx=>by simpa using List.any_eq_false.1 hno x hx] at this
   exact this
theorem contains_x {sv f:Value} {xs:List JV} {p:JV → Bool} {w:World} {K:Value → World → Prop} (h:ItemsAt w sv xs)
   (hf:∀ x ∈ xs,∀ {cs:List Value} {w1:World} {K:Value → World → Prop},Ext w w1 → VRep w1 x cs → (∀ w',Ext w1 w' → K (.bool (p x)) w') → callV Tryz.prog f [.agg cs.toArray] w1 K)
   (hK:∀ w',Ext w w' → K (.bool (xs.any p)) w'):callF Tryz.prog 102 [sv,f] w K:=by
 refine W102_ok ?_
 unfold W102
 refine index_x h hf fun w1 hx1=>?_
 simp only [wsv,wsg,wsh,wsl,cond_true,cond_false,exists_eq_left',wsu,Nat.reduceAdd,Nat.reduceLT,Nat.lt_add_one,Nat.zero_lt_succ,decide_true,decide_false,ne_eq,reduceCtorEq,findI_ge]
 exact hK w1 hx1
theorem any_not_known (xs:List JV):(!xs.any fun x=>!knownM x) = knownL xs:=by
 rw [knownL_all]
 induction xs with
 | nil=>rfl
 | cons x xs ih=>simp only [List.any_cons,List.all_cons,Bool.not_or,Bool.not_not,ih]
theorem known_p (v:JV):∀ {cs:List Value} {w:World} {K:Value → World → Prop},VRep w v cs → (∀ w',Ext w w' → K (.bool (knownM v)) w') → callF Tryz.prog 48 [.agg cs.toArray] w K:=by
 induction v using JV.ind' with
 | h v ih=>
   intro cs w K h hK
   refine W48_ok ?_
   unfold W48
   refine box_val h fun a w1 sv kv hB hx _=>?_
   rw [knownM_eq] at hK
   simp only [wsv,wsg,wsh,wsl,cond_true,cond_false,exists_eq_left',wsu,Nat.reduceAdd,Nat.reduceLT,Nat.lt_add_one,Nat.zero_lt_succ,decide_true,decide_false,ne_eq,reduceCtorEq,wsh,hB.hb]
   refine GdW.act (knownL v.xs) (fun w'=>Ext w1 w') (fun _=>Chg.refl _ _) ?_ ?_
   · intro hc J hJ
     refine contains_v (p:=fun x=>!knownM x) hB.itemsAt ?_ fun w2 hx2=>?_
     · intro x hx cs w K hr hK
       refine callV_fn ?_
       refine W103_ok ?_
       unfold W103
       refine box_val hr fun b w1 sv kv hB hx1 _=>?_
       refine hB.ld fun cs2 h2=>?_
       refine ih x hx h2 fun w2 hx2=>?_
       simp only [wsv,wsg,wsh,wsl,cond_true,cond_false,exists_eq_left',wsu,Nat.reduceAdd,Nat.reduceLT,Nat.lt_add_one,Nat.zero_lt_succ,decide_true,decide_false,ne_eq,reduceCtorEq]
       exact hK w2 (hx1.trans hx2)
     · simp only [wsv,wsg,wsh,wsl,cond_true,cond_false,exists_eq_left',wsu,Nat.reduceAdd,Nat.reduceLT,Nat.lt_add_one,Nat.zero_lt_succ,decide_true,decide_false,ne_eq,reduceCtorEq,any_not_known]
       exact hJ w2 hx2
   · intro g w2 hx2
     have:=hK w2 (hx.trans hx2)
     simp only [wsv,wsg,wsh,wsl,cond_true,cond_false,exists_eq_left',wsu,Nat.reduceAdd,Nat.reduceLT,Nat.lt_add_one,Nat.zero_lt_succ,decide_true,decide_false,ne_eq,reduceCtorEq]
     simpa only [decide_not] using this
theorem cmpks_p {a b:List Str} {x y:Value} {T1 T2:TypeId} {w:World} {K:Value → World → Prop} (h1:SlAt w T1 x a.length (a.map str)) (h2:SlAt w T2 y b.length (b.map str)) (ha:a.length ≤ 9223372036854775807)
   (hK:∀ w',Ext w w' → K (i64 (cmpKs a b)) w'):callF Tryz.prog 83 [x,y] w K:=by
 refine W83_ok ?_
 unfold W83
 rw [lenl_at h1]
 refine loop_up a.length (fun i w'=>Ext w w' ∧ i ≤ b.length ∧ cmpKs (a.drop i) (b.drop i) = cmpKs a b) ⟨Chg.refl _ _,by omega,rfl⟩ ?_ ?_
 · rintro i w2 g L hi ⟨hx2,hib,he⟩ hL
   obtain ⟨u,hu⟩:∃ u,a[i]? = some u:=⟨_,List.getElem?_eq_getElem hi⟩
   have hlt:((i:Int) < (a.length:Int)):=by omega
   have hda:a.drop i = u :: a.drop (i + 1):=by
     rw [List.drop_eq_getElem_cons hi]; congr 1
     exact Option.some.inj ((List.getElem?_eq_getElem hi).symm.trans hu)
   simp only [wsv,wsg,wsh,wsl,cond_true,cond_false,exists_eq_left',wsu,Nat.reduceAdd,Nat.reduceLT,Nat.lt_add_one,Nat.zero_lt_succ,decide_true,decide_false,ne_eq,reduceCtorEq,hlt]
   refine text_ld (h1.ext hx2) hu ?_
   rw [lenl_at h2]
   simp only [wsv,wsg,wsh,wsl,cond_true,cond_false,exists_eq_left',wsu,Nat.reduceAdd,Nat.reduceLT,Nat.lt_add_one,Nat.zero_lt_succ,decide_true,decide_false,ne_eq,reduceCtorEq,condW_dec]
   refine ⟨fun hge=>?_,fun hltb=>?_⟩
   · have hdb:b.drop i = []:=List.drop_eq_nil_iff.2 (by omega)
     rw [hda,hdb] at he
     have:=hK w2 hx2
     rw [← he] at this
     exact this
   · have hib2:i < b.length:=by omega
     obtain ⟨v,hv⟩:∃ v,b[i]? = some v:=⟨_,List.getElem?_eq_getElem hib2⟩
     have hdb:b.drop i = v :: b.drop (i + 1):=by
       rw [List.drop_eq_getElem_cons hib2]; congr 1
       exact Option.some.inj ((List.getElem?_eq_getElem hib2).symm.trans hv)
     rw [hda,hdb] at he
     simp only [cmpKs,orI] at he
     refine text_ld (h2.ext hx2) hv ?_
     refine cmp_s ?_
     simp only [wsv,wsg,wsh,wsl,cond_true,cond_false,exists_eq_left',wsu,Nat.reduceAdd,Nat.reduceLT,Nat.lt_add_one,Nat.zero_lt_succ,decide_true,decide_false,ne_eq,reduceCtorEq,condW_dec]
     refine ⟨fun hne=>?_,fun h0=>?_⟩
     · rw [if_neg hne] at he
       have:=hK w2 hx2
       rw [← he] at this
       exact this
     · rw [if_pos (Decidable.not_not.1 h0)] at he
       rw [up1 (by omega)]
       exact hL w2 ⟨hx2,hib2,he⟩
 · rintro w2 g L ⟨hx2,hib,he⟩
   simp only [wsv,wsg,wsh,wsl,cond_true,cond_false,exists_eq_left',wsu,Nat.reduceAdd,Nat.reduceLT,Nat.lt_add_one,Nat.zero_lt_succ,decide_true,decide_false,ne_eq,reduceCtorEq,Int.lt_irrefl]
   rw [lenl_at h1,lenl_at h2]
   rw [List.drop_length] at he
   simp only [wsv,wsg,wsh,wsl,cond_true,cond_false,exists_eq_left',wsu,Nat.reduceAdd,Nat.reduceLT,Nat.lt_add_one,Nat.zero_lt_succ,decide_true,decide_false,ne_eq,reduceCtorEq,condW_dec]
   have:=hK w2 hx2
   rw [← he] at this
   refine ⟨fun hlt=>?_,fun hge=>?_⟩
   · obtain ⟨v,r,e⟩:∃ v r,b.drop a.length = v :: r:=by
       cases hd:b.drop a.length with
       | nil=>have:=List.drop_eq_nil_iff.1 hd; omega
       | cons v r=>exact ⟨v,r,rfl⟩
     rw [e] at this
     exact this
   · rw [List.drop_eq_nil_iff.2 (show b.length ≤ a.length by omega)] at this
     exact this
end
end Go.Proofs.YtnoepcndjljolaaGreatDoor
namespace Go.Proofs.YtnoepcndjljolaaGreatDoor
open Go Go.Eng Go.Num
set_option maxRecDepth 100000
def inG (G:Nat → Prop) (v:Value):Prop:=∀ k,v.ownBlock = some k → G k
mutual
/-- a value all whose lists lie in blocks of G -/
def VRepP (G:Nat → Prop) (w:World):JV → List Value → Prop
 | .mk k b t xs ks,cs=>∃ sv kv T1 T2 L,cs = [i64 k,.bool b,str t,sv,kv] ∧ SlAt w T1 sv xs.length L ∧ VRepsP G w xs L ∧ SlAt w T2 kv ks.length (ks.map str) ∧ Fits xs.length ks t ∧ (L ≠ [] → inG G sv) ∧ (ks.map str ≠ [] → inG G kv)
def VRepsP (G:Nat → Prop) (w:World):List JV → List Value → Prop
 | [],L=>L = []
 | x :: xs,L=>∃ c r,L = c ++ r ∧ VRepP G w x c ∧ VRepsP G w xs r
end
theorem slat_chgG {S G:Nat → Prop} {w w':World} {T:TypeId} {v:Value} {n:Nat} {cs:List Value} (h:SlAt w T v n cs) (hg:cs ≠ [] → inG G v) (hc:Chg S w w') (hS:∀ k,G k → k < w.heap.size → ¬ S k):SlAt w' T v n cs:=by
 obtain ⟨p,cap,rfl,h1,h2,h3⟩:=h
 refine ⟨p,cap,rfl,h1,h2,fun hne=>?_⟩
 obtain ⟨b,off,c,fr,rfl,hb,hcs⟩:=h3 hne
 exact ⟨b,off,c,fr,rfl,hc.at hb (hS b (hg hne b rfl) (at_lt hb)),hcs⟩
theorem slat_lt {w:World} {T:TypeId} {v:Value} {n:Nat} {cs:List Value} (h:SlAt w T v n cs) (hne:cs ≠ []):inG (fun k=>k < w.heap.size) v:=by
 obtain ⟨p,cap,rfl,h1,h2,h3⟩:=h
 obtain ⟨b,off,c,fr,rfl,hb,hcs⟩:=h3 hne
 intro k hk
 cases hk
 exact at_lt hb
mutual
theorem VRepP.chg {S G:Nat → Prop} {w w':World} (hc:Chg S w w') (hS:∀ k,G k → k < w.heap.size → ¬ S k):∀ {v:JV} {cs:List Value},VRepP G w v cs → VRepP G w' v cs
 | .mk k b t xs ks,cs,h=>by
   simp only [VRepP] at h ⊢
   obtain ⟨sv,kv,T1,T2,L,rfl,h1,h2,h3,h4,h5,h6⟩:=h
   exact ⟨sv,kv,T1,T2,L,rfl,slat_chgG h1 h5 hc hS,VRepsP.chg hc hS h2,slat_chgG h3 h6 hc hS,h4,h5,h6⟩
theorem VRepsP.chg {S G:Nat → Prop} {w w':World} (hc:Chg S w w') (hS:∀ k,G k → k < w.heap.size → ¬ S k):∀ {xs:List JV} {L:List Value},VRepsP G w xs L → VRepsP G w' xs L
 | [],L,h=>by simp only [VRepsP] at h ⊢; exact h
 | x :: xs,L,h=>by
   simp only [VRepsP] at h ⊢
   obtain ⟨c,r,rfl,h1,h2⟩:=h
   exact ⟨c,r,rfl,VRepP.chg hc hS h1,VRepsP.chg hc hS h2⟩
end
mutual
theorem VRepP.mono {G G':Nat → Prop} {w:World} (hG:∀ k,k < w.heap.size → G k → G' k):∀ {v:JV} {cs:List Value},VRepP G w v cs → VRepP G' w v cs
 | .mk k b t xs ks,cs,h=>by
   simp only [VRepP] at h ⊢
   obtain ⟨sv,kv,T1,T2,L,rfl,h1,h2,h3,h4,h5,h6⟩:=h
   exact ⟨sv,kv,T1,T2,L,rfl,h1,VRepsP.mono hG h2,h3,h4,fun hne k hk=>hG k (slat_lt h1 hne k hk) (h5 hne k hk),fun hne k hk=>hG k (slat_lt h3 hne k hk) (h6 hne k hk)⟩
theorem VRepsP.mono {G G':Nat → Prop} {w:World} (hG:∀ k,k < w.heap.size → G k → G' k):∀ {xs:List JV} {L:List Value},VRepsP G w xs L → VRepsP G' w xs L
 | [],L,h=>by simp only [VRepsP] at h ⊢; exact h
 | x :: xs,L,h=>by
   simp only [VRepsP] at h ⊢
   obtain ⟨c,r,rfl,h1,h2⟩:=h
   exact ⟨c,r,rfl,VRepP.mono hG h1,VRepsP.mono hG h2⟩
end
mutual
theorem VRepP.rep {G:Nat → Prop} {w:World}:∀ {v:JV} {cs:List Value},VRepP G w v cs → VRep w v cs
 | .mk k b t xs ks,cs,h=>by
   simp only [VRepP] at h
   simp only [VRep]
   obtain ⟨sv,kv,T1,T2,L,rfl,h1,h2,h3,h4,h5,h6⟩:=h
   exact ⟨sv,kv,T1,T2,L,rfl,h1,VRepsP.rep h2,h3,h4⟩
theorem VRepsP.rep {G:Nat → Prop} {w:World}:∀ {xs:List JV} {L:List Value},VRepsP G w xs L → VReps w xs L
 | [],L,h=>by simp only [VRepsP] at h; simp only [VReps]; exact h
 | x :: xs,L,h=>by
   simp only [VRepsP] at h
   simp only [VReps]
   obtain ⟨c,r,rfl,h1,h2⟩:=h
   exact ⟨c,r,rfl,VRepP.rep h1,VRepsP.rep h2⟩
end
theorem VRepsP.snoc {G:Nat → Prop} {w:World}:∀ {xs:List JV} {x:JV} {L cs:List Value},VRepsP G w xs L → VRepP G w x cs → VRepsP G w (xs ++ [x]) (L ++ cs)
 | [],x,L,cs,h,hx=>by
   simp only [VRepsP] at h
   subst h
   simp only [List.nil_append,VRepsP]
   exact ⟨cs,[],by simp,hx,rfl⟩
 | y :: xs,x,L,cs,h,hx=>by
   simp only [VRepsP] at h
   obtain ⟨c,r,rfl,h1,h2⟩:=h
   simp only [List.cons_append,VRepsP]
   exact ⟨c,r ++ cs,by simp,h1,VRepsP.snoc h2 hx⟩
theorem VRepP.mk {G:Nat → Prop} {w:World} {v:JV} {sv kv:Value} {T1 T2:TypeId} {L:List Value} (h1:SlAt w T1 sv v.xs.length L) (h2:VRepsP G w v.xs L) (h3:SlAt w T2 kv v.ks.length (v.ks.map str)) (h4:Fits v.xs.length v.ks v.t) (h5:L ≠ [] → inG G sv) (h6:v.ks.map str ≠ [] → inG G kv):VRepP G w v [i64 v.k,.bool v.b,str v.t,sv,kv]:=by
 cases v with
 | mk k b t xs ks=>simp only [VRepP]; exact ⟨sv,kv,T1,T2,L,rfl,h1,h2,h3,h4,h5,h6⟩
abbrev From (n:Nat):Nat → Prop:=fun k=>n ≤ k
section
variable [HX]
theorem clone_s {v:Value} {T:TypeId} {l:List Str} {w:World} {K:Value → World → Prop} (h:SlAt w T v l.length (l.map str)) (hl:l.length ≤ 1000000)
   (hK:∀ v' w',Ext w w' → SlAt w' ST v' l.length (l.map str) → inG (From w.heap.size) v' → K v' w'):callF Tryz.prog 72 [v] w K:=by
 refine W72_ok ?_
 unfold W72
 obtain ⟨p,cap,rfl,hcap,hp,hc⟩:=h
 cases p with
 | none=>
   obtain ⟨h0,rfl⟩:=hp rfl
   have:l = []:=List.eq_nil_of_length_eq_zero h0
   subst this
   have e:∀ K:Value → Prop,eqW .slice false (.slice none ([]:List Str).length 0) (.slice none 0 0) K ↔ K (.bool true):=fun K=>Iff.rfl
   rw [e]
   simp only [wsv,wsg,wsh,wsl,cond_true,cond_false,exists_eq_left',wsu,Nat.reduceAdd,Nat.reduceLT,Nat.lt_add_one,Nat.zero_lt_succ,decide_true,decide_false,ne_eq,reduceCtorEq]
   exact hK _ w (Chg.refl _ _) (SlAt.nil _ _) (by intro k hk; cases hk)
 | some a=>
   have e:∀ K:Value → Prop,eqW .slice false (.slice (some a) l.length cap) (.slice none 0 0) K ↔ K (.bool false):=fun K=>Iff.rfl
   rw [e]
   unfold bslW
   simp only [wsv,wsg,wsh,wsl,cond_true,cond_false,exists_eq_left',wsu,Nat.reduceAdd,Nat.reduceLT,Nat.lt_add_one,Nat.zero_lt_succ,decide_true,decide_false,ne_eq,reduceCtorEq]
   refine append_own3 elem_s (base:=w.heap.size) (own_new (w:=w) (base:=w.heap.size) (e:=ST) (size:=1) (n:=0) (cs:=[]) (Nat.le_refl _) rfl (by omega)) (x:=.slice (some a) l.length cap) (T:=T) (m:=l.length) (news:=l.map str) ?_ (by simp) ?_ (by omega) (by omega) (by rw [size_alloc]; omega) fun v' w' h' hc' hb'=>?_
   · have hx:Ext w (w.alloc (.cells ([]:List Value).toArray ST)):=(by repeat (first | assumption | exact Chg.refl _ _ | refine Chg.drew ?_ | refine Chg.alloc ?_ _ | refine Chg.set ?_ (by first | exact .inl rfl | exact .inr (by omega) | exact .inr (by simp only [size_set,size_alloc,size_drew]; omega) | (left; simp; done)) _ | exact Chg.of_ext (by assumption)))
     exact SlAt.ext ⟨some a,cap,rfl,hcap,hp,hc⟩ hx
   · intro u hu
     obtain ⟨s,_,rfl⟩:=List.mem_map.1 hu
     rfl
   · have hx:Ext w (w.alloc (.cells ([]:List Value).toArray ST)):=(by repeat (first | assumption | exact Chg.refl _ _ | refine Chg.drew ?_ | refine Chg.alloc ?_ _ | refine Chg.set ?_ (by first | exact .inl rfl | exact .inr (by omega) | exact .inr (by simp only [size_set,size_alloc,size_drew]; omega) | (left; simp; done)) _ | exact Chg.of_ext (by assumption)))
     refine hK v' w' (hx.then hc' fun k hk e=>?_) (by simpa using h'.sl) fun k hk=>(h'.block k hk).1
     simp only [Value.ownBlock,Option.some.injEq] at e
     omega
theorem clones_p {xs:List JV} (hcl:∀ x ∈ xs,∀ {cs:List Value} {w:World} {K:Value → World → Prop},VRep w x cs → (∀ cs' w',Ext w w' → VRepP (From w.heap.size) w' x cs' → K (.agg cs'.toArray) w') → callF Tryz.prog 71 [.agg cs.toArray] w K)
   {sv:Value} {w:World} {K:Value → World → Prop} (h:ItemsAt w sv xs) (hl:xs.length ≤ 1000000)
   (hK:∀ sv' w',Ext w w' → (∃ L,SlAt w' VT sv' xs.length L ∧ VRepsP (From w.heap.size) w' xs L) → inG (From w.heap.size) sv' → K sv' w'):callF Tryz.prog 130 [sv] w K:=by
 refine W130_ok ?_
 unfold W130
 rw [h.len]
 refine ⟨fun s w'=>∃ i v L,i ≤ xs.length ∧ s = [v,i64 (i:Nat)] ∧ Ext w w' ∧ Own w' w.heap.size VT 5 v i L ∧ VRepsP (fun k=>w.heap.size ≤ k ∧ v.ownBlock ≠ some k) w' (xs.take i) L,
   fun s _=>match s with | [_,.int _ i]=>xs.length - i.toNat | _=>0,⟨0,_,[],by omega,rfl,Chg.refl _ _,⟨by simp,.inl ⟨rfl,rfl⟩⟩,by simp [VRepsP]⟩,?_⟩
 rintro s g w2 ⟨i,v,L,hi,rfl,hx2,hO,hr⟩
 rcases Nat.lt_or_ge i xs.length with hlt | hge
 · obtain ⟨x,hxi⟩:∃ x,xs[i]? = some x:=⟨_,List.getElem?_eq_getElem hlt⟩
   have hltI:(i:Int) < (xs.length:Int):=by omega
   simp only [wsv,wsg,wsh,wsl,cond_true,cond_false,exists_eq_left',wsu,Nat.reduceAdd,Nat.reduceLT,Nat.lt_add_one,Nat.zero_lt_succ,decide_true,decide_false,ne_eq,reduceCtorEq,hltI]
   refine (h.ext hx2).at hxi fun cs hcs=>?_
   refine copy_new hcs fun p w3 sp kp hP hx3=>?_
   refine hP.ld fun cs2 h2=>?_
   refine hcl x (List.mem_of_getElem? hxi) h2 fun cs3 w4 hx4 h3=>?_
   refine row_v h3.rep.len fun t w5 ht hx5=>?_
   have hx25:=hx3.trans (hx4.trans hx5)
   have hO5:=hO.ext hx25
   have s0:=hx2.size
   have s3:=hx3.size
   have s25:=hx25.size
   have hglt:∀ k,v.ownBlock = some k → k < w2.heap.size:=fun k hk=>(World.ownsRow.lt hO k hk).2
   refine append_own3 elem_v hO5 ht (m:=1) (by rw [h3.rep.len]) h3.rep.one (by omega) (by omega) (by omega) fun v' w6 h6 hc6 hb6=>?_
   have hx6:Ext w w6:=(hx2.trans hx25).then hc6 fun k hk e=>by
     have:=(own_ge hO5 e).1; omega
   rw [up1 (by omega)]
   refine ⟨⟨i + 1,v',L ++ cs3,hlt,rfl,hx6,h6,?_⟩,by simp only [Int.toNat_natCast]; omega⟩
   have e:xs.take (i + 1) = xs.take i ++ [x]:=by rw [List.take_add_one,hxi]; rfl
   rw [e]
   have hr5:=VRepsP.chg hx25 (fun _ _ _ e=>e) hr
   have h35:=VRepP.chg hx5 (fun _ _ _ e=>e) h3
   have hall:VRepsP (fun k=>w.heap.size ≤ k ∧ v.ownBlock ≠ some k) w5 (xs.take i ++ [x]) (L ++ cs3):=
     hr5.snoc (h35.mono fun k _ hk=>⟨by have:w3.heap.size ≤ k:=hk; omega,fun e=>by have:=hglt k e; have:w3.heap.size ≤ k:=hk; omega⟩)
   have hall2:VRepsP (fun k=>(w.heap.size ≤ k ∧ v.ownBlock ≠ some k) ∧ k < w5.heap.size) w5 (xs.take i ++ [x]) (L ++ cs3):=hall.mono fun k hlt hk=>⟨hk,hlt⟩
   have hall3:=VRepsP.chg hc6 (fun k hk _ e=>hk.1.2 e) hall2
   exact hall3.mono fun k _ hk=>⟨hk.1.1,fun e=>by
     rcases hb6 k e with h | h
     · exact hk.1.2 h
     · omega⟩
 · obtain rfl:i = xs.length:=by omega
   simp only [wsv,wsg,wsh,wsl,cond_true,cond_false,exists_eq_left',wsu,Nat.reduceAdd,Nat.reduceLT,Nat.lt_add_one,Nat.zero_lt_succ,decide_true,decide_false,ne_eq,reduceCtorEq,Int.lt_irrefl]
   rw [List.take_length] at hr
   exact hK v w2 hx2 ⟨L,hO.sl,hr.mono fun k _ hk=>hk.1⟩ fun k hk=>(hO.block k hk).1
end
end Go.Proofs.YtnoepcndjljolaaGreatDoor
namespace Go.Proofs.YtnoepcndjljolaaGreatDoor
open Go Go.Eng Go.Num
set_option maxRecDepth 100000
section
variable [HX]
theorem clone_p (v:JV):∀ {cs:List Value} {w:World} {K:Value → World → Prop},fewM v = true → VRep w v cs → (∀ cs' w',Ext w w' → VRepP (From w.heap.size) w' v cs' → K (.agg cs'.toArray) w') → callF Tryz.prog 71 [.agg cs.toArray] w K:=by
 induction v using JV.ind' with
 | h v ih=>
   intro cs w K hfew h hK
   rw [fewM_eq,fewL_all] at hfew
   simp only [Bool.and_eq_true,decide_eq_true_eq,List.all_eq_true] at hfew
   obtain ⟨⟨f1,f2⟩,f3⟩:=hfew
   refine W71_ok ?_
   unfold W71
   refine box_val h fun a w1 sv kv hB hx ha=>?_
   refine alloc_new fun b w2 hb hz2 hbb hx2=>?_
   have hxd:Ext w2 w2.drew:=Chg.drew (Chg.refl (fun _=>False) w2)
   have hB2:=hB.ext hx2
   have hBd:=hB2.ext hxd
   have hbd:=hxd.at hbb id
   have sd:w2.drew.heap.size = w2.heap.size:=rfl
   simp only [wsv,wsg,wsh,wsl,cond_true,cond_false,exists_eq_left',wsu,Nat.reduceAdd,Nat.reduceLT,Nat.lt_add_one,Nat.zero_lt_succ,decide_true,decide_false,ne_eq,reduceCtorEq,wsh,hB2.hb]
   obtain ⟨T1,k1⟩:=hBd.keys
   refine clone_s k1 (by omega) fun kv' w3 hx3 hk3 hg3=>?_
   have hB3:=hBd.ext hx3
   have hb3:=hx3.at hbd id
   have s3:=hx3.size
   simp only [wsv,wsg,wsh,wsl,cond_true,cond_false,exists_eq_left',wsu,Nat.reduceAdd,Nat.reduceLT,Nat.lt_add_one,Nat.zero_lt_succ,decide_true,decide_false,ne_eq,reduceCtorEq,wsh,hB3.hb]
   refine clones_p (fun x hx=>ih x hx (f3 x hx)) hB3.itemsAt (by omega) fun sv' w4 hx4 hL hg4=>?_
   obtain ⟨L,hL1,hL2⟩:=hL
   have hB4:=hB3.ext hx4
   have hb4:=hx4.at hb3 id
   have s1:=hx.size
   have hak:=at_lt hB.hb
   have one1:one1 sv' = true ∧ one1 kv' = true:=by
     obtain ⟨p,c,rfl,_⟩:=hL1.shape
     obtain ⟨p',c',rfl,_⟩:=hk3.shape
     exact ⟨rfl,rfl⟩
   refine st_at hB4.hb one1.2 (by simp) fun w5 hz5 ha5 hc5=>?_
   have ha5:w5.heap[a]? = some (.cells [i64 v.k,.bool v.b,str v.t,sv,kv'].toArray VT (0,0)):=by rw [ha5]; simp
   refine st_at ha5 one1.1 (by simp) fun w6 hz6 ha6 hc6=>?_
   have ha6:w6.heap[a]? = some (.cells [i64 v.k,.bool v.b,str v.t,sv',kv'].toArray VT (0,0)):=by rw [ha6]; simp
   refine ld_all ha6 rfl ?_
   have hb6:=hc6.at (hc5.at hb4 (by omega)) (by omega)
   refine ret_agg hb6 rfl rfl (obj_one one1.1 one1.2) fun w7 hc7=>?_
   have hx1:Ext w w4:=hx.trans (hx2.trans (hxd.trans (hx3.trans hx4)))
   have hx5:Ext w w7:=((hx1.new hc5 (by omega)).new hc6 (by omega)).new hc7 (by omega)
   have hch:Chg (fun k=>k = a ∨ k = b) w4 w7:=((hc5.mono fun k _ e=>.inl e).trans (hc6.mono fun k _ e=>.inl e)).trans (hc7.mono fun k _ e=>.inr e)
   refine hK _ w7 hx5 (VRepP.mk (T1:=VT) (T2:=ST) (L:=L) ?_ ?_ ?_ hB.fits (fun _ k hk=>?_) (fun _ k hk=>?_))
   · exact slat_chgG hL1 (fun _=>hg4) hch fun k hk _ e=>by have:w3.heap.size ≤ k:=hk; omega
   · refine VRepsP.mono (fun k _ hk=>?_) (VRepsP.chg (G:=From w3.heap.size) hch (fun k hk _ e=>by have:w3.heap.size ≤ k:=hk; omega) hL2)
     have:w3.heap.size ≤ k:=hk
     show w.heap.size ≤ k
     omega
   · exact slat_chgG (hk3.ext hx4) (fun _=>hg3) hch fun k hk _ e=>by have:w2.drew.heap.size ≤ k:=hk; omega
   · have:w3.heap.size ≤ k:=hg4 k hk
     show w.heap.size ≤ k
     omega
   · have:w2.drew.heap.size ≤ k:=hg3 k hk
     show w.heap.size ≤ k
     omega
theorem search_p {kv:Value} {T:TypeId} {ks:List Str} {k:Str} {w:World} {K:Value → World → Prop} (h:SlAt w T kv ks.length (ks.map str)) (hl:ks.length ≤ 100000) (hr:Rise ks)
   (hK:∀ i:Nat,(idxK ks k = none ∨ idxK ks k = some i) → (∀ j a,j < i → ks[j]? = some a → Op.bytesLess a k = true) → (∀ j a,i ≤ j → ks[j]? = some a → Op.bytesLess a k = false) → i ≤ ks.length → K (.tuple #[i64 (i:Nat),.bool (idxK ks k).isSome]) w) :
   callF Tryz.prog 161 [kv,str k] w K:=by
 refine W161_ok ?_
 unfold W161
 rw [lenl_at h]
 refine ⟨fun s w'=>∃ lo hi:Nat,lo ≤ hi ∧ hi ≤ ks.length ∧ s = [i64 (lo:Nat),i64 (hi:Nat)] ∧ w' = w ∧ (∀ j a,j < lo → ks[j]? = some a → Op.bytesLess a k = true) ∧ (∀ j a,hi ≤ j → ks[j]? = some a → Op.bytesLess a k = false),
   fun s _=>match s with | [.int _ lo,.int _ hi]=>hi.toNat - lo.toNat | _=>0,⟨0,ks.length,by omega,by omega,rfl,rfl,fun j a h=>by omega,fun j a hj ha=>by have:=(List.getElem?_eq_some_iff.1 ha).1; omega⟩,?_⟩
 rintro s g w2 ⟨lo,hi,hle,hhi,rfl,rfl,h1,h2⟩
 rcases Nat.lt_or_ge lo hi with hlt | hge
 · have hltI:(lo:Int) < (hi:Int):=by omega
   have e1:IntKind.i64.wrap ((lo:Int) + (hi:Int)) = ((lo + hi:Nat):Int):=by rw [wrap_id (by omega) (by omega)]; omega
   have e2:IntKind.u64.wrap ((lo + hi:Nat):Int) = ((lo + hi:Nat):Int):=u64_wrap (by omega) (by omega)
   have e3:(((lo + hi:Nat):Int).fdiv (2 ^ min (1:Int).toNat IntKind.u64.bits)) = (((lo + hi) / 2:Nat):Int):=by
     have:(2:Int) ^ min (1:Int).toNat IntKind.u64.bits = 2:=by decide
     rw [this,Int.fdiv_eq_ediv_of_nonneg _ (by omega)]; omega
   have e4:IntKind.i64.wrap (((lo + hi) / 2:Nat):Int) = (((lo + hi) / 2:Nat):Int):=wrap_id (by omega) (by omega)
   generalize hm:(lo + hi) / 2 = m at *
   obtain ⟨u,hu⟩:∃ u,ks[m]? = some u:=⟨_,List.getElem?_eq_getElem (by omega)⟩
   have h01:(0:Int) ≤ 1:=by decide
   simp only [wsv,wsg,wsh,wsl,cond_true,cond_false,exists_eq_left',wsu,Nat.reduceAdd,Nat.reduceLT,Nat.lt_add_one,Nat.zero_lt_succ,decide_true,decide_false,ne_eq,reduceCtorEq,hltI,e1,e2,bin_shr,h01,e3,e4]
   refine text_ld h hu ?_
   refine cmp_less ?_
   rw [condW_b]
   refine ⟨fun hl=>?_,fun hn=>?_⟩
   · rw [up1 (by omega)]
     refine ⟨⟨m + 1,hi,by omega,hhi,rfl,rfl,fun j a hj ha=>?_,h2⟩,by simp only [Int.toNat_natCast]; omega⟩
     rcases Nat.lt_or_ge j m with hj2 | hj2
     · exact less_trans (rise_lt hr ha hu hj2) hl
     · obtain rfl:j = m:=by omega
       rw [hu] at ha; cases ha; exact hl
   · refine ⟨⟨lo,m,by omega,by omega,rfl,rfl,h1,fun j a hj ha=>?_⟩,by simp only [Int.toNat_natCast]; omega⟩
     rcases Nat.lt_or_ge m j with hj2 | hj2
     · cases hb:Op.bytesLess a k with
       | false=>rfl
       | true=>have:=less_trans (rise_lt hr hu ha hj2) hb; rw [hn] at this; cases this
     · obtain rfl:j = m:=by omega
       rw [hu] at ha; cases ha; exact hn
 · obtain rfl:lo = hi:=by omega
   have hi0:idxK ks k = none ∨ idxK ks k = some lo:=by
     cases hx:idxK ks k with
     | none=>exact .inl rfl
     | some j=>
       right
       have hj:=idxK_spec hx
       rcases Nat.lt_trichotomy j lo with h | h | h
       · have:=h1 j k h hj; rw [less_irr] at this; cases this
       · rw [h]
       · obtain ⟨u,hu⟩:∃ u,ks[lo]? = some u:=⟨_,List.getElem?_eq_getElem (by have:=(List.getElem?_eq_some_iff.1 hj).1; omega)⟩
         have a1:=h2 lo u (Nat.le_refl _) hu
         have a2:=rise_lt hr hu hj h
         rw [a1] at a2; cases a2
   have hK:=hK lo hi0 h1 h2 hhi
   simp only [wsv,wsg,wsh,wsl,cond_true,cond_false,exists_eq_left',wsu,Nat.reduceAdd,Nat.reduceLT,Nat.lt_add_one,Nat.zero_lt_succ,decide_true,decide_false,ne_eq,reduceCtorEq,Int.lt_irrefl]
   rcases Nat.lt_or_ge lo ks.length with hlt | hge2
   · obtain ⟨u,hu⟩:∃ u,ks[lo]? = some u:=⟨_,List.getElem?_eq_getElem hlt⟩
     have ed:decide ((lo:Int) < (ks.length:Int)) = true:=decide_eq_true (by omega)
     have hsome:(idxK ks k).isSome = decide (u = k):=by
       by_cases e:u = k
       · subst e
         have hm:u ∈ ks:=List.mem_of_getElem? hu
         rw [decide_eq_true rfl]
         cases hx:idxK ks u with
         | none=>exact absurd hm (idxK_none.1 hx)
         | some _=>rfl
       · rw [decide_eq_false e]
         rcases hi0 with h | h
         · rw [h]; rfl
         · have:=idxK_spec h; rw [hu] at this; exact absurd (Option.some.inj this) e
     rw [hsome] at hK
     simp only [wsv,wsg,wsh,wsl,cond_true,cond_false,exists_eq_left',wsu,Nat.reduceAdd,Nat.reduceLT,Nat.lt_add_one,Nat.zero_lt_succ,decide_true,decide_false,ne_eq,reduceCtorEq,ed]
     refine GdW.t ?_
     refine text_ld h hu ?_
     intro gg
     simp only [ofL_data]
     simp only [wsv,wsg,wsh,wsl,cond_true,cond_false,exists_eq_left',wsu,Nat.reduceAdd,Nat.reduceLT,Nat.lt_add_one,Nat.zero_lt_succ,decide_true,decide_false,ne_eq,reduceCtorEq]
     by_cases e:u = k
     · rw [decide_eq_true e] at hK ⊢
       (try simp only [wsv,wsg,wsh,wsl,cond_true,cond_false,exists_eq_left',wsu,Nat.reduceAdd,Nat.reduceLT,Nat.lt_add_one,Nat.zero_lt_succ,decide_true,decide_false,ne_eq,reduceCtorEq])
       intros
       exact hK
     · rw [decide_eq_false e] at hK ⊢
       (try simp only [wsv,wsg,wsh,wsl,cond_true,cond_false,exists_eq_left',wsu,Nat.reduceAdd,Nat.reduceLT,Nat.lt_add_one,Nat.zero_lt_succ,decide_true,decide_false,ne_eq,reduceCtorEq])
       refine GdW.t ?_
       refine text_ld h hu ?_
       refine isnan_s2 ?_
       intro gg
       (try simp only [wsv,wsg,wsh,wsl,cond_true,cond_false,exists_eq_left',wsu,Nat.reduceAdd,Nat.reduceLT,Nat.lt_add_one,Nat.zero_lt_succ,decide_true,decide_false,ne_eq,reduceCtorEq])
       intros
       exact hK
   · have hsome:idxK ks k = none:=by
       rcases hi0 with h | h
       · exact h
       · have:=(List.getElem?_eq_some_iff.1 (idxK_spec h)).1; omega
     rw [hsome] at hK
     have ed:decide ((lo:Int) < (ks.length:Int)) = false:=decide_eq_false (by omega)
     simp only [wsv,wsg,wsh,wsl,cond_true,cond_false,exists_eq_left',wsu,Nat.reduceAdd,Nat.reduceLT,Nat.lt_add_one,Nat.zero_lt_succ,decide_true,decide_false,ne_eq,reduceCtorEq,ed]
     intros
     exact hK
end
end Go.Proofs.YtnoepcndjljolaaGreatDoor
namespace Go.Proofs.YtnoepcndjljolaaGreatDoor
open Go Go.Eng Go.RowKit
set_option maxRecDepth 100000
theorem utfM_of {s:Str} (h:utfM s = true):Utf s:=(utf_iff s).1 h
def partL (xs:List JV) (i:Nat):Str:=(if i = 0 then [] else [44]) ++ (match xs[i]? with | some x=>showM x | none=>[])
def partO (xs:List JV) (ks:List Str) (i:Nat):Str:=(if i = 0 then [] else [44]) ++ quoteM (ks.getD i []) ++ [58] ++ (match xs[i]? with | some x=>showM x | none=>[])
def sumL (f:Nat → Str):Nat → Str
 | 0=>[]
 | n + 1=>sumL f n ++ f n
theorem joinM_cons {x:Str} {xs:List Str} (h:xs ≠ []):joinM (x :: xs) = x ++ [44] ++ joinM xs:=by
 cases xs with
 | nil=>exact absurd rfl h
 | cons y r=>rfl
theorem joinM_snoc:∀ (xs:List Str) (x:Str),joinM (xs ++ [x]) = if xs = [] then x else joinM xs ++ [44] ++ x
 | [],x=>rfl
 | [y],x=>by simp [joinM]
 | y :: z :: r,x=>by
   have:=joinM_snoc (z :: r) x
   rw [List.cons_append,joinM_cons (by simp),this,if_neg (by simp),if_neg (by simp),joinM_cons (x:=y) (xs:=z :: r) (by simp)]
   simp [List.append_assoc]
theorem sum_join (f:Nat → Str) (g:List Str) (hf:∀ i x,g[i]? = some x → f i = (if i = 0 then [] else [44]) ++ x):∀ n,n ≤ g.length → sumL f n = joinM (g.take n):=by
 intro n
 induction n with
 | zero=>intro _; rfl
 | succ n ih=>
   intro h
   have hn:n < g.length:=by omega
   rw [sumL,ih (by omega),hf n g[n] (List.getElem?_eq_getElem hn),List.take_add_one,List.getElem?_eq_getElem hn,Option.toList_some,joinM_snoc]
   cases n with
   | zero=>simp [joinM]
   | succ n=>
     rw [if_neg (by omega),if_neg (by
       intro e
       have:=congrArg List.length e
       rw [List.length_take,List.length_nil] at this
       omega),List.append_assoc]
theorem showL_get:∀ (xs:List JV) (i:Nat),(showL xs)[i]? = (xs[i]?).map showM
 | [],i=>by simp [showL]
 | x :: xs,0=>by simp [showL]
 | x :: xs,i + 1=>by simp only [showL,List.getElem?_cons_succ]; exact showL_get xs i
theorem showL_len:∀ (xs:List JV),(showL xs).length = xs.length
 | []=>rfl
 | x :: xs=>by simp only [showL,List.length_cons]; rw [showL_len xs]
theorem list_join (xs:List JV):sumL (partL xs) xs.length = joinM (showL xs):=by
 rw [sum_join (partL xs) (showL xs) (fun i x h=>by
   rw [showL_get] at h
   unfold partL
   cases hx:xs[i]? with
   | none=>rw [hx] at h; cases h
   | some y=>rw [hx] at h; cases h; rfl) xs.length (by rw [showL_len]; exact Nat.le_refl _),← showL_len,List.take_length]
theorem obj_join {xs:List JV} {ks:List Str} (hl:ks.length = xs.length):sumL (partO xs ks) xs.length = joinM (List.zipWith (fun a b=>quoteM a ++ [58] ++ b) ks (showL xs)):=by
 have hz:(List.zipWith (fun a b=>quoteM a ++ [58] ++ b) ks (showL xs)).length = xs.length:=by rw [List.length_zipWith,showL_len]; omega
 rw [sum_join (partO xs ks) (List.zipWith (fun a b=>quoteM a ++ [58] ++ b) ks (showL xs)) (fun i x h=>by
   rw [List.getElem?_zipWith] at h
   unfold partO
   cases hx:xs[i]? with
   | none=>
     rw [showL_get,hx] at h
     cases hk:ks[i]? with
     | none=>rw [hk] at h; cases h
     | some k=>rw [hk] at h; cases h
   | some y=>
     cases hk:ks[i]? with
     | none=>
       have:=List.getElem?_eq_none_iff.1 hk
       have:=(List.getElem?_eq_some_iff.1 hx).1
       omega
     | some k=>
       rw [showL_get,hx,hk] at h
       cases h
       rw [List.getD_eq_getElem?_getD,hk]
       simp [List.append_assoc]) xs.length (by rw [hz]; exact Nat.le_refl _),← hz,List.take_length]
section
variable [HX]
theorem quote_len (s:Str):(quoteM s).length ≤ 6 * s.length + 2:=by
 unfold quoteM
 simp only [List.length_append,List.length_cons,List.length_nil]
 have:=flat_len s
 omega
def cntAt (xs:List JV) (i:Nat):Nat:=match xs[i]? with | some x=>cntM x | none=>0
def cntS (xs:List JV):Nat → Nat
 | 0=>0
 | n + 1=>cntS xs n + cntAt xs n
theorem cntAt_get {xs:List JV} {i:Nat} {x:JV} (h:xs[i]? = some x):cntAt xs i = cntM x:=by unfold cntAt; rw [h]
theorem cntS_cons (x:JV) (xs:List JV):∀ n,cntS (x :: xs) (n + 1) = cntM x + cntS xs n
 | 0=>by simp [cntS,cntAt]
 | n + 1=>by
   rw [cntS,cntS_cons x xs n,cntS]
   have:cntAt (x :: xs) (n + 1) = cntAt xs n:=by unfold cntAt; rw [List.getElem?_cons_succ]
   omega
theorem cntS_le:∀ (xs:List JV) (n:Nat),n ≤ xs.length → cntS xs n ≤ cntL xs
 | xs,0,_=>Nat.zero_le _
 | [],n + 1,h=>by simp at h
 | x :: xs,n + 1,h=>by
   have ih:=cntS_le xs n (by simpa using h)
   rw [cntS_cons]
   simp only [cntL]
   omega
theorem sum_len {f:Nat → Str} {xs:List JV}:∀ n,(∀ i,i < n → (f i).length ≤ 200000 * cntAt xs i) → (sumL f n).length ≤ 200000 * cntS xs n:=by
 intro n
 induction n with
 | zero=>intro _; simp [sumL]
 | succ n ih=>
   intro h
   have ih:=ih fun i hi=>h i (by omega)
   rw [sumL,List.length_append,cntS]
   have:=h n (by omega)
   omega
theorem show_len (v:JV):plainM v = true → (showM v).length + 100000 ≤ 200000 * cntM v:=by
 induction v using JV.ind with
 | h k b t xs ks ih=>
   intro hp
   rw [plainM_eq,Bool.and_eq_true] at hp
   obtain ⟨hp1,hp2⟩:=hp
   have hh:=headOk_out hp1
   simp only [JV.k,JV.b,JV.t,JV.xs,JV.ks] at hh hp2
   rw [plainL_all,List.all_eq_true] at hp2
   have hi:∀ x ∈ xs,(showM x).length + 100000 ≤ 200000 * cntM x:=fun x hx=>ih x hx (hp2 x hx)
   simp only [cntM]
   rw [showM_eq]
   have hcg:=cntS_le xs xs.length (Nat.le_refl _)
   have sums:∀ (f:Nat → Str) ,(∀ i,i < xs.length → (f i).length ≤ 200000 * cntAt xs i) → (sumL f xs.length).length ≤ 200000 * cntL xs:=fun f hf=>by
     have h1:=sum_len (f:=f) xs.length hf
     omega
   split
   · simp; omega
   split
   · cases b <;> simp <;> omega
   split
   · rename_i h3
     have hg:=hh.2.2.2.2.2.2.1 h3
     obtain ⟨g1,g2,_,_⟩:=Num.goodN_out hg
     have:t.length ≤ (Num.dig t).length + 1:=by
       cases t with
       | nil=>simp [Num.dig]
       | cons c d=>unfold Num.dig; dsimp only; split <;> simp
     omega
   split
   · rename_i h4
     have hl:=hh.2.2.2.2.2.2.2.1 h4
     have:=quote_len t
     omega
   split
   · rename_i h6
     have hkl:=hh.2.2.2.2.2.2.2.2.1 h6
     have hks:=keysOk_len hh.2.2.2.2.2.2.2.2.2
     rw [← obj_join hkl]
     have:=sums (partO xs ks) fun i hlt=>by
       unfold partO
       rw [cntAt_get (List.getElem?_eq_getElem hlt),List.getElem?_eq_getElem hlt]
       have h1:=hi xs[i] (List.getElem_mem ..)
       have hk:ks[i]? = some (ks[i]'(by omega)):=List.getElem?_eq_getElem _
       have h2:=hks (ks[i]'(by omega)) (List.getElem_mem ..)
       have h3:=quote_len (ks[i]'(by omega))
       rw [List.getD_eq_getElem?_getD,hk,Option.getD_some]
       simp only [List.length_append,List.length_cons,List.length_nil]
       split
       · rw [List.length_nil]; omega
       · rw [List.length_cons,List.length_nil]; omega
     simp only [List.length_append,List.length_cons,List.length_nil]
     omega
   · rw [← list_join]
     have:=sums (partL xs) fun i hlt=>by
       unfold partL
       rw [cntAt_get (List.getElem?_eq_getElem hlt),List.getElem?_eq_getElem hlt]
       have h1:=hi xs[i] (List.getElem_mem ..)
       simp only [List.length_append]
       split
       · rw [List.length_nil]; omega
       · rw [List.length_cons,List.length_nil]; omega
     simp only [List.length_append,List.length_cons,List.length_nil]
     omega
end
end Go.Proofs.YtnoepcndjljolaaGreatDoor
