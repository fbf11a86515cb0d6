/- One plain sentence: weakest preconditions, contracts and plain laws that the claim rests on, text behind text. Conditions: those that each states. -/
import Derived.Test.YtofhaneggcpdaaaDoorPK1
import Derived.Recover
import Derived.Shelf.Strings.BuilderK
import Derived.Shelf.Strings.Cut
import Derived.Shelf.Strings.Prefix
import Derived.Shelf.Strings.Search3
import Derived.Shelf.Small.Strs
import Derived.Shelf.Strings.SlTrimAscii
import Derived.Shelf.Small.Utf8
import Derived.Shelf.Strings.BuilderX
import Derived.Shelf.Lays
import Derived.Test.YtofhaneggcpdaaaDoorProg
import Derived.Lib.ConvBytes
import Derived.Lib.ParseIntBCases
import Derived.Lib.Builder
import Derived.ProofKit
import Derived.WalkKit
set_option linter.all false
set_option linter.unusedSimpArgs false
set_option linter.unusedVariables false
set_option linter.unusedSectionVars false
namespace Go.Syn
open Go Go.Eng Go.Lex
theorem bq_le : ∀ (N : Nat) (r : Str),r.length ≤ N → (∀ c,braX r c ≤ r.length) ∧ quoX r ≤ r.length := by
 intro N
 induction N with
 | zero =>
   intro r hr
   have : r = [] := List.eq_nil_of_length_eq_zero (by omega)
   subst this
   exact ⟨fun c => Nat.le_refl _,Nat.le_refl _⟩
 | succ N ih =>
   intro r hr
   cases r with
   | nil => exact ih [] (by simp)
   | cons c r =>
     simp only [List.length_cons] at hr
     have hr : r.length ≤ N := by omega
     have h1 := ih r hr
     refine ⟨fun d => ?_,?_⟩
     · rw [braX_cons]
       have h2 := (ih (r.drop (quoX r)) (drop_le _ hr)).1 d
       rw [List.length_drop] at h2
       have h3 := h1.1 (d + 1)
       have h4 := h1.1 (d - 1)
       have h5 := h1.1 d
       have h6 := h1.2
       simp only [List.length_cons]
       (repeat' split) <;> omega
     · rw [quoX_cons]
       have h2 := (ih (r.drop (braX r 0)) (drop_le _ hr)).2
       rw [List.length_drop] at h2
       have h3 := h1.1 0
       have h6 := h1.2
       cases r with
       | nil =>
         simp only [List.length_cons,List.length_nil] at *
         (repeat' split) <;> omega
       | cons e r' =>
         have h7 := (ih r' (by simp only [List.length_cons] at hr; omega)).2
         simp only [List.length_cons] at *
         (repeat' split) <;> omega
theorem braX_le (r : Str) (c : Int) : braX r c ≤ r.length := (bq_le r.length r (Nat.le_refl _)).1 c
theorem ins_some : ∀ (n : Nat) (t : Str),t.length ≤ n → ∀ i e,insP t = some (i,e) → i + 2 ≤ t.length ∧ i + 1 ≤ e ∧ e ≤ t.length
 | _,[],_,i,e,h => by simp [insP] at h
 | _,[_],_,i,e,h => by simp [insP] at h
 | 0,_ :: _ :: _,h,_,_,_ => by simp at h
 | n + 1,c :: x :: r,hn,i,e,h => by
   simp only [List.length_cons] at hn
   simp only [insP] at h
   split at h
   · cases hr : insP r with
     | none => rw [hr] at h; cases h
     | some y =>
       rw [hr] at h
       simp only [Option.map_some,Option.some.injEq,Prod.mk.injEq] at h
       obtain ⟨rfl,rfl⟩ := h
       have := ins_some n r (by omega) y.1 y.2 hr
       simp only [List.length_cons]
       omega
   split at h
   · simp only [Option.some.injEq,Prod.mk.injEq] at h
     obtain ⟨rfl,rfl⟩ := h
     have := braX_le (x :: r) 0
     have e1 : braM (x :: r) = braX (x :: r) 0 := rfl
     rw [e1]
     simp only [List.length_cons] at this ⊢
     omega
   · cases hr : insP (x :: r) with
     | none => rw [hr] at h; cases h
     | some y =>
       rw [hr] at h
       simp only [Option.map_some,Option.some.injEq,Prod.mk.injEq] at h
       obtain ⟨rfl,rfl⟩ := h
       have := ins_some n (x :: r) (by simp only [List.length_cons]; omega) y.1 y.2 hr
       simp only [List.length_cons] at this ⊢
       omega
section
variable {N : Int} {E S : PS → R Nat}
theorem inner_sat (hE : EOk N E) {s : PS} (h : WS N s) {t : Str} {a : Int} (h0 : 0 ≤ a) (h1 : a + t.length ≤ N) : Sat (innerR E s t a) (fun x s' => Go1 N s s' ∧ s'.bl = s.bl ∧ ∀ roots,Forest (exL s.ex) roots → Forest (exL s'.ex) (x :: roots)) (InN N) := by
 unfold innerR
 split
 · rename_i c b hs
   have := scan_bad hs
   exact ⟨by omega,by omega⟩
 · rename_i l hs
   have htg := scan_tg hs h0 h1
   have hw : WS N ⟨l,0,a,s.deep,false,s.ex,s.bl⟩ := ⟨htg,List.length_pos_iff.2 htg.ne,h.pN⟩
   refine (hE _ hw).bind fun x q ⟨⟨hg,_⟩,hb,hf⟩ => ?_
   have hq := hg.ws hw
   unfold kindR
   split
   · refine ⟨⟨rfl,rfl,rfl,rfl,Nat.le_refl _,h.lt,fun e he => ?_⟩,?_,fun roots hr => ?_⟩
     · have : e ∈ (nextS q).ex := he
       rw [(next_go hq).2.2.1] at this
       exact hg.exs e this
     · show (nextS q).bl = s.bl
       rw [(next_go hq).2.2.2]; exact hb
     · show Forest (exL (nextS q).ex) _
       rw [(next_go hq).2.2.1]; exact hf roots hr
   · have := cur_pos hq
     exact ⟨this.1,this.2.1⟩
theorem plain_sat {s : PS} (h : WS N s) {t : Tok} (ht : InN N t.a) : Sat (plainR s t) (fun _ s' => s' = s) (InN N) := by
 unfold plainR
 split
 · exact ht
 · rfl
theorem parts_sat (hE : EOk N E) : ∀ (n : Nat) (s : PS) (rest : Str) (a : Int) (us : List Nat) (ks : List Str),WS N s → 0 ≤ a → a + rest.length + 1 ≤ N →
   Sat (partsF E n s rest a us ks) (fun x s' => Go1 N s s' ∧ s'.bl = s.bl ∧ ∀ roots,Forest (exL s.ex) (us ++ roots) → Forest (exL s'.ex) (x.1 ++ roots)) (InN N)
 | 0,s,_,_,_,_,h,_,_ => ⟨Int.le_refl _,h.pN⟩
 | n + 1,s,rest,a,us,ks,h,h0,h1 => by
   have one : ∀ (e : Ex),e.args = [] → 0 ≤ e.a → e.a < N → Go1 N s { s with ex := s.ex ++ [e] } ∧ ∀ roots,Forest (exL s.ex) (us ++ roots) → Forest (exL (s.ex ++ [e])) ((us ++ [s.ex.length]) ++ roots) := fun e he h2 h3 =>
     ⟨⟨rfl,rfl,rfl,rfl,Nat.le_refl _,h.lt,fun x hx => by
       rcases List.mem_append.1 hx with hx | hx
       · exact .inl hx
       · rw [List.mem_singleton] at hx; subst hx; exact .inr ⟨h2,h3⟩⟩,
      fun roots hf => by
       have := forest_put (e := e) (roots := us ++ roots) (by rw [he]; exact hf)
       refine this.perm ?_
       rw [List.append_assoc]
       exact (List.perm_middle).symm⟩
   simp only [partsF]
   split
   · exact ⟨Go1.refl h,rfl,fun _ hf => hf⟩
   split
   · have := one ⟨5,saysM rest,[],[],a⟩ rfl h0 (by show a < N; omega)
     exact ⟨this.1,rfl,this.2⟩
   · rename_i i e hi
     obtain ⟨i1,i2,i3⟩ := ins_some rest.length rest (Nat.le_refl _) i e hi
     have hs1 : ∃ s1 as1,s1 = (if 0 < i then { s with ex := s.ex ++ [⟨5,saysM (rest.take i),[],[],a⟩] } else s) ∧ as1 = (if 0 < i then us ++ [s.ex.length] else us) ∧ Go1 N s s1 ∧ s1.bl = s.bl ∧ ∀ roots,Forest (exL s.ex) (us ++ roots) → Forest (exL s1.ex) (as1 ++ roots) := by
       refine ⟨_,_,rfl,rfl,?_⟩
       split
       · have := one ⟨5,saysM (rest.take i),[],[],a⟩ rfl h0 (by show a < N; omega)
         exact ⟨this.1,rfl,this.2⟩
       · exact ⟨Go1.refl h,rfl,fun _ hf => hf⟩
     obtain ⟨s1,as1,e1,e2,g1,b1,f1⟩ := hs1
     rw [← e1,← e2]
     have hw1 := g1.ws h
     have hd : ((rest.drop e).length : Int) = rest.length - e := by rw [List.length_drop]; omega
     split
     · refine Sat.bind (within_sat hw1 (a := a + i) ⟨by omega,by omega⟩ (P := fun x s' => Go1 N { s1 with deep := s1.deep + 1,quiet := false } s' ∧ s'.bl = s1.bl ∧ ∀ roots,Forest (exL s1.ex) roots → Forest (exL s'.ex) (x :: roots)) fun hw => inner_sat hE hw (by omega) ?_) fun x s2 ⟨q,⟨g2,b2,f2⟩,e3⟩ => ?_
       · rw [List.length_take,List.length_drop]
         omega
       · subst e3
         have g2' := g2.back
         refine Sat.mono (parts_sat hE n _ (rest.drop e) (a + e) (as1 ++ [x]) _ ((g2').ws hw1) (by omega) (by rw [hd]; omega)) fun y s3 ⟨g3,b3,f3⟩ => ⟨g1.trans (g2'.trans g3),b3.trans (b2.trans b1),fun roots hf => f3 roots ?_⟩
         have := f2 _ (f1 roots hf)
         refine this.perm ?_
         rw [List.append_assoc]
         exact (List.perm_middle).symm
     · refine Sat.mono (parts_sat hE n s1 (rest.drop e) (a + e) as1 _ hw1 (by omega) (by rw [hd]; omega)) fun y s3 ⟨g3,b3,f3⟩ => ⟨g1.trans g3,b3.trans b1,fun roots hf => f3 roots (f1 roots hf)⟩
theorem text_sat (hE : EOk N E) {s : PS} (h : WS N s) {t : Tok} (ha : 0 ≤ t.a ∧ t.a < N) (ht : TextOk N t.a t.t) : Sat (textR E s t) (fun x s' => Go1 N s s' ∧ s'.bl = s.bl ∧ ∀ roots,Forest (exL s.ex) roots → Forest (exL s'.ex) (x :: roots)) (InN N) := by
 unfold textR
 split
 · rename_i hi
   have ht : t.a + t.t.length + 2 ≤ N := ht.resolve_left fun e => by rw [e] at hi; cases hi
   refine (parts_sat hE (t.t.length + 1) s t.t (t.a + 1) [] [] h (by omega) (by omega)).bind fun x s1 ⟨g1,b1,f1⟩ => ?_
   refine (put_sat (g1.ws h) (e := ⟨6,[],x.1,x.2,t.a⟩) ha).mono fun y s2 ⟨g2,_,b2,f2⟩ => ⟨g1.trans g2,b2.trans b1,fun roots hf => f2 roots (f1 roots hf)⟩
 · exact (put_sat h (e := ⟨5,saysM t.t,[],[],t.a⟩) ha).mono fun y s2 ⟨g2,_,b2,f2⟩ => ⟨g2,b2,fun roots hf => f2 roots hf⟩
theorem args_sat (hE : EOk N E) (w : Str) : ∀ (n : Nat) (s : PS) (out : List Nat),WS N s →
   Sat (argsF E w n s out) (fun x s' => Later N s s' ∧ s'.bl = s.bl ∧ ∀ roots,Forest (exL s.ex) (out ++ roots) → Forest (exL s'.ex) (x ++ roots)) (InN N)
 | 0,s,_,h => ⟨Int.le_refl _,h.pN⟩
 | n + 1,s,out,h => by
   have step : ∀ {s1 : PS},Go1 N s s1 → s1.ex = s.ex → s1.bl = s.bl → Sat ((E s1).bind fun x s' => argsF E w n s' (out ++ [x])) (fun x s' => Later N s s' ∧ s'.bl = s.bl ∧ ∀ roots,Forest (exL s.ex) (out ++ roots) → Forest (exL s'.ex) (x ++ roots)) (InN N) := fun {s1} g1 x1 b1 => by
     refine (hE s1 (g1.ws h)).bind fun x s2 ⟨g2,b2,f2⟩ => ?_
     refine Sat.mono (args_sat hE w n s2 (out ++ [x]) (g2.1.ws (g1.ws h))) fun y s3 ⟨g3,b3,f3⟩ => ⟨⟨g1.trans (g2.1.trans g3.1),by have := g1.le; have := g2.2; have := g3.2; omega⟩,b3.trans (b2.trans b1),fun roots hf => f3 roots ?_⟩
     have := f2 _ (by rw [x1]; exact hf)
     refine this.perm ?_
     rw [List.append_assoc]
     exact (List.perm_middle).symm
   have t1 := take_go h w
   simp only [argsF]
   split
   · rename_i ht
     exact ⟨⟨t1.1,t1.2.1 ht⟩,t1.2.2.2,fun roots hf => by rw [t1.2.2.1]; exact hf⟩
   split
   · rename_i ho
     have := step t1.1 t1.2.2.1 t1.2.2.2
     exact this
   · refine (want_sat (t1.1.ws h) [44]).bind fun _ s1 ⟨g1,x1,b1⟩ => ?_
     have g01 := t1.1.trans g1.1
     have t2 := take_go (g01.ws h) w
     split
     · rename_i ht
       exact ⟨⟨g01.trans t2.1,by have := t1.1.le; have := g1.2; have := t2.1.le; omega⟩,t2.2.2.2.trans (b1.trans t1.2.2.2),fun roots hf => by rw [t2.2.2.1,x1,t1.2.2.1]; exact hf⟩
     · exact step (g01.trans t2.1) (t2.2.2.1.trans (x1.trans t1.2.2.1)) (t2.2.2.2.trans (b1.trans t1.2.2.2))
theorem argsR_sat (hE : EOk N E) (w : Str) {s : PS} (h : WS N s) : Sat (argsR E w s) (fun x s' => Later N s s' ∧ s'.bl = s.bl ∧ ∀ roots,Forest (exL s.ex) roots → Forest (exL s'.ex) (x ++ roots)) (InN N) :=
 (args_sat hE w _ s [] h).mono fun x s' ⟨g,b,f⟩ => ⟨g,b,fun roots hf => f roots hf⟩
theorem list_sat (hE : EOk N E) {s : PS} (h : WS N s) (hk : (cur s).k ≠ 0) (hq : nowS s = s) {a : Int} (ha : 0 ≤ a ∧ a < N) : Sat (listR E s a) (fun e s' => Later N s s' ∧ s'.bl = s.bl ∧ (0 ≤ e.a ∧ e.a < N) ∧ ∀ roots,Forest (exL s.ex) roots → Forest (exL s'.ex) (e.args ++ roots)) (InN N) := by
 have hs := step_go h hk
 rw [hq] at hs
 have hw := hs.1.ws h
 have hn := now_go hw
 have ex1 : (nowS (step1 s)).ex = s.ex := (now_ex _).1
 have bl1 : (nowS (step1 s)).bl = s.bl := (now_ex _).2
 unfold listR
 simp only
 split
 · refine (argsR_sat hE [93] (hn.ws hw)).bind fun us s1 ⟨g1,b1,f1⟩ => ?_
   exact ⟨⟨hs.1.trans (hn.trans g1.1),by have := hs.2; have := hn.le; have := g1.2; omega⟩,b1.trans bl1,ha,fun roots hf => f1 roots (by rw [ex1]; exact hf)⟩
 · rename_i hc
   have hk1 : (cur (step1 s)).k ≠ 0 := fun e => hc (.inl (by rw [e]; decide))
   have h2 := step_go hw hk1
   refine (kind_sat (h2.1.ws hw) 1 (by decide)).bind fun t s2 ⟨g2,x2,b2,_⟩ => ?_
   have hw2 := g2.1.ws (h2.1.ws hw)
   refine (kind_sat hw2 1 (by decide)).bind fun u s3 ⟨g3,x3,b3,hu,_⟩ => ?_
   have hw3 := g3.1.ws hw2
   split
   · have := cur_pos hw2
     rw [hu]
     exact ⟨this.1,this.2.1⟩
   refine (hE s3 hw3).bind fun x s4 ⟨g4,b4,f4⟩ => ?_
   have hw4 := g4.1.ws hw3
   refine (want_sat hw4 [58]).bind fun _ s5 ⟨g5,x5,b5⟩ => ?_
   have hw5 := g5.1.ws hw4
   refine (hE s5 hw5).bind fun y s6 ⟨g6,b6,f6⟩ => ?_
   have hw6 := g6.1.ws hw5
   refine (want_sat hw6 [93]).bind fun _ s7 ⟨g7,x7,b7⟩ => ?_
   have e01 : (step1 (nowS (step1 s))).ex = s.ex := ex1
   have e02 : (step1 (nowS (step1 s))).bl = s.bl := bl1
   refine ⟨⟨hs.1.trans (h2.1.trans (g2.1.trans (g3.1.trans (g4.1.trans (g5.1.trans (g6.1.trans g7.1)))))),by have := hs.2; have := h2.2; have := g2.2; have := g3.2; have := g4.2; have := g5.2; have := g6.2; have := g7.2; omega⟩,
     b7.trans (b6.trans (b5.trans (b4.trans (b3.trans (b2.trans e02))))),ha,fun roots hf => ?_⟩
   rw [x7]
   have h1 := f4 roots (by rw [x3,x2,e01]; exact hf)
   have h2 := f6 _ (by rw [x5]; exact h1)
   exact h2.perm (List.Perm.swap _ _ _)
theorem obj_sat (hE : EOk N E) {a : Int} (ha : 0 ≤ a ∧ a < N) : ∀ (n : Nat) (s : PS) (us : List Nat) (ks : List Str),WS N s →
   Sat (objF E a n s us ks) (fun e s' => Later N s s' ∧ s'.bl = s.bl ∧ (0 ≤ e.a ∧ e.a < N) ∧ ∀ roots,Forest (exL s.ex) (us ++ roots) → Forest (exL s'.ex) (e.args ++ roots)) (InN N)
 | 0,s,_,_,h => ⟨Int.le_refl _,h.pN⟩
 | n + 1,s,us,ks,h => by
   have t1 := take_go h [125]
   simp only [objF]
   split
   · rename_i ht
     exact ⟨⟨t1.1,t1.2.1 ht⟩,t1.2.2.2,ha,fun roots hf => by rw [t1.2.2.1]; exact hf⟩
   have hw1 := t1.1.ws h
   have n1 := next_go hw1
   have hw2 := n1.1.ws hw1
   have hc := cur_pos hw1
   have hca : InN N (cur (takeS s [125]).2).a := ⟨hc.1,hc.2.1⟩
   refine Sat.bind (P := fun _ s3 => s3 = nextS (takeS s [125]).2 ∧ (cur (takeS s [125]).2).k ≠ 0) ?_ fun k s3 ⟨e3,hk0⟩ => ?_
   · split
     · rename_i hk
       exact (plain_sat hw2 hca).mono fun _ s3 e => ⟨e,by rw [hk]; decide⟩
     · split
       · rename_i hk
         exact ⟨rfl,by rw [hk]; decide⟩
       · exact hca
   subst e3
   split
   · exact hca
   refine (want_sat hw2 [61]).bind fun _ s4 ⟨g4,x4,b4⟩ => ?_
   have hw4 := g4.1.ws hw2
   refine (hE s4 hw4).bind fun x s5 ⟨g5,b5,f5⟩ => ?_
   have hw5 := g5.1.ws hw4
   have t5 := take_go hw5 [44]
   have hw6 := t5.1.ws hw5
   have n6 := now_go hw6
   have g05 := t1.1.trans (n1.1.trans (g4.1.trans (g5.1.trans t5.1)))
   split
   · have := cur_pos (n6.ws hw6)
     exact ⟨this.1,this.2.1⟩
   have l6 : ∃ s6,s6 = (if (takeS s5 [44]).1 = true then (takeS s5 [44]).2 else nowS (takeS s5 [44]).2) ∧ Go1 N (takeS s5 [44]).2 s6 ∧ s6.ex = (takeS s5 [44]).2.ex ∧ s6.bl = (takeS s5 [44]).2.bl := by
     refine ⟨_,rfl,?_⟩
     split
     · exact ⟨Go1.refl hw6,rfl,rfl⟩
     · exact ⟨n6,(now_ex _).1,(now_ex _).2⟩
   obtain ⟨s6,e6,g6,x6,b6⟩ := l6
   rw [← e6]
   have hw7 := g6.ws hw6
   have l7 := lines_go hw7
   refine Sat.mono (obj_sat hE ha n (linesS s6) (us ++ [x]) (ks ++ [k]) (l7.1.ws hw7)) fun e s8 ⟨g8,b8,ha8,f8⟩ => ⟨⟨g05.trans (g6.trans (l7.1.trans g8.1)),by have := g05.le; have := g6.le; have := l7.1.le; have := g8.2; omega⟩,
     b8.trans (l7.2.2.trans (b6.trans (t5.2.2.2.trans (b5.trans (b4.trans (n1.2.2.2.trans t1.2.2.2)))))),ha8,fun roots hf => f8 roots ?_⟩
   rw [l7.2.1,x6,t5.2.2.1]
   have := f5 (us ++ roots) (by rw [x4,n1.2.2.1,t1.2.2.1]; exact hf)
   refine this.perm ?_
   rw [List.append_assoc]
   exact (List.perm_middle).symm
end
end Go.Syn
namespace Go.Syn
open Go Go.Eng Go.Lex
theorem _root_.And.tr {N : Int} {s s1 s2 : PS} (h : Later N s s1) (h' : Later N s1 s2) : Later N s s2 := ⟨h.1.trans h'.1,Nat.lt_trans h.2 h'.2⟩
theorem Go1.tr {N : Int} {s s1 s2 : PS} (h : Go1 N s s1) (h' : Later N s1 s2) : Later N s s2 := ⟨h.trans h'.1,Nat.lt_of_le_of_lt h.le h'.2⟩
section
variable {N : Int} {E S : PS → R Nat}
theorem run_here {l : List Tok} {i : Nat} {t : Tok} (h : l[i]? = some t) (hk : t.k ≠ 5) : lineRun (l.drop i) = 0 := by
 have hlt := (List.getElem?_eq_some_iff.1 h).1
 rw [List.drop_eq_getElem_cons hlt]
 have : l[i] = t := (List.getElem?_eq_some_iff.1 h).2
 simp [lineRun,this,hk]
theorem now_here {N : Int} {s : PS} (h : WS N s) (hk : (tokI s).k ≠ 5) : nowS s = s := by
 unfold nowS
 split
 · rw [run_here (tok_some h) hk]
   rfl
 · rfl
theorem sign_here {N : Int} {s : PS} (h : WS N s) {w : Str} (hi : isS s w = true) (d : Nat) (q : Bool) : nowS { nowS s with deep := d,quiet := q } = { nowS s with deep := d,quiet := q } ∧ (cur { nowS s with deep := d,quiet := q }).k ≠ 0 ∧ (cur { nowS s with deep := d,quiet := q }).a = (cur s).a := by
 have hw := (now_go h).ws h
 have hk : (tokI (nowS s)).k = 4 := by
   unfold isS cur at hi
   simp only [Bool.and_eq_true,decide_eq_true_eq] at hi
   exact hi.1
 have e1 : nowS { nowS s with deep := d,quiet := q } = { nowS s with deep := d,quiet := q } := now_here (ws_frame hw d q) (by show (tokI (nowS s)).k ≠ 5; rw [hk]; decide)
 have e2 : (nowS s).off = s.off := by unfold nowS; split <;> rfl
 refine ⟨e1,?_,?_⟩
 · unfold cur
   rw [e1]
   show (tokI (nowS s)).k ≠ 0
   rw [hk]; decide
 · unfold cur
   rw [e1]
   show (tokI (nowS s)).a + (nowS s).off = (tokI (nowS s)).a + s.off
   rw [e2]
abbrev Leaves (N : Int) (s : PS) (x : Nat) (s' : PS) : Prop := Later N s s' ∧ s'.bl = s.bl ∧ ∀ roots,Forest (exL s.ex) roots → Forest (exL s'.ex) (x :: roots)
theorem put_later {s s1 : PS} (h : WS N s) (hg : Later N s s1) (hb : s1.bl = s.bl) {e : Ex} (ha : 0 ≤ e.a ∧ e.a < N) (hf : ∀ roots,Forest (exL s.ex) roots → Forest (exL s1.ex) (e.args ++ roots)) : Sat (putR s1 e) (Leaves N s) (InN N) :=
 (put_sat (hg.1.ws h) ha).mono fun x s2 ⟨g2,i2,b2,f2⟩ => ⟨⟨hg.1.trans g2,by have := hg.2; rw [i2]; exact this⟩,b2.trans hb,fun roots hr => f2 roots (hf roots hr)⟩
theorem atom_sat (hE : EOk N E) : EOk N (atomR E) := by
 intro s h
 have n1 := now_go h
 have hw1 := n1.ws h
 have hc := cur_pos h
 have x1 := now_ex s
 unfold atomR
 simp only
 split
 · rename_i hk
   have h2 := step_go h (by rw [hk]; decide)
   exact put_later h h2 x1.2 (e := ⟨4,(cur s).t,[],[],(cur s).a⟩) ⟨hc.1,hc.2.2.1 (by rw [hk]; decide)⟩ fun roots hr => by show Forest (exL (nowS s).ex) _; rw [x1.1]; exact hr
 split
 · rename_i hk
   have h2 := step_go h (by rw [hk]; decide)
   refine (text_sat hE (h2.1.ws h) (t := cur s) ⟨hc.1,hc.2.2.1 (by rw [hk]; decide)⟩ (hc.2.2.2.1 hk)).mono fun x s2 ⟨g2,b2,f2⟩ => ⟨⟨h2.1.trans g2,by have := h2.2; have := g2.le; omega⟩,b2.trans x1.2,fun roots hr => f2 roots (by show Forest (exL (nowS s).ex) _; rw [x1.1]; exact hr)⟩
 split
 · rename_i hk
   have hk0 : (cur s).k ≠ 0 := by rw [hk.1]; decide
   have h2 := step_go h hk0
   have hw2 := h2.1.ws h
   have n2 := now_go hw2
   have hw3 := n2.ws hw2
   have hat : 0 ≤ (cur s).a ∧ (cur s).a < N := ⟨hc.1,hc.2.2.1 hk0⟩
   split
   · rename_i hi
     have hc2 := cur_pos hw2
     refine Sat.bind (within_sat hw3 (a := (cur (step1 (nowS s))).a) (q := true) ⟨hc2.1,hc2.2.1⟩ (P := fun us s' => Later N { nowS (step1 (nowS s)) with deep := (nowS (step1 (nowS s))).deep + 1,quiet := true } s' ∧ s'.bl = s.bl ∧ ∀ roots,Forest (exL s.ex) roots → Forest (exL s'.ex) (us ++ roots)) fun hw => ?_) fun us s2 ⟨q,⟨g2,b2,f2⟩,e2⟩ => ?_
     · have hh := sign_here hw2 hi ((nowS (step1 (nowS s))).deep + 1) true
       have h4 := step_go hw hh.2.1
       rw [hh.1] at h4
       exact (argsR_sat hE [41] (h4.1.ws hw)).mono fun us s' ⟨g,b,f⟩ => ⟨h4.tr g,b.trans ((now_ex _).2.trans x1.2),fun roots hr => f roots (by show Forest (exL (nowS (step1 (nowS s))).ex) _; rw [(now_ex _).1]; show Forest (exL (nowS s).ex) _; rw [x1.1]; exact hr)⟩
     · subst e2
       have g2' := g2.1.back
       refine put_later h ⟨h2.1.trans (n2.trans g2'),?_⟩ b2 (e := ⟨12,(cur s).t,us,[],(cur s).a⟩) hat f2
       have := h2.2; have := n2.le; have := g2'.le
       omega
   · exact put_later h ⟨h2.1.trans n2,by have := h2.2; have := n2.le; omega⟩ ((now_ex _).2.trans x1.2) (e := ⟨namedK (cur s).t,if namedK (cur s).t = 9 then (cur s).t else [],[],[],(cur s).a⟩) hat fun roots hr => by rw [(now_ex _).1]; show Forest (exL (nowS s).ex) _; rw [x1.1]; exact hr
 have hca : InN N (cur s).a := ⟨hc.1,hc.2.1⟩
 have is_now : ∀ w,isS (nowS s) w = isS s w := fun w => by unfold isS; rw [cur_now]
 split
 · rename_i hi
   rw [is_now] at hi
   refine (within_sat hw1 (a := (cur s).a) (q := true) hca (P := fun x s' => Later N { nowS s with deep := (nowS s).deep + 1,quiet := true } s' ∧ s'.bl = s.bl ∧ ∀ roots,Forest (exL s.ex) roots → Forest (exL s'.ex) (x :: roots)) fun hw => ?_).mono fun x s2 ⟨q,⟨g2,b2,f2⟩,e2⟩ => ?_
   · have hh := sign_here h hi ((nowS s).deep + 1) true
     have h4 := step_go hw hh.2.1
     rw [hh.1] at h4
     refine (hE _ (h4.1.ws hw)).bind fun x q1 ⟨g1,b1,f1⟩ => ?_
     refine (want_sat (g1.1.ws (h4.1.ws hw)) [41]).bind fun _ q2 ⟨g2,e2,b2⟩ => ?_
     refine ⟨h4.tr (g1.tr g2),b2.trans (b1.trans x1.2),fun roots hr => ?_⟩
     rw [e2]
     exact f1 roots (by show Forest (exL (nowS s).ex) _; rw [x1.1]; exact hr)
   · subst e2
     have g2' := g2.1.back
     exact ⟨⟨n1.trans g2',by have := n1.le; have := g2.2; show s.i < q.i; simp only at this; omega⟩,b2,f2⟩
 split
 · rename_i hi
   rw [is_now] at hi
   refine Sat.bind (within_sat hw1 (a := (cur s).a) (q := true) hca (P := fun (e : Ex) s' => Later N { nowS s with deep := (nowS s).deep + 1,quiet := true } s' ∧ s'.bl = s.bl ∧ (0 ≤ e.a ∧ e.a < N) ∧ ∀ roots,Forest (exL s.ex) roots → Forest (exL s'.ex) (e.args ++ roots)) fun hw => ?_) fun e s2 ⟨q,⟨g2,b2,a2,f2⟩,e2⟩ => ?_
   · have hh := sign_here h hi ((nowS s).deep + 1) true
     refine (list_sat hE hw hh.2.1 hh.1 ⟨hc.1,hc.2.2.1 (is_kind hi)⟩).mono fun e s' ⟨g,b,a,f⟩ => ⟨g,b.trans x1.2,a,fun roots hr => f roots (by show Forest (exL (nowS s).ex) _; rw [x1.1]; exact hr)⟩
   · subst e2
     have g2' := g2.1.back
     exact put_later h ⟨n1.trans g2',by have := n1.le; have := g2.2; show s.i < q.i; simp only at this; omega⟩ b2 a2 f2
 split
 · rename_i hi
   rw [is_now] at hi
   refine Sat.bind (within_sat hw1 (a := (cur s).a) (q := false) hca (P := fun (e : Ex) s' => Later N { nowS s with deep := (nowS s).deep + 1,quiet := false } s' ∧ s'.bl = s.bl ∧ (0 ≤ e.a ∧ e.a < N) ∧ ∀ roots,Forest (exL s.ex) roots → Forest (exL s'.ex) (e.args ++ roots)) fun hw => ?_) fun e s2 ⟨q,⟨g2,b2,a2,f2⟩,e2⟩ => ?_
   · have hh := sign_here h hi ((nowS s).deep + 1) false
     have h4 := step_go hw hh.2.1
     rw [hh.1] at h4
     have l4 := lines_go (h4.1.ws hw)
     unfold objR
     refine (obj_sat hE ⟨hc.1,hc.2.2.1 (is_kind hi)⟩ _ _ [] [] (l4.1.ws (h4.1.ws hw))).mono fun e s' ⟨g,b,a,f⟩ => ⟨h4.tr (Go1.tr l4.1 g),b.trans (l4.2.2.trans x1.2),a,fun roots hr => f roots (by rw [l4.2.1]; show Forest (exL (nowS s).ex) _; rw [x1.1]; exact hr)⟩
   · subst e2
     have g2' := g2.1.back
     exact put_later h ⟨n1.trans g2',by have := n1.le; have := g2.2; show s.i < q.i; simp only at this; omega⟩ b2 a2 f2
 · exact hca
abbrev Grows (N : Int) (s : PS) (x : Nat) (y : Nat) (s' : PS) : Prop := Go1 N s s' ∧ s'.bl = s.bl ∧ ∀ roots,Forest (exL s.ex) (x :: roots) → Forest (exL s'.ex) (y :: roots)
theorem post_satF (hE : EOk N E) : ∀ (n : Nat) (s : PS) (x : Nat),WS N s → Sat (postF E n s x) (Grows N s x) (InN N)
 | 0,s,_,h => ⟨Int.le_refl _,h.pN⟩
 | n + 1,s,x,h => by
   have n1 := now_go h
   have hw1 := n1.ws h
   have hc := cur_pos h
   have x1 := now_ex s
   have is_now : ∀ w,isS (nowS s) w = isS s w := fun w => by unfold isS; rw [cur_now]
   have hca : InN N (cur s).a := ⟨hc.1,hc.2.1⟩
   have more : ∀ {s2 : PS} {e : Ex},Go1 N s s2 → s2.bl = s.bl → 0 ≤ e.a ∧ e.a < N → (∀ roots,Forest (exL s.ex) (x :: roots) → Forest (exL s2.ex) (e.args ++ roots)) → Sat ((putR s2 e).bind fun y s3 => postF E n s3 y) (Grows N s x) (InN N) := fun {s2 e} g2 b2 ha f2 => by
     refine (put_sat (g2.ws h) ha).bind fun y s3 ⟨g3,_,b3,f3⟩ => ?_
     exact (post_satF hE n s3 y (g3.ws (g2.ws h))).mono fun z s4 ⟨g4,b4,f4⟩ => ⟨g2.trans (g3.trans g4),b4.trans (b3.trans b2),fun roots hr => f4 roots (f3 roots (f2 roots hr))⟩
   simp only [postF]
   have t1 := take_go hw1 [46]
   split
   · rename_i ht
     have hk0 : (cur s).k ≠ 0 := by
       have : isS (nowS s) [46] = true := by
         unfold takeS at ht
         split at ht
         · assumption
         · cases ht
       rw [is_now] at this
       exact is_kind this
     have hw2 := t1.1.ws hw1
     refine (kind_sat hw2 1 (by decide)).bind fun u s2 ⟨g2,x2,b2,_⟩ => ?_
     exact more (e := ⟨10,u.t,[x],[],(cur s).a⟩) (n1.trans (t1.1.trans g2.1)) (b2.trans (t1.2.2.2.trans x1.2)) ⟨hc.1,hc.2.2.1 hk0⟩ fun roots hr => by rw [x2,t1.2.2.1,x1.1]; exact hr
   split
   · rename_i hi
     rw [is_now] at hi
     have hat : 0 ≤ (cur s).a ∧ (cur s).a < N := ⟨hc.1,hc.2.2.1 (is_kind hi)⟩
     refine Sat.bind (within_sat hw1 (a := (cur s).a) (q := true) hca (P := fun (o : Option Nat) s' => Go1 N { nowS s with deep := (nowS s).deep + 1,quiet := true } s' ∧ s'.bl = s.bl ∧ (o = none → s'.ex = s.ex) ∧ ∀ y,o = some y → ∀ roots,Forest (exL s.ex) roots → Forest (exL s'.ex) (y :: roots)) fun hw => ?_) fun o s2 ⟨q,⟨g2,b2,f2,f2'⟩,e2⟩ => ?_
     · have hh := sign_here h hi ((nowS s).deep + 1) true
       have h4 := step_go hw hh.2.1
       rw [hh.1] at h4
       have hw4 := h4.1.ws hw
       have t4 := take_go hw4 [42]
       have ex4 : (step1 { nowS s with deep := (nowS s).deep + 1,quiet := true }).ex = s.ex := x1.1
       have bl4 : (step1 { nowS s with deep := (nowS s).deep + 1,quiet := true }).bl = s.bl := x1.2
       split
       · refine (want_sat (t4.1.ws hw4) [93]).bind fun _ q2 ⟨g5,x5,b5⟩ => ?_
         exact ⟨h4.1.trans (t4.1.trans g5.1),b5.trans (t4.2.2.2.trans bl4),fun _ => x5.trans (t4.2.2.1.trans ex4),fun y e => by cases e⟩
       · refine (hE _ (t4.1.ws hw4)).bind fun y q1 ⟨g5,b5,f5⟩ => ?_
         refine (want_sat (g5.1.ws (t4.1.ws hw4)) [93]).bind fun _ q2 ⟨g6,x6,b6⟩ => ?_
         refine ⟨h4.1.trans (t4.1.trans (g5.1.trans g6.1)),b6.trans (b5.trans (t4.2.2.2.trans bl4)),fun e => (by cases e),fun z e roots hr => ?_⟩
         injection e with e
         subst e
         rw [x6]
         exact f5 roots (by rw [t4.2.2.1,ex4]; exact hr)
     · subst e2
       have g2' := g2.back
       have g02 := n1.trans g2'
       cases o with
       | some y =>
         simp only
         refine more (e := ⟨11,[],[x,y],[],(cur s).a⟩) g02 b2 hat fun roots hr => ?_
         exact (f2' y rfl _ hr).perm (List.Perm.swap _ _ _)
       | none =>
         simp only
         have hw2 := g02.ws h
         refine (want_sat hw2 [46]).bind fun _ s3 ⟨g3,x3,b3⟩ => ?_
         refine (kind_sat (g3.1.ws hw2) 1 (by decide)).bind fun u s4 ⟨g4,x4,b4,_⟩ => ?_
         exact more (e := ⟨30,u.t,[x],[],(cur s).a⟩) (g02.trans (g3.1.trans g4.1)) (b4.trans (b3.trans b2)) hat fun roots hr => by rw [x4,x3]; show Forest (exL q.ex) _; rw [f2 rfl]; exact hr
   · exact ⟨n1,x1.2,fun roots hr => by rw [x1.1]; exact hr⟩
theorem post_sat (hE : EOk N E) : EOk N (postR E) := by
 intro s h
 unfold postR
 refine (atom_sat hE s h).bind fun x s1 ⟨g1,b1,f1⟩ => ?_
 exact (post_satF hE _ s1 x (g1.1.ws h)).mono fun y s2 ⟨g2,b2,f2⟩ => ⟨⟨g1.1.trans g2,by have := g1.2; have := g2.le; omega⟩,b2.trans b1,fun roots hr => f2 roots (f1 roots hr)⟩
theorem sign_sat (hE : EOk N E) (hS : EOk N S) : EOk N (signR E S) := by
 intro s h
 have n1 := now_go h
 have hw1 := n1.ws h
 have hc := cur_pos h
 have x1 := now_ex s
 have is_now : ∀ w,isS (nowS s) w = isS s w := fun w => by unfold isS; rw [cur_now]
 have hca : InN N (cur s).a := ⟨hc.1,hc.2.1⟩
 have one : ∀ (w : Str) (k : Int),isS s w = true → Sat ((within (nowS s) (cur s).a (nowS s).quiet fun q => S (step1 q)).bind fun x s2 => putR s2 ⟨k,[],[x],[],(cur s).a⟩) (Leaves N s) (InN N) := fun w k hi => by
   refine Sat.bind (within_sat hw1 (a := (cur s).a) (q := (nowS s).quiet) hca (P := fun x s' => Later N { nowS s with deep := (nowS s).deep + 1,quiet := (nowS s).quiet } s' ∧ s'.bl = s.bl ∧ ∀ roots,Forest (exL s.ex) roots → Forest (exL s'.ex) (x :: roots)) fun hw => ?_) fun x s2 ⟨q,⟨g2,b2,f2⟩,e2⟩ => ?_
   · have hh := sign_here h hi ((nowS s).deep + 1) (nowS s).quiet
     have h4 := step_go hw hh.2.1
     rw [hh.1] at h4
     refine (hS _ (h4.1.ws hw)).mono fun x q1 ⟨g1,b1,f1⟩ => ⟨h4.tr g1,b1.trans x1.2,fun roots hr => f1 roots (by show Forest (exL (nowS s).ex) _; rw [x1.1]; exact hr)⟩
   · subst e2
     have g2' := g2.1.back
     exact put_later h ⟨n1.trans g2',by have := n1.le; have := g2.2; show s.i < q.i; simp only at this; omega⟩ b2 (e := ⟨k,[],[x],[],(cur s).a⟩) ⟨hc.1,hc.2.2.1 (is_kind hi)⟩ f2
 unfold signR
 simp only
 split
 · rename_i hi
   rw [is_now] at hi
   exact one [33] 14 hi
 split
 · rename_i hi
   rw [is_now] at hi
   exact one [45] 13 hi
 · exact (post_sat hE (nowS s) hw1).mono fun x s2 ⟨g2,b2,f2⟩ => ⟨⟨n1.trans g2.1,by have := n1.le; have := g2.2; omega⟩,b2.trans x1.2,fun roots hr => f2 roots (by rw [x1.1]; exact hr)⟩
theorem join_satF {J : PS → R Nat} (hJ : EOk N J) (k : Nat) : ∀ (f : Nat) (s : PS) (x : Nat),WS N s → Sat (joinF J k f s x) (Grows N s x) (InN N)
 | 0,s,_,h => ⟨Int.le_refl _,h.pN⟩
 | f + 1,s,x,h => by
   have n1 := now_go h
   have x1 := now_ex s
   have hc := cur_pos h
   simp only [joinF]
   split
   · exact ⟨n1,x1.2,fun roots hr => by rw [x1.1]; exact hr⟩
   · rename_i hl
     have hk0 : (cur s).k ≠ 0 := fun e => hl (by unfold levelK; rw [e]; rfl)
     have h2 := step_go h hk0
     refine (hJ _ (h2.1.ws h)).bind fun b s1 ⟨g1,b1,f1⟩ => ?_
     have g01 := h2.1.trans g1.1
     refine (put_sat (g01.ws h) (e := ⟨levelK (cur s) k,[],[x,b],[],(cur s).a⟩) ⟨hc.1,hc.2.2.1 hk0⟩).bind fun y s2 ⟨g2,_,b2,f2⟩ => ?_
     refine (join_satF hJ k f s2 y (g2.ws (g01.ws h))).mono fun z s3 ⟨g3,b3,f3⟩ => ⟨g01.trans (g2.trans g3),b3.trans (b2.trans (b1.trans x1.2)),fun roots hr => f3 roots (f2 roots ?_)⟩
     exact (f1 _ (by show Forest (exL (nowS s).ex) _; rw [x1.1]; exact hr)).perm (List.Perm.swap _ _ _)
theorem joinU_sat (hE : EOk N E) (hS : EOk N S) : ∀ m,EOk N (joinU E S m)
 | 0 => sign_sat hE hS
 | m + 1 => fun s h => by
   simp only [joinU]
   refine (joinU_sat hE hS m s h).bind fun a s1 ⟨g1,b1,f1⟩ => ?_
   exact (join_satF (joinU_sat hE hS m) (5 - m) _ s1 a (g1.1.ws h)).mono fun y s2 ⟨g2,b2,f2⟩ => ⟨⟨g1.1.trans g2,by have := g1.2; have := g2.le; omega⟩,b2.trans b1,fun roots hr => f2 roots (f1 roots hr)⟩
theorem expr_sat (hE : EOk N E) (hS : EOk N S) : EOk N (exprR E S) := by
 intro s h
 unfold exprR
 refine (joinU_sat hE hS 6 s h).bind fun a s1 ⟨g1,b1,f1⟩ => ?_
 have hw1 := g1.1.ws h
 have hc := cur_pos hw1
 have t1 := take_go hw1 [63]
 have hw2 := t1.1.ws hw1
 simp only
 split
 · rename_i ht
   have hk0 : (cur s1).k ≠ 0 := by
     have : isS s1 [63] = true := by
       unfold takeS at ht
       split at ht
       · assumption
       · cases ht
     exact is_kind this
   refine Sat.bind (within_sat hw2 (a := (cur s1).a) (q := (takeS s1 [63]).2.quiet) ⟨hc.1,hc.2.1⟩ (P := fun (z : Nat × Nat) s' => Go1 N { (takeS s1 [63]).2 with deep := (takeS s1 [63]).2.deep + 1,quiet := (takeS s1 [63]).2.quiet } s' ∧ s'.bl = s.bl ∧ ∀ roots,Forest (exL s.ex) roots → Forest (exL s'.ex) ([a,z.1,z.2] ++ roots)) fun hw => ?_) fun z s2 ⟨q,⟨g2,b2,f2⟩,e2⟩ => ?_
   · refine (hE _ hw).bind fun x q1 ⟨g3,b3,f3⟩ => ?_
     have hw3 := g3.1.ws hw
     refine (want_sat hw3 [58]).bind fun _ q2 ⟨g4,x4,b4⟩ => ?_
     have hw4 := g4.1.ws hw3
     refine (hE _ hw4).bind fun y q3 ⟨g5,b5,f5⟩ => ?_
     refine ⟨g3.1.trans (g4.1.trans g5.1),b5.trans (b4.trans (b3.trans (t1.2.2.2.trans b1))),fun roots hr => ?_⟩
     have k1 := f3 _ (by show Forest (exL (takeS s1 [63]).2.ex) _; rw [t1.2.2.1]; exact f1 roots hr)
     have k2 := f5 _ (by rw [x4]; exact k1)
     refine k2.perm ?_
     show (y :: x :: a :: roots).Perm (a :: x :: y :: roots)
     exact ((List.Perm.swap x y _).trans ((List.Perm.swap a y _).cons x)).trans (List.Perm.swap a x _)
   · subst e2
     have g2' := g2.back
     exact put_later h ⟨g1.1.trans (t1.1.trans g2'),by have := g1.2; have := t1.1.le; have := g2.le; show s.i < q.i; simp only at this; omega⟩ b2 (e := ⟨28,[],[a,z.1,z.2],[],(cur s1).a⟩) ⟨hc.1,hc.2.2.1 hk0⟩ f2
 · exact ⟨⟨g1.1.trans t1.1,by have := g1.2; have := t1.1.le; omega⟩,t1.2.2.2.trans b1,fun roots hr => by rw [t1.2.2.1]; exact f1 roots hr⟩
end
theorem dead_ok (N : Int) : EOk N dead := fun _ h => ⟨Int.le_refl _,h.pN⟩
theorem exprD_ok (N : Int) : ∀ d,EOk N (exprD d).1 ∧ EOk N (exprD d).2
 | 0 => ⟨expr_sat (dead_ok N) (dead_ok N),sign_sat (dead_ok N) (dead_ok N)⟩
 | d + 1 => ⟨expr_sat (exprD_ok N d).1 (exprD_ok N d).2,sign_sat (exprD_ok N d).1 (exprD_ok N d).2⟩
end Go.Syn
namespace Go.Syn
open Go Go.Eng Go.Lex
def wt (t : Tok) : Nat := if t.k = 0 then 0 else if t.k = 3 ∧ (insP t.t).isSome = true then t.t.length + 2 else 1
def wts (l : List Tok) : Nat := (l.map wt).sum
def phi (s : PS) : Nat := s.ex.length + s.bl.length + wts (s.toks.drop s.i)
theorem wts_cons (t : Tok) (l : List Tok) : wts (t :: l) = wt t + wts l := by simp [wts]
theorem wts_drop : ∀ (l : List Tok) (i : Nat),wts (l.drop i) ≤ wts l
 | [],i => by simp
 | t :: l,0 => Nat.le_refl _
 | t :: l,i + 1 => by
   rw [List.drop_succ_cons,wts_cons]
   have := wts_drop l i
   omega
theorem scanF_wt : ∀ (n : Nat) (s : Str) (a cnt : Nat) (l : List Tok),scanF n s a cnt = .ok l → wts l ≤ s.length
 | 0,_,_,_,_,h => by simp [scanF] at h
 | n + 1,s,a,cnt,l,h => by
   have hk := skip_le (s.length + 1) s
   simp only [scanF] at h
   split at h
   · cases h
   split at h
   · injection h with h
     subst h
     rw [wts_cons]
     simp [wt,wts]
   rename_i hr
   split at h
   · cases h
   rename_i ho
   split at h
   · cases h
   have hlen : s.length - (skipF (s.length + 1) s).1 = (s.drop (skipF (s.length + 1) s).1).length := (List.length_drop ..).symm
   obtain ⟨o1,o2,o3,o4,o5,o6⟩ := one_ok hr (Prod.ext rfl (Prod.ext rfl (Classical.not_not.1 ho)) : oneM (s.drop (skipF (s.length + 1) s).1) = ((oneM (s.drop (skipF (s.length + 1) s).1)).1,(oneM (s.drop (skipF (s.length + 1) s).1)).2.1,0))
   split at h
   · rename_i l' hl'
     injection h with h
     subst h
     have ih := scanF_wt n _ _ _ _ hl'
     rw [List.length_drop] at ih
     rw [wts_cons]
     have : wt ⟨(oneM (s.drop (skipF (s.length + 1) s).1)).1.k,(oneM (s.drop (skipF (s.length + 1) s).1)).1.t,((a + (skipF (s.length + 1) s).1 : Nat) : Int)⟩ ≤ (oneM (s.drop (skipF (s.length + 1) s).1)).2.1 := by
       unfold wt
       split
       · omega
       split
       · rename_i hx
         rcases o6 hx.1 with h | h
         · rw [h] at hx; simp at hx
         · exact h
       · omega
     omega
   · rename_i hne
     exact absurd h (hne l)
theorem scan_wt {s : Str} {l : List Tok} (h : scanM s = .ok l) : wts l ≤ s.length := by
 unfold scanM at h
 split at h
 · cases h
 split at h
 · cases h
 exact scanF_wt _ _ _ _ _ h
abbrev TT : Int → Prop := fun _ => True
theorem phi_now (s : PS) : phi (nowS s) ≤ phi s := by
 unfold nowS
 split
 · unfold phi
   simp only
   have := wts_drop (s.toks.drop s.i) (lineRun (s.toks.drop s.i))
   rw [List.drop_drop] at this
   omega
 · exact Nat.le_refl _
theorem phi_step {s : PS} (h : (tokI s).k ≠ 0) : phi (step1 s) + wt (tokI s) ≤ phi s := by
 have hlt : s.i < s.toks.length := by
   by_cases hl : s.i < s.toks.length
   · exact hl
   · unfold tokI at h
     rw [List.getD_eq_getElem?_getD,List.getElem?_eq_none (by omega)] at h
     exact absurd rfl h
 unfold phi step1
 simp only
 rw [List.drop_eq_getElem_cons hlt,wts_cons]
 have : tokI s = s.toks[s.i] := by unfold tokI; rw [List.getD_eq_getElem?_getD,List.getElem?_eq_getElem hlt]; rfl
 rw [this]
 omega
theorem wt_pos {t : Tok} (h : t.k ≠ 0) : 1 ≤ wt t := by unfold wt; rw [if_neg h]; split <;> omega
theorem phi_go {s : PS} (h : (cur s).k ≠ 0) : phi (step1 (nowS s)) + wt (tokI (nowS s)) ≤ phi s ∧ phi (step1 (nowS s)) + 1 ≤ phi s := by
 have h' : (tokI (nowS s)).k ≠ 0 := h
 have h1 := phi_step h'
 have h2 := phi_now s
 have h3 := wt_pos h'
 omega
theorem phi_take (s : PS) (w : Str) : phi (takeS s w).2 ≤ phi s ∧ ((takeS s w).1 = true → phi (takeS s w).2 + 1 ≤ phi s) := by
 unfold takeS
 split
 · rename_i hi
   have := (phi_go (is_kind hi)).2
   exact ⟨Nat.le_of_succ_le this,fun _ => this⟩
 · exact ⟨phi_now s,fun e => by cases e⟩
theorem phi_want (s : PS) (w : Str) : Sat (wantR s w) (fun _ s' => phi s' + 1 ≤ phi s) TT := by
 unfold wantR
 split
 · rename_i hi
   exact (phi_go (is_kind hi)).2
 · trivial
theorem phi_next (s : PS) : phi (nextS s) ≤ phi s ∧ ((cur s).k ≠ 0 → phi (nextS s) + wt (tokI (nowS s)) ≤ phi s ∧ phi (nextS s) + 1 ≤ phi s) := by
 unfold nextS
 split
 · rename_i hk
   have := phi_go hk
   exact ⟨by omega,fun _ => this⟩
 · rename_i hk
   exact ⟨phi_now s,fun e => absurd e hk⟩
theorem phi_kind (s : PS) (k : Int) : Sat (kindR s k) (fun _ s' => phi s' ≤ phi s ∧ (k ≠ 0 → phi s' + 1 ≤ phi s)) TT := by
 unfold kindR
 split
 · rename_i hk
   have := phi_next s
   exact ⟨this.1,fun h => (this.2 (by rw [hk]; exact h)).2⟩
 · trivial
theorem phi_lines (s : PS) : phi (linesS s) ≤ phi s := by
 have h := phi_now s
 unfold linesS phi at *
 simp only at *
 have e : (nowS s).toks = s.toks := by unfold nowS; split <;> rfl
 have := wts_drop ((nowS s).toks.drop (nowS s).i) (lineRun (s.toks.drop (nowS s).i))
 rw [List.drop_drop] at this
 omega
theorem phi_put (s : PS) (e : Ex) : Sat (putR s e) (fun _ s' => phi s' ≤ phi s + 1) TT := by
 show phi _ ≤ _
 unfold phi
 simp only [List.length_append,List.length_cons,List.length_nil]
 omega
theorem phi_within {α : Type} {s : PS} {a : Int} {q : Bool} {f : PS → R α} {P : α → Nat → Prop} (h : Sat (f { s with deep := s.deep + 1,quiet := q }) (fun x s' => P x (phi s')) TT) : Sat (within s a q f) (fun x s' => P x (phi s')) TT := by
 unfold within
 split
 · trivial
 · exact h.bind fun x s' hx => hx
def EZ (F : PS → R Nat) : Prop := ∀ s,Sat (F s) (fun _ s' => phi s' ≤ phi s) TT
section
variable {E S : PS → R Nat}
theorem phi_inner (hE : EZ E) (s : PS) (t : Str) (a : Int) : Sat (innerR E s t a) (fun _ s' => phi s' ≤ phi s + t.length) TT := by
 unfold innerR
 split
 · trivial
 · rename_i l hs
   have hw := scan_wt hs
   refine (hE _).bind fun x q hq => ?_
   refine (phi_kind q 0).bind fun _ q' hq' => ?_
   have h1 : phi q' ≤ s.ex.length + s.bl.length + wts l := Nat.le_trans hq'.1 hq
   show phi _ ≤ _
   unfold phi at h1 ⊢
   simp only
   omega
theorem phi_plain (s : PS) (t : Tok) : Sat (plainR s t) (fun _ s' => s' = s) TT := by
 unfold plainR
 split
 · trivial
 · rfl
theorem phi_parts (hE : EZ E) : ∀ (n : Nat) (s : PS) (rest : Str) (a : Int) (us : List Nat) (ks : List Str),Sat (partsF E n s rest a us ks) (fun _ s' => phi s' ≤ phi s + rest.length) TT
 | 0,_,_,_,_,_ => trivial
 | n + 1,s,rest,a,us,ks => by
   have one : ∀ (e : Ex),phi { s with ex := s.ex ++ [e] } ≤ phi s + 1 := fun e => phi_put s e
   simp only [partsF]
   split
   · exact Nat.le_add_right _ _
   rename_i hne
   have hpos : 1 ≤ rest.length := List.length_pos_iff.2 hne
   split
   · have := one ⟨5,saysM rest,[],[],a⟩
     show phi _ ≤ _
     omega
   · rename_i i e hi
     obtain ⟨i1,i2,i3⟩ := ins_some rest.length rest (Nat.le_refl _) i e hi
     have hs1 : ∃ s1,s1 = (if 0 < i then { s with ex := s.ex ++ [⟨5,saysM (rest.take i),[],[],a⟩] } else s) ∧ phi s1 ≤ phi s + i := by
       refine ⟨_,rfl,?_⟩
       split
       · have := one ⟨5,saysM (rest.take i),[],[],a⟩
         omega
       · omega
     obtain ⟨s1,e1,g1⟩ := hs1
     rw [← e1]
     have hd : (rest.drop e).length = rest.length - e := List.length_drop ..
     split
     · refine Sat.bind (phi_within (P := fun _ n => n ≤ phi s1 + (e - 1 - (i + 2))) ?_) fun x s2 h2 => ?_
       · refine (phi_inner hE _ _ _).mono fun x s' h => ?_
         refine Nat.le_trans h ?_
         have : ((rest.drop (i + 2)).take (e - 1 - (i + 2))).length ≤ e - 1 - (i + 2) := List.length_take_le _ _
         exact Nat.add_le_add_left this _
       · refine (phi_parts hE n s2 (rest.drop e) _ _ _).mono fun y s3 h3 => ?_
         rw [hd] at h3
         omega
     · refine (phi_parts hE n s1 (rest.drop e) _ _ _).mono fun y s3 h3 => ?_
       rw [hd] at h3
       omega
theorem phi_text (hE : EZ E) (s : PS) (t : Tok) (hk : t.k = 3) : Sat (textR E s t) (fun _ s' => phi s' ≤ phi s + wt t) TT := by
 unfold textR
 split
 · rename_i hi
   have e : wt t = t.t.length + 2 := by unfold wt; rw [if_neg (by omega),if_pos ⟨hk,hi⟩]
   refine (phi_parts hE _ s t.t _ _ _).bind fun x s1 h1 => ?_
   refine (phi_put s1 _).mono fun y s2 h2 => ?_
   omega
 · rename_i hi
   have e : wt t = 1 := by unfold wt; rw [if_neg (by omega),if_neg (fun h => hi h.2)]
   rw [e]
   exact phi_put s _
theorem phi_argsF (hE : EZ E) (w : Str) : ∀ (n : Nat) (s : PS) (out : List Nat),Sat (argsF E w n s out) (fun _ s' => phi s' ≤ phi s) TT
 | 0,_,_ => trivial
 | n + 1,s,out => by
   have t1 := phi_take s w
   have step : ∀ {s1 : PS},phi s1 ≤ phi s → Sat ((E s1).bind fun x s' => argsF E w n s' (out ++ [x])) (fun _ s' => phi s' ≤ phi s) TT := fun {s1} g1 =>
     (hE s1).bind fun x s2 g2 => (phi_argsF hE w n s2 (out ++ [x])).mono fun y s3 g3 => by omega
   simp only [argsF]
   split
   · exact t1.1
   split
   · rename_i ho
     have := step t1.1
     exact this
   · refine (phi_want _ [44]).bind fun _ s1 g1 => ?_
     have t2 := phi_take s1 w
     split
     · show phi _ ≤ _
       omega
     · exact step (by omega)
theorem phi_args (hE : EZ E) (w : Str) (s : PS) : Sat (argsR E w s) (fun _ s' => phi s' ≤ phi s) TT := phi_argsF hE w _ s []
theorem phi_list (hE : EZ E) {s : PS} (h : (cur s).k ≠ 0) (hn : nowS s = s) (a : Int) : Sat (listR E s a) (fun _ s' => phi s' + 1 ≤ phi s) TT := by
 have h0 := (phi_go h).2
 rw [hn] at h0
 have h1 := phi_now (step1 s)
 unfold listR
 simp only
 split
 · refine (phi_args hE [93] _).bind fun us s1 g1 => ?_
   show phi s1 + 1 ≤ _
   omega
 · rename_i hc
   have hk1 : (cur (step1 s)).k ≠ 0 := fun e => hc (.inl (by rw [e]; decide))
   have h2 := (phi_go hk1).2
   refine (phi_kind _ 1).bind fun t s2 g2 => (phi_kind s2 1).bind fun u s3 g3 => ?_
   split
   · trivial
   refine (hE s3).bind fun x s4 g4 => (phi_want s4 _).bind fun _ s5 g5 => (hE s5).bind fun y s6 g6 => (phi_want s6 _).bind fun _ s7 g7 => ?_
   show phi s7 + 1 ≤ _
   omega
theorem phi_objF (hE : EZ E) (a : Int) : ∀ (n : Nat) (s : PS) (us : List Nat) (ks : List Str),Sat (objF E a n s us ks) (fun _ s' => phi s' ≤ phi s) TT
 | 0,_,_,_ => trivial
 | n + 1,s,us,ks => by
   have t1 := phi_take s [125]
   have n1 := phi_next (takeS s [125]).2
   simp only [objF]
   split
   · exact t1.1
   refine Sat.bind (P := fun _ s3 => s3 = nextS (takeS s [125]).2) ?_ fun k s3 e3 => ?_
   · split
     · exact phi_plain _ _
     · split
       · rfl
       · trivial
   subst e3
   split
   · trivial
   refine (phi_want _ [61]).bind fun _ s4 g4 => (hE s4).bind fun x s5 g5 => ?_
   have t5 := phi_take s5 [44]
   have m5 := phi_now (takeS s5 [44]).2
   split
   · trivial
   have l6 : phi (if (takeS s5 [44]).1 = true then (takeS s5 [44]).2 else nowS (takeS s5 [44]).2) ≤ phi s5 := by split <;> omega
   generalize (if (takeS s5 [44]).1 = true then (takeS s5 [44]).2 else nowS (takeS s5 [44]).2) = s6 at *
   have l7 := phi_lines s6
   refine (phi_objF hE a n (linesS s6) _ _).mono fun e s8 g8 => ?_
   omega
theorem phi_atom (hE : EZ E) : EZ (atomR E) := by
 intro s
 have n1 := phi_now s
 have is_now : ∀ w,isS (nowS s) w = isS s w := fun w => by unfold isS; rw [cur_now]
 unfold atomR
 simp only
 split
 · rename_i hk
   have h2 := (phi_go (s := s) (by rw [hk]; decide)).2
   exact (phi_put _ _).mono fun x s' g => by omega
 split
 · rename_i hk
   have h2 := (phi_go (s := s) (by rw [hk]; decide)).1
   refine (phi_text hE _ _ hk).mono fun x s' g => ?_
   have e : wt (cur s) = wt (tokI (nowS s)) := rfl
   omega
 split
 · rename_i hk
   have h2 := (phi_go (s := s) (by rw [hk.1]; decide)).2
   have n2 := phi_now (step1 (nowS s))
   split
   · rename_i hi
     refine Sat.bind (phi_within (P := fun _ n => n ≤ phi (nowS (step1 (nowS s)))) ?_) fun us s2 g2 => ?_
     · refine (phi_args hE [41] _).mono fun x s' g => Nat.le_trans g ?_
       show phi (step1 _) ≤ _
       exact Nat.add_le_add_left (by have := wts_drop ((nowS (step1 (nowS s))).toks.drop (nowS (step1 (nowS s))).i) 1; rw [List.drop_drop] at this; exact this) _
     · exact (phi_put s2 _).mono fun x s' g => by omega
   · exact (phi_put _ _).mono fun x s' g => by omega
 have step1_le : ∀ (s : PS),phi (step1 s) ≤ phi s := fun s => Nat.add_le_add_left (by have := wts_drop (s.toks.drop s.i) 1; rw [List.drop_drop] at this; exact this) _
 have ph : ∀ (s : PS) (d : Nat) (q : Bool),phi { s with deep := d,quiet := q } = phi s := fun _ _ _ => rfl
 split
 · refine Sat.mono (phi_within (P := fun _ n => n ≤ phi (nowS s)) ?_) fun x s' g => by omega
   refine (hE _).bind fun x q1 g1 => (phi_want q1 _).bind fun _ q2 g2 => ?_
   show phi q2 ≤ _
   have h1 := step1_le (nowS s)
   have h2 : phi q1 ≤ phi (step1 (nowS s)) := g1
   omega
 split
 · rename_i hi
   rw [is_now] at hi
   have hk : (tokI (nowS s)).k ≠ 0 := is_kind hi
   have h4 : (tokI (nowS s)).k = 4 := by
     unfold isS cur at hi
     simp only [Bool.and_eq_true,decide_eq_true_eq] at hi
     exact hi.1
   refine Sat.bind (phi_within (P := fun _ n => n + 1 ≤ phi (nowS s)) ?_) fun e s2 g2 => ?_
   · have hr : nowS { nowS s with deep := (nowS s).deep + 1,quiet := true } = { nowS s with deep := (nowS s).deep + 1,quiet := true } := by
       have hlt : (nowS s).i < (nowS s).toks.length := by
         by_cases hl : (nowS s).i < (nowS s).toks.length
         · exact hl
         · unfold tokI at hk
           rw [List.getD_eq_getElem?_getD,List.getElem?_eq_none (by omega)] at hk
           exact absurd rfl hk
       have : lineRun ((nowS s).toks.drop (nowS s).i) = 0 := by
         refine run_here (t := tokI (nowS s)) ?_ (by omega)
         unfold tokI
         rw [List.getD_eq_getElem?_getD,List.getElem?_eq_getElem hlt]; rfl
       unfold nowS
       simp only [if_true]
       show ({ nowS s with i := (nowS s).i + lineRun ((nowS s).toks.drop (nowS s).i),deep := (nowS s).deep + 1,quiet := true } : PS) = _
       rw [this]
       rfl
     refine (phi_list hE ?_ hr _).mono fun e s' g => g
     unfold cur
     rw [hr]
     exact hk
   · exact (phi_put s2 _).mono fun x s' g => by omega
 split
 · rename_i hi
   rw [is_now] at hi
   have hk : (tokI (nowS s)).k ≠ 0 := is_kind hi
   have h1 := phi_step hk
   have h2 := wt_pos hk
   refine Sat.bind (phi_within (P := fun _ n => n + 1 ≤ phi (nowS s)) ?_) fun e s2 g2 => ?_
   · unfold objR
     refine (phi_objF hE _ _ _ [] []).mono fun e s' g => ?_
     have h3 := phi_lines (step1 (⟨(nowS s).toks,(nowS s).i,(nowS s).off,(nowS s).deep + 1,false,(nowS s).ex,(nowS s).bl⟩ : PS))
     have h4 : phi (step1 (⟨(nowS s).toks,(nowS s).i,(nowS s).off,(nowS s).deep + 1,false,(nowS s).ex,(nowS s).bl⟩ : PS)) = phi (step1 (nowS s)) := rfl
     omega
   · exact (phi_put s2 _).mono fun x s' g => by omega
 · trivial
theorem phi_postF (hE : EZ E) : ∀ (n : Nat) (s : PS) (x : Nat),Sat (postF E n s x) (fun _ s' => phi s' ≤ phi s) TT
 | 0,_,_ => trivial
 | n + 1,s,x => by
   have n1 := phi_now s
   have t1 := phi_take (nowS s) [46]
   have is_now : ∀ w,isS (nowS s) w = isS s w := fun w => by unfold isS; rw [cur_now]
   have step1_le : ∀ (s : PS),phi (step1 s) ≤ phi s := fun s => Nat.add_le_add_left (by have := wts_drop (s.toks.drop s.i) 1; rw [List.drop_drop] at this; exact this) _
   simp only [postF]
   split
   · rename_i ht
     refine (phi_kind _ 1).bind fun u s2 g2 => (phi_put s2 _).bind fun y s3 g3 => (phi_postF hE n s3 y).mono fun z s4 g4 => ?_
     have := t1.2 ht
     have := g2.2 (by decide)
     omega
   split
   · rename_i hi
     rw [is_now] at hi
     have hk : (tokI (nowS s)).k ≠ 0 := is_kind hi
     have h1 := phi_step hk
     have h2 := wt_pos hk
     refine Sat.bind (phi_within (P := fun _ n => n + 1 ≤ phi (nowS s)) ?_) fun o s2 g2 => ?_
     · have h4 : phi (step1 (⟨(nowS s).toks,(nowS s).i,(nowS s).off,(nowS s).deep + 1,true,(nowS s).ex,(nowS s).bl⟩ : PS)) = phi (step1 (nowS s)) := rfl
       have t5 := phi_take (step1 (⟨(nowS s).toks,(nowS s).i,(nowS s).off,(nowS s).deep + 1,true,(nowS s).ex,(nowS s).bl⟩ : PS)) [42]
       split
       · refine (phi_want _ _).bind fun _ q2 g => ?_
         show phi q2 + 1 ≤ _
         omega
       · refine (hE _).bind fun y q1 g => (phi_want q1 _).bind fun _ q2 g' => ?_
         show phi q2 + 1 ≤ _
         omega
     · cases o with
       | some y =>
         simp only
         exact (phi_put s2 _).bind fun z s3 g3 => (phi_postF hE n s3 z).mono fun z s4 g4 => by omega
       | none =>
         simp only
         exact (phi_want s2 _).bind fun _ s3 g3 => (phi_kind s3 1).bind fun u s4 g4 => (phi_put s4 _).bind fun z s5 g5 => (phi_postF hE n s5 z).mono fun z s6 g6 => by have := g4.1; omega
   · exact n1
theorem phi_post (hE : EZ E) : EZ (postR E) := fun s => by
 unfold postR
 exact (phi_atom hE s).bind fun x s1 g1 => (phi_postF hE _ s1 x).mono fun y s2 g2 => by omega
theorem phi_sign (hE : EZ E) (hS : EZ S) : EZ (signR E S) := by
 intro s
 have n1 := phi_now s
 have is_now : ∀ w,isS (nowS s) w = isS s w := fun w => by unfold isS; rw [cur_now]
 have one : ∀ (w : Str) (k : Int),isS s w = true → Sat ((within (nowS s) (cur s).a (nowS s).quiet fun q => S (step1 q)).bind fun x s2 => putR s2 ⟨k,[],[x],[],(cur s).a⟩) (fun _ s' => phi s' ≤ phi s) TT := fun w k hi => by
   have hk : (tokI (nowS s)).k ≠ 0 := is_kind hi
   have h1 := phi_step hk
   have h2 := wt_pos hk
   refine Sat.bind (phi_within (P := fun _ n => n + 1 ≤ phi (nowS s)) ?_) fun x s2 g2 => ?_
   · refine (hS _).mono fun x s' g => ?_
     have h4 : phi (step1 (⟨(nowS s).toks,(nowS s).i,(nowS s).off,(nowS s).deep + 1,(nowS s).quiet,(nowS s).ex,(nowS s).bl⟩ : PS)) = phi (step1 (nowS s)) := rfl
     omega
   · exact (phi_put s2 _).mono fun y s3 g3 => by omega
 unfold signR
 simp only
 split
 · rename_i hi
   rw [is_now] at hi
   exact one [33] 14 hi
 split
 · rename_i hi
   rw [is_now] at hi
   exact one [45] 13 hi
 · exact (phi_post hE (nowS s)).mono fun x s2 g2 => by omega
theorem phi_joinF {J : PS → R Nat} (hJ : EZ J) (k : Nat) : ∀ (f : Nat) (s : PS) (x : Nat),Sat (joinF J k f s x) (fun _ s' => phi s' ≤ phi s) TT
 | 0,_,_ => trivial
 | f + 1,s,x => by
   have n1 := phi_now s
   simp only [joinF]
   split
   · exact n1
   · rename_i hl
     have hk0 : (cur s).k ≠ 0 := fun e => hl (by unfold levelK; rw [e]; rfl)
     have h2 := (phi_go hk0).2
     exact (hJ _).bind fun b s1 g1 => (phi_put s1 _).bind fun y s2 g2 => (phi_joinF hJ k f s2 y).mono fun z s3 g3 => by omega
theorem phi_joinU (hE : EZ E) (hS : EZ S) : ∀ m,EZ (joinU E S m)
 | 0 => phi_sign hE hS
 | m + 1 => fun s => by
   simp only [joinU]
   exact (phi_joinU hE hS m s).bind fun a s1 g1 => (phi_joinF (phi_joinU hE hS m) _ _ s1 a).mono fun y s2 g2 => by omega
theorem phi_expr (hE : EZ E) (hS : EZ S) : EZ (exprR E S) := by
 intro s
 unfold exprR
 refine (phi_joinU hE hS 6 s).bind fun a s1 g1 => ?_
 have t1 := phi_take s1 [63]
 simp only
 split
 · rename_i ht
   refine Sat.bind (phi_within (P := fun _ n => n ≤ phi (takeS s1 [63]).2) ?_) fun z s2 g2 => ?_
   · refine (hE _).bind fun x q1 g3 => (phi_want q1 _).bind fun _ q2 g4 => (hE q2).bind fun y q3 g5 => ?_
     have h4 : phi (⟨(takeS s1 [63]).2.toks,(takeS s1 [63]).2.i,(takeS s1 [63]).2.off,(takeS s1 [63]).2.deep + 1,(takeS s1 [63]).2.quiet,(takeS s1 [63]).2.ex,(takeS s1 [63]).2.bl⟩ : PS) = phi (takeS s1 [63]).2 := rfl
     show phi q3 ≤ _
     omega
   · exact (phi_put s2 _).mono fun y s3 g3 => by have := t1.2 ht; omega
 · show phi _ ≤ _
   omega
end
theorem dead_z : EZ dead := fun _ => trivial
theorem exprD_z : ∀ d,EZ (exprD d).1 ∧ EZ (exprD d).2
 | 0 => ⟨phi_expr dead_z dead_z,phi_sign dead_z dead_z⟩
 | d + 1 => ⟨phi_expr (exprD_z d).1 (exprD_z d).2,phi_sign (exprD_z d).1 (exprD_z d).2⟩
section
variable {E B : PS → R Nat}
theorem phi_labels : ∀ (n : Nat) (s : PS) (ls : List Str),Sat (labelsF n s ls) (fun _ s' => phi s' ≤ phi s) TT
 | 0,_,_ => trivial
 | n + 1,s,ls => by
   have n1 := phi_next s
   simp only [labelsF]
   split
   · exact (phi_plain _ _).bind fun l s1 e1 => by subst e1; exact (phi_labels n _ (ls ++ [l])).mono fun _ s2 g => by omega
   · exact phi_now s
theorem wts_le (l : List Tok) {i j : Nat} (h : i ≤ j) : wts (l.drop j) ≤ wts (l.drop i) := by
 have := wts_drop (l.drop i) (j - i)
 rw [List.drop_drop,show i + (j - i) = j by omega] at this
 exact this
theorem now_i (s : PS) : s.i ≤ (nowS s).i := by unfold nowS; split; exact Nat.le_add_right _ _; exact Nat.le_refl _
theorem phi_item (hE : EZ E) (hB : EZ B) (s : PS) (us : List Atr) (bs : List Nat) : Sat (itemR E B s us bs) (fun _ s' => phi s' ≤ phi s) TT := by
 unfold itemR
 refine Sat.bind (P := fun _ s1 => s1 = step1 (nowS s) ∧ phi s1 + 1 ≤ phi s) ?_ fun t s1 ⟨e1,h1⟩ => ?_
 · unfold kindR
   split
   · rename_i hk
     have hk0 : (cur s).k ≠ 0 := by rw [hk]; decide
     refine ⟨by unfold nextS; rw [if_pos hk0],((phi_next s).2 hk0).2⟩
   · trivial
 have t1 := phi_take s1 [61]
 split
 · exact (hE _).bind fun x s2 h2 => by show phi s2 ≤ _; omega
 · rename_i ht
   refine Sat.bind (hB _) fun x s2 h2 => ?_
   show phi s2 ≤ _
   refine Nat.le_trans h2 ?_
   have e2 : (takeS s1 [61]).2 = nowS s1 := by
     unfold takeS at ht ⊢
     split
     · rename_i hi; rw [if_pos hi] at ht; exact absurd rfl ht
     · rfl
   rw [e2]
   have hi : s.i ≤ (nowS s1).i - 1 := by
     have h1 := now_i s
     have h2 := now_i s1
     have h3 : s1.i = (nowS s).i + 1 := by rw [e1]; rfl
     omega
   have x1 : (nowS s1).ex = s.ex := (now_ex s1).1.trans (by rw [e1]; exact (now_ex s).1)
   have x2 : (nowS s1).bl = s.bl := (now_ex s1).2.trans (by rw [e1]; exact (now_ex s).2)
   have x3 : (nowS s1).toks = s.toks := by
     have h1 : ∀ s : PS,(nowS s).toks = s.toks := fun s => by unfold nowS; split <;> rfl
     rw [h1,e1]; exact h1 s
   unfold phi
   simp only
   rw [x1,x2,x3]
   have := wts_le s.toks hi
   omega
theorem phi_items (hE : EZ E) (hB : EZ B) : ∀ (n : Nat) (s : PS) (us : List Atr) (bs : List Nat),Sat (itemsF E B n s us bs) (fun _ s' => phi s' ≤ phi s) TT
 | 0,_,_,_ => trivial
 | n + 1,s,us,bs => by
   have t1 := phi_take s [125]
   simp only [itemsF]
   split
   · exact t1.1
   refine (phi_item hE hB _ us bs).bind fun x s1 g1 => ?_
   have m1 := phi_now s1
   split
   · trivial
   have l1 := phi_lines (nowS s1)
   exact (phi_items hE hB n _ x.1 x.2).mono fun y s2 g2 => by omega
theorem phi_block (hE : EZ E) (hB : EZ B) : EZ (blockR E B) := by
 intro s
 unfold blockR
 refine (phi_kind s 1).bind fun t s1 g1 => (phi_labels _ s1 []).bind fun ls s2 g2 => ?_
 have n2 := phi_now s2
 split
 · trivial
 refine Sat.bind (phi_within (P := fun _ n => n ≤ phi (nowS s2)) ?_) fun x s3 g3 => ?_
 · refine (phi_items hE hB _ _ [] []).mono fun x s' g => ?_
   have h3 := phi_lines (step1 (⟨(nowS s2).toks,(nowS s2).i,(nowS s2).off,(nowS s2).deep + 1,false,(nowS s2).ex,(nowS s2).bl⟩ : PS))
   have h4 : phi (step1 (⟨(nowS s2).toks,(nowS s2).i,(nowS s2).off,(nowS s2).deep + 1,false,(nowS s2).ex,(nowS s2).bl⟩ : PS)) ≤ phi (nowS s2) := Nat.add_le_add_left (wts_le _ (Nat.le_succ _)) _
   omega
 · show phi _ ≤ _
   have h1 := g1.2 (by decide)
   have e : phi { s3 with bl := s3.bl ++ [⟨t.t,ls,x.1,x.2,t.a⟩] } = phi s3 + 1 := by
     unfold phi
     simp only [List.length_append,List.length_cons,List.length_nil]
     omega
   have e' : phi (⟨s3.toks,s3.i,s3.off,s3.deep,s3.quiet,s3.ex,s3.bl ++ [⟨t.t,ls,x.1,x.2,t.a⟩]⟩ : PS) = phi s3 + 1 := e
   omega
end
theorem blockD_z : ∀ d,EZ (blockD d)
 | 0 => phi_block dead_z dead_z
 | d + 1 => phi_block (exprD_z d).1 (blockD_z d)
theorem phi_ex (s : PS) : s.ex.length ≤ phi s ∧ s.bl.length ≤ phi s := by unfold phi; omega
end Go.Syn
namespace Go.Eng
open Go
section
variable {P : Program}
def DefC (P : Program) (g : FuncId) (caps : List Value) (u : FrameMode) (w : World) (K : World → Prop) : Prop :=
 CallsD P g caps.toArray u w fun e u' w' => (∃ v,e = .returned v) ∧ settle u' = .returning ∧ K w'
def defOf : List Oper → Option (Nat × FuncId × List Operand)
 | [o1,o2] =>
   match o1.guard,o2.guard,o1.dst,o1.op,o2.dst,o2.op with
   | none,none,some t,.makeFunc (.func g) first caps,none,.defer c =>
     match first.toList,c.callee,c.args.toList with
     | [],.value (.tmp t'),[] => bif Nat.beq t t' then some (t,g,caps.toList) else none
     | _,_,_ => none
   | _,_,_,_,_,_ => none
 | _ => none
def retW (P : Program) (fn : Func) (R : Ending → World → Prop) (f : Fr) (w : World) : Prop := resW P fn.results.toList f w fun l => R (.returned (one l)) w
def codeD (P : Program) (pl : Plan) (fn : Func) (R : Ending → World → Prop) : Nat → Code → Nat → Fr → World → Prop
 | 0,.seq (.region _ ops _) b,i,f,w =>
   match defOf ops.toList with
   | some (t,g,caps) =>
     @codeW ⟨fun ch w' => DefC P g (caps.map (ev f)) (.panicking ch) w' fun w'' => retW P fn R f w''⟩ P pl b (i + 2) (upd f (some t) (.func (.func g) #[] (caps.map (ev f)).toArray)) w
       (fun f' w' => DefC P g (caps.map (ev f)) .returning w' fun w'' => retW P fn R f' w'') (fun _ _ _ => False) (fun f' w' => DefC P g (caps.map (ev f)) .returning w' fun w'' => retW P fn R f' w'')
   | none => False
 | k + 1,.seq a b,i,f,w => @codeW ⟨fun ch w' => R (.panicked ch) w'⟩ P pl a (i + 1) f w (fun f' w' => codeD P pl fn R k b (i + 1 + nodes a) f' w') (fun _ _ _ => False) (fun f' w' => retW P fn R f' w')
 | _,_,_,_,_ => False
def resIn (lo t : Nat) : ResultVar → Bool
 | .tmp x => Nat.blt x lo && !(Nat.beq x t)
 | .cell x _ => Nat.blt x lo && !(Nat.beq x t)
def chkD (P : Program) (fn : Func) (pl : Plan) (lo gd : Nat) : Nat → Code → Nat → Bool
 | 0,.seq (.region _ ops draw) b,i => !draw && (lk pl.js i).isNone &&
   (match defOf ops.toList with
   | some (t,g,_) => Nat.blt t fn.ntmps && Nat.beq g gd && fn.results.toList.all (resIn lo t) && chk P fn.ntmps pl [] lo b (i + 2)
   | none => false)
 | k + 1,.seq a b,i => (lk pl.js i).isNone && chk P fn.ntmps pl [] 0 a (i + 1) && chkD P fn pl lo gd k b (i + 1 + nodes a)
 | _,_,_ => false
theorem ldW_mono {agg : Bool} {n : Nat} {x : Value} {w : World} {K K' : Value → Prop} (hk : ∀ v,K v → K' v) (h : ldW agg n x w K) : ldW agg n x w K' := by
 cases x with
 | pointer a =>
   cases a with
   | none => exact h
   | some a =>
     cases agg with
     | true => obtain ⟨l,h1,h2⟩ := h; exact ⟨l,h1,hk _ h2⟩
     | false => obtain ⟨l,h1,h2⟩ := h; exact ⟨l,h1,hk _ h2⟩
 | _ => exact h
theorem resW_same {f f' : Fr} {w : World} : ∀ {l : List ResultVar} {K : List Value → Prop},(∀ t,(∃ r ∈ l,r = .tmp t ∨ ∃ T,r = .cell t T) → f t = f' t) → resW P l f w K → resW P l f' w K
 | [],_,_,h => h
 | r :: l,K,h,hk => by
   have hl : ∀ t,(∃ r ∈ l,r = .tmp t ∨ ∃ T,r = .cell t T) → f t = f' t := fun t ⟨r',hr,e⟩ => h t ⟨r',List.mem_cons_of_mem _ hr,e⟩
   cases r with
   | tmp t => simp only [resW] at hk ⊢; rw [← h t ⟨_,List.mem_cons_self,.inl rfl⟩]; exact resW_same hl hk
   | cell t T =>
     simp only [resW] at hk ⊢
     rw [← h t ⟨_,List.mem_cons_self,.inr ⟨T,rfl⟩⟩]
     obtain ⟨h1,h2⟩ := andB.out hk
     rw [h1]
     exact ldW_mono (fun v hv => resW_same hl hv) h2
theorem defC_leaves {fn : Func} {R : Ending → World → Prop} {g : FuncId} {caps : List Value} {u : FrameMode} {w : World} {f : Fr} {a : Act} (hr : ∀ (ar : Array Value) (w : World),(callFunc g ar).run P w = .ok (.enter g ar) w) (hu : u ≠ .run)
   (ha : ∀ t,(∃ r ∈ fn.results.toList,r = .tmp t ∨ ∃ T,r = .cell t T) → f t = a.tmps.getD t undef) (h : DefC P g caps u w fun w'' => retW P fn R f w'') :
   Leaves P fn a.tmps R [{ target := .fn (.func g) caps.toArray,args := #[] }] u w := by
 refine leaves_cons (f := g) (args := caps.toArray) hu ?_ (h.mono ?_)
 · have := hr (#[] ++ caps.toArray) w
   rw [show (#[] ++ caps.toArray : Array Value) = caps.toArray from by simp] at this
   show (callFunc g (#[] ++ caps.toArray)).run P w = _
   rw [show (#[] ++ caps.toArray : Array Value) = caps.toArray from by simp]
   exact this
 · rintro e u' w' ⟨⟨v,rfl⟩,hs,hk⟩
   show Leaves P fn a.tmps R [] (settle u') w'
   rw [hs]
   have hag : Ag a.tmps.size a.defers (fun t => a.tmps.getD t undef) a := ⟨rfl,rfl,fun _ => rfl⟩
   letI := noX
   obtain ⟨v',hk',hr'⟩ := results_run (fn := fn) (K := fun v => R (.returned v) w') hag (resW_same ha hk)
   exact ⟨v',hr',hk'⟩
theorem defOf_some {l : List Oper} {t : Nat} {g : FuncId} {caps : List Operand} (h : defOf l = some (t,g,caps)) : ∃ o1 o2 first cp c,l = [o1,o2] ∧ o1.guard = none ∧ o2.guard = none ∧ o1.dst = some t ∧ o1.op = .makeFunc (.func g) first cp ∧ first = #[] ∧ cp.toList = caps ∧ o2.dst = none ∧ o2.op = .defer c ∧ c.callee = .value (.tmp t) ∧ c.args = #[] := by
 unfold defOf at h
 split at h
 · rename_i o1 o2
   split at h
   · rename_i t' g' first cp c e1 e2 e3 e4 e5 e6
     split at h
     · rename_i t'' h1 h2 h3
       cases hb : Nat.beq t' t'' with
       | false => rw [hb] at h; cases h
       | true =>
         rw [hb] at h
         simp only [cond_true,Option.some.injEq,Prod.mk.injEq] at h
         obtain ⟨rfl,rfl,rfl⟩ := h
         have : t' = t'' := Nat.eq_of_beq_eq_true hb
         subst this
         exact ⟨o1,o2,first,cp,c,rfl,e1,e2,e3,e4,by simpa using h1,rfl,e5,e6,h2,by simpa using h3⟩
     · cases h
   · cases h
 · cases h
theorem codeD_sound (hm : P.follows .mixedOrders = true) {pl : Plan} {fn : Func} {R : Ending → World → Prop} {lo gd : Nat} (hr : ∀ (ar : Array Value) (w : World),(callFunc gd ar).run P w = .ok (.enter gd ar) w) :
   ∀ (k : Nat) (c : Code) (i : Nat) (f : Fr) (a : Act) (w : World),chkD P fn pl lo gd k c i = true → Ag fn.ntmps [] f a → codeD P pl fn R k c i f w → c.wp P (bodyPostD P fn R) a w := by
 intro k
 induction k with
 | zero =>
   intro c i f a w hc hag h
   cases c with
   | seq x b =>
     cases x with
     | region id ops draw =>
       simp only [codeD] at h
       simp only [chkD,Bool.and_eq_true,Bool.not_eq_true'] at hc
       obtain ⟨⟨hdr,hl⟩,hc⟩ := hc
       cases hd : defOf ops.toList with
       | none => simp only [hd] at h
       | some x =>
         obtain ⟨t,g,caps⟩ := x
         simp only [hd,Bool.and_eq_true] at h hc
         obtain ⟨⟨⟨ht,hg⟩,hres⟩,hchk⟩ := hc
         obtain rfl : g = gd := Nat.eq_of_beq_eq_true hg
         obtain ⟨o1,o2,first,cp,cl,hops,g1,g2,d1,p1,rfl,rfl,d2,p2,hcl,hca⟩ := defOf_some hd
         subst hdr
         refine wp_seq (wp_region_list ?_)
         have hops' : ops = [o1,o2].toArray := by rw [← hops]
         subst hops'
         have htn : t < fn.ntmps := by simpa using ht
         have hv : (cp.toList.map (ev f)).toArray = cp.map a.eval := by
           rw [eval_fun hag]
           apply Array.ext'
           simp
         show wpList P [o1,o2].toArray _ [o1,o2] a w
         letI := noX
         refine op_step (K := fun v w' => v = .func (.func g) #[] (cp.toList.map (ev f)).toArray ∧ w' = w) hag (by simp [wantF,g1]) ?_ ?_ (fun _ _ h => h.elim)
         · unfold anyW
           rw [p1]
           exact ⟨rfl,rfl⟩
         · rintro v w' ⟨rfl,rfl⟩
           have hag1 := hag.put (d := some t) (fun x hx => by cases hx; exact htn) (.func (.func g) #[] (cp.toList.map (ev f)).toArray)
           rw [d1]
           unfold wpList
           rw [if_pos (by rw [want_ag hag1]; simp [wantF,g2])]
           refine .inl ?_
           unfold Oper.wp
           have hex : (execOp (a.put (some t) (.func (.func g) #[] (cp.toList.map (ev f)).toArray)).eval o2).run P w' = .ok (.defer { target := .fn (.func g) (cp.toList.map (ev f)).toArray,args := #[] }) w' := by
             rw [eval_fun hag1]
             unfold execOp
             rw [p2]
             have e : ev (upd f (some t) (.func (.func g) #[] (cp.toList.map (ev f)).toArray)) (.tmp t) = .func (.func g) #[] (cp.toList.map (ev f)).toArray := by
               simp [ev,upd_some]
             simp [resolve,hcl,hca,Deferred.ofValue,run_bind,run_pure,e]
           rw [hex,Oper.upon_defer,d2]
           clear hex
           have hag2 : Ag fn.ntmps [{ target := .fn (.func g) (cp.toList.map (ev f)).toArray,args := #[] }] (upd f (some t) (.func (.func g) #[] (cp.toList.map (ev f)).toArray)) ({ (a.put (some t) (.func (.func g) #[] (cp.toList.map (ev f)).toArray)) with defers := { target := .fn (.func g) (cp.toList.map (ev f)).toArray,args := #[] } :: (a.put (some t) (.func (.func g) #[] (cp.toList.map (ev f)).toArray)).defers }.put none undef) := by
             refine ⟨?_,hag1.2.1,hag1.2.2⟩
             show _ :: (a.put _ _).defers = _
             rw [hag1.1]
           generalize ({ (a.put (some t) (.func (.func g) #[] (cp.toList.map (ev f)).toArray)) with defers := { target := .fn (.func g) (cp.toList.map (ev f)).toArray,args := #[] } :: (a.put (some t) (.func (.func g) #[] (cp.toList.map (ev f)).toArray)).defers }.put none undef) = a2 at hag2 ⊢
           show b.wp P (bodyPostD P fn R) a2 w'
           refine @codeW_sound ⟨fun ch w' => DefC P g (cp.toList.map (ev f)) (.panicking ch) w' fun w'' => retW P fn R f w''⟩ P fn.ntmps [{ target := .fn (.func g) (cp.toList.map (ev f)).toArray,args := #[] }] pl hm b [] lo (i + 2) _ a2 w' _ _ _ _ hchk hag2 h (fun f' a' w' hag' _ hk => ?_) (fun _ _ _ _ _ _ hk => hk.elim) (fun f' a' w' hag' _ hk => ?_) (fun ch a' w' hd ht hx => ?_)
           · show Leaves P fn a'.tmps R a'.defers .returning w'
             rw [hag'.1]
             exact defC_leaves hr (by simp) (fun t _ => (hag'.2.2 t).symm) hk
           · show Leaves P fn a'.tmps R a'.defers .returning w'
             rw [hag'.1]
             exact defC_leaves hr (by simp) (fun t _ => (hag'.2.2 t).symm) hk
           · show Leaves P fn a'.tmps R a'.defers (.panicking ch) w'
             rw [hd]
             refine defC_leaves (f := f) hr (by simp) (fun x hx' => ?_) hx
             have hin : x < lo ∧ x ≠ t := by
               obtain ⟨r,hrm,hr'⟩ := hx'
               have := List.all_eq_true.1 hres r hrm
               have h2 : (Nat.blt x lo && !(Nat.beq x t)) = true := by
                 rcases hr' with rfl | ⟨T,rfl⟩
                 · exact this
                 · exact this
               simp only [Bool.and_eq_true,Bool.not_eq_true'] at h2
               refine ⟨by simpa using h2.1,fun e => ?_⟩
               rw [e] at h2
               have h3 := h2.2
               rw [Nat.beq_refl] at h3
               cases h3
             have hlt : Nat.ble lo x = false := by
               cases hb : Nat.ble lo x with
               | false => rfl
               | true => exact absurd (Nat.lt_of_lt_of_le hin.1 (Nat.le_of_ble_eq_true hb)) (Nat.lt_irrefl _)
             rw [ht x (by unfold inS; rw [hlt]; rfl)]
             simp [upd_some,hin.2]
     | _ => simp [chkD] at hc
   | _ => simp [chkD] at hc
 | succ k ih =>
   intro c i f a w hc hag h
   cases c with
   | seq x y =>
     simp only [codeD] at h
     simp only [chkD,Bool.and_eq_true] at hc
     obtain ⟨⟨hl,hc1⟩,hc2⟩ := hc
     refine wp_seq ?_
     letI : HX := ⟨fun ch w' => R (.panicked ch) w'⟩
     refine codeW_sound hm x [] 0 (i + 1) f a w _ _ _ _ hc1 hag h (fun f' a' w' hag' _ h' => ih y _ f' a' w' hc2 hag' h') (fun _ _ _ _ _ _ hk => hk.elim) (fun f' a' w' hag' _ hk => ?_) (fun ch a' w' hd _ hx => ?_)
     · show Leaves P fn a'.tmps R a'.defers .returning w'
       rw [hag'.1]
       obtain ⟨v',hk',hr'⟩ := results_run (fn := fn) (K := fun v => R (.returned v) w') hag' hk
       exact ⟨v',hr',hk'⟩
     · show Leaves P fn a'.tmps R a'.defers (.panicking ch) w'
       rw [hd]
       exact hx
   | _ => simp [chkD] at hc
def funD (P : Program) (fn : Func) (pl : Plan) (k : Nat) (args : List Value) (w : World) (R : Ending → World → Prop) : Prop :=
 match fn.body with
 | some c => codeD P pl fn R k c 0 (fr0 args) w
 | none => False
def chkFunD (P : Program) (fn : Func) (pl : Plan) (lo gd k na : Nat) : Bool :=
 match fn.body with
 | some c => Nat.ble na fn.ntmps && chkD P fn pl lo gd k c 0
 | none => false
theorem enter_ag {nt : Nat} {args : List Value} (hle : args.length ≤ nt) : Ag nt [] (fr0 args) { tmps := args.toArray ++ Array.replicate (nt - args.toArray.size) undef,defers := [] } := by
 refine ⟨rfl,by simp; omega,fun t => ?_⟩
 simp only [Array.getD_eq_getD_getElem?,Array.getElem?_append,List.size_toArray,List.getElem?_toArray,Array.getElem?_replicate,fr0,List.getD_eq_getElem?_getD]
 split
 · rfl
 · rename_i hlt
   rw [List.getElem?_eq_none (by omega)]
   split <;> rfl
theorem funD_sound {g : FuncId} {fn : Func} {pl : Plan} {args : List Value} {w : World} {R : Ending → World → Prop} {lo gd k : Nat} (hm : P.follows .mixedOrders = true) (hf : P.funcs[g]? = some fn) (hr : ∀ (ar : Array Value) (w : World),(callFunc gd ar).run P w = .ok (.enter gd ar) w)
   (hc : chkFunD P fn pl lo gd k args.length = true) (h : funD P fn pl k args w R) : Calls P g args.toArray w R := by
 unfold funD at h
 unfold chkFunD at hc
 cases hb : fn.body with
 | none => rw [hb] at h; exact h.elim
 | some c =>
   rw [hb] at h hc
   simp only [Bool.and_eq_true] at hc
   exact calls_of_wp_defers hf hb (codeD_sound hm hr k c 0 _ _ w hc.2 (enter_ag (Nat.le_of_ble_eq_true hc.1)) h)
theorem tieD [HX] (P : Program) (g : FuncId) (fn : Func) (pl : Plan) (args : List Value) (w : World) (K : Value → World → Prop) (lo gd k na : Nat) (X : Prop) (hk : args.length = na) (hm : P.follows .mixedOrders = true) (hf : P.funcs[g]? = some fn)
   (hc : chkFunD P fn pl lo gd k na = true) (he : funD P fn pl k args w (EndK K) = X) (hr : ∀ (az : Array Value) (w : World),(callFunc g az).run P w = .ok (.enter g az) w) (hrd : ∀ (ar : Array Value) (w : World),(callFunc gd ar).run P w = .ok (.enter gd ar) w) (h : X) : callF P g args w K := by
 unfold callF
 rw [hr]
 exact funD_sound hm hf hrd (by rw [hk]; exact hc) (by rw [he]; exact h)
end
end Go.Eng
namespace Go.Eng
open Go
section
variable {P : Program}
def recOf : List Oper → Option (Nat × Nat)
 | [o1,o2] =>
   match o1.guard,o2.guard,o1.dst,o1.op,o2.dst,o2.op with
   | none,none,some t,.call c,some t2,.assign (.tmp t') =>
     match c.callee,c.args.toList with
     | .builtin .recover,[] => bif Nat.beq t t' then some (t,t2) else none
     | _,_ => none
   | _,_,_,_,_,_ => none
 | _ => none
theorem recOf_some {l : List Oper} {t t2 : Nat} (h : recOf l = some (t,t2)) : ∃ o1 o2 c,l = [o1,o2] ∧ o1.guard = none ∧ o2.guard = none ∧ o1.dst = some t ∧ o1.op = .call c ∧ o2.dst = some t2 ∧ o2.op = .assign (.tmp t) ∧ c.callee = .builtin .recover ∧ c.args = #[] := by
 unfold recOf at h
 split at h
 · rename_i o1 o2
   split at h
   · rename_i t0 c t2' t' e1 e2 e3 e4 e5 e6
     split at h
     · rename_i h1 h2
       cases hb : Nat.beq t0 t' with
       | false => rw [hb] at h; cases h
       | true =>
         rw [hb] at h
         simp only [cond_true,Option.some.injEq,Prod.mk.injEq] at h
         obtain ⟨rfl,rfl⟩ := h
         have : t0 = t' := Nat.eq_of_beq_eq_true hb
         subst this
         exact ⟨o1,o2,c,rfl,e1,e2,e3,e4,e5,e6,h1,by simpa using h2⟩
     · cases h
   · cases h
 · cases h
def funR (P : Program) (fn : Func) (pl : Plan) (args : List Value) (x : Value) (w : World) (K : World → Prop) : Prop :=
 match fn.body with
 | some (.seq (.region _ ops _) b) =>
   match recOf ops.toList with
   | some (t,t2) => @codeW noX P pl b 2 (upd (upd (fr0 args) (some t) x) (some t2) x) w (fun _ w' => K w') (fun _ _ _ => False) (fun _ w' => K w')
   | none => False
 | _ => False
def chkFunR (P : Program) (fn : Func) (pl : Plan) (na : Nat) : Bool :=
 match fn.body with
 | some (.seq (.region _ ops draw) b) => !draw && Nat.ble na fn.ntmps && fn.results.toList.isEmpty &&
   (match recOf ops.toList with
   | some (t,t2) => Nat.blt t fn.ntmps && Nat.blt t2 fn.ntmps && chk P fn.ntmps pl [] 0 b 2
   | none => false)
 | _ => false
inductive Finds : FrameMode → Value → Prop
 | idle : Finds .returning .nilIface
 | thrown (v : Value) : Finds (.panicking [{ v,recovered := false }]) v
theorem funR_sound {g : FuncId} {fn : Func} {pl : Plan} {args : List Value} {x : Value} {u : FrameMode} {w : World} {K : World → Prop} (hm : P.follows .mixedOrders = true) (hf : P.funcs[g]? = some fn) (hc : chkFunR P fn pl args.length = true)
   (hu : Finds u x) (h : funR P fn pl args x w K) : DefC P g args u w K := by
 unfold funR at h
 unfold chkFunR at hc
 split at h
 · rename_i id ops draw b hb
   rw [hb] at hc
   simp only [Bool.and_eq_true,Bool.not_eq_true'] at hc
   obtain ⟨⟨⟨hd,hle⟩,hres⟩,hc⟩ := hc
   subst hd
   cases ho : recOf ops.toList with
   | none => simp only [ho] at h
   | some y =>
     obtain ⟨t,t2⟩ := y
     simp only [ho,Bool.and_eq_true] at h hc
     obtain ⟨⟨ht,ht2⟩,hchk⟩ := hc
     obtain ⟨o1,o2,c,hops,g1,g2,d1,p1,d2,p2,hcl,hca⟩ := recOf_some ho
     have hops' : ops = #[o1,o2] := by
       apply Array.ext'
       rw [hops]
     subst hops'
     letI := noX
     have hr0 : ∀ tmps w,(results fn tmps).run P w = .ok (.tuple #[]) w := by
       intro tmps w
       have h1 : fn.results.toList = [] := by simpa using hres
       obtain ⟨v,hv,hr⟩ := results_run (P := P) (fn := fn) (n := tmps.size) (D := []) (f := fun t => tmps.getD t undef) (a := { tmps := tmps,defers := [] }) (w := w) (K := fun v => v = .tuple #[]) ⟨rfl,rfl,fun _ => rfl⟩ (by rw [h1]; rfl)
       rw [hr,hv]
     have hag := enter_ag (nt := fn.ntmps) (args := args) (Nat.le_of_ble_eq_true hle)
     have ht : t < fn.ntmps := by simpa using ht
     have ht2 : t2 < fn.ntmps := by simpa using ht2
     refine callsD_of_wpS hf hb fun c₀ cs hmode => ?_
     generalize ({ tmps := args.toArray ++ Array.replicate (fn.ntmps - args.toArray.size) undef,defers := [] } : Act) = a0 at hag ⊢
     have hag1 := hag.put (d := some t) (fun y hy => by cases hy; exact ht) x
     have hag2 := hag1.put (d := some t2) (fun y hy => by cases hy; exact ht2) x
     have w1 : Region.wanted o1 (yielded #[o1,o2] a0.tmps) = true := by
       have := want_ag (ops := [o1,o2]) (o := o1) hag
       rw [show ([o1,o2] : List Oper).toArray = #[o1,o2] from rfl] at this
       rw [this]; simp [wantF,g1]
     have w2 : Region.wanted o2 (yielded #[o1,o2] (a0.put (some t) x).tmps) = true := by
       have := want_ag (ops := [o1,o2]) (o := o2) hag1
       rw [show ([o1,o2] : List Oper).toArray = #[o1,o2] from rfl] at this
       rw [this]; simp [wantF,g2]
     have e1 : (execOp a0.eval o1).run P w = .ok .recover w := by
       unfold execOp
       rw [p1]
       simp [resolve,hcl,hca,invoke,builtin,run_bind,run_pure]
     have e2 : (execOp (a0.put (some t) x).eval o2).run P w = .ok (.value x) w := by
       rw [eval_fun hag1]
       unfold execOp
       rw [p2]
       have e : ev (upd (fr0 args) (some t) x) (.tmp t) = x := by simp [ev,upd_some]
       simp [run_pure,e]
     have rest : ∀ u' : FrameMode,settle u' = .returning → b.wpS P (bodyPostS P fn c₀ cs fun e u' w' => (∃ v,e = .returned v) ∧ settle u' = .returning ∧ K w') ((a0.put (some t) x).put (some t2) x) ({ c₀ with mode := u' } :: cs) w := by
       intro u' hs
       refine wpS_of_wp ?_
       refine @codeW_sound noX P fn.ntmps [] pl hm b [] 0 2 _ _ w _ _ _ _ hchk hag2 h (fun f' a' w' hag' _ hk => ?_) (fun _ _ _ _ _ _ hk => hk.elim) (fun f' a' w' hag' _ hk => ?_) (fun ch a' w' hd ht hx => hx.elim)
       · exact ⟨hag'.1,u',rfl,_,hr0 _ _,⟨_,rfl⟩,hs,hk⟩
       · exact ⟨hag'.1,u',rfl,_,hr0 _ _,⟨_,rfl⟩,hs,hk⟩
     refine wpS_seq (wpS_region ?_)
     show wpOpsS P #[o1,o2] _ [0,1] a0 (c₀ :: cs) w
     have tail : ∀ c1 : Frame,b.wpS P (bodyPostS P fn c₀ cs fun e u' w' => (∃ v,e = .returned v) ∧ settle u' = .returning ∧ K w') ((a0.put (some t) x).put (some t2) x) (c1 :: cs) w →
         wpOpsS P #[o1,o2] (Exit.thenS (b.wpS P (bodyPostS P fn c₀ cs fun e u' w' => (∃ v,e = .returned v) ∧ settle u' = .returning ∧ K w')) (bodyPostS P fn c₀ cs fun e u' w' => (∃ v,e = .returned v) ∧ settle u' = .returning ∧ K w')) [1] (a0.put (some t) x) (c1 :: cs) w := by
       intro c1 hb1
       unfold wpOpsS
       rw [show (#[o1,o2] : Array Oper)[1]? = some o2 from rfl]
       show ite (Region.wanted o2 (yielded #[o1,o2] (a0.put (some t) x).tmps) = true) _ _
       rw [if_pos w2,e2]
       simp only [Oper.upon_value,d2]
       exact hb1
     unfold wpOpsS
     rw [show (#[o1,o2] : Array Oper)[0]? = some o1 from rfl]
     show ite (Region.wanted o1 (yielded #[o1,o2] a0.tmps) = true) _ _
     rw [if_pos w1,e1]
     cases hu with
     | idle =>
       have : recoverD (c₀ :: cs) = none := by simp [recoverD,hmode]
       simp only [this,d1]
       have e : ({ c₀ with mode := .returning } : Frame) = c₀ := by rw [← hmode]
       have := rest .returning rfl
       rw [e] at this
       exact tail c₀ this
     | thrown =>
       have : recoverD (c₀ :: cs) = some (x,{ c₀ with mode := .panicking [{ v := x,recovered := true }] } :: cs) := by simp [recoverD,hmode]
       simp only [this,d1]
       exact tail _ (rest (.panicking [{ v := x,recovered := true }]) rfl)
 · exact h.elim
end
end Go.Eng
namespace Go.Proofs.YtofhaneggcpdaaaDoor
open Go Go.Eng
set_option maxRecDepth 100000
variable [HX]
def plan10 : Plan := { js := [(30,⟨[],[],6⟩),(34003,⟨[40],[],39⟩),(20,⟨[],[],6⟩)],ds := [(29,⟨[0,1,2,6],[[],[0],[],[2],[2,3],[0,1,2,3,4],[0,1,2,3,4,5],[0,1,2,3,4,5,6]]⟩),(9,⟨[0,1],[[],[],[0],[0,1,2]]⟩)] }
def W10 (v0 : Value) (w : World) (K : Value → World → Prop) : Prop :=
 allocW 28 [(.slice none 0 0),(.slice none 0 0),(.slice none 0 0)] w fun t2 w1 =>
 allocW 29 [(.pointer none)] w1 fun t3 w2 =>
 callF Tryd.prog 15 [v0] w2 fun t9 w3 =>
 extW 0 t9 fun t10 =>
 extW 1 t9 fun t11 =>
 stW 1 t3 t11 w3 fun w4 =>
 ldW false 1 t3 w4 fun t12 =>
 eqW .ptr true t12 (.pointer none) fun t13 =>
 condW t13 (
 putW [(.slice none 0 0),(.slice none 0 0),(.slice none 0 0)] [] fun c5 =>
 ldW false 1 t3 w4.drew fun t15 =>
 stW 3 t2 (.agg c5.toArray) w4.drew fun w6 =>
 (ldW false 1 t3 w6 fun x => x = t15) ∧
 stW 1 t3 t15 w6 fun w7 =>
 ldW true 3 t2 w7 fun r8 =>
 ldW false 1 t3 w7 fun r9 =>
 K (.tuple #[r8,r9]) w7) (
 letI : HX := ⟨fun ch x10 => DefC Tryd.prog 16 [t2,t3] (.panicking ch) x10 fun w10 =>
 ldW true 3 t2 w10 fun r11 =>
 ldW false 1 t3 w10 fun r12 =>
 K (.tuple #[r11,r12]) w10⟩
 putW [(.slice none 0 0),(.int .i64 0),(.int .i64 0),(.pointer none),(.int .i64 0),(.bool false)] [(0,1,t10),(3,1,t2)] fun c13 =>
 boxW 63 (.agg c13.toArray) w4 fun t19 w14 =>
 callF Tryd.prog 17 [t19] w14 fun t21 w15 =>
 LoopW [] w15 fun s16 _ w17 L16 =>
 callF Tryd.prog 18 [t19] w17 fun t23 w18 =>
 partW false 0 1 t23 fun t24 =>
 binW .neq t24 (.int .i64 0) fun t25 =>
 condW t25 (
 fldW 2 t2 fun t26 =>
 ldW false 1 t26 w18.drew fun t27 =>
 callF Tryd.prog 19 [t19] w18.drew fun t29 w19 =>
 (ldW false 1 t26 w19 fun x => x = t27) ∧
 bslW 3 1 [(.int .i64 0)] [(0,1,t29)] w19 fun t30 w20 =>
 (ldW false 1 t26 w20 fun x => x = t27) ∧
 semE Tryd.prog (Builtin.append_ #[26,26] 26 #[t27,t30]) w20 fun t31 w21 =>
 fldW 2 t2 fun t32 =>
 stW 1 t32 t31 w21 fun w22 =>
 JoinW (fun J23 =>
 callF Tryd.prog 18 [t19] w22 fun t34 w24 =>
 partW false 0 1 t34 fun t35 =>
 binW .neq t35 (.int .i64 5) fun t37 =>
 GdW (isB t37 true) [undef] w24 (fun J25 =>
 binW .neq t35 (.int .i64 0) fun t40 =>
 J25 [t40] w24)
 fun s25 _ w26 =>
 pickW t37 (s25.getD 0 undef) (.bool false) fun t41 =>
 condW t41 (
 callF Tryd.prog 18 [t19] w26 fun t43 w27 =>
 partW false 2 1 t43 fun t44 =>
 callF Tryd.prog 20 [(.int .i64 50),t44] w27 fun t45 w28 =>
 J23 [] w28) (
 J23 [] w26))
 fun s23 _ w29 =>
 callF Tryd.prog 17 [t19] w29 fun t47 w30 =>
 L16 [] w30) (
 ldW true 3 t2 w18 fun t48 =>
 stW 3 t2 t48 w18 fun w31 =>
 stW 1 t3 (.pointer none) w31 fun w32 =>
 DefC Tryd.prog 16 [t2,t3] .returning w32 fun w33 =>
 ldW true 3 t2 w33 fun r34 =>
 ldW false 1 t3 w33 fun r35 =>
 K (.tuple #[r34,r35]) w33))
theorem W10_eq (v0 : Value) (w : World) (K : Value → World → Prop) : funD Tryd.prog Tryd.f10 plan10 3 [v0] w (EndK K) = W10 v0 w K := by kernel_rfl
theorem W10_chk : chkFunD Tryd.prog Tryd.f10 plan10 4 16 3 1 = true := by kernel_rfl
theorem W10_ok {v0 : Value} {w : World} {K : Value → World → Prop} (h : W10 v0 w K) : callF Tryd.prog 10 [v0] w K :=
 tieD Tryd.prog 10 Tryd.f10 plan10 [v0] w K 4 16 3 1 (W10 v0 w K) rfl mixed Tryd.func10 W10_chk (W10_eq v0 w K) Tryd.call10 Tryd.call16 h
def plan15 : Plan := { js := [(60,⟨[9],[9],12⟩),(62004,⟨[73],[],71⟩),(54,⟨[9,11],[9],11⟩),(44005,⟨[51],[],48⟩),(36,⟨[6,7],[],1⟩),(25006,⟨[30],[],26⟩),(14,⟨[],[2,3,4,5],19⟩)],ds := [] }
def W15 (v0 : Value) (w : World) (K : Value → World → Prop) : Prop :=
 lensW v0 fun t13 =>
 binW .gtr t13 (.int .i64 16384) fun t14 =>
 condW t14 (
 putW [(.int .i64 0),(.string (ofL [])),(.int .i64 0)] [(0,1,(.int .i64 3))] fun c1 =>
 boxW 34 (.agg c1.toArray) w fun t16 w2 =>
 K (.tuple #[(.slice none 0 0),t16]) w2) (
 semE Tryd.prog (Instr.range 9 v0) w fun t18 w3 =>
 LoopW [] w3 fun s4 _ w5 L4 =>
 semE Tryd.prog (Instr.next t18 true 0) w5 fun t19 w6 =>
 extW 0 t19 fun t20 =>
 condW t20 (
 extW 1 t19 fun t21 =>
 extW 2 t19 fun t22 =>
 binW .eql t22 (.int .i32 65533) fun t24 =>
 GdW (isB t24 true) [undef] w6 (fun J7 =>
 slsW v0 (some t21) none fun t28 =>
 callF Tryd.prog 23 [t28,(.string (ofL [239,191,189]))] w6 fun t29 w8 =>
 unW .not t29 fun t30 =>
 J7 [t30] w8)
 fun s7 _ w9 =>
 pickW t24 (s7.getD 0 undef) (.bool false) fun t31 =>
 condW t31 (
 putW [(.int .i64 0),(.string (ofL [])),(.int .i64 0)] [(0,1,(.int .i64 31)),(2,1,t21)] fun c10 =>
 boxW 34 (.agg c10.toArray) w9 fun t34 w11 =>
 K (.tuple #[(.slice none 0 0),t34]) w11) (
 L4 [] w9)) (
 LoopW [(.slice none 0 0),(.int .i64 0)] w6 fun s12 _ w13 L12 =>
 slsW v0 (some (s12.getD 1 undef)) none fun t38 =>
 callF Tryd.prog 24 [t38] w13 fun t39 w14 =>
 extW 0 t39 fun t40 =>
 extW 1 t39 fun t41 =>
 binW .add (s12.getD 1 undef) t40 fun t44 =>
 binW .eql t41 (.int .i64 0) fun t46 =>
 GdW (isB t46 true) [undef] w14 (fun J15 =>
 lensW v0 fun t50 =>
 binW .eql t44 t50 fun t51 =>
 J15 [t51] w14)
 fun s15 _ w16 =>
 pickW t46 (s15.getD 0 undef) (.bool false) fun t52 =>
 condW t52 (
 putW [(.int .i64 0),(.string (ofL [])),(.int .i64 0)] [(2,1,t44)] fun c17 =>
 bslW 66 1 [(.int .i64 0),(.string (ofL [])),(.int .i64 0)] [(0,3,(.agg c17.toArray))] w16 fun t56 w18 =>
 semE Tryd.prog (Builtin.append_ #[57,57] 57 #[(s12.getD 0 undef),t56]) w18 fun t57 w19 =>
 K (.tuple #[t57,(.pointer none)]) w19) (
 allocW 66 [(.int .i64 0),(.string (ofL [])),(.int .i64 0)] w16 fun t10 w20 =>
 JoinW (fun J21 =>
 binW .eql t41 (.int .i64 0) fun t59 =>
 condW t59 (
 slsW v0 (some t44) none fun t63 =>
 callF Tryd.prog 25 [t63] w20 fun t64 w22 =>
 extW 0 t64 fun t65 =>
 extW 1 t64 fun t66 =>
 extW 2 t64 fun t67 =>
 stW 3 t10 t65 w22 fun w23 =>
 J21 [t67,t66] w23) (
 J21 [t41,(.int .i64 0)] w20))
 fun s21 _ w24 =>
 JoinW (fun J25 =>
 binW .eql (s21.getD 0 undef) (.int .i64 0) fun t69 =>
 GdW (isB t69 true) [undef] w24 (fun J26 =>
 lenlW (s12.getD 0 undef) fun t72 =>
 binW .eql t72 (.int .i64 4096) fun t73 =>
 J26 [t73] w24)
 fun s26 _ w27 =>
 pickW t69 (s26.getD 0 undef) (.bool false) fun t74 =>
 condW t74 (
 J25 [(.int .i64 3)] w27) (
 J25 [(s21.getD 0 undef)] w27))
 fun s25 _ w28 =>
 binW .neq (s25.getD 0 undef) (.int .i64 0) fun t76 =>
 condW t76 (
 putW [(.int .i64 0),(.string (ofL [])),(.int .i64 0)] [(0,1,(s25.getD 0 undef)),(2,1,t44)] fun c29 =>
 boxW 34 (.agg c29.toArray) w28 fun t80 w30 =>
 K (.tuple #[(.slice none 0 0),t80]) w30) (
 fldW 2 t10 fun t82 =>
 stW 1 t82 t44 w28 fun w31 =>
 ldW true 3 t10 w31 fun t84 =>
 bslW 66 1 [(.int .i64 0),(.string (ofL [])),(.int .i64 0)] [(0,3,t84)] w31 fun t85 w32 =>
 semE Tryd.prog (Builtin.append_ #[57,57] 57 #[(s12.getD 0 undef),t85]) w32 fun t86 w33 =>
 binW .add t44 (s21.getD 1 undef) fun t89 =>
 L12 [t86,t89] w33))))
theorem W15_ok {v0 : Value} {w : World} {K : Value → World → Prop} (h : W15 v0 w K) : callF Tryd.prog 15 [v0] w K :=
 tie _ 15 Tryd.f15 plan15 _ w K 1 _ rfl mixed Tryd.func15 (by kernel_rfl) (by kernel_rfl) Tryd.call15 h
def plan16 : Plan := { js := [],ds := [(5,⟨[0,1,2],[[],[],[1],[0],[0,1,2,3]]⟩)] }
def R16 (v0 v1 : Value) (x : Value) (w : World) (K : World → Prop) : Prop :=
 letI : HX := noX
 eqQ Tryd.prog .neq 20 false true x .nilIface w fun t5 =>
 condW t5 (
 putW [(.slice none 0 0),(.slice none 0 0),(.slice none 0 0)] [] fun c1 =>
 semQ Tryd.prog (Instr.typeAssert x 20 29 false) w.drew fun t8 =>
 stW 3 v0 (.agg c1.toArray) w.drew fun w2 =>
 (semQ Tryd.prog (Instr.typeAssert x 20 29 false) w2 fun x => x = t8) ∧
 stW 1 v1 t8 w2 fun w3 =>
 K w3) (
 K w)
theorem R16_eq (v0 v1 : Value) (x : Value) (w : World) (K : World → Prop) : funR Tryd.prog Tryd.f16 plan16 [v0,v1] x w K = R16 v0 v1 x w K := by kernel_rfl
theorem R16_chk : chkFunR Tryd.prog Tryd.f16 plan16 2 = true := by kernel_rfl
theorem R16_ok {v0 v1 : Value} {x : Value} {u : FrameMode} {w : World} {K : World → Prop} (hu : Finds u x) (h : R16 v0 v1 x w K) : DefC Tryd.prog 16 [v0,v1] u w K :=
 funR_sound (args := [v0,v1]) mixed Tryd.func16 R16_chk hu (by rw [R16_eq]; exact h)
def plan17 : Plan := { js := [(1,⟨[],[],1⟩)],ds := [] }
def W17 (v0 : Value) (w : World) (K : Value → World → Prop) : Prop :=
 LoopW [] w fun s1 _ w2 L1 =>
 callF Tryd.prog 18 [v0] w2 fun t3 w3 =>
 partW false 0 1 t3 fun t4 =>
 binW .eql t4 (.int .i64 5) fun t5 =>
 condW t5 (
 nilW v0 fun t7 =>
 fldW 1 t7 fun t8 =>
 ldW false 1 t8 w3 fun t9 =>
 binW .add t9 (.int .i64 1) fun t10 =>
 nilW v0 fun t11 =>
 fldW 1 t11 fun t12 =>
 stW 1 t12 t10 w3 fun w4 =>
 L1 [] w4) (
 K (.tuple #[]) w3)
theorem W17_ok {v0 : Value} {w : World} {K : Value → World → Prop} (h : W17 v0 w K) : callF Tryd.prog 17 [v0] w K :=
 tie _ 17 Tryd.f17 plan17 _ w K 1 _ rfl mixed Tryd.func17 (by kernel_rfl) (by kernel_rfl) Tryd.call17 h
def plan18 : Plan := { js := [(4,⟨[],[],3⟩)],ds := [(16,⟨[0,1,2,3,4,5,6,7],[[],[0],[],[2],[2,3],[2,3,4],[0,1,2,3,4,5],[0,1,2,3,4,5,6],[0,1,2,3,4,5,6,7]]⟩),(14,⟨[0,1,2,3,4,5,6,7,8,9],[[],[0],[0,1],[0,1,2],[],[4],[4,5],[4,5,6],[0,1,2,3,4,5,6,7],[0,1,2,3,4,5,6,7,8],[],[0,1,2,3,4,5,6,7,8,9,10]]⟩),(7,⟨[0,1,2,3,4,5,6,7,8,9,10,11,12,13,14,15,16,17],[[],[0],[0,1],[0,1,2],[0,1,2,3],[0,1,2,3,4],[0,1,2,3,4,5],[0,1,2,3,4,5,6],[0,1,2,3,4,5,6,7],[0,1,2,3,4],[0,1,2,3,4,9],[0,1,2,3,4,9,10],[0,1,2,3,4,9,10,11],[0,1,2,3,4,5,6,7,8,9,10,11,12],[0,1,2,3,4,5,6,7,8,9,10,11,12,13],[0,1,2,3,4,5,6,7,8,9,10,11,12,13,14],[0,1,2,3,4,5,6,7,8,9,10,11,12,13,14,15],[0,1,2,3,4,5,6,7,8,9,10,11,12,13,14,15,16]]⟩)] }
def W18 (v0 : Value) (w : World) (K : Value → World → Prop) : Prop :=
 allocW 66 [(.int .i64 0),(.string (ofL [])),(.int .i64 0)] w fun t2 w1 =>
 LoopW [] w1 fun s2 _ w3 L2 =>
 nilW v0 fun t5 =>
 fldW 5 t5 fun t6 =>
 ldW false 1 t6 w3.drew fun t7 =>
 GqW (isB t7 true) (fun k4 => k4 v0) fun t9 =>
 GqW (isB t7 true) (fun k5 => nilW t9 k5) fun t10 =>
 GqW (isB t7 true) (fun k6 => fldW 0 t10 k6) fun t11 =>
 GqW (isB t7 true) (fun k7 => ldW false 1 t11 w3.drew k7) fun t12 =>
 GqW (isB t7 true) (fun k8 => k8 v0) fun t13 =>
 GqW (isB t7 true) (fun k9 => nilW t13 k9) fun t14 =>
 GqW (isB t7 true) (fun k10 => fldW 1 t14 k10) fun t15 =>
 GqW (isB t7 true) (fun k11 => ldW false 1 t15 w3.drew k11) fun t16 =>
 GqW (isB t7 true) (fun k12 => ixaW none 3 t12 t16 k12) fun t17 =>
 GqW (isB t7 true) (fun k13 => fldW 0 t17 k13) fun t18 =>
 GqW (isB t7 true) (fun k14 => ldW false 1 t18 w3.drew k14) fun t19 =>
 GqW (isB t7 true) (fun k15 => binW .eql t19 (.int .i64 5) k15) fun t20 =>
 pickW t7 t20 (.bool false) fun t21 =>
 condW t21 (
 nilW v0 fun t23 =>
 fldW 1 t23 fun t24 =>
 ldW false 1 t24 w3.drew fun t25 =>
 binW .add t25 (.int .i64 1) fun t26 =>
 nilW v0 fun t27 =>
 fldW 1 t27 fun t28 =>
 stW 1 t28 t26 w3.drew fun w16 =>
 L2 [] w16) (
 nilW v0 fun t30 =>
 fldW 0 t30 fun t31 =>
 ldW false 1 t31 w3.drew.drew fun t32 =>
 nilW v0 fun t34 =>
 fldW 1 t34 fun t35 =>
 ldW false 1 t35 w3.drew.drew fun t36 =>
 ixaW none 3 t32 t36 fun t37 =>
 ldW true 3 t37 w3.drew.drew fun t38 =>
 allocW 66 [(.int .i64 0),(.string (ofL [])),(.int .i64 0)] w3.drew.drew fun t3 w17 =>
 (ldW true 3 t37 w17 fun x => x = t38) ∧
 (ldW false 1 t35 w17 fun x => x = t36) ∧
 (ldW false 1 t31 w17 fun x => x = t32) ∧
 stW 3 t3 t38 w17 fun w18 =>
 fldW 2 t3 fun t39 =>
 ldW false 1 t39 w18.drew fun t40 =>
 nilW v0 fun t42 =>
 fldW 2 t42 fun t43 =>
 ldW false 1 t43 w18.drew fun t44 =>
 binW .add t40 t44 fun t45 =>
 fldW 2 t3 fun t46 =>
 stW 1 t46 t45 w18.drew fun w19 =>
 ldW true 3 t3 w19 fun t47 =>
 stW 3 t2 t47 w19 fun w20 =>
 ldW true 3 t2 w20 fun r21 =>
 K r21 w20)
theorem W18_ok {v0 : Value} {w : World} {K : Value → World → Prop} (h : W18 v0 w K) : callF Tryd.prog 18 [v0] w K :=
 tie _ 18 Tryd.f18 plan18 _ w K 1 _ rfl mixed Tryd.func18 (by kernel_rfl) (by kernel_rfl) Tryd.call18 h
def plan19 : Plan := { js := [(19,⟨[],[],6⟩),(8,⟨[],[],5⟩)],ds := [(28,⟨[0,1,2,3,4,5,6,7,8,9,10,11,14,15],[[],[0],[0,1],[0,1,2],[],[4],[4,5],[4,5,6],[4,5,6,7],[4,5,6,7,8],[4,5,6,7,8,9],[],[11],[4,5,6,7,8,9,10,11,12],[0,1,2,3,4,5,6,7,8,9,10,11,12,13],[0,1,2,3,4,5,6,7,8,9,10,11,12,13,14],[0,1,2,3,4,5,6,7,8,9,10,11,12,13,14,15]]⟩),(16,⟨[0,1,2,3,8],[[],[0],[],[],[3],[2,3,4],[2,3,4,5],[0,1,2,3,4,5,6],[0,1,2,3,4,5,6,7],[0,1,2,3,4,5,6,7,8]]⟩)] }
def W19 (v0 : Value) (w : World) (K : Value → World → Prop) : Prop :=
 boxW 60 v0 w fun t1 w1 =>
 ldW false 1 t1 w1 fun t6 =>
 callF Tryd.prog 26 [t6,(.int .i64 1)] w1 fun t7 w2 =>
 allocW 66 [(.int .i64 0),(.string (ofL [])),(.int .i64 0)] w2 fun t3 w3 =>
 stW 3 t3 t7 w3 fun w4 =>
 fldW 1 t3 fun t8 =>
 ldW false 1 t8 w4 fun t9 =>
 fldW 2 t3 fun t10 =>
 ldW false 1 t10 w4 fun t11 =>
 putW [(.string (ofL [])),(.slice none 0 0),(.slice none 0 0),(.slice none 0 0),(.int .i64 0)] [(0,1,t9),(4,1,t11)] fun c5 =>
 allocW 41 [(.string (ofL [])),(.slice none 0 0),(.slice none 0 0),(.slice none 0 0),(.int .i64 0)] w4 fun t4 w6 =>
 stW 5 t4 (.agg c5.toArray) w6 fun w7 =>
 LoopW [] w7 fun s8 _ w9 L8 =>
 ldW false 1 t1 w9 fun t13 =>
 callF Tryd.prog 18 [t13] w9 fun t14 w10 =>
 partW false 0 1 t14 fun t15 =>
 binW .eql t15 (.int .i64 3) fun t16 =>
 condW t16 (
 fldW 1 t4 fun t17 =>
 ldW false 1 t17 w10.drew fun t18 =>
 ldW false 1 t1 w10.drew fun t19 =>
 ldW false 1 t1 w10.drew fun t20 =>
 callF Tryd.prog 28 [t20] w10.drew fun t21 w11 =>
 (ldW false 1 t1 w11 fun x => x = t19) ∧
 (ldW false 1 t17 w11 fun x => x = t18) ∧
 callF Tryd.prog 27 [t19,t21] w11 fun t22 w12 =>
 (ldW false 1 t17 w12 fun x => x = t18) ∧
 bslW 9 1 [(.string (ofL []))] [(0,1,t22)] w12 fun t23 w13 =>
 (ldW false 1 t17 w13 fun x => x = t18) ∧
 semE Tryd.prog (Builtin.append_ #[36,36] 36 #[t18,t23]) w13 fun t24 w14 =>
 fldW 1 t4 fun t25 =>
 stW 1 t25 t24 w14 fun w15 =>
 L8 [] w15) (
 ldW false 1 t1 w10 fun t26 =>
 callF Tryd.prog 18 [t26] w10 fun t27 w16 =>
 allocW 66 [(.int .i64 0),(.string (ofL [])),(.int .i64 0)] w16 fun t5 w17 =>
 stW 3 t5 t27 w17 fun w18 =>
 JoinW (fun J19 =>
 ldW false 1 t1 w18 fun t28 =>
 bslW 9 1 [(.string (ofL []))] [(0,1,(.string (ofL [123])))] w18 fun t29 w20 =>
 callF Tryd.prog 29 [t28,t29] w20 fun t30 w21 =>
 unW .not t30 fun t31 =>
 condW t31 (
 fldW 2 t5 fun t32 =>
 ldW false 1 t32 w21 fun t33 =>
 callF Tryd.prog 20 [(.int .i64 50),t33] w21 fun t34 w22 =>
 J19 [] w22) (
 J19 [] w21))
 fun s19 _ w23 =>
 ldW false 1 t1 w23 fun t35 =>
 fldW 2 t5 fun t36 =>
 ldW false 1 t36 w23 fun t37 =>
 callF Tryd.prog 30 [t35,t37,(.bool false),(.func (.func 31) #[] #[t1,t4])] w23 fun t39 w24 =>
 ldW false 1 t1 w24.drew fun t40 =>
 nilW t40 fun t41 =>
 fldW 3 t41 fun t42 =>
 ldW false 1 t42 w24.drew fun t43 =>
 ldW false 1 t1 w24.drew fun t44 =>
 nilW t44 fun t45 =>
 fldW 3 t45 fun t46 =>
 ldW false 1 t46 w24.drew fun t47 =>
 nilW t47 fun t48 =>
 fldW 1 t48 fun t49 =>
 ldW false 1 t49 w24.drew fun t50 =>
 ldW true 5 t4 w24.drew fun t51 =>
 bslW 41 1 [(.string (ofL [])),(.slice none 0 0),(.slice none 0 0),(.slice none 0 0),(.int .i64 0)] [(0,5,t51)] w24.drew fun t52 w25 =>
 (ldW false 1 t49 w25 fun x => x = t50) ∧
 (ldW false 1 t46 w25 fun x => x = t47) ∧
 (ldW false 1 t1 w25 fun x => x = t44) ∧
 (ldW false 1 t42 w25 fun x => x = t43) ∧
 (ldW false 1 t1 w25 fun x => x = t40) ∧
 semE Tryd.prog (Builtin.append_ #[25,25] 25 #[t50,t52]) w25 fun t53 w26 =>
 (ldW false 1 t42 w26 fun x => x = t43) ∧
 (ldW false 1 t1 w26 fun x => x = t40) ∧
 nilW t43 fun t54 =>
 fldW 1 t54 fun t55 =>
 stW 1 t55 t53 w26 fun w27 =>
 ldW false 1 t1 w27 fun t56 =>
 nilW t56 fun t57 =>
 fldW 3 t57 fun t58 =>
 ldW false 1 t58 w27 fun t59 =>
 nilW t59 fun t60 =>
 fldW 1 t60 fun t61 =>
 ldW false 1 t61 w27 fun t62 =>
 lenlW t62 fun t63 =>
 binW .sub t63 (.int .i64 1) fun t64 =>
 K t64 w27)
theorem W19_ok {v0 : Value} {w : World} {K : Value → World → Prop} (h : W19 v0 w K) : callF Tryd.prog 19 [v0] w K :=
 tie _ 19 Tryd.f19 plan19 _ w K 1 _ rfl mixed Tryd.func19 (by kernel_rfl) (by kernel_rfl) Tryd.call19 h
def plan20 : Plan := { js := [],ds := [] }
def W20 (v0 v1 : Value) (w : World) (K : Value → World → Prop) : Prop :=
 putW [(.int .i64 0),(.string (ofL [])),(.int .i64 0)] [(0,1,v0),(2,1,v1)] fun c1 =>
 boxW 34 (.agg c1.toArray) w fun t7 w2 =>
 pncW (.iface 29 t7) w2
theorem W20_ok {v0 v1 : Value} {w : World} {K : Value → World → Prop} (h : W20 v0 v1 w K) : callF Tryd.prog 20 [v0,v1] w K :=
 tie _ 20 Tryd.f20 plan20 _ w K 2 _ rfl mixed Tryd.func20 (by kernel_rfl) (by kernel_rfl) Tryd.call20 h
def plan24 : Plan := { js := [(21,⟨[23],[],6⟩),(6,⟨[4],[],1⟩)],ds := [] }
def W24 (v0 : Value) (w : World) (K : Value → World → Prop) : Prop :=
 LoopW [(.int .i64 0)] w fun s1 _ w2 L1 =>
 lensW v0 fun t9 =>
 binW .lss (s1.getD 0 undef) t9 fun t10 =>
 condW t10 (
 slsW v0 (some (s1.getD 0 undef)) none fun t13 =>
 ixsW v0 (s1.getD 0 undef) fun t18 =>
 callF Tryd.prog 35 [(.string (ofL [32,9,13])),t18] w2 fun t19 w3 =>
 binW .geq t19 (.int .i64 0) fun t20 =>
 condW t20 (
 binW .add (s1.getD 0 undef) (.int .i64 1) fun t22 =>
 L1 [t22] w3) (
 JoinW (fun J4 =>
 ixsW v0 (s1.getD 0 undef) fun t26 =>
 binW .eql t26 (.int .u8 35) fun t27 =>
 condW t27 (
 J4 [t27] w3) (
 callF Tryd.prog 23 [t13,(.string (ofL [47,47]))] w3 fun t29 w5 =>
 J4 [t29] w5))
 fun s4 _ w6 =>
 condW (s4.getD 0 undef) (
 callF Tryd.prog 36 [t13,(.func (.func 37) #[] #[])] w6 fun t32 w7 =>
 binW .add (s1.getD 0 undef) t32 fun t33 =>
 L1 [t33] w7) (
 callF Tryd.prog 23 [t13,(.string (ofL [47,42]))] w6 fun t36 w8 =>
 condW t36 (
 slsW t13 (some (.int .i64 2)) none fun t38 =>
 callF Tryd.prog 38 [t38,(.string (ofL [42,47]))] w8 fun t39 w9 =>
 binW .lss t39 (.int .i64 0) fun t41 =>
 condW t41 (
 K (.tuple #[(s1.getD 0 undef),(.int .i64 40)]) w9) (
 binW .add t39 (.int .i64 4) fun t45 =>
 binW .add (s1.getD 0 undef) t45 fun t46 =>
 L1 [t46] w9)) (
 K (.tuple #[(s1.getD 0 undef),(.int .i64 0)]) w8)))) (
 K (.tuple #[(s1.getD 0 undef),(.int .i64 0)]) w2)
theorem W24_ok {v0 : Value} {w : World} {K : Value → World → Prop} (h : W24 v0 w K) : callF Tryd.prog 24 [v0] w K :=
 tie _ 24 Tryd.f24 plan24 _ w K 1 _ rfl mixed Tryd.func24 (by kernel_rfl) (by kernel_rfl) Tryd.call24 h
def plan25 : Plan := { js := [(8,⟨[6,7],[3,4],6⟩),(38,⟨[43],[],8⟩),(43004,⟨[58],[],57⟩),(40006,⟨[52],[],49⟩)],ds := [] }
def W25 (v0 : Value) (w : World) (K : Value → World → Prop) : Prop :=
 allocW 66 [(.int .i64 0),(.string (ofL [])),(.int .i64 0)] w fun t2 w1 =>
 allocW 66 [(.int .i64 0),(.string (ofL [])),(.int .i64 0)] w1 fun t5 w2 =>
 JoinW (fun J3 =>
 ixsW v0 (.int .i64 0) fun t10 =>
 binW .eql t10 (.int .u8 10) fun t21 =>
 condW t21 (
 putW [(.int .i64 0),(.string (ofL [])),(.int .i64 0)] [(0,1,(.int .i64 5)),(1,1,(.string (ofL [10])))] fun c4 =>
 stW 3 t2 (.agg c4.toArray) w2 fun w5 =>
 ldW true 3 t2 w5 fun r6 =>
 K (.tuple #[r6,(.int .i64 1),(.int .i64 0)]) w5) (
 callF Tryd.prog 39 [t10] w2 fun t25 w7 =>
 condW t25 (
 callF Tryd.prog 36 [v0,(.func (.func 40) #[] #[])] w7 fun t27 w8 =>
 slsW v0 none (some t27) fun t30 =>
 putW [(.int .i64 0),(.string (ofL [])),(.int .i64 0)] [(0,1,(.int .i64 1)),(1,1,t30)] fun c9 =>
 stW 3 t5 (.agg c9.toArray) w8 fun w10 =>
 binW .gtr t27 (.int .i64 32) fun t33 =>
 condW t33 (
 J3 [(.int .i64 3),t27] w10) (
 J3 [(.int .i64 0),t27] w10)) (
 callF Tryd.prog 41 [t10] w7 fun t36 w11 =>
 condW t36 (
 callF Tryd.prog 36 [v0,(.func (.func 41) #[] #[])] w11 fun t38 w12 =>
 slsW v0 none (some t38) fun t41 =>
 putW [(.int .i64 0),(.string (ofL [])),(.int .i64 0)] [(0,1,(.int .i64 2)),(1,1,t41)] fun c13 =>
 stW 3 t5 (.agg c13.toArray) w12 fun w14 =>
 JoinW (fun J15 =>
 lensW v0 fun t46 =>
 binW .lss t38 t46 fun t47 =>
 GdW (isB t47 true) [undef] w14 (fun J16 =>
 ixsW v0 t38 fun t51 =>
 callF Tryd.prog 39 [t51] w14 fun t52 w17 =>
 J16 [t52] w17)
 fun s16 _ w18 =>
 pickW t47 (s16.getD 0 undef) (.bool false) fun t53 =>
 condW t53 (
 J15 [t53] w18) (
 binW .eql t10 (.int .u8 48) fun t55 =>
 GdW (isB t55 true) [undef] w18 (fun J19 =>
 binW .gtr t38 (.int .i64 1) fun t58 =>
 J19 [t58] w18)
 fun s19 _ w20 =>
 pickW t55 (s19.getD 0 undef) (.bool false) fun t59 =>
 J15 [t59] w20))
 fun s15 _ w21 =>
 condW (s15.getD 0 undef) (
 J3 [(.int .i64 40),t38] w21) (
 fldW 1 t5 fun t61 =>
 ldW false 1 t61 w21 fun t62 =>
 callF Tryd.prog 42 [t62] w21 fun t63 w22 =>
 unW .not t63 fun t64 =>
 condW t64 (
 J3 [(.int .i64 3),t38] w22) (
 J3 [(.int .i64 0),t38] w22))) (
 binW .eql t10 (.int .u8 34) fun t67 =>
 condW t67 (
 callF Tryd.prog 43 [v0,(.int .i64 0)] w11 fun t70 w23 =>
 extW 0 t70 fun t71 =>
 extW 1 t70 fun t72 =>
 binW .eql t72 (.int .i64 0) fun t74 =>
 condW t74 (
 binW .sub t71 (.int .i64 1) fun t77 =>
 slsW v0 (some (.int .i64 1)) (some t77) fun t78 =>
 putW [(.int .i64 0),(.string (ofL [])),(.int .i64 0)] [(0,1,(.int .i64 3)),(1,1,t78)] fun c24 =>
 stW 3 t5 (.agg c24.toArray) w23 fun w25 =>
 J3 [t72,t71] w25) (
 J3 [t72,t71] w23)) (
 callF Tryd.prog 23 [v0,(.string (ofL [60,60]))] w11 fun t82 w26 =>
 condW t82 (
 fldW 0 t5 fun t83 =>
 stW 1 t83 (.int .i64 3) w26 fun w27 =>
 callF Tryd.prog 44 [v0] w27 fun t86 w28 =>
 extW 0 t86 fun t87 =>
 extW 1 t86 fun t88 =>
 extW 2 t86 fun t89 =>
 fldW 1 t5 fun t90 =>
 stW 1 t90 t87 w28 fun w29 =>
 J3 [t89,t88] w29) (
 callF Tryd.prog 45 [v0] w26 fun t12 w30 =>
 putW [(.int .i64 0),(.string (ofL [])),(.int .i64 0)] [(0,1,(.int .i64 4)),(1,1,t12)] fun c31 =>
 stW 3 t5 (.agg c31.toArray) w30 fun w32 =>
 fldW 1 t5 fun t14 =>
 ldW false 1 t14 w32 fun t15 =>
 lensW t15 fun t16 =>
 binW .eql t16 (.int .i64 0) fun t18 =>
 condW t18 (
 J3 [(.int .i64 40),t16] w32) (
 J3 [(.int .i64 0),t16] w32)))))))
 fun s3 _ w33 =>
 ldW true 3 t5 w33 fun t91 =>
 stW 3 t2 t91 w33 fun w34 =>
 ldW true 3 t2 w34 fun r35 =>
 K (.tuple #[r35,(s3.getD 1 undef),(s3.getD 0 undef)]) w34
theorem W25_ok {v0 : Value} {w : World} {K : Value → World → Prop} (h : W25 v0 w K) : callF Tryd.prog 25 [v0] w K :=
 tie _ 25 Tryd.f25 plan25 _ w K 1 _ rfl mixed Tryd.func25 (by kernel_rfl) (by kernel_rfl) Tryd.call25 h
def plan26 : Plan := { js := [(2,⟨[],[],5⟩)],ds := [] }
def W26 (v0 v1 : Value) (w : World) (K : Value → World → Prop) : Prop :=
 allocW 66 [(.int .i64 0),(.string (ofL [])),(.int .i64 0)] w fun t4 w1 =>
 JoinW (fun J2 =>
 callF Tryd.prog 18 [v0] w1 fun t6 w3 =>
 partW false 0 1 t6 fun t7 =>
 binW .neq t7 v1 fun t9 =>
 condW t9 (
 callF Tryd.prog 18 [v0] w3 fun t11 w4 =>
 partW false 2 1 t11 fun t12 =>
 callF Tryd.prog 20 [(.int .i64 50),t12] w4 fun t13 w5 =>
 J2 [] w5) (
 J2 [] w3))
 fun s2 _ w6 =>
 callF Tryd.prog 28 [v0] w6 fun t15 w7 =>
 stW 3 t4 t15 w7 fun w8 =>
 ldW true 3 t4 w8 fun r9 =>
 K r9 w8
theorem W26_ok {v0 v1 : Value} {w : World} {K : Value → World → Prop} (h : W26 v0 v1 w K) : callF Tryd.prog 26 [v0,v1] w K :=
 tie _ 26 Tryd.f26 plan26 _ w K 2 _ rfl mixed Tryd.func26 (by kernel_rfl) (by kernel_rfl) Tryd.call26 h
def plan27 : Plan := { js := [(2,⟨[],[],4⟩)],ds := [] }
def W27 (v0 v1 : Value) (w : World) (K : Value → World → Prop) : Prop :=
 boxW 66 v1 w fun t3 w1 =>
 JoinW (fun J2 =>
 fldW 1 t3 fun t8 =>
 ldW false 1 t8 w1 fun t9 =>
 callF Tryd.prog 46 [t9] w1 fun t10 w3 =>
 extW 0 t10 fun t11 =>
 extW 1 t10 fun t12 =>
 binW .geq t11 (.int .i64 0) fun t14 =>
 condW t14 (
 fldW 2 t3 fun t15 =>
 ldW false 1 t15 w3 fun t16 =>
 callF Tryd.prog 20 [(.int .i64 50),t16] w3 fun t17 w4 =>
 J2 [] w4) (
 J2 [] w3))
 fun s2 _ w5 =>
 fldW 1 t3 fun t18 =>
 ldW false 1 t18 w5 fun t19 =>
 callF Tryd.prog 47 [t19] w5 fun t20 w6 =>
 K t20 w6
theorem W27_ok {v0 v1 : Value} {w : World} {K : Value → World → Prop} (h : W27 v0 v1 w K) : callF Tryd.prog 27 [v0,v1] w K :=
 tie _ 27 Tryd.f27 plan27 _ w K 2 _ rfl mixed Tryd.func27 (by kernel_rfl) (by kernel_rfl) Tryd.call27 h
def plan28 : Plan := { js := [(4,⟨[],[],4⟩)],ds := [] }
def W28 (v0 : Value) (w : World) (K : Value → World → Prop) : Prop :=
 allocW 66 [(.int .i64 0),(.string (ofL [])),(.int .i64 0)] w fun t2 w1 =>
 callF Tryd.prog 18 [v0] w1 fun t5 w2 =>
 allocW 66 [(.int .i64 0),(.string (ofL [])),(.int .i64 0)] w2 fun t3 w3 =>
 stW 3 t3 t5 w3 fun w4 =>
 JoinW (fun J5 =>
 fldW 0 t3 fun t6 =>
 ldW false 1 t6 w4 fun t7 =>
 binW .neq t7 (.int .i64 0) fun t8 =>
 condW t8 (
 nilW v0 fun t10 =>
 fldW 1 t10 fun t11 =>
 ldW false 1 t11 w4 fun t12 =>
 binW .add t12 (.int .i64 1) fun t13 =>
 nilW v0 fun t14 =>
 fldW 1 t14 fun t15 =>
 stW 1 t15 t13 w4 fun w6 =>
 J5 [] w6) (
 J5 [] w4))
 fun s5 _ w7 =>
 ldW true 3 t3 w7 fun t16 =>
 stW 3 t2 t16 w7 fun w8 =>
 ldW true 3 t2 w8 fun r9 =>
 K r9 w8
theorem W28_ok {v0 : Value} {w : World} {K : Value → World → Prop} (h : W28 v0 w K) : callF Tryd.prog 28 [v0] w K :=
 tie _ 28 Tryd.f28 plan28 _ w K 1 _ rfl mixed Tryd.func28 (by kernel_rfl) (by kernel_rfl) Tryd.call28 h
def plan29 : Plan := { js := [(5006,⟨[15],[],12⟩)],ds := [] }
def W29 (v0 v1 : Value) (w : World) (K : Value → World → Prop) : Prop :=
 callF Tryd.prog 18 [v0] w fun t7 w1 =>
 allocW 66 [(.int .i64 0),(.string (ofL [])),(.int .i64 0)] w1 fun t5 w2 =>
 stW 3 t5 t7 w2 fun w3 =>
 fldW 0 t5 fun t8 =>
 ldW false 1 t8 w3 fun t9 =>
 binW .eql t9 (.int .i64 4) fun t10 =>
 GdW (isB t10 true) [undef] w3 (fun J4 =>
 fldW 1 t5 fun t13 =>
 ldW false 1 t13 w3 fun t14 =>
 callF Tryd.prog 48 [v1,t14] w3 fun t15 w5 =>
 J4 [t15] w5)
 fun s4 _ w6 =>
 pickW t10 (s4.getD 0 undef) (.bool false) fun t16 =>
 K t16 w6
theorem W29_ok {v0 v1 : Value} {w : World} {K : Value → World → Prop} (h : W29 v0 v1 w K) : callF Tryd.prog 29 [v0,v1] w K :=
 tie _ 29 Tryd.f29 plan29 _ w K 2 _ rfl mixed Tryd.func29 (by kernel_rfl) (by kernel_rfl) Tryd.call29 h
def plan30 : Plan := { js := [(0,⟨[],[],4⟩)],ds := [] }
def W30 (v0 v1 v2 v3 : Value) (w : World) (K : Value → World → Prop) : Prop :=
 JoinW (fun J1 =>
 nilW v0 fun t10 =>
 fldW 4 t10 fun t11 =>
 ldW false 1 t11 w fun t12 =>
 binW .eql t12 (.int .i64 24) fun t13 =>
 condW t13 (
 callF Tryd.prog 20 [(.int .i64 7),v1] w fun t15 w2 =>
 J1 [] w2) (
 J1 [] w))
 fun s1 _ w3 =>
 nilW v0 fun t17 =>
 fldW 5 t17 fun t18 =>
 ldW false 1 t18 w3 fun t19 =>
 nilW v0 fun t21 =>
 fldW 4 t21 fun t22 =>
 ldW false 1 t22 w3 fun t23 =>
 binW .add t23 (.int .i64 1) fun t24 =>
 nilW v0 fun t25 =>
 fldW 4 t25 fun t26 =>
 stW 1 t26 t24 w3 fun w4 =>
 nilW v0 fun t29 =>
 fldW 5 t29 fun t30 =>
 stW 1 t30 v2 w4 fun w5 =>
 callV Tryd.prog v3 [] w5 fun t32 w6 =>
 nilW v0 fun t34 =>
 fldW 4 t34 fun t35 =>
 ldW false 1 t35 w6 fun t36 =>
 binW .sub t36 (.int .i64 1) fun t37 =>
 nilW v0 fun t38 =>
 fldW 4 t38 fun t39 =>
 stW 1 t39 t37 w6 fun w7 =>
 nilW v0 fun t42 =>
 fldW 5 t42 fun t43 =>
 stW 1 t43 t19 w7 fun w8 =>
 K (.tuple #[]) w8
theorem W30_ok {v0 v1 v2 v3 : Value} {w : World} {K : Value → World → Prop} (h : W30 v0 v1 v2 v3 w K) : callF Tryd.prog 30 [v0,v1,v2,v3] w K :=
 tie _ 30 Tryd.f30 plan30 _ w K 4 _ rfl mixed Tryd.func30 (by kernel_rfl) (by kernel_rfl) Tryd.call30 h
def plan31 : Plan := { js := [(15,⟨[],[],2⟩),(17005,⟨[24],[],21⟩),(5,⟨[],[],2⟩)],ds := [] }
def W31 (v0 v1 : Value) (w : World) (K : Value → World → Prop) : Prop :=
 ldW false 1 v0 w fun t2 =>
 nilW t2 fun t3 =>
 fldW 1 t3 fun t4 =>
 ldW false 1 t4 w fun t5 =>
 binW .add t5 (.int .i64 1) fun t6 =>
 nilW t2 fun t7 =>
 fldW 1 t7 fun t8 =>
 stW 1 t8 t6 w fun w1 =>
 ldW false 1 v0 w1 fun t9 =>
 callF Tryd.prog 17 [t9] w1 fun t10 w2 =>
 LoopW [] w2 fun s3 _ w4 L3 =>
 ldW false 1 v0 w4 fun t11 =>
 callF Tryd.prog 32 [t11,(.string (ofL [125]))] w4 fun t12 w5 =>
 unW .not t12 fun t13 =>
 condW t13 (
 ldW false 1 v0 w5 fun t14 =>
 callF Tryd.prog 33 [t14,v1] w5 fun t15 w6 =>
 JoinW (fun J7 =>
 ldW false 1 v0 w6 fun t16 =>
 callF Tryd.prog 18 [t16] w6 fun t17 w8 =>
 partW false 0 1 t17 fun t18 =>
 binW .neq t18 (.int .i64 5) fun t19 =>
 GdW (isB t19 true) [undef] w8 (fun J9 =>
 ldW false 1 v0 w8 fun t21 =>
 bslW 9 1 [(.string (ofL []))] [(0,1,(.string (ofL [125])))] w8 fun t22 w10 =>
 callF Tryd.prog 29 [t21,t22] w10 fun t23 w11 =>
 unW .not t23 fun t24 =>
 J9 [t24] w11)
 fun s9 _ w12 =>
 pickW t19 (s9.getD 0 undef) (.bool false) fun t25 =>
 condW t25 (
 ldW false 1 v0 w12 fun t26 =>
 callF Tryd.prog 18 [t26] w12 fun t27 w13 =>
 partW false 2 1 t27 fun t28 =>
 callF Tryd.prog 20 [(.int .i64 50),t28] w13 fun t29 w14 =>
 J7 [] w14) (
 J7 [] w12))
 fun s7 _ w15 =>
 ldW false 1 v0 w15 fun t30 =>
 callF Tryd.prog 17 [t30] w15 fun t31 w16 =>
 L3 [] w16) (
 K (.tuple #[]) w5)
theorem W31_ok {v0 v1 : Value} {w : World} {K : Value → World → Prop} (h : W31 v0 v1 w K) : callF Tryd.prog 31 [v0,v1] w K :=
 tie _ 31 Tryd.f31 plan31 _ w K 2 _ rfl mixed Tryd.func31 (by kernel_rfl) (by kernel_rfl) Tryd.call31 h
def plan32 : Plan := { js := [],ds := [] }
def W32 (v0 v1 : Value) (w : World) (K : Value → World → Prop) : Prop :=
 bslW 9 1 [(.string (ofL []))] [(0,1,v1)] w fun t7 w1 =>
 callF Tryd.prog 29 [v0,t7] w1 fun t8 w2 =>
 unW .not t8 fun t9 =>
 condW t9 (
 K (.bool false) w2) (
 nilW v0 fun t11 =>
 fldW 1 t11 fun t12 =>
 ldW false 1 t12 w2 fun t13 =>
 binW .add t13 (.int .i64 1) fun t14 =>
 nilW v0 fun t15 =>
 fldW 1 t15 fun t16 =>
 stW 1 t16 t14 w2 fun w3 =>
 K (.bool true) w3)
theorem W32_ok {v0 v1 : Value} {w : World} {K : Value → World → Prop} (h : W32 v0 v1 w K) : callF Tryd.prog 32 [v0,v1] w K :=
 tie _ 32 Tryd.f32 plan32 _ w K 2 _ rfl mixed Tryd.func32 (by kernel_rfl) (by kernel_rfl) Tryd.call32 h
def plan33 : Plan := { js := [],ds := [(12,⟨[0,1,2,3,4,5,9,10],[[],[],[1],[1,2],[1,2,3],[],[5],[5,6],[1,2,3,4,5,6,7],[0,1,2,3,4,5,6,7,8],[0,1,2,3,4,5,6,7,8,9],[0,1,2,3,4,5,6,7,8,9,10]]⟩),(7,⟨[0,1,2,3,4,5,6,7,9,10,11,14,15],[[],[],[1],[1,2],[1,2,3],[],[5],[],[7],[],[9],[5,6,7,8,9,10],[5,6,7,8,9,10,11],[1,2,3,4,5,6,7,8,9,10,11,12],[0,1,2,3,4,5,6,7,8,9,10,11,12,13],[0,1,2,3,4,5,6,7,8,9,10,11,12,13,14],[0,1,2,3,4,5,6,7,8,9,10,11,12,13,14,15]]⟩)] }
def W33 (v0 v1 : Value) (w : World) (K : Value → World → Prop) : Prop :=
 callF Tryd.prog 26 [v0,(.int .i64 1)] w fun t6 w1 =>
 allocW 66 [(.int .i64 0),(.string (ofL [])),(.int .i64 0)] w1 fun t4 w2 =>
 stW 3 t4 t6 w2 fun w3 =>
 callF Tryd.prog 32 [v0,(.string (ofL [61]))] w3 fun t8 w4 =>
 condW t8 (
 nilW v1 fun t11 =>
 fldW 2 t11 fun t12 =>
 ldW false 1 t12 w4.drew fun t13 =>
 fldW 1 t4 fun t14 =>
 ldW false 1 t14 w4.drew fun t15 =>
 fldW 2 t4 fun t18 =>
 ldW false 1 t18 w4.drew fun t19 =>
 callF Tryd.prog 49 [v0] w4.drew fun t17 w5 =>
 (ldW false 1 t18 w5 fun x => x = t19) ∧
 (ldW false 1 t14 w5 fun x => x = t15) ∧
 (ldW false 1 t12 w5 fun x => x = t13) ∧
 putW [(.string (ofL [])),(.int .i64 0),(.int .i64 0)] [(0,1,t15),(1,1,t17),(2,1,t19)] fun c6 =>
 bslW 43 1 [(.string (ofL [])),(.int .i64 0),(.int .i64 0)] [(0,3,(.agg c6.toArray))] w5 fun t21 w7 =>
 (ldW false 1 t12 w7 fun x => x = t13) ∧
 semE Tryd.prog (Builtin.append_ #[39,39] 39 #[t13,t21]) w7 fun t22 w8 =>
 nilW v1 fun t23 =>
 fldW 2 t23 fun t24 =>
 stW 1 t24 t22 w8 fun w9 =>
 K (.tuple #[]) w9) (
 nilW v0 fun t26 =>
 fldW 1 t26 fun t27 =>
 ldW false 1 t27 w4 fun t28 =>
 binW .sub t28 (.int .i64 1) fun t29 =>
 nilW v0 fun t30 =>
 fldW 1 t30 fun t31 =>
 stW 1 t31 t29 w4 fun w10 =>
 nilW v1 fun t34 =>
 fldW 3 t34 fun t35 =>
 ldW false 1 t35 w10.drew fun t36 =>
 callF Tryd.prog 19 [v0] w10.drew fun t38 w11 =>
 (ldW false 1 t35 w11 fun x => x = t36) ∧
 bslW 3 1 [(.int .i64 0)] [(0,1,t38)] w11 fun t39 w12 =>
 (ldW false 1 t35 w12 fun x => x = t36) ∧
 semE Tryd.prog (Builtin.append_ #[26,26] 26 #[t36,t39]) w12 fun t40 w13 =>
 nilW v1 fun t41 =>
 fldW 3 t41 fun t42 =>
 stW 1 t42 t40 w13 fun w14 =>
 K (.tuple #[]) w14)
theorem W33_ok {v0 v1 : Value} {w : World} {K : Value → World → Prop} (h : W33 v0 v1 w K) : callF Tryd.prog 33 [v0,v1] w K :=
 tie _ 33 Tryd.f33 plan33 _ w K 2 _ rfl mixed Tryd.func33 (by kernel_rfl) (by kernel_rfl) Tryd.call33 h
def plan36 : Plan := { js := [(6,⟨[8],[4,5],8⟩)],ds := [] }
def W36 (v0 v1 : Value) (w : World) (K : Value → World → Prop) : Prop :=
 lensW v0 fun t7 =>
 LoopW [(.int .i64 0)] w fun s1 _ w2 L1 =>
 binW .lss (s1.getD 0 undef) t7 fun t9 =>
 condW t9 (
 ixsW v0 (s1.getD 0 undef) fun t14 =>
 callV Tryd.prog v1 [t14] w2 fun t15 w3 =>
 unW .not t15 fun t16 =>
 condW t16 (
 K (s1.getD 0 undef) w3) (
 binW .add (s1.getD 0 undef) (.int .i64 1) fun t18 =>
 L1 [t18] w3)) (
 lensW v0 fun t20 =>
 K t20 w2)
theorem W36_ok {v0 v1 : Value} {w : World} {K : Value → World → Prop} (h : W36 v0 v1 w K) : callF Tryd.prog 36 [v0,v1] w K :=
 tie _ 36 Tryd.f36 plan36 _ w K 2 _ rfl mixed Tryd.func36 (by kernel_rfl) (by kernel_rfl) Tryd.call36 h
def plan37 : Plan := { js := [],ds := [] }
def W37 (v0 : Value) (w : World) (K : Value → World → Prop) : Prop :=
 binW .neq v0 (.int .u8 10) fun t4 =>
 K t4 w
theorem W37_ok {v0 : Value} {w : World} {K : Value → World → Prop} (h : W37 v0 w K) : callF Tryd.prog 37 [v0] w K :=
 tie _ 37 Tryd.f37 plan37 _ w K 1 _ rfl mixed Tryd.func37 (by kernel_rfl) (by kernel_rfl) Tryd.call37 h
def plan39 : Plan := { js := [(3004,⟨[19],[],18⟩),(3007,⟨[15],[],10⟩),(3009,⟨[14],[],13⟩),(3012,⟨[12],[],10⟩),(3016,⟨[7],[],6⟩)],ds := [] }
def W39 (v0 : Value) (w : World) (K : Value → World → Prop) : Prop :=
 binW .geq v0 (.int .u8 97) fun t4 =>
 GdW (isB t4 true) [undef] w (fun J1 =>
 binW .leq v0 (.int .u8 122) fun t7 =>
 J1 [t7] w)
 fun s1 _ w2 =>
 pickW t4 (s1.getD 0 undef) (.bool false) fun t8 =>
 GdW (isB t8 false) [undef] w2 (fun J3 =>
 binW .geq v0 (.int .u8 65) fun t11 =>
 J3 [t11] w2)
 fun s3 _ w4 =>
 GdW (isB (s3.getD 0 undef) true) [undef] w4 (fun J5 =>
 binW .leq v0 (.int .u8 90) fun t14 =>
 J5 [t14] w4)
 fun s5 _ w6 =>
 GdW (isB t8 false) [undef] w6 (fun J7 =>
 pickW (s3.getD 0 undef) (s5.getD 0 undef) (.bool false) fun t15 =>
 J7 [t15] w6)
 fun s7 _ w8 =>
 pickW t8 (.bool true) (s7.getD 0 undef) fun t16 =>
 GdW (isB t16 false) [undef] w8 (fun J9 =>
 binW .eql v0 (.int .u8 95) fun t19 =>
 J9 [t19] w8)
 fun s9 _ w10 =>
 pickW t16 (.bool true) (s9.getD 0 undef) fun t20 =>
 K t20 w10
theorem W39_ok {v0 : Value} {w : World} {K : Value → World → Prop} (h : W39 v0 w K) : callF Tryd.prog 39 [v0] w K :=
 tie _ 39 Tryd.f39 plan39 _ w K 1 _ rfl mixed Tryd.func39 (by kernel_rfl) (by kernel_rfl) Tryd.call39 h
def plan40 : Plan := { js := [(3004,⟨[11],[],10⟩),(3008,⟨[7],[],6⟩)],ds := [] }
def W40 (v0 : Value) (w : World) (K : Value → World → Prop) : Prop :=
 callF Tryd.prog 39 [v0] w fun t4 w1 =>
 GdW (isB t4 false) [undef] w1 (fun J2 =>
 callF Tryd.prog 41 [v0] w1 fun t7 w3 =>
 J2 [t7] w3)
 fun s2 _ w4 =>
 pickW t4 (.bool true) (s2.getD 0 undef) fun t8 =>
 GdW (isB t8 false) [undef] w4 (fun J5 =>
 binW .eql v0 (.int .u8 45) fun t11 =>
 J5 [t11] w4)
 fun s5 _ w6 =>
 pickW t8 (.bool true) (s5.getD 0 undef) fun t12 =>
 K t12 w6
theorem W40_ok {v0 : Value} {w : World} {K : Value → World → Prop} (h : W40 v0 w K) : callF Tryd.prog 40 [v0] w K :=
 tie _ 40 Tryd.f40 plan40 _ w K 1 _ rfl mixed Tryd.func40 (by kernel_rfl) (by kernel_rfl) Tryd.call40 h
def plan41 : Plan := { js := [(3004,⟨[7],[],6⟩)],ds := [] }
def W41 (v0 : Value) (w : World) (K : Value → World → Prop) : Prop :=
 binW .geq v0 (.int .u8 48) fun t4 =>
 GdW (isB t4 true) [undef] w (fun J1 =>
 binW .leq v0 (.int .u8 57) fun t7 =>
 J1 [t7] w)
 fun s1 _ w2 =>
 pickW t4 (s1.getD 0 undef) (.bool false) fun t8 =>
 K t8 w2
theorem W41_ok {v0 : Value} {w : World} {K : Value → World → Prop} (h : W41 v0 w K) : callF Tryd.prog 41 [v0] w K :=
 tie _ 41 Tryd.f41 plan41 _ w K 1 _ rfl mixed Tryd.func41 (by kernel_rfl) (by kernel_rfl) Tryd.call41 h
def plan43 : Plan := { js := [(32007,⟨[43],[],38⟩),(6,⟨[6],[],2⟩)],ds := [] }
def W43 (v0 v1 : Value) (w : World) (K : Value → World → Prop) : Prop :=
 LoopW [(.int .i64 1)] w fun s1 _ w2 L1 =>
 lensW v0 fun t11 =>
 binW .lss (s1.getD 0 undef) t11 fun t12 =>
 condW t12 (
 ixsW v0 (s1.getD 0 undef) fun t18 =>
 binW .eql t18 (.int .u8 34) fun t19 =>
 condW t19 (
 binW .add (s1.getD 0 undef) (.int .i64 1) fun t21 =>
 K (.tuple #[t21,(.int .i64 0)]) w2) (
 ixsW v0 (s1.getD 0 undef) fun t25 =>
 binW .eql t25 (.int .u8 10) fun t26 =>
 condW t26 (
 K (.tuple #[(.int .i64 0),(.int .i64 40)]) w2) (
 ixsW v0 (s1.getD 0 undef) fun t30 =>
 binW .eql t30 (.int .u8 92) fun t31 =>
 condW t31 (
 binW .add (s1.getD 0 undef) (.int .i64 1) fun t33 =>
 lensW v0 fun t35 =>
 binW .geq t33 t35 fun t36 =>
 GdW (isB t36 false) [undef] w2 (fun J3 =>
 binW .add (s1.getD 0 undef) (.int .i64 1) fun t40 =>
 ixsW v0 t40 fun t41 =>
 callF Tryd.prog 35 [(.string (ofL [34,92,110,116,114,36])),t41] w2 fun t42 w4 =>
 binW .lss t42 (.int .i64 0) fun t43 =>
 J3 [t43] w4)
 fun s3 _ w5 =>
 pickW t36 (.bool true) (s3.getD 0 undef) fun t44 =>
 condW t44 (
 K (.tuple #[(.int .i64 0),(.int .i64 40)]) w5) (
 binW .add (s1.getD 0 undef) (.int .i64 2) fun t46 =>
 L1 [t46] w5)) (
 slsW v0 (some (s1.getD 0 undef)) none fun t50 =>
 callF Tryd.prog 23 [t50,(.string (ofL [36,123]))] w2 fun t51 w6 =>
 condW t51 (
 binW .add (s1.getD 0 undef) (.int .i64 1) fun t55 =>
 slsW v0 (some t55) none fun t56 =>
 binW .add v1 (.int .i64 1) fun t58 =>
 callF Tryd.prog 53 [t56,t58] w6 fun t59 w7 =>
 extW 0 t59 fun t60 =>
 extW 1 t59 fun t61 =>
 binW .neq t61 (.int .i64 0) fun t63 =>
 condW t63 (
 K (.tuple #[(.int .i64 0),t61]) w7) (
 binW .add t60 (.int .i64 1) fun t67 =>
 binW .add (s1.getD 0 undef) t67 fun t68 =>
 L1 [t68] w7)) (
 binW .add (s1.getD 0 undef) (.int .i64 1) fun t14 =>
 L1 [t14] w6))))) (
 K (.tuple #[(.int .i64 0),(.int .i64 40)]) w2)
theorem W43_ok {v0 v1 : Value} {w : World} {K : Value → World → Prop} (h : W43 v0 v1 w K) : callF Tryd.prog 43 [v0,v1] w K :=
 tie _ 43 Tryd.f43 plan43 _ w K 2 _ rfl mixed Tryd.func43 (by kernel_rfl) (by kernel_rfl) Tryd.call43 h
def plan44 : Plan := { js := [(61,⟨[13],[13],68⟩),(65,⟨[72],[],72⟩),(51,⟨[],[13],68⟩),(27,⟨[7],[2,3,4,7],9⟩),(16005,⟨[43],[],40⟩),(16011,⟨[37],[],34⟩),(4,⟨[5],[],1⟩),(6004,⟨[20],[],18⟩)],ds := [] }
def W44 (v0 : Value) (w : World) (K : Value → World → Prop) : Prop :=
 JoinW (fun J1 =>
 lensW v0 fun t15 =>
 binW .gtr t15 (.int .i64 2) fun t16 =>
 GdW (isB t16 true) [undef] w (fun J2 =>
 ixsW v0 (.int .i64 2) fun t19 =>
 callF Tryd.prog 39 [t19] w fun t20 w3 =>
 J2 [t20] w3)
 fun s2 _ w4 =>
 pickW t16 (s2.getD 0 undef) (.bool false) fun t21 =>
 condW t21 (
 slsW v0 (some (.int .i64 2)) none fun t23 =>
 callF Tryd.prog 36 [t23,(.func (.func 54) #[] #[])] w4 fun t24 w5 =>
 J1 [t24] w5) (
 J1 [(.int .i64 0)] w4))
 fun s1 _ w6 =>
 binW .add (.int .i64 2) (s1.getD 0 undef) fun t27 =>
 slsW v0 (some (.int .i64 2)) (some t27) fun t28 =>
 binW .add (.int .i64 2) (s1.getD 0 undef) fun t30 =>
 binW .eql (s1.getD 0 undef) (.int .i64 0) fun t32 =>
 GdW (isB t32 false) [undef] w6 (fun J7 =>
 lensW v0 fun t36 =>
 binW .geq t30 t36 fun t37 =>
 J7 [t37] w6)
 fun s7 _ w8 =>
 pickW t32 (.bool true) (s7.getD 0 undef) fun t38 =>
 GdW (isB t38 false) [undef] w8 (fun J9 =>
 ixsW v0 t30 fun t42 =>
 binW .neq t42 (.int .u8 10) fun t43 =>
 J9 [t43] w8)
 fun s9 _ w10 =>
 pickW t38 (.bool true) (s9.getD 0 undef) fun t44 =>
 condW t44 (
 K (.tuple #[(.string (ofL [])),(.int .i64 0),(.int .i64 40)]) w10) (
 binW .add t30 (.int .i64 1) fun t46 =>
 allocW 98 [(.pointer none),(.slice none 0 0)] w10 fun t8 w11 =>
 LoopW [t46] w11 fun s12 _ w13 L12 =>
 slsW v0 (some (s12.getD 0 undef)) none fun t50 =>
 callF Tryd.prog 55 [t50,(.string (ofL [10]))] w13 fun t51 w14 =>
 extW 0 t51 fun t52 =>
 extW 1 t51 fun t53 =>
 extW 2 t51 fun t54 =>
 callF Tryd.prog 56 [t52,(.string (ofL [32,9]))] w14 fun t56 w15 =>
 binW .eql t56 t28 fun t58 =>
 condW t58 (
 callF Tryd.prog 57 [t8] w15 fun t59 w16 =>
 lensW t52 fun t62 =>
 binW .add (s12.getD 0 undef) t62 fun t63 =>
 K (.tuple #[t59,t63,(.int .i64 0)]) w16) (
 unW .not t54 fun t65 =>
 condW t65 (
 K (.tuple #[(.string (ofL [])),(.int .i64 0),(.int .i64 40)]) w15) (
 semE Tryd.prog (Instr.range 9 t52) w15 fun t67 w17 =>
 LoopW [] w17 fun s18 _ w19 L18 =>
 semE Tryd.prog (Instr.next t67 true 0) w19 fun t68 w20 =>
 extW 0 t68 fun t69 =>
 condW t69 (
 extW 2 t68 fun t70 =>
 JoinW (fun J21 =>
 JoinW (fun J22 =>
 binW .eql t70 (.int .i32 92) fun t73 =>
 condW t73 (
 J22 [t73] w20) (
 binW .eql t70 (.int .i32 34) fun t74 =>
 condW t74 (
 J22 [t74] w20) (
 binW .eql t70 (.int .i32 36) fun t75 =>
 J22 [t75] w20)))
 fun s22 _ w23 =>
 condW (s22.getD 0 undef) (
 callF Tryd.prog 58 [t8,(.int .u8 92)] w23 fun t76 w24 =>
 J21 [t70] w24) (
 binW .eql t70 (.int .i32 9) fun t78 =>
 condW t78 (
 callF Tryd.prog 58 [t8,(.int .u8 92)] w23 fun t79 w25 =>
 J21 [(.int .i32 116)] w25) (
 binW .eql t70 (.int .i32 13) fun t81 =>
 condW t81 (
 callF Tryd.prog 58 [t8,(.int .u8 92)] w23 fun t82 w26 =>
 J21 [(.int .i32 114)] w26) (
 J21 [t70] w23))))
 fun s21 _ w27 =>
 callF Tryd.prog 59 [t8,(s21.getD 0 undef)] w27 fun t84 w28 =>
 L18 [] w28) (
 callF Tryd.prog 60 [t8,(.string (ofL [92,110]))] w20 fun t85 w29 =>
 lensW t52 fun t88 =>
 binW .add t88 (.int .i64 1) fun t89 =>
 binW .add (s12.getD 0 undef) t89 fun t90 =>
 L12 [t90] w29))))
theorem W44_ok {v0 : Value} {w : World} {K : Value → World → Prop} (h : W44 v0 w K) : callF Tryd.prog 44 [v0] w K :=
 tie _ 44 Tryd.f44 plan44 _ w K 1 _ rfl mixed Tryd.func44 (by kernel_rfl) (by kernel_rfl) Tryd.call44 h
def plan45 : Plan := { js := [(2,⟨[],[],1⟩),(9,⟨[8],[],1⟩)],ds := [] }
def W45 (v0 : Value) (w : World) (K : Value → World → Prop) : Prop :=
 JoinW (fun J1 =>
 lensW v0 fun t4 =>
 binW .gtr t4 (.int .i64 1) fun t5 =>
 condW t5 (
 slsW v0 none (some (.int .i64 2)) fun t7 =>
 JoinW (fun J2 =>
 binW .eql t7 (.string (ofL [61,61])) fun t9 =>
 condW t9 (
 J2 [t9] w) (
 binW .eql t7 (.string (ofL [33,61])) fun t10 =>
 condW t10 (
 J2 [t10] w) (
 binW .eql t7 (.string (ofL [60,61])) fun t11 =>
 condW t11 (
 J2 [t11] w) (
 binW .eql t7 (.string (ofL [62,61])) fun t12 =>
 condW t12 (
 J2 [t12] w) (
 binW .eql t7 (.string (ofL [38,38])) fun t13 =>
 condW t13 (
 J2 [t13] w) (
 binW .eql t7 (.string (ofL [124,124])) fun t14 =>
 J2 [t14] w))))))
 fun s2 _ w3 =>
 condW (s2.getD 0 undef) (
 slsW v0 none (some (.int .i64 2)) fun t16 =>
 K t16 w3) (
 J1 [] w3)) (
 J1 [] w))
 fun s1 _ w4 =>
 ixsW v0 (.int .i64 0) fun t18 =>
 callF Tryd.prog 35 [(.string (ofL [123,125,91,93,40,41,61,43,45,42,47,37,60,62,33,63,58,44,46])),t18] w4 fun t19 w5 =>
 binW .geq t19 (.int .i64 0) fun t20 =>
 condW t20 (
 slsW v0 none (some (.int .i64 1)) fun t22 =>
 K t22 w5) (
 K (.string (ofL [])) w5)
theorem W45_ok {v0 : Value} {w : World} {K : Value → World → Prop} (h : W45 v0 w K) : callF Tryd.prog 45 [v0] w K :=
 tie _ 45 Tryd.f45 plan45 _ w K 1 _ rfl mixed Tryd.func45 (by kernel_rfl) (by kernel_rfl) Tryd.call45 h
def plan46 : Plan := { js := [(13,⟨[4],[],1⟩),(6,⟨[4],[],1⟩)],ds := [] }
def W46 (v0 : Value) (w : World) (K : Value → World → Prop) : Prop :=
 LoopW [(.int .i64 0)] w fun s1 _ w2 L1 =>
 lensW v0 fun t7 =>
 binW .lss (s1.getD 0 undef) t7 fun t8 =>
 condW t8 (
 JoinW (fun J3 =>
 ixsW v0 (s1.getD 0 undef) fun t13 =>
 binW .eql t13 (.int .u8 92) fun t14 =>
 condW t14 (
 binW .add (s1.getD 0 undef) (.int .i64 1) fun t16 =>
 J3 [t16] w2) (
 slsW v0 (some (s1.getD 0 undef)) none fun t19 =>
 callF Tryd.prog 23 [t19,(.string (ofL [36,123]))] w2 fun t20 w4 =>
 condW t20 (
 binW .add (s1.getD 0 undef) (.int .i64 1) fun t23 =>
 binW .add (s1.getD 0 undef) (.int .i64 1) fun t26 =>
 slsW v0 (some t26) none fun t27 =>
 callF Tryd.prog 61 [t27] w4 fun t28 w5 =>
 binW .add t23 t28 fun t29 =>
 K (.tuple #[(s1.getD 0 undef),t29]) w5) (
 J3 [(s1.getD 0 undef)] w4)))
 fun s3 _ w6 =>
 binW .add (s3.getD 0 undef) (.int .i64 1) fun t10 =>
 L1 [t10] w6) (
 K (.tuple #[(.int .i64 (-1)),(.int .i64 0)]) w2)
theorem W46_ok {v0 : Value} {w : World} {K : Value → World → Prop} (h : W46 v0 w K) : callF Tryd.prog 46 [v0] w K :=
 tie _ 46 Tryd.f46 plan46 _ w K 1 _ rfl mixed Tryd.func46 (by kernel_rfl) (by kernel_rfl) Tryd.call46 h
def plan47 : Plan := { js := [(19,⟨[4,5],[],4⟩),(8,⟨[4],[],4⟩)],ds := [] }
def W47 (v0 : Value) (w : World) (K : Value → World → Prop) : Prop :=
 allocW 98 [(.pointer none),(.slice none 0 0)] w fun t3 w1 =>
 LoopW [(.int .i64 0)] w1 fun s2 _ w3 L2 =>
 lensW v0 fun t8 =>
 binW .lss (s2.getD 0 undef) t8 fun t9 =>
 condW t9 (
 ixsW v0 (s2.getD 0 undef) fun t14 =>
 JoinW (fun J4 =>
 binW .eql t14 (.int .u8 92) fun t16 =>
 condW t16 (
 binW .add (s2.getD 0 undef) (.int .i64 1) fun t18 =>
 ixsW v0 t18 fun t21 =>
 binW .eql t21 (.int .u8 110) fun t24 =>
 condW t24 (
 J4 [t18,(.int .u8 10)] w3) (
 binW .eql t21 (.int .u8 116) fun t26 =>
 condW t26 (
 J4 [t18,(.int .u8 9)] w3) (
 binW .eql t21 (.int .u8 114) fun t28 =>
 condW t28 (
 J4 [t18,(.int .u8 13)] w3) (
 J4 [t18,t21] w3)))) (
 J4 [(s2.getD 0 undef),t14] w3))
 fun s4 _ w5 =>
 callF Tryd.prog 58 [t3,(s4.getD 1 undef)] w5 fun t30 w6 =>
 binW .add (s4.getD 0 undef) (.int .i64 1) fun t11 =>
 L2 [t11] w6) (
 callF Tryd.prog 57 [t3] w3 fun t31 w7 =>
 K t31 w7)
theorem W47_ok {v0 : Value} {w : World} {K : Value → World → Prop} (h : W47 v0 w K) : callF Tryd.prog 47 [v0] w K :=
 tie _ 47 Tryd.f47 plan47 _ w K 1 _ rfl mixed Tryd.func47 (by kernel_rfl) (by kernel_rfl) Tryd.call47 h
def plan49 : Plan := { js := [],ds := [(17,⟨[0,1,2,3,4,5,6,7],[[],[],[1],[],[3],[3,4],[3,4,5],[],[0,1,2,3,4,5,6,7]]⟩)] }
def W49 (v0 : Value) (w : World) (K : Value → World → Prop) : Prop :=
 boxW 60 v0 w fun t1 w1 =>
 ldW false 1 t1 w1 fun t6 =>
 callF Tryd.prog 63 [t6,(.int .i64 0)] w1 fun t7 w2 =>
 ldW false 1 t1 w2 fun t8 =>
 callF Tryd.prog 18 [t8] w2 fun t9 w3 =>
 allocW 66 [(.int .i64 0),(.string (ofL [])),(.int .i64 0)] w3 fun t4 w4 =>
 stW 3 t4 t9 w4 fun w5 =>
 ldW false 1 t1 w5 fun t10 =>
 callF Tryd.prog 32 [t10,(.string (ofL [63]))] w5 fun t11 w6 =>
 unW .not t11 fun t12 =>
 condW t12 (
 K t7 w6) (
 bslW 3 3 [(.int .i64 0),(.int .i64 0),(.int .i64 0)] [(0,1,t7),(1,1,(.int .i64 0)),(2,1,(.int .i64 0))] w6 fun t15 w7 =>
 allocW 26 [(.slice none 0 0)] w7 fun t5 w8 =>
 stW 1 t5 t15 w8 fun w9 =>
 ldW false 1 t1 w9.drew fun t16 =>
 fldW 2 t4 fun t17 =>
 ldW false 1 t17 w9.drew fun t18 =>
 ldW false 1 t1 w9.drew fun t19 =>
 nilW t19 fun t20 =>
 fldW 5 t20 fun t21 =>
 ldW false 1 t21 w9.drew fun t22 =>
 callF Tryd.prog 30 [t16,t18,t22,(.func (.func 64) #[] #[t1,t5])] w9.drew fun t24 w10 =>
 ldW false 1 t1 w10 fun t25 =>
 ldW false 1 t5 w10 fun t26 =>
 fldW 2 t4 fun t27 =>
 ldW false 1 t27 w10 fun t28 =>
 putW [(.int .i64 0),(.string (ofL [])),(.slice none 0 0),(.slice none 0 0),(.int .i64 0)] [(0,1,(.int .i64 28)),(2,1,t26),(4,1,t28)] fun c11 =>
 callF Tryd.prog 66 [t25,(.agg c11.toArray)] w10 fun t30 w12 =>
 K t30 w12)
theorem W49_ok {v0 : Value} {w : World} {K : Value → World → Prop} (h : W49 v0 w K) : callF Tryd.prog 49 [v0] w K :=
 tie _ 49 Tryd.f49 plan49 _ w K 1 _ rfl mixed Tryd.func49 (by kernel_rfl) (by kernel_rfl) Tryd.call49 h
def plan53 : Plan := { js := [(24,⟨[7,8],[4,5],7⟩),(14,⟨[6],[],2⟩)],ds := [] }
def W53 (v0 v1 : Value) (w : World) (K : Value → World → Prop) : Prop :=
 binW .gtr v1 (.int .i64 24) fun t10 =>
 condW t10 (
 K (.tuple #[(.int .i64 0),(.int .i64 7)]) w) (
 LoopW [(.int .i64 1)] w fun s1 _ w2 L1 =>
 lensW v0 fun t13 =>
 binW .lss (s1.getD 0 undef) t13 fun t14 =>
 condW t14 (
 JoinW (fun J3 =>
 ixsW v0 (s1.getD 0 undef) fun t17 =>
 binW .eql t17 (.int .u8 125) fun t19 =>
 condW t19 (
 binW .add (s1.getD 0 undef) (.int .i64 1) fun t21 =>
 K (.tuple #[t21,(.int .i64 0)]) w2) (
 binW .eql t17 (.int .u8 10) fun t23 =>
 condW t23 (
 K (.tuple #[(.int .i64 0),(.int .i64 40)]) w2) (
 binW .eql t17 (.int .u8 123) fun t25 =>
 condW t25 (
 slsW v0 (some (s1.getD 0 undef)) none fun t29 =>
 binW .add v1 (.int .i64 1) fun t31 =>
 callF Tryd.prog 53 [t29,t31] w2 fun t32 w4 =>
 extW 0 t32 fun t33 =>
 extW 1 t32 fun t34 =>
 J3 [t33,t34] w4) (
 binW .eql t17 (.int .u8 34) fun t36 =>
 condW t36 (
 slsW v0 (some (s1.getD 0 undef)) none fun t40 =>
 callF Tryd.prog 43 [t40,v1] w2 fun t42 w5 =>
 extW 0 t42 fun t43 =>
 extW 1 t42 fun t44 =>
 J3 [t43,t44] w5) (
 J3 [(.int .i64 1),(.int .i64 0)] w2)))))
 fun s3 _ w6 =>
 binW .neq (s3.getD 1 undef) (.int .i64 0) fun t46 =>
 condW t46 (
 K (.tuple #[(.int .i64 0),(s3.getD 1 undef)]) w6) (
 binW .add (s1.getD 0 undef) (s3.getD 0 undef) fun t50 =>
 L1 [t50] w6)) (
 K (.tuple #[(.int .i64 0),(.int .i64 40)]) w2))
theorem W53_ok {v0 v1 : Value} {w : World} {K : Value → World → Prop} (h : W53 v0 v1 w K) : callF Tryd.prog 53 [v0,v1] w K :=
 tie _ 53 Tryd.f53 plan53 _ w K 2 _ rfl mixed Tryd.func53 (by kernel_rfl) (by kernel_rfl) Tryd.call53 h
def plan54 : Plan := { js := [(3004,⟨[11],[],10⟩),(3008,⟨[7],[],6⟩)],ds := [] }
def W54 (v0 : Value) (w : World) (K : Value → World → Prop) : Prop :=
 callF Tryd.prog 39 [v0] w fun t4 w1 =>
 GdW (isB t4 false) [undef] w1 (fun J2 =>
 callF Tryd.prog 41 [v0] w1 fun t7 w3 =>
 J2 [t7] w3)
 fun s2 _ w4 =>
 pickW t4 (.bool true) (s2.getD 0 undef) fun t8 =>
 GdW (isB t8 false) [undef] w4 (fun J5 =>
 binW .eql v0 (.int .u8 45) fun t11 =>
 J5 [t11] w4)
 fun s5 _ w6 =>
 pickW t8 (.bool true) (s5.getD 0 undef) fun t12 =>
 K t12 w6
theorem W54_ok {v0 : Value} {w : World} {K : Value → World → Prop} (h : W54 v0 w K) : callF Tryd.prog 54 [v0] w K :=
 tie _ 54 Tryd.f54 plan54 _ w K 1 _ rfl mixed Tryd.func54 (by kernel_rfl) (by kernel_rfl) Tryd.call54 h
def plan61 : Plan := { js := [(15,⟨[3,4],[],1⟩),(8,⟨[3,4],[],1⟩)],ds := [] }
def W61 (v0 : Value) (w : World) (K : Value → World → Prop) : Prop :=
 LoopW [(.int .i64 0),(.int .i64 0)] w fun s1 _ w2 L1 =>
 lensW v0 fun t7 =>
 binW .lss (s1.getD 1 undef) t7 fun t8 =>
 condW t8 (
 JoinW (fun J3 =>
 ixsW v0 (s1.getD 1 undef) fun t13 =>
 binW .eql t13 (.int .u8 123) fun t15 =>
 condW t15 (
 binW .add (s1.getD 0 undef) (.int .i64 1) fun t17 =>
 J3 [t17,(s1.getD 1 undef)] w2) (
 binW .eql t13 (.int .u8 125) fun t19 =>
 condW t19 (
 binW .sub (s1.getD 0 undef) (.int .i64 1) fun t21 =>
 binW .eql t21 (.int .i64 0) fun t23 =>
 condW t23 (
 binW .add (s1.getD 1 undef) (.int .i64 1) fun t25 =>
 K t25 w2) (
 J3 [t21,(s1.getD 1 undef)] w2)) (
 binW .eql t13 (.int .u8 34) fun t27 =>
 condW t27 (
 slsW v0 (some (s1.getD 1 undef)) none fun t31 =>
 callF Tryd.prog 79 [t31] w2 fun t32 w4 =>
 binW .sub t32 (.int .i64 1) fun t33 =>
 binW .add (s1.getD 1 undef) t33 fun t34 =>
 J3 [(s1.getD 0 undef),t34] w4) (
 J3 [(s1.getD 0 undef),(s1.getD 1 undef)] w2))))
 fun s3 _ w5 =>
 binW .add (s3.getD 1 undef) (.int .i64 1) fun t10 =>
 L1 [(s3.getD 0 undef),t10] w5) (
 lensW v0 fun t36 =>
 K t36 w2)
theorem W61_ok {v0 : Value} {w : World} {K : Value → World → Prop} (h : W61 v0 w K) : callF Tryd.prog 61 [v0] w K :=
 tie _ 61 Tryd.f61 plan61 _ w K 1 _ rfl mixed Tryd.func61 (by kernel_rfl) (by kernel_rfl) Tryd.call61 h
def plan63 : Plan := { js := [(13,⟨[5],[],2⟩)],ds := [] }
def W63 (v0 v1 : Value) (w : World) (K : Value → World → Prop) : Prop :=
 binW .eql v1 (.int .i64 6) fun t10 =>
 condW t10 (
 callF Tryd.prog 80 [v0] w fun t12 w1 =>
 K t12 w1) (
 binW .add v1 (.int .i64 1) fun t15 =>
 callF Tryd.prog 63 [v0,t15] w fun t16 w2 =>
 LoopW [t16] w2 fun s3 _ w4 L3 =>
 callF Tryd.prog 18 [v0] w4 fun t18 w5 =>
 allocW 66 [(.int .i64 0),(.string (ofL [])),(.int .i64 0)] w5 fun t6 w6 =>
 stW 3 t6 t18 w6 fun w7 =>
 ldW true 3 t6 w7 fun t19 =>
 callF Tryd.prog 81 [t19,v1] w7 fun t21 w8 =>
 binW .eql t21 (.int .i64 0) fun t23 =>
 condW t23 (
 K (s3.getD 0 undef) w8) (
 nilW v0 fun t26 =>
 fldW 1 t26 fun t27 =>
 ldW false 1 t27 w8 fun t28 =>
 binW .add t28 (.int .i64 1) fun t29 =>
 nilW v0 fun t30 =>
 fldW 1 t30 fun t31 =>
 stW 1 t31 t29 w8 fun w9 =>
 binW .add v1 (.int .i64 1) fun t34 =>
 callF Tryd.prog 63 [v0,t34] w9 fun t35 w10 =>
 bslW 3 2 [(.int .i64 0),(.int .i64 0)] [(0,1,(s3.getD 0 undef)),(1,1,t35)] w10 fun t40 w11 =>
 fldW 2 t6 fun t41 =>
 ldW false 1 t41 w11 fun t42 =>
 putW [(.int .i64 0),(.string (ofL [])),(.slice none 0 0),(.slice none 0 0),(.int .i64 0)] [(0,1,t21),(2,1,t40),(4,1,t42)] fun c12 =>
 callF Tryd.prog 66 [v0,(.agg c12.toArray)] w11 fun t44 w13 =>
 L3 [t44] w13))
theorem W63_ok {v0 v1 : Value} {w : World} {K : Value → World → Prop} (h : W63 v0 v1 w K) : callF Tryd.prog 63 [v0,v1] w K :=
 tie _ 63 Tryd.f63 plan63 _ w K 2 _ rfl mixed Tryd.func63 (by kernel_rfl) (by kernel_rfl) Tryd.call63 h
def plan64 : Plan := { js := [],ds := [(4,⟨[0,1,3],[[],[],[1],[0,1,2],[0,1,2,3]]⟩),(1,⟨[0,1,3],[[],[],[1],[0,1,2],[0,1,2,3]]⟩)] }
def W64 (v0 v1 : Value) (w : World) (K : Value → World → Prop) : Prop :=
 ldW false 1 v1 w.drew fun t2 =>
 ldW false 1 v0 w.drew fun t3 =>
 callF Tryd.prog 49 [t3] w.drew fun t4 w1 =>
 (ldW false 1 v1 w1 fun x => x = t2) ∧
 ixaW none 1 t2 (.int .i64 1) fun t5 =>
 stW 1 t5 t4 w1 fun w2 =>
 ldW false 1 v0 w2 fun t6 =>
 callF Tryd.prog 65 [t6,(.string (ofL [58]))] w2 fun t7 w3 =>
 ldW false 1 v1 w3.drew fun t8 =>
 ldW false 1 v0 w3.drew fun t9 =>
 callF Tryd.prog 49 [t9] w3.drew fun t10 w4 =>
 (ldW false 1 v1 w4 fun x => x = t8) ∧
 ixaW none 1 t8 (.int .i64 2) fun t11 =>
 stW 1 t11 t10 w4 fun w5 =>
 K (.tuple #[]) w5
theorem W64_ok {v0 v1 : Value} {w : World} {K : Value → World → Prop} (h : W64 v0 v1 w K) : callF Tryd.prog 64 [v0,v1] w K :=
 tie _ 64 Tryd.f64 plan64 _ w K 2 _ rfl mixed Tryd.func64 (by kernel_rfl) (by kernel_rfl) Tryd.call64 h
def plan65 : Plan := { js := [],ds := [] }
def W65 (v0 v1 : Value) (w : World) (K : Value → World → Prop) : Prop :=
 callF Tryd.prog 32 [v0,v1] w fun t6 w1 =>
 unW .not t6 fun t7 =>
 condW t7 (
 callF Tryd.prog 18 [v0] w1 fun t9 w2 =>
 partW false 2 1 t9 fun t10 =>
 callF Tryd.prog 20 [(.int .i64 50),t10] w2 fun t11 w3 =>
 K (.tuple #[]) w3) (
 K (.tuple #[]) w1)
theorem W65_ok {v0 v1 : Value} {w : World} {K : Value → World → Prop} (h : W65 v0 v1 w K) : callF Tryd.prog 65 [v0,v1] w K :=
 tie _ 65 Tryd.f65 plan65 _ w K 2 _ rfl mixed Tryd.func65 (by kernel_rfl) (by kernel_rfl) Tryd.call65 h
def plan66 : Plan := { js := [],ds := [(3,⟨[0,1,2,3,4,5,6,7,8,9,10,11,14,15],[[],[0],[0,1],[0,1,2],[],[4],[4,5],[4,5,6],[4,5,6,7],[4,5,6,7,8],[4,5,6,7,8,9],[],[11],[4,5,6,7,8,9,10,11,12],[0,1,2,3,4,5,6,7,8,9,10,11,12,13],[0,1,2,3,4,5,6,7,8,9,10,11,12,13,14],[0,1,2,3,4,5,6,7,8,9,10,11,12,13,14,15]]⟩)] }
def W66 (v0 v1 : Value) (w : World) (K : Value → World → Prop) : Prop :=
 boxW 38 v1 w fun t3 w1 =>
 nilW v0 fun t6 =>
 fldW 3 t6 fun t7 =>
 ldW false 1 t7 w1.drew fun t8 =>
 nilW v0 fun t10 =>
 fldW 3 t10 fun t11 =>
 ldW false 1 t11 w1.drew fun t12 =>
 nilW t12 fun t13 =>
 fldW 0 t13 fun t14 =>
 ldW false 1 t14 w1.drew fun t15 =>
 ldW true 5 t3 w1.drew fun t16 =>
 bslW 38 1 [(.int .i64 0),(.string (ofL [])),(.slice none 0 0),(.slice none 0 0),(.int .i64 0)] [(0,5,t16)] w1.drew fun t17 w2 =>
 (ldW false 1 t14 w2 fun x => x = t15) ∧
 (ldW false 1 t11 w2 fun x => x = t12) ∧
 (ldW false 1 t7 w2 fun x => x = t8) ∧
 semE Tryd.prog (Builtin.append_ #[24,24] 24 #[t15,t17]) w2 fun t18 w3 =>
 (ldW false 1 t7 w3 fun x => x = t8) ∧
 nilW t8 fun t19 =>
 fldW 0 t19 fun t20 =>
 stW 1 t20 t18 w3 fun w4 =>
 nilW v0 fun t22 =>
 fldW 3 t22 fun t23 =>
 ldW false 1 t23 w4 fun t24 =>
 nilW t24 fun t25 =>
 fldW 0 t25 fun t26 =>
 ldW false 1 t26 w4 fun t27 =>
 lenlW t27 fun t28 =>
 binW .sub t28 (.int .i64 1) fun t29 =>
 K t29 w4
theorem W66_ok {v0 v1 : Value} {w : World} {K : Value → World → Prop} (h : W66 v0 v1 w K) : callF Tryd.prog 66 [v0,v1] w K :=
 tie _ 66 Tryd.f66 plan66 _ w K 2 _ rfl mixed Tryd.func66 (by kernel_rfl) (by kernel_rfl) Tryd.call66 h
def plan79 : Plan := { js := [(13,⟨[3],[],1⟩),(6,⟨[3],[],1⟩)],ds := [] }
def W79 (v0 : Value) (w : World) (K : Value → World → Prop) : Prop :=
 LoopW [(.int .i64 1)] w fun s1 _ w2 L1 =>
 lensW v0 fun t6 =>
 binW .lss (s1.getD 0 undef) t6 fun t7 =>
 condW t7 (
 JoinW (fun J3 =>
 ixsW v0 (s1.getD 0 undef) fun t13 =>
 binW .eql t13 (.int .u8 34) fun t14 =>
 condW t14 (
 binW .add (s1.getD 0 undef) (.int .i64 1) fun t16 =>
 K t16 w2) (
 ixsW v0 (s1.getD 0 undef) fun t20 =>
 binW .eql t20 (.int .u8 92) fun t21 =>
 condW t21 (
 binW .add (s1.getD 0 undef) (.int .i64 1) fun t23 =>
 J3 [t23] w2) (
 slsW v0 (some (s1.getD 0 undef)) none fun t27 =>
 callF Tryd.prog 23 [t27,(.string (ofL [36,123]))] w2 fun t28 w4 =>
 condW t28 (
 binW .add (s1.getD 0 undef) (.int .i64 1) fun t32 =>
 slsW v0 (some t32) none fun t33 =>
 callF Tryd.prog 61 [t33] w4 fun t34 w5 =>
 binW .add (s1.getD 0 undef) t34 fun t35 =>
 J3 [t35] w5) (
 J3 [(s1.getD 0 undef)] w4))))
 fun s3 _ w6 =>
 binW .add (s3.getD 0 undef) (.int .i64 1) fun t9 =>
 L1 [t9] w6) (
 lensW v0 fun t37 =>
 K t37 w2)
theorem W79_ok {v0 : Value} {w : World} {K : Value → World → Prop} (h : W79 v0 w K) : callF Tryd.prog 79 [v0] w K :=
 tie _ 79 Tryd.f79 plan79 _ w K 1 _ rfl mixed Tryd.func79 (by kernel_rfl) (by kernel_rfl) Tryd.call79 h
def plan80 : Plan := { js := [(8,⟨[4],[],4⟩)],ds := [(30,⟨[0,1,2,3,4,5,6,7],[[],[],[1],[],[3],[3,4],[3,4,5],[],[0,1,2,3,4,5,6,7]]⟩)] }
def W80 (v0 : Value) (w : World) (K : Value → World → Prop) : Prop :=
 boxW 60 v0 w fun t1 w1 =>
 ldW false 1 t1 w1 fun t6 =>
 callF Tryd.prog 18 [t6] w1 fun t7 w2 =>
 allocW 66 [(.int .i64 0),(.string (ofL [])),(.int .i64 0)] w2 fun t3 w3 =>
 stW 3 t3 t7 w3 fun w4 =>
 JoinW (fun J5 =>
 ldW false 1 t1 w4 fun t9 =>
 bslW 9 1 [(.string (ofL []))] [(0,1,(.string (ofL [33])))] w4 fun t10 w6 =>
 callF Tryd.prog 29 [t9,t10] w6 fun t11 w7 =>
 condW t11 (
 J5 [(.int .i64 14)] w7) (
 ldW false 1 t1 w7 fun t13 =>
 bslW 9 1 [(.string (ofL []))] [(0,1,(.string (ofL [45])))] w7 fun t14 w8 =>
 callF Tryd.prog 29 [t13,t14] w8 fun t15 w9 =>
 condW t15 (
 J5 [(.int .i64 13)] w9) (
 ldW false 1 t1 w9 fun t33 =>
 callF Tryd.prog 89 [t33] w9 fun t34 w10 =>
 K t34 w10)))
 fun s5 _ w11 =>
 allocW 3 [(.int .i64 0)] w11 fun t5 w12 =>
 stW 1 t5 (.int .i64 0) w12 fun w13 =>
 ldW false 1 t1 w13.drew fun t16 =>
 fldW 2 t3 fun t17 =>
 ldW false 1 t17 w13.drew fun t18 =>
 ldW false 1 t1 w13.drew fun t19 =>
 nilW t19 fun t20 =>
 fldW 5 t20 fun t21 =>
 ldW false 1 t21 w13.drew fun t22 =>
 callF Tryd.prog 30 [t16,t18,t22,(.func (.func 88) #[] #[t1,t5])] w13.drew fun t24 w14 =>
 ldW false 1 t1 w14 fun t25 =>
 ldW false 1 t5 w14 fun t27 =>
 bslW 3 1 [(.int .i64 0)] [(0,1,t27)] w14 fun t28 w15 =>
 fldW 2 t3 fun t29 =>
 ldW false 1 t29 w15 fun t30 =>
 putW [(.int .i64 0),(.string (ofL [])),(.slice none 0 0),(.slice none 0 0),(.int .i64 0)] [(0,1,(s5.getD 0 undef)),(2,1,t28),(4,1,t30)] fun c16 =>
 callF Tryd.prog 66 [t25,(.agg c16.toArray)] w15 fun t32 w17 =>
 K t32 w17
theorem W80_ok {v0 : Value} {w : World} {K : Value → World → Prop} (h : W80 v0 w K) : callF Tryd.prog 80 [v0] w K :=
 tie _ 80 Tryd.f80 plan80 _ w K 1 _ rfl mixed Tryd.func80 (by kernel_rfl) (by kernel_rfl) Tryd.call80 h
def plan81 : Plan := { js := [],ds := [] }
def W81 (v0 v1 : Value) (w : World) (K : Value → World → Prop) : Prop :=
 boxW 66 v0 w fun t2 w1 =>
 fldW 0 t2 fun t5 =>
 ldW false 1 t5 w1 fun t6 =>
 binW .neq t6 (.int .i64 4) fun t7 =>
 condW t7 (
 K (.int .i64 0) w1) (
 binW .mul v1 (.int .i64 100) fun t9 =>
 bslW 9 13 (List.replicate 13 (.string (ofL []))) [(0,1,(.string (ofL [124,124]))),(1,1,(.string (ofL [38,38]))),(2,1,(.string (ofL [61,61]))),(3,1,(.string (ofL [33,61]))),(4,1,(.string (ofL [60]))),(5,1,(.string (ofL [62]))),(6,1,(.string (ofL [60,61]))),(7,1,(.string (ofL [62,61]))),(8,1,(.string (ofL [43]))),(9,1,(.string (ofL [45]))),(10,1,(.string (ofL [42]))),(11,1,(.string (ofL [47]))),(12,1,(.string (ofL [37])))] w1 fun t10 w2 =>
 fldW 1 t2 fun t11 =>
 ldW false 1 t11 w2 fun t12 =>
 callF Tryd.prog 62 [t10,t12] w2 fun t13 w3 =>
 binW .add t9 t13 fun t14 =>
 binW .eql t14 (.int .i64 0) fun t16 =>
 condW t16 (
 K (.int .i64 27) w3) (
 binW .eql t14 (.int .i64 101) fun t18 =>
 condW t18 (
 K (.int .i64 26) w3) (
 binW .eql t14 (.int .i64 202) fun t20 =>
 condW t20 (
 K (.int .i64 20) w3) (
 binW .eql t14 (.int .i64 203) fun t22 =>
 condW t22 (
 K (.int .i64 21) w3) (
 binW .eql t14 (.int .i64 304) fun t24 =>
 condW t24 (
 K (.int .i64 22) w3) (
 binW .eql t14 (.int .i64 305) fun t26 =>
 condW t26 (
 K (.int .i64 23) w3) (
 binW .eql t14 (.int .i64 306) fun t28 =>
 condW t28 (
 K (.int .i64 24) w3) (
 binW .eql t14 (.int .i64 307) fun t30 =>
 condW t30 (
 K (.int .i64 25) w3) (
 binW .eql t14 (.int .i64 408) fun t32 =>
 condW t32 (
 K (.int .i64 15) w3) (
 binW .eql t14 (.int .i64 409) fun t34 =>
 condW t34 (
 K (.int .i64 16) w3) (
 binW .eql t14 (.int .i64 510) fun t36 =>
 condW t36 (
 K (.int .i64 17) w3) (
 binW .eql t14 (.int .i64 511) fun t38 =>
 condW t38 (
 K (.int .i64 18) w3) (
 binW .eql t14 (.int .i64 512) fun t40 =>
 condW t40 (
 K (.int .i64 19) w3) (
 K (.int .i64 0) w3))))))))))))))
theorem W81_ok {v0 v1 : Value} {w : World} {K : Value → World → Prop} (h : W81 v0 v1 w K) : callF Tryd.prog 81 [v0,v1] w K :=
 tie _ 81 Tryd.f81 plan81 _ w K 2 _ rfl mixed Tryd.func81 (by kernel_rfl) (by kernel_rfl) Tryd.call81 h
def plan88 : Plan := { js := [],ds := [] }
def W88 (v0 v1 : Value) (w : World) (K : Value → World → Prop) : Prop :=
 ldW false 1 v0 w fun t2 =>
 nilW t2 fun t3 =>
 fldW 1 t3 fun t4 =>
 ldW false 1 t4 w fun t5 =>
 binW .add t5 (.int .i64 1) fun t6 =>
 nilW t2 fun t7 =>
 fldW 1 t7 fun t8 =>
 stW 1 t8 t6 w fun w1 =>
 ldW false 1 v0 w1 fun t9 =>
 callF Tryd.prog 80 [t9] w1 fun t10 w2 =>
 stW 1 v1 t10 w2 fun w3 =>
 K (.tuple #[]) w3
theorem W88_ok {v0 v1 : Value} {w : World} {K : Value → World → Prop} (h : W88 v0 v1 w K) : callF Tryd.prog 88 [v0,v1] w K :=
 tie _ 88 Tryd.f88 plan88 _ w K 2 _ rfl mixed Tryd.func88 (by kernel_rfl) (by kernel_rfl) Tryd.call88 h
def plan89 : Plan := { js := [(5,⟨[3],[],2⟩)],ds := [(31,⟨[0,1,3,6,7,8],[[],[],[1],[1,2],[],[4],[],[6],[1,2,3,4,5,6,7],[0,1,2,3,4,5,6,7,8],[0,1,2,3,4,5,6,7,8,9]]⟩),(13,⟨[0,1,3,6,7,8],[[],[],[1],[1,2],[],[4],[],[6],[1,2,3,4,5,6,7],[0,1,2,3,4,5,6,7,8],[0,1,2,3,4,5,6,7,8,9]]⟩)] }
def W89 (v0 : Value) (w : World) (K : Value → World → Prop) : Prop :=
 boxW 60 v0 w fun t1 w1 =>
 ldW false 1 t1 w1 fun t7 =>
 callF Tryd.prog 92 [t7] w1 fun t8 w2 =>
 LoopW [t8] w2 fun s3 _ w4 L3 =>
 ldW false 1 t1 w4 fun t9 =>
 callF Tryd.prog 18 [t9] w4 fun t10 w5 =>
 allocW 66 [(.int .i64 0),(.string (ofL [])),(.int .i64 0)] w5 fun t4 w6 =>
 stW 3 t4 t10 w6 fun w7 =>
 ldW false 1 t1 w7 fun t13 =>
 callF Tryd.prog 32 [t13,(.string (ofL [46]))] w7 fun t14 w8 =>
 condW t14 (
 ldW false 1 t1 w8.drew fun t15 =>
 ldW false 1 t1 w8.drew fun t16 =>
 fldW 2 t4 fun t21 =>
 ldW false 1 t21 w8.drew fun t22 =>
 (
 callF Tryd.prog 26 [t16,(.int .i64 1)] w8.drew fun t17 w9 =>
 (ldW false 1 t21 w9 fun x => x = t22) ∧
 (ldW false 1 t1 w9 fun x => x = t15) ∧
 partW false 1 1 t17 fun t18 =>
 (ldW false 1 t21 w9 fun x => x = t22) ∧
 (ldW false 1 t1 w9 fun x => x = t15) ∧
 bslW 3 1 [(.int .i64 0)] [(0,1,(s3.getD 0 undef))] w9 fun t20 w10 =>
 (ldW false 1 t21 w10 fun x => x = t22) ∧
 (ldW false 1 t1 w10 fun x => x = t15) ∧
 putW [(.int .i64 0),(.string (ofL [])),(.slice none 0 0),(.slice none 0 0),(.int .i64 0)] [(0,1,(.int .i64 10)),(1,1,t18),(2,1,t20),(4,1,t22)] fun c11 =>
 callF Tryd.prog 66 [t15,(.agg c11.toArray)] w10 fun t24 w12 =>
 L3 [t24] w12) ∧
 (
 (ldW false 1 t21 w8.drew fun x => x = t22) ∧
 (ldW false 1 t1 w8.drew fun x => x = t16) ∧
 (ldW false 1 t1 w8.drew fun x => x = t15) ∧
 (
 callF Tryd.prog 26 [t16,(.int .i64 1)] w8.drew fun t17 w13 =>
 (ldW false 1 t21 w13 fun x => x = t22) ∧
 (ldW false 1 t1 w13 fun x => x = t15) ∧
 partW false 1 1 t17 fun t18 =>
 bslW 3 1 [(.int .i64 0)] [(0,1,(s3.getD 0 undef))] w13 fun t20 w14 =>
 (ldW false 1 t21 w14 fun x => x = t22) ∧
 (ldW false 1 t1 w14 fun x => x = t15) ∧
 putW [(.int .i64 0),(.string (ofL [])),(.slice none 0 0),(.slice none 0 0),(.int .i64 0)] [(0,1,(.int .i64 10)),(1,1,t18),(2,1,t20),(4,1,t22)] fun c15 =>
 callF Tryd.prog 66 [t15,(.agg c15.toArray)] w14 fun t24 w16 =>
 L3 [t24] w16) ∧
 (
 bslW 3 1 [(.int .i64 0)] [(0,1,(s3.getD 0 undef))] w8.drew fun t20 w17 =>
 (ldW false 1 t21 w17 fun x => x = t22) ∧
 (ldW false 1 t1 w17 fun x => x = t16) ∧
 (ldW false 1 t1 w17 fun x => x = t15) ∧
 callF Tryd.prog 26 [t16,(.int .i64 1)] w17 fun t17 w18 =>
 (ldW false 1 t21 w18 fun x => x = t22) ∧
 (ldW false 1 t1 w18 fun x => x = t15) ∧
 partW false 1 1 t17 fun t18 =>
 putW [(.int .i64 0),(.string (ofL [])),(.slice none 0 0),(.slice none 0 0),(.int .i64 0)] [(0,1,(.int .i64 10)),(1,1,t18),(2,1,t20),(4,1,t22)] fun c19 =>
 callF Tryd.prog 66 [t15,(.agg c19.toArray)] w18 fun t24 w20 =>
 L3 [t24] w20))) (
 ldW false 1 t1 w8 fun t26 =>
 bslW 9 1 [(.string (ofL []))] [(0,1,(.string (ofL [91])))] w8 fun t27 w21 =>
 callF Tryd.prog 29 [t26,t27] w21 fun t28 w22 =>
 condW t28 (
 allocW 3 [(.int .i64 0)] w22 fun t5 w23 =>
 allocW 4 [(.bool false)] w23 fun t6 w24 =>
 stW 1 t5 (.int .i64 0) w24 fun w25 =>
 stW 1 t6 (.bool false) w25 fun w26 =>
 ldW false 1 t1 w26 fun t29 =>
 fldW 2 t4 fun t30 =>
 ldW false 1 t30 w26 fun t31 =>
 callF Tryd.prog 30 [t29,t31,(.bool true),(.func (.func 93) #[] #[t1,t6,t5])] w26 fun t33 w27 =>
 ldW false 1 t6 w27 fun t34 =>
 unW .not t34 fun t35 =>
 condW t35 (
 ldW false 1 t1 w27 fun t36 =>
 ldW false 1 t5 w27 fun t38 =>
 bslW 3 2 [(.int .i64 0),(.int .i64 0)] [(0,1,(s3.getD 0 undef)),(1,1,t38)] w27 fun t39 w28 =>
 fldW 2 t4 fun t40 =>
 ldW false 1 t40 w28 fun t41 =>
 putW [(.int .i64 0),(.string (ofL [])),(.slice none 0 0),(.slice none 0 0),(.int .i64 0)] [(0,1,(.int .i64 11)),(2,1,t39),(4,1,t41)] fun c29 =>
 callF Tryd.prog 66 [t36,(.agg c29.toArray)] w28 fun t43 w30 =>
 L3 [t43] w30) (
 ldW false 1 t1 w27 fun t44 =>
 callF Tryd.prog 65 [t44,(.string (ofL [46]))] w27 fun t45 w31 =>
 ldW false 1 t1 w31.drew fun t46 =>
 ldW false 1 t1 w31.drew fun t47 =>
 fldW 2 t4 fun t52 =>
 ldW false 1 t52 w31.drew fun t53 =>
 (
 callF Tryd.prog 26 [t47,(.int .i64 1)] w31.drew fun t48 w32 =>
 (ldW false 1 t52 w32 fun x => x = t53) ∧
 (ldW false 1 t1 w32 fun x => x = t46) ∧
 partW false 1 1 t48 fun t49 =>
 (ldW false 1 t52 w32 fun x => x = t53) ∧
 (ldW false 1 t1 w32 fun x => x = t46) ∧
 bslW 3 1 [(.int .i64 0)] [(0,1,(s3.getD 0 undef))] w32 fun t51 w33 =>
 (ldW false 1 t52 w33 fun x => x = t53) ∧
 (ldW false 1 t1 w33 fun x => x = t46) ∧
 putW [(.int .i64 0),(.string (ofL [])),(.slice none 0 0),(.slice none 0 0),(.int .i64 0)] [(0,1,(.int .i64 30)),(1,1,t49),(2,1,t51),(4,1,t53)] fun c34 =>
 callF Tryd.prog 66 [t46,(.agg c34.toArray)] w33 fun t55 w35 =>
 L3 [t55] w35) ∧
 (
 (ldW false 1 t52 w31.drew fun x => x = t53) ∧
 (ldW false 1 t1 w31.drew fun x => x = t47) ∧
 (ldW false 1 t1 w31.drew fun x => x = t46) ∧
 (
 callF Tryd.prog 26 [t47,(.int .i64 1)] w31.drew fun t48 w36 =>
 (ldW false 1 t52 w36 fun x => x = t53) ∧
 (ldW false 1 t1 w36 fun x => x = t46) ∧
 partW false 1 1 t48 fun t49 =>
 bslW 3 1 [(.int .i64 0)] [(0,1,(s3.getD 0 undef))] w36 fun t51 w37 =>
 (ldW false 1 t52 w37 fun x => x = t53) ∧
 (ldW false 1 t1 w37 fun x => x = t46) ∧
 putW [(.int .i64 0),(.string (ofL [])),(.slice none 0 0),(.slice none 0 0),(.int .i64 0)] [(0,1,(.int .i64 30)),(1,1,t49),(2,1,t51),(4,1,t53)] fun c38 =>
 callF Tryd.prog 66 [t46,(.agg c38.toArray)] w37 fun t55 w39 =>
 L3 [t55] w39) ∧
 (
 bslW 3 1 [(.int .i64 0)] [(0,1,(s3.getD 0 undef))] w31.drew fun t51 w40 =>
 (ldW false 1 t52 w40 fun x => x = t53) ∧
 (ldW false 1 t1 w40 fun x => x = t47) ∧
 (ldW false 1 t1 w40 fun x => x = t46) ∧
 callF Tryd.prog 26 [t47,(.int .i64 1)] w40 fun t48 w41 =>
 (ldW false 1 t52 w41 fun x => x = t53) ∧
 (ldW false 1 t1 w41 fun x => x = t46) ∧
 partW false 1 1 t48 fun t49 =>
 putW [(.int .i64 0),(.string (ofL [])),(.slice none 0 0),(.slice none 0 0),(.int .i64 0)] [(0,1,(.int .i64 30)),(1,1,t49),(2,1,t51),(4,1,t53)] fun c42 =>
 callF Tryd.prog 66 [t46,(.agg c42.toArray)] w41 fun t55 w43 =>
 L3 [t55] w43)))) (
 K (s3.getD 0 undef) w22))
theorem W89_ok {v0 : Value} {w : World} {K : Value → World → Prop} (h : W89 v0 w K) : callF Tryd.prog 89 [v0] w K :=
 tie _ 89 Tryd.f89 plan89 _ w K 1 _ rfl mixed Tryd.func89 (by kernel_rfl) (by kernel_rfl) Tryd.call89 h
def plan92 : Plan := { js := [(6,⟨[],[2],5⟩),(23005,⟨[50],[],48⟩)],ds := [(43,⟨[0,1,3,4],[[],[],[1],[1,2],[],[0,1,2,3,4]]⟩),(42,⟨[0,1,2,4],[[],[0],[],[2],[0,1,2,3],[0,1,2,3,4]]⟩),(13,⟨[0,1,2,4],[[],[0],[],[2],[0,1,2,3],[0,1,2,3,4]]⟩)] }
def W92 (v0 : Value) (w : World) (K : Value → World → Prop) : Prop :=
 boxW 60 v0 w fun t1 w1 =>
 ldW false 1 t1 w1 fun t6 =>
 callF Tryd.prog 18 [t6] w1 fun t7 w2 =>
 allocW 66 [(.int .i64 0),(.string (ofL [])),(.int .i64 0)] w2 fun t3 w3 =>
 stW 3 t3 t7 w3 fun w4 =>
 fldW 2 t3 fun t8 =>
 ldW false 1 t8 w4 fun t9 =>
 putW [(.int .i64 0),(.string (ofL [])),(.slice none 0 0),(.slice none 0 0),(.int .i64 0)] [(4,1,t9)] fun c5 =>
 allocW 38 [(.int .i64 0),(.string (ofL [])),(.slice none 0 0),(.slice none 0 0),(.int .i64 0)] w4 fun t4 w6 =>
 stW 5 t4 (.agg c5.toArray) w6 fun w7 =>
 JoinW (fun J8 =>
 fldW 0 t3 fun t15 =>
 ldW false 1 t15 w7 fun t16 =>
 binW .eql t16 (.int .i64 2) fun t17 =>
 condW t17 (
 ldW false 1 t1 w7 fun t18 =>
 nilW t18 fun t19 =>
 fldW 1 t19 fun t20 =>
 ldW false 1 t20 w7 fun t21 =>
 binW .add t21 (.int .i64 1) fun t22 =>
 nilW t18 fun t23 =>
 fldW 1 t23 fun t24 =>
 stW 1 t24 t22 w7 fun w9 =>
 fldW 1 t3 fun t25 =>
 ldW false 1 t25 w9.drew fun t26 =>
 fldW 0 t4 fun t27 =>
 stW 1 t27 (.int .i64 4) w9.drew fun w10 =>
 (ldW false 1 t25 w10 fun x => x = t26) ∧
 fldW 1 t4 fun t28 =>
 stW 1 t28 t26 w10 fun w11 =>
 J8 [] w11) (
 fldW 0 t3 fun t30 =>
 ldW false 1 t30 w7 fun t31 =>
 binW .eql t31 (.int .i64 3) fun t32 =>
 condW t32 (
 ldW false 1 t1 w7 fun t33 =>
 nilW t33 fun t34 =>
 fldW 1 t34 fun t35 =>
 ldW false 1 t35 w7 fun t36 =>
 binW .add t36 (.int .i64 1) fun t37 =>
 nilW t33 fun t38 =>
 fldW 1 t38 fun t39 =>
 stW 1 t39 t37 w7 fun w12 =>
 ldW false 1 t1 w12 fun t40 =>
 ldW true 3 t3 w12 fun t41 =>
 callF Tryd.prog 95 [t40,t41] w12 fun t42 w13 =>
 K t42 w13) (
 fldW 0 t3 fun t44 =>
 ldW false 1 t44 w7 fun t45 =>
 binW .eql t45 (.int .i64 1) fun t46 =>
 GdW (isB t46 true) [undef] w7 (fun J14 =>
 fldW 1 t3 fun t48 =>
 ldW false 1 t48 w7 fun t49 =>
 binW .neq t49 (.string (ofL [102,111,114])) fun t50 =>
 J14 [t50] w7)
 fun s14 _ w15 =>
 pickW t46 (s14.getD 0 undef) (.bool false) fun t51 =>
 condW t51 (
 ldW false 1 t1 w15 fun t52 =>
 nilW t52 fun t53 =>
 fldW 1 t53 fun t54 =>
 ldW false 1 t54 w15 fun t55 =>
 binW .add t55 (.int .i64 1) fun t56 =>
 nilW t52 fun t57 =>
 fldW 1 t57 fun t58 =>
 stW 1 t58 t56 w15 fun w16 =>
 ldW false 1 t1 w16 fun t59 =>
 bslW 9 1 [(.string (ofL []))] [(0,1,(.string (ofL [40])))] w16 fun t60 w17 =>
 callF Tryd.prog 29 [t59,t60] w17 fun t61 w18 =>
 unW .not t61 fun t62 =>
 condW t62 (
 fldW 1 t3 fun t63 =>
 ldW false 1 t63 w18 fun t64 =>
 callF Tryd.prog 96 [t64] w18 fun t65 w19 =>
 fldW 0 t4 fun t66 =>
 stW 1 t66 t65 w19 fun w20 =>
 fldW 0 t4 fun t67 =>
 ldW false 1 t67 w20 fun t68 =>
 binW .eql t68 (.int .i64 9) fun t69 =>
 condW t69 (
 fldW 1 t3 fun t70 =>
 ldW false 1 t70 w20 fun t71 =>
 fldW 1 t4 fun t72 =>
 stW 1 t72 t71 w20 fun w21 =>
 J8 [] w21) (
 J8 [] w20)) (
 fldW 1 t3 fun t73 =>
 ldW false 1 t73 w18.drew fun t74 =>
 fldW 0 t4 fun t75 =>
 stW 1 t75 (.int .i64 12) w18.drew fun w22 =>
 (ldW false 1 t73 w22 fun x => x = t74) ∧
 fldW 1 t4 fun t76 =>
 stW 1 t76 t74 w22 fun w23 =>
 ldW false 1 t1 w23.drew fun t77 =>
 ldW false 1 t1 w23.drew fun t78 =>
 callF Tryd.prog 18 [t78] w23.drew fun t79 w24 =>
 (ldW false 1 t1 w24 fun x => x = t77) ∧
 partW false 2 1 t79 fun t80 =>
 callF Tryd.prog 30 [t77,t80,(.bool true),(.func (.func 97) #[] #[t1,t4])] w24 fun t82 w25 =>
 J8 [] w25)) (
 ldW false 1 t1 w15 fun t84 =>
 bslW 9 1 [(.string (ofL []))] [(0,1,(.string (ofL [40])))] w15 fun t85 w26 =>
 callF Tryd.prog 29 [t84,t85] w26 fun t86 w27 =>
 condW t86 (
 allocW 3 [(.int .i64 0)] w27 fun t5 w28 =>
 stW 1 t5 (.int .i64 0) w28 fun w29 =>
 ldW false 1 t1 w29 fun t87 =>
 fldW 2 t3 fun t88 =>
 ldW false 1 t88 w29 fun t89 =>
 callF Tryd.prog 30 [t87,t89,(.bool true),(.func (.func 99) #[] #[t1,t5])] w29 fun t91 w30 =>
 ldW false 1 t5 w30 fun t92 =>
 K t92 w30) (
 ldW false 1 t1 w27 fun t94 =>
 bslW 9 1 [(.string (ofL []))] [(0,1,(.string (ofL [91])))] w27 fun t95 w31 =>
 callF Tryd.prog 29 [t94,t95] w31 fun t96 w32 =>
 condW t96 (
 ldW false 1 t1 w32 fun t97 =>
 fldW 2 t3 fun t98 =>
 ldW false 1 t98 w32 fun t99 =>
 callF Tryd.prog 30 [t97,t99,(.bool true),(.func (.func 100) #[] #[t1,t3,t4])] w32 fun t101 w33 =>
 J8 [] w33) (
 ldW false 1 t1 w32 fun t103 =>
 bslW 9 1 [(.string (ofL []))] [(0,1,(.string (ofL [123])))] w32 fun t104 w34 =>
 callF Tryd.prog 29 [t103,t104] w34 fun t105 w35 =>
 condW t105 (
 ldW false 1 t1 w35 fun t106 =>
 fldW 2 t3 fun t107 =>
 ldW false 1 t107 w35 fun t108 =>
 callF Tryd.prog 30 [t106,t108,(.bool false),(.func (.func 102) #[] #[t1,t3,t4])] w35 fun t110 w36 =>
 J8 [] w36) (
 fldW 2 t3 fun t11 =>
 ldW false 1 t11 w35 fun t12 =>
 callF Tryd.prog 20 [(.int .i64 50),t12] w35 fun t13 w37 =>
 J8 [] w37)))))))
 fun s8 _ w38 =>
 ldW false 1 t1 w38 fun t111 =>
 ldW true 5 t4 w38 fun t112 =>
 callF Tryd.prog 66 [t111,t112] w38 fun t113 w39 =>
 K t113 w39
theorem W92_ok {v0 : Value} {w : World} {K : Value → World → Prop} (h : W92 v0 w K) : callF Tryd.prog 92 [v0] w K :=
 tie _ 92 Tryd.f92 plan92 _ w K 1 _ rfl mixed Tryd.func92 (by kernel_rfl) (by kernel_rfl) Tryd.call92 h
def plan93 : Plan := { js := [(2,⟨[],[],1⟩)],ds := [] }
def W93 (v0 v1 v2 : Value) (w : World) (K : Value → World → Prop) : Prop :=
 ldW false 1 v0 w fun t3 =>
 nilW t3 fun t4 =>
 fldW 1 t4 fun t5 =>
 ldW false 1 t5 w fun t6 =>
 binW .add t6 (.int .i64 1) fun t7 =>
 nilW t3 fun t8 =>
 fldW 1 t8 fun t9 =>
 stW 1 t9 t7 w fun w1 =>
 JoinW (fun J2 =>
 ldW false 1 v0 w1 fun t10 =>
 callF Tryd.prog 32 [t10,(.string (ofL [42]))] w1 fun t11 w3 =>
 stW 1 v1 t11 w3 fun w4 =>
 ldW false 1 v1 w4 fun t12 =>
 unW .not t12 fun t13 =>
 condW t13 (
 ldW false 1 v0 w4 fun t14 =>
 callF Tryd.prog 49 [t14] w4 fun t15 w5 =>
 stW 1 v2 t15 w5 fun w6 =>
 J2 [] w6) (
 J2 [] w4))
 fun s2 _ w7 =>
 ldW false 1 v0 w7 fun t16 =>
 callF Tryd.prog 65 [t16,(.string (ofL [93]))] w7 fun t17 w8 =>
 K (.tuple #[]) w8
theorem W93_ok {v0 v1 v2 : Value} {w : World} {K : Value → World → Prop} (h : W93 v0 v1 v2 w K) : callF Tryd.prog 93 [v0,v1,v2] w K :=
 tie _ 93 Tryd.f93 plan93 _ w K 3 _ rfl mixed Tryd.func93 (by kernel_rfl) (by kernel_rfl) Tryd.call93 h
def plan95 : Plan := { js := [(42,⟨[],[],12⟩),(34,⟨[],[],12⟩),(28,⟨[],[],12⟩),(18,⟨[],[],10⟩),(14,⟨[8,9],[],8⟩)],ds := [(50,⟨[0,1,2,3,4,5],[[],[],[0,1],[],[],[3,4],[0,1,2],[0,1,2,3,4,5,6]]⟩),(39,⟨[0,1,2,3,4,5,7,8,12],[[],[0],[],[],[],[3,4],[3,4,5],[],[3,4,5,6,7],[2,3,4,5,6,7,8],[2,3,4,5,6,7,8,9],[0,1,2,3,4,5,6,7,8,9,10],[0,1,2,3,4,5,6,7,8,9,10,11],[0,1,2,3,4,5,6,7,8,9,10,11,12]]⟩),(32,⟨[0,1,2,3],[[],[0],[],[2],[0,1],[0,1,2,3,4]]⟩),(15,⟨[0,1,2,3,4],[[],[0],[],[2],[2,3],[],[],[0,1,5,6],[0,1,2,3,4,5,6,7]]⟩),(9,⟨[0,1,2,4,5,6,8],[[],[],[1],[1,2],[],[4],[1,2,3,4,5],[0,1,2,3,4,5,6],[0,1,2,3,4,5,6,7]]⟩)] }
def W95 (v0 v1 : Value) (w : World) (K : Value → World → Prop) : Prop :=
 boxW 60 v0 w fun t2 w1 =>
 boxW 66 v1 w1 fun t3 w2 =>
 fldW 1 t3 fun t13 =>
 ldW false 1 t13 w2 fun t14 =>
 callF Tryd.prog 46 [t14] w2 fun t15 w3 =>
 extW 0 t15 fun t16 =>
 extW 1 t15 fun t17 =>
 binW .lss t16 (.int .i64 0) fun t19 =>
 condW t19 (
 ldW false 1 t2 w3.drew fun t20 =>
 fldW 1 t3 fun t21 =>
 ldW false 1 t21 w3.drew fun t22 =>
 fldW 2 t3 fun t24 =>
 ldW false 1 t24 w3.drew fun t25 =>
 callF Tryd.prog 47 [t22] w3.drew fun t23 w4 =>
 (ldW false 1 t24 w4 fun x => x = t25) ∧
 (ldW false 1 t2 w4 fun x => x = t20) ∧
 putW [(.int .i64 0),(.string (ofL [])),(.slice none 0 0),(.slice none 0 0),(.int .i64 0)] [(0,1,(.int .i64 5)),(1,1,t23),(4,1,t25)] fun c5 =>
 callF Tryd.prog 66 [t20,(.agg c5.toArray)] w4 fun t27 w6 =>
 K t27 w6) (
 fldW 2 t3 fun t28 =>
 ldW false 1 t28 w3 fun t29 =>
 putW [(.int .i64 0),(.string (ofL [])),(.slice none 0 0),(.slice none 0 0),(.int .i64 0)] [(0,1,(.int .i64 6)),(4,1,t29)] fun c7 =>
 allocW 38 [(.int .i64 0),(.string (ofL [])),(.slice none 0 0),(.slice none 0 0),(.int .i64 0)] w3 fun t7 w8 =>
 stW 5 t7 (.agg c7.toArray) w8 fun w9 =>
 JoinW (fun J10 =>
 fldW 1 t3 fun t31 =>
 ldW false 1 t31 w9.drew fun t32 =>
 fldW 2 t3 fun t33 =>
 ldW false 1 t33 w9.drew fun t34 =>
 binW .add t34 (.int .i64 1) fun t35 =>
 (
 allocW 9 [(.string (ofL []))] w9.drew fun t8 w11 =>
 (ldW false 1 t33 w11 fun x => x = t34) ∧
 (ldW false 1 t31 w11 fun x => x = t32) ∧
 allocW 3 [(.int .i64 0)] w11 fun t9 w12 =>
 (ldW false 1 t33 w12 fun x => x = t34) ∧
 (ldW false 1 t31 w12 fun x => x = t32) ∧
 stW 1 t8 t32 w12 fun w13 =>
 (ldW false 1 t33 w13 fun x => x = t34) ∧
 stW 1 t9 t35 w13 fun w14 =>
 J10 [t8,t9] w14) ∧
 (
 allocW 3 [(.int .i64 0)] w9.drew fun t9 w15 =>
 (ldW false 1 t33 w15 fun x => x = t34) ∧
 (ldW false 1 t31 w15 fun x => x = t32) ∧
 allocW 9 [(.string (ofL []))] w15 fun t8 w16 =>
 (ldW false 1 t33 w16 fun x => x = t34) ∧
 (ldW false 1 t31 w16 fun x => x = t32) ∧
 stW 1 t8 t32 w16 fun w17 =>
 (ldW false 1 t33 w17 fun x => x = t34) ∧
 stW 1 t9 t35 w17 fun w18 =>
 J10 [t8,t9] w18))
 fun s10 _ w19 =>
 LoopW [] w19 fun s20 _ w21 L20 =>
 ldW false 1 (s10.getD 0 undef) w21 fun t36 =>
 binW .neq t36 (.string (ofL [])) fun t37 =>
 condW t37 (
 ldW false 1 (s10.getD 0 undef) w21 fun t39 =>
 callF Tryd.prog 46 [t39] w21 fun t40 w22 =>
 extW 0 t40 fun t41 =>
 extW 1 t40 fun t42 =>
 allocW 3 [(.int .i64 0)] w22 fun t10 w23 =>
 allocW 3 [(.int .i64 0)] w23 fun t11 w24 =>
 stW 1 t10 t41 w24 fun w25 =>
 stW 1 t11 t42 w25 fun w26 =>
 JoinW (fun J27 =>
 ldW false 1 t10 w26 fun t43 =>
 binW .lss t43 (.int .i64 0) fun t44 =>
 condW t44 (
 ldW false 1 (s10.getD 0 undef) w26.drew fun t45 =>
 lensW t45 fun t46 =>
 ldW false 1 (s10.getD 0 undef) w26.drew fun t47 =>
 lensW t47 fun t48 =>
 stW 1 t10 t46 w26.drew fun w28 =>
 (ldW false 1 (s10.getD 0 undef) w28 fun x => x = t47) ∧
 stW 1 t11 t48 w28 fun w29 =>
 J27 [] w29) (
 J27 [] w26))
 fun s27 _ w30 =>
 JoinW (fun J31 =>
 ldW false 1 t10 w30 fun t49 =>
 binW .gtr t49 (.int .i64 0) fun t50 =>
 condW t50 (
 fldW 2 t7 fun t51 =>
 ldW false 1 t51 w30.drew fun t52 =>
 ldW false 1 t2 w30.drew fun t53 =>
 ldW false 1 (s10.getD 0 undef) w30.drew fun t54 =>
 ldW false 1 t10 w30.drew fun t55 =>
 slsW t54 none (some t55) fun t56 =>
 ldW false 1 (s10.getD 1 undef) w30.drew fun t58 =>
 callF Tryd.prog 47 [t56] w30.drew fun t57 w32 =>
 (ldW false 1 (s10.getD 1 undef) w32 fun x => x = t58) ∧
 (ldW false 1 t2 w32 fun x => x = t53) ∧
 (ldW false 1 t51 w32 fun x => x = t52) ∧
 putW [(.int .i64 0),(.string (ofL [])),(.slice none 0 0),(.slice none 0 0),(.int .i64 0)] [(0,1,(.int .i64 5)),(1,1,t57),(4,1,t58)] fun c33 =>
 callF Tryd.prog 66 [t53,(.agg c33.toArray)] w32 fun t60 w34 =>
 (ldW false 1 t51 w34 fun x => x = t52) ∧
 bslW 3 1 [(.int .i64 0)] [(0,1,t60)] w34 fun t61 w35 =>
 (ldW false 1 t51 w35 fun x => x = t52) ∧
 semE Tryd.prog (Builtin.append_ #[26,26] 26 #[t52,t61]) w35 fun t62 w36 =>
 fldW 2 t7 fun t63 =>
 stW 1 t63 t62 w36 fun w37 =>
 fldW 3 t7 fun t64 =>
 ldW false 1 t64 w37 fun t65 =>
 bslW 9 1 [(.string (ofL []))] [(0,1,(.string (ofL [116])))] w37 fun t66 w38 =>
 semE Tryd.prog (Builtin.append_ #[36,36] 36 #[t65,t66]) w38 fun t67 w39 =>
 fldW 3 t7 fun t68 =>
 stW 1 t68 t67 w39 fun w40 =>
 J31 [] w40) (
 J31 [] w30))
 fun s31 _ w41 =>
 JoinW (fun J42 =>
 ldW false 1 t10 w41 fun t69 =>
 ldW false 1 t11 w41 fun t70 =>
 binW .lss t69 t70 fun t71 =>
 condW t71 (
 ldW false 1 t2 w41 fun t72 =>
 ldW false 1 (s10.getD 1 undef) w41 fun t73 =>
 ldW false 1 t10 w41 fun t74 =>
 binW .add t73 t74 fun t75 =>
 callF Tryd.prog 30 [t72,t75,(.bool false),(.func (.func 104) #[] #[t7,t2,(s10.getD 0 undef),t10,t11,(s10.getD 1 undef)])] w41 fun t77 w43 =>
 fldW 3 t7 fun t78 =>
 ldW false 1 t78 w43 fun t79 =>
 bslW 9 1 [(.string (ofL []))] [(0,1,(.string (ofL [101])))] w43 fun t80 w44 =>
 semE Tryd.prog (Builtin.append_ #[36,36] 36 #[t79,t80]) w44 fun t81 w45 =>
 fldW 3 t7 fun t82 =>
 stW 1 t82 t81 w45 fun w46 =>
 J42 [] w46) (
 J42 [] w41))
 fun s42 _ w47 =>
 ldW false 1 (s10.getD 0 undef) w47.drew fun t83 =>
 ldW false 1 t11 w47.drew fun t84 =>
 slsW t83 (some t84) none fun t85 =>
 ldW false 1 (s10.getD 1 undef) w47.drew fun t86 =>
 ldW false 1 t11 w47.drew fun t87 =>
 binW .add t86 t87 fun t88 =>
 stW 1 (s10.getD 0 undef) t85 w47.drew fun w48 =>
 (ldW false 1 t11 w48 fun x => x = t87) ∧
 (ldW false 1 (s10.getD 1 undef) w48 fun x => x = t86) ∧
 stW 1 (s10.getD 1 undef) t88 w48 fun w49 =>
 L20 [] w49) (
 ldW false 1 t2 w21 fun t89 =>
 ldW true 5 t7 w21 fun t90 =>
 callF Tryd.prog 66 [t89,t90] w21 fun t91 w50 =>
 K t91 w50))
theorem W95_ok {v0 v1 : Value} {w : World} {K : Value → World → Prop} (h : W95 v0 v1 w K) : callF Tryd.prog 95 [v0,v1] w K :=
 tie _ 95 Tryd.f95 plan95 _ w K 2 _ rfl mixed Tryd.func95 (by kernel_rfl) (by kernel_rfl) Tryd.call95 h
def plan96 : Plan := { js := [],ds := [] }
def W96 (v0 : Value) (w : World) (K : Value → World → Prop) : Prop :=
 binW .eql v0 (.string (ofL [110,117,108,108])) fun t5 =>
 condW t5 (
 K (.int .i64 1) w) (
 binW .eql v0 (.string (ofL [116,114,117,101])) fun t7 =>
 condW t7 (
 K (.int .i64 2) w) (
 binW .eql v0 (.string (ofL [102,97,108,115,101])) fun t9 =>
 condW t9 (
 K (.int .i64 3) w) (
 K (.int .i64 9) w)))
theorem W96_ok {v0 : Value} {w : World} {K : Value → World → Prop} (h : W96 v0 w K) : callF Tryd.prog 96 [v0] w K :=
 tie _ 96 Tryd.f96 plan96 _ w K 1 _ rfl mixed Tryd.func96 (by kernel_rfl) (by kernel_rfl) Tryd.call96 h
def plan97 : Plan := { js := [],ds := [] }
def W97 (v0 v1 : Value) (w : World) (K : Value → World → Prop) : Prop :=
 ldW false 1 v0 w fun t2 =>
 nilW t2 fun t3 =>
 fldW 1 t3 fun t4 =>
 ldW false 1 t4 w fun t5 =>
 binW .add t5 (.int .i64 1) fun t6 =>
 nilW t2 fun t7 =>
 fldW 1 t7 fun t8 =>
 stW 1 t8 t6 w fun w1 =>
 ldW false 1 v0 w1 fun t9 =>
 callF Tryd.prog 98 [t9,(.string (ofL [41]))] w1 fun t10 w2 =>
 fldW 2 v1 fun t11 =>
 stW 1 t11 t10 w2 fun w3 =>
 K (.tuple #[]) w3
theorem W97_ok {v0 v1 : Value} {w : World} {K : Value → World → Prop} (h : W97 v0 v1 w K) : callF Tryd.prog 97 [v0,v1] w K :=
 tie _ 97 Tryd.f97 plan97 _ w K 2 _ rfl mixed Tryd.func97 (by kernel_rfl) (by kernel_rfl) Tryd.call97 h
def plan98 : Plan := { js := [(14,⟨[],[],6⟩),(6,⟨[5],[],2⟩)],ds := [] }
def W98 (v0 v1 : Value) (w : World) (K : Value → World → Prop) : Prop :=
 LoopW [(.slice none 0 0)] w fun s1 _ w2 L1 =>
 callF Tryd.prog 32 [v0,v1] w2 fun t8 w3 =>
 unW .not t8 fun t9 =>
 condW t9 (
 JoinW (fun J4 =>
 lenlW (s1.getD 0 undef) fun t11 =>
 binW .gtr t11 (.int .i64 0) fun t12 =>
 condW t12 (
 callF Tryd.prog 65 [v0,(.string (ofL [44]))] w3 fun t14 w5 =>
 callF Tryd.prog 32 [v0,v1] w5 fun t17 w6 =>
 condW t17 (
 K (s1.getD 0 undef) w6) (
 J4 [] w6)) (
 J4 [] w3))
 fun s4 _ w7 =>
 callF Tryd.prog 49 [v0] w7 fun t20 w8 =>
 bslW 3 1 [(.int .i64 0)] [(0,1,t20)] w8 fun t21 w9 =>
 semE Tryd.prog (Builtin.append_ #[26,26] 26 #[(s1.getD 0 undef),t21]) w9 fun t22 w10 =>
 L1 [t22] w10) (
 K (s1.getD 0 undef) w3)
theorem W98_ok {v0 v1 : Value} {w : World} {K : Value → World → Prop} (h : W98 v0 v1 w K) : callF Tryd.prog 98 [v0,v1] w K :=
 tie _ 98 Tryd.f98 plan98 _ w K 2 _ rfl mixed Tryd.func98 (by kernel_rfl) (by kernel_rfl) Tryd.call98 h
def plan99 : Plan := { js := [],ds := [] }
def W99 (v0 v1 : Value) (w : World) (K : Value → World → Prop) : Prop :=
 ldW false 1 v0 w fun t2 =>
 nilW t2 fun t3 =>
 fldW 1 t3 fun t4 =>
 ldW false 1 t4 w fun t5 =>
 binW .add t5 (.int .i64 1) fun t6 =>
 nilW t2 fun t7 =>
 fldW 1 t7 fun t8 =>
 stW 1 t8 t6 w fun w1 =>
 ldW false 1 v0 w1 fun t9 =>
 callF Tryd.prog 49 [t9] w1 fun t10 w2 =>
 stW 1 v1 t10 w2 fun w3 =>
 ldW false 1 v0 w3 fun t11 =>
 callF Tryd.prog 65 [t11,(.string (ofL [41]))] w3 fun t12 w4 =>
 K (.tuple #[]) w4
theorem W99_ok {v0 v1 : Value} {w : World} {K : Value → World → Prop} (h : W99 v0 v1 w K) : callF Tryd.prog 99 [v0,v1] w K :=
 tie _ 99 Tryd.f99 plan99 _ w K 2 _ rfl mixed Tryd.func99 (by kernel_rfl) (by kernel_rfl) Tryd.call99 h
def plan100 : Plan := { js := [],ds := [] }
def W100 (v0 v1 v2 : Value) (w : World) (K : Value → World → Prop) : Prop :=
 ldW false 1 v0 w fun t3 =>
 ldW true 3 v1 w fun t4 =>
 callF Tryd.prog 101 [t3,t4] w fun t5 w1 =>
 stW 5 v2 t5 w1 fun w2 =>
 K (.tuple #[]) w2
theorem W100_ok {v0 v1 v2 : Value} {w : World} {K : Value → World → Prop} (h : W100 v0 v1 v2 w K) : callF Tryd.prog 100 [v0,v1,v2] w K :=
 tie _ 100 Tryd.f100 plan100 _ w K 3 _ rfl mixed Tryd.func100 (by kernel_rfl) (by kernel_rfl) Tryd.call100 h
def plan101 : Plan := { js := [(18,⟨[],[],7⟩),(16,⟨[6],[],5⟩),(8004,⟨[23],[],21⟩)],ds := [(31,⟨[0,1,2,6],[[],[0],[],[2],[2,3],[0,1,2,3,4],[0,1,2,3,4,5],[0,1,2,3,4,5,6]]⟩),(27,⟨[0,1,2,6],[[],[0],[],[2],[2,3],[0,1,2,3,4],[0,1,2,3,4,5],[0,1,2,3,4,5,6]]⟩),(17,⟨[0,2,3,4,5],[[],[0],[0,1],[],[3],[0,1,2,3,4],[],[0,1,2,3,4,5,6]]⟩),(11,⟨[0,2,3,4],[[],[0],[],[2],[0,1,2,3],[0,1,2,3,4]]⟩)] }
def W101 (v0 v1 : Value) (w : World) (K : Value → World → Prop) : Prop :=
 boxW 66 v1 w fun t3 w1 =>
 allocW 38 [(.int .i64 0),(.string (ofL [])),(.slice none 0 0),(.slice none 0 0),(.int .i64 0)] w1 fun t4 w2 =>
 nilW v0 fun t9 =>
 fldW 1 t9 fun t10 =>
 ldW false 1 t10 w2 fun t11 =>
 binW .add t11 (.int .i64 1) fun t12 =>
 nilW v0 fun t13 =>
 fldW 1 t13 fun t14 =>
 stW 1 t14 t12 w2 fun w3 =>
 callF Tryd.prog 18 [v0] w3 fun t16 w4 =>
 allocW 66 [(.int .i64 0),(.string (ofL [])),(.int .i64 0)] w4 fun t5 w5 =>
 stW 3 t5 t16 w5 fun w6 =>
 fldW 0 t5 fun t17 =>
 ldW false 1 t17 w6 fun t18 =>
 binW .neq t18 (.int .i64 1) fun t19 =>
 GdW (isB t19 false) [undef] w6 (fun J7 =>
 fldW 1 t5 fun t21 =>
 ldW false 1 t21 w6 fun t22 =>
 binW .neq t22 (.string (ofL [102,111,114])) fun t23 =>
 J7 [t23] w6)
 fun s7 _ w8 =>
 pickW t19 (.bool true) (s7.getD 0 undef) fun t24 =>
 condW t24 (
 fldW 2 t3 fun t27 =>
 ldW false 1 t27 w8.drew fun t28 =>
 callF Tryd.prog 98 [v0,(.string (ofL [93]))] w8.drew fun t26 w9 =>
 (ldW false 1 t27 w9 fun x => x = t28) ∧
 putW [(.int .i64 0),(.string (ofL [])),(.slice none 0 0),(.slice none 0 0),(.int .i64 0)] [(0,1,(.int .i64 7)),(2,1,t26),(4,1,t28)] fun c10 =>
 stW 5 t4 (.agg c10.toArray) w9 fun w11 =>
 ldW true 5 t4 w11 fun r12 =>
 K r12 w11) (
 nilW v0 fun t31 =>
 fldW 1 t31 fun t32 =>
 ldW false 1 t32 w8 fun t33 =>
 binW .add t33 (.int .i64 1) fun t34 =>
 nilW v0 fun t35 =>
 fldW 1 t35 fun t36 =>
 stW 1 t36 t34 w8 fun w13 =>
 JoinW (fun J14 =>
 fldW 2 t3 fun t40 =>
 ldW false 1 t40 w13.drew fun t41 =>
 (
 callF Tryd.prog 26 [v0,(.int .i64 1)] w13.drew fun t38 w15 =>
 (ldW false 1 t40 w15 fun x => x = t41) ∧
 partW false 1 1 t38 fun t39 =>
 putW [(.int .i64 0),(.string (ofL [])),(.slice none 0 0),(.slice none 0 0),(.int .i64 0)] [(0,1,(.int .i64 29)),(1,1,t39),(4,1,t41)] fun c16 =>
 allocW 38 [(.int .i64 0),(.string (ofL [])),(.slice none 0 0),(.slice none 0 0),(.int .i64 0)] w15 fun t6 w17 =>
 (ldW false 1 t40 w17 fun x => x = t41) ∧
 stW 5 t6 (.agg c16.toArray) w17 fun w18 =>
 J14 [t6] w18) ∧
 (
 allocW 38 [(.int .i64 0),(.string (ofL [])),(.slice none 0 0),(.slice none 0 0),(.int .i64 0)] w13.drew fun t6 w19 =>
 (ldW false 1 t40 w19 fun x => x = t41) ∧
 callF Tryd.prog 26 [v0,(.int .i64 1)] w19 fun t38 w20 =>
 (ldW false 1 t40 w20 fun x => x = t41) ∧
 partW false 1 1 t38 fun t39 =>
 putW [(.int .i64 0),(.string (ofL [])),(.slice none 0 0),(.slice none 0 0),(.int .i64 0)] [(0,1,(.int .i64 29)),(1,1,t39),(4,1,t41)] fun c21 =>
 stW 5 t6 (.agg c21.toArray) w20 fun w22 =>
 J14 [t6] w22))
 fun s14 _ w23 =>
 JoinW (fun J24 =>
 callF Tryd.prog 26 [v0,(.int .i64 1)] w23 fun t44 w25 =>
 allocW 66 [(.int .i64 0),(.string (ofL [])),(.int .i64 0)] w25 fun t7 w26 =>
 stW 3 t7 t44 w26 fun w27 =>
 fldW 1 t7 fun t45 =>
 ldW false 1 t45 w27 fun t46 =>
 binW .neq t46 (.string (ofL [105,110])) fun t47 =>
 condW t47 (
 fldW 2 t7 fun t48 =>
 ldW false 1 t48 w27 fun t49 =>
 callF Tryd.prog 20 [(.int .i64 50),t49] w27 fun t50 w28 =>
 J24 [] w28) (
 J24 [] w27))
 fun s24 _ w29 =>
 fldW 2 (s14.getD 0 undef) fun t51 =>
 ldW false 1 t51 w29.drew fun t52 =>
 callF Tryd.prog 49 [v0] w29.drew fun t54 w30 =>
 (ldW false 1 t51 w30 fun x => x = t52) ∧
 bslW 3 1 [(.int .i64 0)] [(0,1,t54)] w30 fun t55 w31 =>
 (ldW false 1 t51 w31 fun x => x = t52) ∧
 semE Tryd.prog (Builtin.append_ #[26,26] 26 #[t52,t55]) w31 fun t56 w32 =>
 fldW 2 (s14.getD 0 undef) fun t57 =>
 stW 1 t57 t56 w32 fun w33 =>
 callF Tryd.prog 65 [v0,(.string (ofL [58]))] w33 fun t59 w34 =>
 fldW 2 (s14.getD 0 undef) fun t60 =>
 ldW false 1 t60 w34.drew fun t61 =>
 callF Tryd.prog 49 [v0] w34.drew fun t63 w35 =>
 (ldW false 1 t60 w35 fun x => x = t61) ∧
 bslW 3 1 [(.int .i64 0)] [(0,1,t63)] w35 fun t64 w36 =>
 (ldW false 1 t60 w36 fun x => x = t61) ∧
 semE Tryd.prog (Builtin.append_ #[26,26] 26 #[t61,t64]) w36 fun t65 w37 =>
 fldW 2 (s14.getD 0 undef) fun t66 =>
 stW 1 t66 t65 w37 fun w38 =>
 callF Tryd.prog 65 [v0,(.string (ofL [93]))] w38 fun t68 w39 =>
 ldW true 5 (s14.getD 0 undef) w39 fun t69 =>
 stW 5 t4 t69 w39 fun w40 =>
 ldW true 5 t4 w40 fun r41 =>
 K r41 w40)
theorem W101_ok {v0 v1 : Value} {w : World} {K : Value → World → Prop} (h : W101 v0 v1 w K) : callF Tryd.prog 101 [v0,v1] w K :=
 tie _ 101 Tryd.f101 plan101 _ w K 2 _ rfl mixed Tryd.func101 (by kernel_rfl) (by kernel_rfl) Tryd.call101 h
def plan102 : Plan := { js := [],ds := [] }
def W102 (v0 v1 v2 : Value) (w : World) (K : Value → World → Prop) : Prop :=
 ldW false 1 v0 w fun t3 =>
 ldW true 3 v1 w fun t4 =>
 callF Tryd.prog 103 [t3,t4] w fun t5 w1 =>
 stW 5 v2 t5 w1 fun w2 =>
 K (.tuple #[]) w2
theorem W102_ok {v0 v1 v2 : Value} {w : World} {K : Value → World → Prop} (h : W102 v0 v1 v2 w K) : callF Tryd.prog 102 [v0,v1,v2] w K :=
 tie _ 102 Tryd.f102 plan102 _ w K 3 _ rfl mixed Tryd.func102 (by kernel_rfl) (by kernel_rfl) Tryd.call102 h
def plan103 : Plan := { js := [(43,⟨[],[],6⟩),(45005,⟨[74],[],71⟩),(45011,⟨[68],[],65⟩),(33,⟨[],[],7⟩),(20,⟨[],[],7⟩),(10,⟨[],[],6⟩)],ds := [(42,⟨[0,1,2,3,6,7,8,12,14],[[],[0],[],[2],[2,3],[0,1,2,3,4],[],[6],[],[0,1,2,3,4,5,8],[0,1,2,3,4,5,8,9],[0,1,2,3,4,5,6,7,8,9,10],[0,1,2,3,4,5,6,7],[0,1,2,3,4,5,6,7,8,9,10,11,12],[0,1,2,3,4,5,6,7,8,9,10,11,12,13],[0,1,2,3,4,5,6,7,8,9,10,11,12,13,14]]⟩)] }
def W103 (v0 v1 : Value) (w : World) (K : Value → World → Prop) : Prop :=
 boxW 66 v1 w fun t3 w1 =>
 allocW 38 [(.int .i64 0),(.string (ofL [])),(.slice none 0 0),(.slice none 0 0),(.int .i64 0)] w1 fun t4 w2 =>
 nilW v0 fun t8 =>
 fldW 1 t8 fun t9 =>
 ldW false 1 t9 w2 fun t10 =>
 binW .add t10 (.int .i64 1) fun t11 =>
 nilW v0 fun t12 =>
 fldW 1 t12 fun t13 =>
 stW 1 t13 t11 w2 fun w3 =>
 fldW 2 t3 fun t14 =>
 ldW false 1 t14 w3 fun t15 =>
 putW [(.int .i64 0),(.string (ofL [])),(.slice none 0 0),(.slice none 0 0),(.int .i64 0)] [(0,1,(.int .i64 8)),(4,1,t15)] fun c4 =>
 allocW 38 [(.int .i64 0),(.string (ofL [])),(.slice none 0 0),(.slice none 0 0),(.int .i64 0)] w3 fun t5 w5 =>
 stW 5 t5 (.agg c4.toArray) w5 fun w6 =>
 callF Tryd.prog 17 [v0] w6 fun t18 w7 =>
 LoopW [] w7 fun s8 _ w9 L8 =>
 callF Tryd.prog 32 [v0,(.string (ofL [125]))] w9 fun t20 w10 =>
 unW .not t20 fun t21 =>
 condW t21 (
 callF Tryd.prog 28 [v0] w10 fun t23 w11 =>
 allocW 66 [(.int .i64 0),(.string (ofL [])),(.int .i64 0)] w11 fun t6 w12 =>
 stW 3 t6 t23 w12 fun w13 =>
 JoinW (fun J14 =>
 fldW 0 t6 fun t24 =>
 ldW false 1 t24 w13 fun t25 =>
 binW .eql t25 (.int .i64 3) fun t30 =>
 condW t30 (
 ldW true 3 t6 w13 fun t32 =>
 callF Tryd.prog 27 [v0,t32] w13 fun t33 w15 =>
 fldW 1 t6 fun t34 =>
 stW 1 t34 t33 w15 fun w16 =>
 J14 [] w16) (
 binW .eql t25 (.int .i64 1) fun t36 =>
 condW t36 (
 J14 [] w13) (
 fldW 2 t6 fun t26 =>
 ldW false 1 t26 w13 fun t27 =>
 callF Tryd.prog 20 [(.int .i64 50),t27] w13 fun t28 w17 =>
 J14 [] w17)))
 fun s14 _ w18 =>
 JoinW (fun J19 =>
 fldW 3 t5 fun t37 =>
 ldW false 1 t37 w18 fun t38 =>
 fldW 1 t6 fun t39 =>
 ldW false 1 t39 w18 fun t40 =>
 callF Tryd.prog 48 [t38,t40] w18 fun t41 w20 =>
 condW t41 (
 fldW 2 t6 fun t42 =>
 ldW false 1 t42 w20 fun t43 =>
 callF Tryd.prog 20 [(.int .i64 2),t43] w20 fun t44 w21 =>
 J19 [] w21) (
 J19 [] w20))
 fun s19 _ w22 =>
 callF Tryd.prog 65 [v0,(.string (ofL [61]))] w22 fun t46 w23 =>
 fldW 3 t5 fun t47 =>
 ldW false 1 t47 w23.drew fun t48 =>
 fldW 1 t6 fun t49 =>
 ldW false 1 t49 w23.drew fun t50 =>
 fldW 2 t5 fun t53 =>
 ldW false 1 t53 w23.drew fun t54 =>
 bslW 9 1 [(.string (ofL []))] [(0,1,t50)] w23.drew fun t51 w24 =>
 (ldW false 1 t53 w24 fun x => x = t54) ∧
 (ldW false 1 t47 w24 fun x => x = t48) ∧
 semE Tryd.prog (Builtin.append_ #[36,36] 36 #[t48,t51]) w24 fun t52 w25 =>
 (ldW false 1 t53 w25 fun x => x = t54) ∧
 fldW 3 t5 fun t59 =>
 callF Tryd.prog 49 [v0] w25 fun t56 w26 =>
 (ldW false 1 t53 w26 fun x => x = t54) ∧
 bslW 3 1 [(.int .i64 0)] [(0,1,t56)] w26 fun t57 w27 =>
 (ldW false 1 t53 w27 fun x => x = t54) ∧
 semE Tryd.prog (Builtin.append_ #[26,26] 26 #[t54,t57]) w27 fun t58 w28 =>
 stW 1 t59 t52 w28 fun w29 =>
 fldW 2 t5 fun t60 =>
 stW 1 t60 t58 w29 fun w30 =>
 JoinW (fun J31 =>
 callF Tryd.prog 32 [v0,(.string (ofL [44]))] w30 fun t62 w32 =>
 unW .not t62 fun t63 =>
 GdW (isB t63 true) [undef] w32 (fun J33 =>
 callF Tryd.prog 18 [v0] w32 fun t66 w34 =>
 partW false 0 1 t66 fun t67 =>
 binW .neq t67 (.int .i64 5) fun t68 =>
 J33 [t68] w34)
 fun s33 _ w35 =>
 pickW t63 (s33.getD 0 undef) (.bool false) fun t69 =>
 GdW (isB t69 true) [undef] w35 (fun J36 =>
 bslW 9 1 [(.string (ofL []))] [(0,1,(.string (ofL [125])))] w35 fun t72 w37 =>
 callF Tryd.prog 29 [v0,t72] w37 fun t73 w38 =>
 unW .not t73 fun t74 =>
 J36 [t74] w38)
 fun s36 _ w39 =>
 pickW t69 (s36.getD 0 undef) (.bool false) fun t75 =>
 condW t75 (
 callF Tryd.prog 18 [v0] w39 fun t77 w40 =>
 partW false 2 1 t77 fun t78 =>
 callF Tryd.prog 20 [(.int .i64 50),t78] w40 fun t79 w41 =>
 J31 [] w41) (
 J31 [] w39))
 fun s31 _ w42 =>
 callF Tryd.prog 17 [v0] w42 fun t81 w43 =>
 L8 [] w43) (
 ldW true 5 t5 w10 fun t82 =>
 stW 5 t4 t82 w10 fun w44 =>
 ldW true 5 t4 w44 fun r45 =>
 K r45 w44)
theorem W103_ok {v0 v1 : Value} {w : World} {K : Value → World → Prop} (h : W103 v0 v1 w K) : callF Tryd.prog 103 [v0,v1] w K :=
 tie _ 103 Tryd.f103 plan103 _ w K 2 _ rfl mixed Tryd.func103 (by kernel_rfl) (by kernel_rfl) Tryd.call103 h
def plan104 : Plan := { js := [],ds := [(0,⟨[0,1,2,3,4,5,6,7,8,9,10,11,12,16],[[],[0],[],[],[],[4],[],[6],[3,4,5,6,7],[],[],[9,10],[9,10,11],[2,3,4,5,6,7,8,9,10,11,12],[2,3,4,5,6,7,8,9,10,11,12,13],[0,1,2,3,4,5,6,7,8,9,10,11,12,13,14],[0,1,2,3,4,5,6,7,8,9,10,11,12,13,14,15],[0,1,2,3,4,5,6,7,8,9,10,11,12,13,14,15,16]]⟩)] }
def W104 (v0 v1 v2 v3 v4 v5 : Value) (w : World) (K : Value → World → Prop) : Prop :=
 fldW 2 v0 fun t6 =>
 ldW false 1 t6 w.drew fun t7 =>
 ldW false 1 v1 w.drew fun t8 =>
 ldW false 1 v2 w.drew fun t9 =>
 ldW false 1 v3 w.drew fun t10 =>
 binW .add t10 (.int .i64 2) fun t11 =>
 ldW false 1 v4 w.drew fun t12 =>
 binW .sub t12 (.int .i64 1) fun t13 =>
 slsW t9 (some t11) (some t13) fun t14 =>
 ldW false 1 v5 w.drew fun t15 =>
 ldW false 1 v3 w.drew fun t16 =>
 binW .add t15 t16 fun t17 =>
 binW .add t17 (.int .i64 2) fun t18 =>
 callF Tryd.prog 105 [t8,t14,t18] w.drew fun t19 w1 =>
 (ldW false 1 t6 w1 fun x => x = t7) ∧
 bslW 3 1 [(.int .i64 0)] [(0,1,t19)] w1 fun t20 w2 =>
 (ldW false 1 t6 w2 fun x => x = t7) ∧
 semE Tryd.prog (Builtin.append_ #[26,26] 26 #[t7,t20]) w2 fun t21 w3 =>
 fldW 2 v0 fun t22 =>
 stW 1 t22 t21 w3 fun w4 =>
 K (.tuple #[]) w4
theorem W104_ok {v0 v1 v2 v3 v4 v5 : Value} {w : World} {K : Value → World → Prop} (h : W104 v0 v1 v2 v3 v4 v5 w K) : callF Tryd.prog 104 [v0,v1,v2,v3,v4,v5] w K :=
 tie _ 104 Tryd.f104 plan104 _ w K 6 _ rfl mixed Tryd.func104 (by kernel_rfl) (by kernel_rfl) Tryd.call104 h
def plan105 : Plan := { js := [(4,⟨[],[],8⟩)],ds := [(11,⟨[0,1,2,3,4,5,6,7,8,9,10,12],[[],[],[],[2],[2,3],[2,3,4],[],[6],[6,7],[6,7,8],[0,1,2,3,4,5,6,7,8,9],[0,1,2,3,4,5,6,7,8,9,10],[0,1,2,3,4,5,6,7,8,9,10,11]]⟩),(8,⟨[0,1,2,3,4,5,6,7,8,9],[[],[0],[0,1],[0,1,2],[],[],[5],[5,6],[5,6,7],[4,5,6,7,8],[0,1,2,3,4,5,6,7,8,9]]⟩)] }
def W105 (v0 v1 v2 : Value) (w : World) (K : Value → World → Prop) : Prop :=
 callF Tryd.prog 15 [v1] w fun t13 w1 =>
 extW 0 t13 fun t14 =>
 extW 1 t13 fun t15 =>
 JoinW (fun J2 =>
 eqW .ptr true t15 (.pointer none) fun t17 =>
 condW t17 (
 nilW t15 fun t19 =>
 fldW 0 t19 fun t20 =>
 ldW false 1 t20 w1.drew fun t21 =>
 nilW t15 fun t24 =>
 fldW 2 t24 fun t25 =>
 ldW false 1 t25 w1.drew fun t26 =>
 binW .add v2 t26 fun t27 =>
 callF Tryd.prog 20 [t21,t27] w1.drew fun t28 w3 =>
 J2 [] w3) (
 J2 [] w1))
 fun s2 _ w4 =>
 nilW v0 fun t32 =>
 fldW 3 t32 fun t33 =>
 ldW false 1 t33 w4.drew fun t34 =>
 nilW v0 fun t36 =>
 fldW 4 t36 fun t37 =>
 ldW false 1 t37 w4.drew fun t38 =>
 putW [(.slice none 0 0),(.int .i64 0),(.int .i64 0),(.pointer none),(.int .i64 0),(.bool false)] [(0,1,t14),(2,1,v2),(3,1,t34),(4,1,t38)] fun c5 =>
 boxW 63 (.agg c5.toArray) w4.drew fun t40 w6 =>
 callF Tryd.prog 49 [t40] w6 fun t42 w7 =>
 callF Tryd.prog 26 [t40,(.int .i64 0)] w7 fun t44 w8 =>
 K t42 w8
theorem W105_ok {v0 v1 v2 : Value} {w : World} {K : Value → World → Prop} (h : W105 v0 v1 v2 w K) : callF Tryd.prog 105 [v0,v1,v2] w K :=
 tie _ 105 Tryd.f105 plan105 _ w K 3 _ rfl mixed Tryd.func105 (by kernel_rfl) (by kernel_rfl) Tryd.call105 h
end Go.Proofs.YtofhaneggcpdaaaDoor
namespace Go.Proofs.YtofhaneggcpdaaaDoor
open Go Go.Eng
set_option maxRecDepth 100000
variable [HX]
def plan7 : Plan := { js := [(74005,⟨[102],[],100⟩),(74009,⟨[97],[],96⟩),(56,⟨[4],[4,12],63⟩),(49,⟨[4,62],[4,12],62⟩),(32,⟨[3,4,52],[3,4,10,12],52⟩),(19003,⟨[25],[],24⟩),(16,⟨[3,4,5],[],1⟩)],ds := [] }
def W7 (v0 : Value) (w : World) (K : Value → World → Prop) : Prop :=
 callF Tryd.prog 8 [] w fun t17 w1 =>
 unW .not t17 fun t18 =>
 condW t18 (
 K (.bool false) w1) (
 LoopW [(.string (ofL [])),(.string (ofL [])),(.int .i64 0)] w1 fun s2 _ w3 L2 =>
 lenlW v0 fun t21 =>
 binW .lss (s2.getD 2 undef) t21 fun t22 =>
 GdW (isB t22 true) [undef] w3 (fun J4 =>
 binW .lss (s2.getD 2 undef) (.int .i64 40) fun t25 =>
 J4 [t25] w3)
 fun s4 _ w5 =>
 pickW t22 (s4.getD 0 undef) (.bool false) fun t26 =>
 condW t26 (
 ixaW none 1 v0 (s2.getD 2 undef) fun t32 =>
 ldW false 1 t32 w5 fun t33 =>
 cvtW .u64 t33 fun t34 =>
 binW .rem t34 (.int .u64 13) fun t35 =>
 cvtW .i64 t35 fun t36 =>
 callF Tryd.prog 12 [t36] w5 fun t37 w6 =>
 extW 0 t37 fun t38 =>
 extW 1 t37 fun t39 =>
 putW [(.string (ofL [])),(.string (ofL [])),(.string (ofL [])),(.string (ofL [])),(.string (ofL [])),(.string (ofL []))] [(0,1,(.string (ofL [97]))),(1,1,(.string (ofL [49]))),(2,1,(.string (ofL [102,32,40,32,98,32,44,32,50,32,41]))),(3,1,(.string (ofL [91,32,99,32,44,32,93]))),(4,1,(.string (ofL [45,32,100,32,46,32,101]))),(5,1,(.string (ofL [40,32,103,32,41])))] fun c7 =>
 ixaW none 1 v0 (s2.getD 2 undef) fun t43 =>
 ldW false 1 t43 w6 fun t44 =>
 cvtW .u64 t44 fun t45 =>
 binW .rem t45 (.int .u64 6) fun t46 =>
 cvtW .i64 t46 fun t47 =>
 ixgW 6 false 1 (.agg c7.toArray) t47 fun t48 =>
 putW [(.string (ofL [])),(.string (ofL []))] [(0,1,t48),(1,1,t38)] fun c8 =>
 LoopW [(s2.getD 0 undef),(s2.getD 1 undef),(.int .i64 0)] w6 fun s9 _ w10 L9 =>
 binW .lss (s9.getD 2 undef) (.int .i64 2) fun t53 =>
 condW t53 (
 ixgW 2 false 1 (.agg c8.toArray) (s9.getD 2 undef) fun t54 =>
 binW .add t54 (.string (ofL [32])) fun t57 =>
 binW .add (s9.getD 0 undef) t57 fun t58 =>
 semE Tryd.prog (convert 9 54 t54) w10 fun t60 w11 =>
 lenlW t60 fun t61 =>
 LoopW [(s9.getD 1 undef),(.int .i64 0)] w11 fun s12 _ w13 L12 =>
 binW .lss (s12.getD 1 undef) t61 fun t63 =>
 condW t63 (
 JoinW (fun J14 =>
 ixaW none 1 t60 (s12.getD 1 undef) fun t64 =>
 ldW false 1 t64 w13 fun t65 =>
 binW .eql t65 (.int .u8 32) fun t67 =>
 condW t67 (
 binW .add (s12.getD 0 undef) (.string (ofL [10])) fun t69 =>
 J14 [t69] w13) (
 bslW 5 1 [(.int .u8 0)] [(0,1,t65)] w13 fun t72 w15 =>
 semQ Tryd.prog (convert 54 9 t72) w15 fun t73 =>
 binW .add (s12.getD 0 undef) t73 fun t74 =>
 J14 [t74] w15))
 fun s14 _ w16 =>
 binW .add (s12.getD 1 undef) (.int .i64 1) fun t75 =>
 L12 [(s14.getD 0 undef),t75] w16) (
 binW .add (s12.getD 0 undef) (.string (ofL [10])) fun t77 =>
 binW .add (s9.getD 2 undef) (.int .i64 1) fun t78 =>
 L9 [t58,t77,t78] w13)) (
 binW .add (s2.getD 2 undef) (.int .i64 1) fun t28 =>
 L2 [(s9.getD 0 undef),(s9.getD 1 undef),t28] w10)) (
 binW .add (.string (ofL [97,32,123,10,120,32,61,32,91,32,40])) (s2.getD 0 undef) fun t81 =>
 binW .add t81 (.string (ofL [122,32,41,32,93,10,125])) fun t82 =>
 callF Tryd.prog 10 [t82] w5 fun t83 w17 =>
 extW 0 t83 fun t84 =>
 extW 1 t83 fun t85 =>
 allocW 28 [(.slice none 0 0),(.slice none 0 0),(.slice none 0 0)] w17 fun t13 w18 =>
 stW 3 t13 t84 w18 fun w19 =>
 binW .add (.string (ofL [97,32,123,10,120,32,61,32,91,10,40])) (s2.getD 1 undef) fun t88 =>
 binW .add t88 (.string (ofL [122,10,41,10,93,10,125])) fun t89 =>
 callF Tryd.prog 10 [t89] w19 fun t90 w20 =>
 extW 0 t90 fun t91 =>
 extW 1 t90 fun t92 =>
 allocW 28 [(.slice none 0 0),(.slice none 0 0),(.slice none 0 0)] w20 fun t15 w21 =>
 stW 3 t15 t91 w21 fun w22 =>
 eqW .ptr false t85 (.pointer none) fun t94 =>
 GdW (isB t94 true) [undef] w22 (fun J23 =>
 eqW .ptr false t92 (.pointer none) fun t97 =>
 J23 [t97] w22)
 fun s23 _ w24 =>
 pickW t94 (s23.getD 0 undef) (.bool false) fun t98 =>
 GdW (isB t98 true) [undef] w24 (fun J25 =>
 ldW true 3 t13 w24 fun t100 =>
 ldW true 3 t15 w24 fun t101 =>
 callF Tryd.prog 11 [t100,t101,(.bool false)] w24 fun t102 w26 =>
 J25 [t102] w26)
 fun s25 _ w27 =>
 pickW t98 (s25.getD 0 undef) (.bool false) fun t103 =>
 K t103 w27))
theorem W7_ok {v0 : Value} {w : World} {K : Value → World → Prop} (h : W7 v0 w K) : callF Tryd.prog 7 [v0] w K :=
 tie _ 7 Tryd.f7 plan7 _ w K 1 _ rfl mixed Tryd.func7 (by kernel_rfl) (by kernel_rfl) Tryd.call7 h
def plan8 : Plan := { js := [(7004,⟨[46],[],45⟩),(7013,⟨[42],[],36⟩),(7021,⟨[33],[],28⟩),(7027,⟨[25],[],22⟩),(7033,⟨[19],[],16⟩)],ds := [] }
def W8 (w : World) (K : Value → World → Prop) : Prop :=
 callF Tryd.prog 10 [(.string (ofL [114,32,34,116,34,32,34,110,34,32,123,32,120,32,61,32,49,32,43,32,121,46,122,32,125]))] w fun t6 w1 =>
 extW 0 t6 fun t7 =>
 extW 1 t6 fun t8 =>
 allocW 28 [(.slice none 0 0),(.slice none 0 0),(.slice none 0 0)] w1 fun t1 w2 =>
 stW 3 t1 t7 w2 fun w3 =>
 callF Tryd.prog 10 [(.string (ofL [97,32,123,32,120,32,61,32,49,32,121,32,61,32,50,32,125]))] w3 fun t10 w4 =>
 extW 0 t10 fun t11 =>
 extW 1 t10 fun t12 =>
 allocW 28 [(.slice none 0 0),(.slice none 0 0),(.slice none 0 0)] w4 fun t3 w5 =>
 stW 3 t3 t11 w5 fun w6 =>
 eqW .ptr false t8 (.pointer none) fun t14 =>
 GdW (isB t14 true) [undef] w6 (fun J7 =>
 fldW 1 t1 fun t16 =>
 ldW false 1 t16 w6 fun t17 =>
 lenlW t17 fun t18 =>
 binW .eql t18 (.int .i64 1) fun t19 =>
 J7 [t19] w6)
 fun s7 _ w8 =>
 pickW t14 (s7.getD 0 undef) (.bool false) fun t20 =>
 GdW (isB t20 true) [undef] w8 (fun J9 =>
 fldW 0 t1 fun t22 =>
 ldW false 1 t22 w8 fun t23 =>
 lenlW t23 fun t24 =>
 binW .eql t24 (.int .i64 4) fun t25 =>
 J9 [t25] w8)
 fun s9 _ w10 =>
 pickW t20 (s9.getD 0 undef) (.bool false) fun t26 =>
 GdW (isB t26 true) [undef] w10 (fun J11 =>
 fldW 0 t1 fun t28 =>
 ldW false 1 t28 w10 fun t29 =>
 ixaW none 5 t29 (.int .i64 3) fun t30 =>
 fldW 0 t30 fun t31 =>
 ldW false 1 t31 w10 fun t32 =>
 binW .eql t32 (.int .i64 15) fun t33 =>
 J11 [t33] w10)
 fun s11 _ w12 =>
 pickW t26 (s11.getD 0 undef) (.bool false) fun t34 =>
 GdW (isB t34 true) [undef] w12 (fun J13 =>
 fldW 1 t1 fun t36 =>
 ldW false 1 t36 w12 fun t37 =>
 ixaW none 5 t37 (.int .i64 0) fun t38 =>
 fldW 1 t38 fun t39 =>
 ldW false 1 t39 w12 fun t40 =>
 lenlW t40 fun t41 =>
 binW .eql t41 (.int .i64 2) fun t42 =>
 J13 [t42] w12)
 fun s13 _ w14 =>
 pickW t34 (s13.getD 0 undef) (.bool false) fun t43 =>
 GdW (isB t43 true) [undef] w14 (fun J15 =>
 callF Tryd.prog 14 [t12,(.int .i64 50),(.int .i64 10)] w14 fun t46 w16 =>
 J15 [t46] w16)
 fun s15 _ w17 =>
 pickW t43 (s15.getD 0 undef) (.bool false) fun t47 =>
 K t47 w17
theorem W8_ok {w : World} {K : Value → World → Prop} (h : W8 w K) : callF Tryd.prog 8 [] w K :=
 tie _ 8 Tryd.f8 plan8 _ w K 0 _ rfl mixed Tryd.func8 (by kernel_rfl) (by kernel_rfl) Tryd.call8 h
def plan11 : Plan := { js := [(63,⟨[152],[6,13],152⟩),(54002,⟨[147],[],140⟩),(54007,⟨[146],[],142⟩),(54009,⟨[141],[],140⟩),(54018,⟨[137],[],131⟩),(54026,⟨[128],[],123⟩),(54034,⟨[120],[],115⟩),(50,⟨[11,12],[11,12],97⟩),(39,⟨[96],[6,10,11,12,13],96⟩),(28002,⟨[90],[],83⟩),(28007,⟨[89],[],85⟩),(28009,⟨[84],[],83⟩),(28017,⟨[80],[],75⟩),(28025,⟨[72],[],67⟩),(28032,⟨[64],[],60⟩),(25,⟨[8,9],[8,9],42⟩),(14,⟨[41],[6,7,8,9],41⟩),(4007,⟨[36],[],31⟩),(4016,⟨[28],[],22⟩)],ds := [(75,⟨[0,1,2,3,4,5,6,7,8,9,10,11,12,13,14,15,16,17,18,19,20,21,22,23,24,25,26,27,28,29,30,31,32,33,34,35,36,37,38,39,40,41,42,43,44,45],[[],[0],[],[0,1,2],[0,1,2,3],[0,1,2,3,4],[],[6],[],[6,7,8],[6,7,8,9],[6,7,8,9,10],[0,1,2,3,4,5,6,7,8,9,10,11],[0,1,2,3,4,5,6,7,8,9,10,11,12],[0,1,2,3,4,5,6,7,8,9,10,11,12,13],[0,1,2,3,4,5,6,7,8,9,10,11,12,13,14],[0,1,2,3,4,5,6,7,8,9,10,11,12,13],[0,1,2,3,4,5,6,7,8,9,10,11,12,13,14,15,16],[0,1,2,3,4,5,6,7,8,9,10,11,12,13,14,15,16,17],[0,1,2,3,4,5,6,7,8,9,10,11,12,13,14,15,16,17,18],[0,1,2,3,4,5,6,7,8,9,10,11,12,13],[0,1,2,3,4,5,6,7,8,9,10,11,12,13,20],[0,1,2,3,4,5,6,7,8,9,10,11,12,13],[0,1,2,3,4,5,6,7,8,9,10,11,12,13,20,21,22],[0,1,2,3,4,5,6,7,8,9,10,11,12,13,20,21,22,23],[0,1,2,3,4,5,6,7,8,9,10,11,12,13,20,21,22,23,24],[0,1,2,3,4,5,6,7,8,9,10,11,12,13,14,15,16,17,18,19,20,21,22,23,24,25],[0,1,2,3,4,5,6,7,8,9,10,11,12,13,14,15,16,17,18,19,20,21,22,23,24,25,26],[0,1,2,3,4,5,6,7,8,9,10,11,12,13,14,15,16,17,18,19,20,21,22,23,24,25,26,27],[0,1,2,3,4,5,6,7,8,9,10,11,12,13,14,15,16,17,18,19,20,21,22,23,24,25,26,27,28],[0,1,2,3,4,5,6,7,8,9,10,11,12,13,14,15,16,17,18,19,20,21,22,23,24,25,26,27,28,29],[0,1,2,3,4,5,6,7,8,9,10,11,12,13,14,15,16,17,18,19,20,21,22,23,24,25,26,27,28,29,30],[0,1,2,3,4,5,6,7,8,9,10,11,12,13,14,15,16,17,18,19,20,21,22,23,24,25,26,27,28,29,30,31],[0,1,2,3,4,5,6,7,8,9,10,11,12,13,14,15,16,17,18,19,20,21,22,23,24,25,26,27,28,29,30],[0,1,2,3,4,5,6,7,8,9,10,11,12,13,14,15,16,17,18,19,20,21,22,23,24,25,26,27,28,29,30,31,32,33],[0,1,2,3,4,5,6,7,8,9,10,11,12,13,14,15,16,17,18,19,20,21,22,23,24,25,26,27,28,29,30,31,32,33,34],[0,1,2,3,4,5,6,7,8,9,10,11,12,13,14,15,16,17,18,19,20,21,22,23,24,25,26,27,28,29,30,31,32,33,34,35],[0,1,2,3,4,5,6,7,8,9,10,11,12,13,14,15,16,17,18,19,20,21,22,23,24,25,26,27,28,29,30],[0,1,2,3,4,5,6,7,8,9,10,11,12,13,14,15,16,17,18,19,20,21,22,23,24,25,26,27,28,29,30,37],[0,1,2,3,4,5,6,7,8,9,10,11,12,13,14,15,16,17,18,19,20,21,22,23,24,25,26,27,28,29,30],[0,1,2,3,4,5,6,7,8,9,10,11,12,13,14,15,16,17,18,19,20,21,22,23,24,25,26,27,28,29,30,37,38,39],[0,1,2,3,4,5,6,7,8,9,10,11,12,13,14,15,16,17,18,19,20,21,22,23,24,25,26,27,28,29,30,37,38,39,40],[0,1,2,3,4,5,6,7,8,9,10,11,12,13,14,15,16,17,18,19,20,21,22,23,24,25,26,27,28,29,30,37,38,39,40,41],[0,1,2,3,4,5,6,7,8,9,10,11,12,13,14,15,16,17,18,19,20,21,22,23,24,25,26,27,28,29,30,31,32,33,34,35,36,37,38,39,40,41,42],[0,1,2,3,4,5,6,7,8,9,10,11,12,13,14,15,16,17,18,19,20,21,22,23,24,25,26,27,28,29,30,31,32,33,34,35,36,37,38,39,40,41,42,43],[0,1,2,3,4,5,6,7,8,9,10,11,12,13,14,15,16,17,18,19,20,21,22,23,24,25,26,27,28,29,30,31,32,33,34,35,36,37,38,39,40,41,42,43,44]]⟩),(51,⟨[0,1,2,3,4,5,6,7,8,9],[[],[0],[],[0,1,2],[0,1,2,3],[],[5],[],[5,6,7],[5,6,7,8],[],[],[0,1,2,3,4,10,11],[0,1,2,3,4,5,6,7,8,9,10,11,12]]⟩),(26,⟨[0,1,2,3,4,5,6,7,8,9],[[],[0],[],[0,1,2],[0,1,2,3],[],[5],[],[5,6,7],[5,6,7,8],[],[],[0,1,2,3,4,10,11],[0,1,2,3,4,5,6,7,8,9,10,11,12]]⟩)] }
def W11 (v0 v1 v2 : Value) (w : World) (K : Value → World → Prop) : Prop :=
 boxW 28 v0 w fun t3 w1 =>
 boxW 28 v1 w1 fun t4 w2 =>
 fldW 0 t3 fun t14 =>
 ldW false 1 t14 w2 fun t15 =>
 lenlW t15 fun t16 =>
 fldW 0 t4 fun t17 =>
 ldW false 1 t17 w2 fun t18 =>
 lenlW t18 fun t19 =>
 binW .neq t16 t19 fun t20 =>
 GdW (isB t20 false) [undef] w2 (fun J3 =>
 fldW 1 t3 fun t22 =>
 ldW false 1 t22 w2 fun t23 =>
 lenlW t23 fun t24 =>
 fldW 1 t4 fun t25 =>
 ldW false 1 t25 w2 fun t26 =>
 lenlW t26 fun t27 =>
 binW .neq t24 t27 fun t28 =>
 J3 [t28] w2)
 fun s3 _ w4 =>
 pickW t20 (.bool true) (s3.getD 0 undef) fun t29 =>
 GdW (isB t29 false) [undef] w4 (fun J5 =>
 fldW 2 t3 fun t31 =>
 ldW false 1 t31 w4 fun t32 =>
 fldW 2 t4 fun t33 =>
 ldW false 1 t33 w4 fun t34 =>
 callF Tryd.prog 21 [t32,t34] w4 fun t35 w6 =>
 unW .not t35 fun t36 =>
 J5 [t36] w6)
 fun s5 _ w7 =>
 pickW t29 (.bool true) (s5.getD 0 undef) fun t37 =>
 condW t37 (
 K (.bool false) w7) (
 fldW 0 t3 fun t38 =>
 ldW false 1 t38 w7 fun t39 =>
 lenlW t39 fun t40 =>
 LoopW [(.int .i64 0)] w7 fun s8 _ w9 L8 =>
 binW .lss (s8.getD 0 undef) t40 fun t42 =>
 condW t42 (
 JoinW (fun J10 =>
 fldW 0 t3 fun t44 =>
 ldW false 1 t44 w9.drew fun t45 =>
 ixaW none 5 t45 (s8.getD 0 undef) fun t47 =>
 ldW true 5 t47 w9.drew fun t48 =>
 fldW 0 t4 fun t49 =>
 ldW false 1 t49 w9.drew fun t50 =>
 ixaW none 5 t50 (s8.getD 0 undef) fun t52 =>
 ldW true 5 t52 w9.drew fun t53 =>
 (
 allocW 38 [(.int .i64 0),(.string (ofL [])),(.slice none 0 0),(.slice none 0 0),(.int .i64 0)] w9.drew fun t8 w11 =>
 (ldW true 5 t52 w11 fun x => x = t53) ∧
 (ldW false 1 t49 w11 fun x => x = t50) ∧
 (ldW true 5 t47 w11 fun x => x = t48) ∧
 (ldW false 1 t44 w11 fun x => x = t45) ∧
 allocW 38 [(.int .i64 0),(.string (ofL [])),(.slice none 0 0),(.slice none 0 0),(.int .i64 0)] w11 fun t9 w12 =>
 (ldW true 5 t52 w12 fun x => x = t53) ∧
 (ldW false 1 t49 w12 fun x => x = t50) ∧
 (ldW true 5 t47 w12 fun x => x = t48) ∧
 (ldW false 1 t44 w12 fun x => x = t45) ∧
 stW 5 t8 t48 w12 fun w13 =>
 (ldW true 5 t52 w13 fun x => x = t53) ∧
 (ldW false 1 t49 w13 fun x => x = t50) ∧
 stW 5 t9 t53 w13 fun w14 =>
 J10 [t8,t9] w14) ∧
 (
 allocW 38 [(.int .i64 0),(.string (ofL [])),(.slice none 0 0),(.slice none 0 0),(.int .i64 0)] w9.drew fun t9 w15 =>
 (ldW true 5 t52 w15 fun x => x = t53) ∧
 (ldW false 1 t49 w15 fun x => x = t50) ∧
 (ldW true 5 t47 w15 fun x => x = t48) ∧
 (ldW false 1 t44 w15 fun x => x = t45) ∧
 allocW 38 [(.int .i64 0),(.string (ofL [])),(.slice none 0 0),(.slice none 0 0),(.int .i64 0)] w15 fun t8 w16 =>
 (ldW true 5 t52 w16 fun x => x = t53) ∧
 (ldW false 1 t49 w16 fun x => x = t50) ∧
 (ldW true 5 t47 w16 fun x => x = t48) ∧
 (ldW false 1 t44 w16 fun x => x = t45) ∧
 stW 5 t8 t48 w16 fun w17 =>
 (ldW true 5 t52 w17 fun x => x = t53) ∧
 (ldW false 1 t49 w17 fun x => x = t50) ∧
 stW 5 t9 t53 w17 fun w18 =>
 J10 [t8,t9] w18))
 fun s10 _ w19 =>
 fldW 0 (s10.getD 0 undef) fun t54 =>
 ldW false 1 t54 w19 fun t55 =>
 fldW 0 (s10.getD 1 undef) fun t56 =>
 ldW false 1 t56 w19 fun t57 =>
 binW .neq t55 t57 fun t58 =>
 GdW (isB t58 false) [undef] w19 (fun J20 =>
 fldW 1 (s10.getD 0 undef) fun t60 =>
 ldW false 1 t60 w19 fun t61 =>
 fldW 1 (s10.getD 1 undef) fun t62 =>
 ldW false 1 t62 w19 fun t63 =>
 binW .neq t61 t63 fun t64 =>
 J20 [t64] w19)
 fun s20 _ w21 =>
 pickW t58 (.bool true) (s20.getD 0 undef) fun t65 =>
 GdW (isB t65 false) [undef] w21 (fun J22 =>
 fldW 2 (s10.getD 0 undef) fun t67 =>
 ldW false 1 t67 w21 fun t68 =>
 fldW 2 (s10.getD 1 undef) fun t69 =>
 ldW false 1 t69 w21 fun t70 =>
 callF Tryd.prog 21 [t68,t70] w21 fun t71 w23 =>
 unW .not t71 fun t72 =>
 J22 [t72] w23)
 fun s22 _ w24 =>
 pickW t65 (.bool true) (s22.getD 0 undef) fun t73 =>
 GdW (isB t73 false) [undef] w24 (fun J25 =>
 fldW 3 (s10.getD 0 undef) fun t75 =>
 ldW false 1 t75 w24 fun t76 =>
 fldW 3 (s10.getD 1 undef) fun t77 =>
 ldW false 1 t77 w24 fun t78 =>
 callF Tryd.prog 22 [t76,t78] w24 fun t79 w26 =>
 unW .not t79 fun t80 =>
 J25 [t80] w26)
 fun s25 _ w27 =>
 pickW t73 (.bool true) (s25.getD 0 undef) fun t81 =>
 GdW (isB t81 false) [undef] w27 (fun J28 =>
 J28 [v2] w27)
 fun s28 _ w29 =>
 GdW (isB (s28.getD 0 undef) true) [undef] w29 (fun J30 =>
 fldW 4 (s10.getD 0 undef) fun t85 =>
 ldW false 1 t85 w29 fun t86 =>
 fldW 4 (s10.getD 1 undef) fun t87 =>
 ldW false 1 t87 w29 fun t88 =>
 binW .neq t86 t88 fun t89 =>
 J30 [t89] w29)
 fun s30 _ w31 =>
 GdW (isB t81 false) [undef] w31 (fun J32 =>
 pickW (s28.getD 0 undef) (s30.getD 0 undef) (.bool false) fun t90 =>
 J32 [t90] w31)
 fun s32 _ w33 =>
 pickW t81 (.bool true) (s32.getD 0 undef) fun t91 =>
 condW t91 (
 K (.bool false) w33) (
 binW .add (s8.getD 0 undef) (.int .i64 1) fun t92 =>
 L8 [t92] w33)) (
 fldW 1 t3 fun t93 =>
 ldW false 1 t93 w9 fun t94 =>
 lenlW t94 fun t95 =>
 LoopW [(.int .i64 0)] w9 fun s34 _ w35 L34 =>
 binW .lss (s34.getD 0 undef) t95 fun t97 =>
 condW t97 (
 JoinW (fun J36 =>
 fldW 1 t3 fun t99 =>
 ldW false 1 t99 w35.drew fun t100 =>
 ixaW none 5 t100 (s34.getD 0 undef) fun t102 =>
 ldW true 5 t102 w35.drew fun t103 =>
 fldW 1 t4 fun t104 =>
 ldW false 1 t104 w35.drew fun t105 =>
 ixaW none 5 t105 (s34.getD 0 undef) fun t107 =>
 ldW true 5 t107 w35.drew fun t108 =>
 (
 allocW 41 [(.string (ofL [])),(.slice none 0 0),(.slice none 0 0),(.slice none 0 0),(.int .i64 0)] w35.drew fun t11 w37 =>
 (ldW true 5 t107 w37 fun x => x = t108) ∧
 (ldW false 1 t104 w37 fun x => x = t105) ∧
 (ldW true 5 t102 w37 fun x => x = t103) ∧
 (ldW false 1 t99 w37 fun x => x = t100) ∧
 allocW 41 [(.string (ofL [])),(.slice none 0 0),(.slice none 0 0),(.slice none 0 0),(.int .i64 0)] w37 fun t12 w38 =>
 (ldW true 5 t107 w38 fun x => x = t108) ∧
 (ldW false 1 t104 w38 fun x => x = t105) ∧
 (ldW true 5 t102 w38 fun x => x = t103) ∧
 (ldW false 1 t99 w38 fun x => x = t100) ∧
 stW 5 t11 t103 w38 fun w39 =>
 (ldW true 5 t107 w39 fun x => x = t108) ∧
 (ldW false 1 t104 w39 fun x => x = t105) ∧
 stW 5 t12 t108 w39 fun w40 =>
 J36 [t11,t12] w40) ∧
 (
 allocW 41 [(.string (ofL [])),(.slice none 0 0),(.slice none 0 0),(.slice none 0 0),(.int .i64 0)] w35.drew fun t12 w41 =>
 (ldW true 5 t107 w41 fun x => x = t108) ∧
 (ldW false 1 t104 w41 fun x => x = t105) ∧
 (ldW true 5 t102 w41 fun x => x = t103) ∧
 (ldW false 1 t99 w41 fun x => x = t100) ∧
 allocW 41 [(.string (ofL [])),(.slice none 0 0),(.slice none 0 0),(.slice none 0 0),(.int .i64 0)] w41 fun t11 w42 =>
 (ldW true 5 t107 w42 fun x => x = t108) ∧
 (ldW false 1 t104 w42 fun x => x = t105) ∧
 (ldW true 5 t102 w42 fun x => x = t103) ∧
 (ldW false 1 t99 w42 fun x => x = t100) ∧
 stW 5 t11 t103 w42 fun w43 =>
 (ldW true 5 t107 w43 fun x => x = t108) ∧
 (ldW false 1 t104 w43 fun x => x = t105) ∧
 stW 5 t12 t108 w43 fun w44 =>
 J36 [t11,t12] w44))
 fun s36 _ w45 =>
 fldW 0 (s36.getD 0 undef) fun t109 =>
 ldW false 1 t109 w45 fun t110 =>
 fldW 0 (s36.getD 1 undef) fun t111 =>
 ldW false 1 t111 w45 fun t112 =>
 binW .neq t110 t112 fun t113 =>
 GdW (isB t113 false) [undef] w45 (fun J46 =>
 fldW 1 (s36.getD 0 undef) fun t115 =>
 ldW false 1 t115 w45 fun t116 =>
 fldW 1 (s36.getD 1 undef) fun t117 =>
 ldW false 1 t117 w45 fun t118 =>
 callF Tryd.prog 22 [t116,t118] w45 fun t119 w47 =>
 unW .not t119 fun t120 =>
 J46 [t120] w47)
 fun s46 _ w48 =>
 pickW t113 (.bool true) (s46.getD 0 undef) fun t121 =>
 GdW (isB t121 false) [undef] w48 (fun J49 =>
 fldW 3 (s36.getD 0 undef) fun t123 =>
 ldW false 1 t123 w48 fun t124 =>
 fldW 3 (s36.getD 1 undef) fun t125 =>
 ldW false 1 t125 w48 fun t126 =>
 callF Tryd.prog 21 [t124,t126] w48 fun t127 w50 =>
 unW .not t127 fun t128 =>
 J49 [t128] w50)
 fun s49 _ w51 =>
 pickW t121 (.bool true) (s49.getD 0 undef) fun t129 =>
 GdW (isB t129 false) [undef] w51 (fun J52 =>
 fldW 2 (s36.getD 0 undef) fun t131 =>
 ldW false 1 t131 w51 fun t132 =>
 lenlW t132 fun t133 =>
 fldW 2 (s36.getD 1 undef) fun t134 =>
 ldW false 1 t134 w51 fun t135 =>
 lenlW t135 fun t136 =>
 binW .neq t133 t136 fun t137 =>
 J52 [t137] w51)
 fun s52 _ w53 =>
 pickW t129 (.bool true) (s52.getD 0 undef) fun t138 =>
 GdW (isB t138 false) [undef] w53 (fun J54 =>
 J54 [v2] w53)
 fun s54 _ w55 =>
 GdW (isB (s54.getD 0 undef) true) [undef] w55 (fun J56 =>
 fldW 4 (s36.getD 0 undef) fun t142 =>
 ldW false 1 t142 w55 fun t143 =>
 fldW 4 (s36.getD 1 undef) fun t144 =>
 ldW false 1 t144 w55 fun t145 =>
 binW .neq t143 t145 fun t146 =>
 J56 [t146] w55)
 fun s56 _ w57 =>
 GdW (isB t138 false) [undef] w57 (fun J58 =>
 pickW (s54.getD 0 undef) (s56.getD 0 undef) (.bool false) fun t147 =>
 J58 [t147] w57)
 fun s58 _ w59 =>
 pickW t138 (.bool true) (s58.getD 0 undef) fun t148 =>
 condW t148 (
 K (.bool false) w59) (
 fldW 2 (s36.getD 0 undef) fun t149 =>
 ldW false 1 t149 w59 fun t150 =>
 lenlW t150 fun t151 =>
 LoopW [(.int .i64 0)] w59 fun s60 _ w61 L60 =>
 binW .lss (s60.getD 0 undef) t151 fun t153 =>
 condW t153 (
 fldW 2 (s36.getD 0 undef) fun t155 =>
 ldW false 1 t155 w61.drew fun t156 =>
 ixaW none 3 t156 (s60.getD 0 undef) fun t158 =>
 fldW 0 t158 fun t159 =>
 ldW false 1 t159 w61.drew fun t160 =>
 fldW 2 (s36.getD 1 undef) fun t161 =>
 ldW false 1 t161 w61.drew fun t162 =>
 ixaW none 3 t162 (s60.getD 0 undef) fun t164 =>
 fldW 0 t164 fun t165 =>
 ldW false 1 t165 w61.drew fun t166 =>
 binW .neq t160 t166 fun t167 =>
 GqW (isB t167 false) (fun k62 => fldW 2 (s36.getD 0 undef) k62) fun t169 =>
 GqW (isB t167 false) (fun k63 => ldW false 1 t169 w61.drew k63) fun t170 =>
 GqW (isB t167 false) (fun k64 => k64 (s60.getD 0 undef)) fun t171 =>
 GqW (isB t167 false) (fun k65 => ixaW none 3 t170 t171 k65) fun t172 =>
 GqW (isB t167 false) (fun k66 => fldW 1 t172 k66) fun t173 =>
 GqW (isB t167 false) (fun k67 => ldW false 1 t173 w61.drew k67) fun t174 =>
 GqW (isB t167 false) (fun k68 => fldW 2 (s36.getD 1 undef) k68) fun t175 =>
 GqW (isB t167 false) (fun k69 => ldW false 1 t175 w61.drew k69) fun t176 =>
 GqW (isB t167 false) (fun k70 => k70 (s60.getD 0 undef)) fun t177 =>
 GqW (isB t167 false) (fun k71 => ixaW none 3 t176 t177 k71) fun t178 =>
 GqW (isB t167 false) (fun k72 => fldW 1 t178 k72) fun t179 =>
 GqW (isB t167 false) (fun k73 => ldW false 1 t179 w61.drew k73) fun t180 =>
 GqW (isB t167 false) (fun k74 => binW .neq t174 t180 k74) fun t181 =>
 pickW t167 (.bool true) t181 fun t182 =>
 GqW (isB t182 false) (fun k75 => k75 v2) fun t184 =>
 GqW (isB t182 false) (fun k76 => k76 t184) fun t185 =>
 GqW (isB t185 true) (fun k77 => fldW 2 (s36.getD 0 undef) k77) fun t186 =>
 GqW (isB t185 true) (fun k78 => ldW false 1 t186 w61.drew k78) fun t187 =>
 GqW (isB t185 true) (fun k79 => k79 (s60.getD 0 undef)) fun t188 =>
 GqW (isB t185 true) (fun k80 => ixaW none 3 t187 t188 k80) fun t189 =>
 GqW (isB t185 true) (fun k81 => fldW 2 t189 k81) fun t190 =>
 GqW (isB t185 true) (fun k82 => ldW false 1 t190 w61.drew k82) fun t191 =>
 GqW (isB t185 true) (fun k83 => fldW 2 (s36.getD 1 undef) k83) fun t192 =>
 GqW (isB t185 true) (fun k84 => ldW false 1 t192 w61.drew k84) fun t193 =>
 GqW (isB t185 true) (fun k85 => k85 (s60.getD 0 undef)) fun t194 =>
 GqW (isB t185 true) (fun k86 => ixaW none 3 t193 t194 k86) fun t195 =>
 GqW (isB t185 true) (fun k87 => fldW 2 t195 k87) fun t196 =>
 GqW (isB t185 true) (fun k88 => ldW false 1 t196 w61.drew k88) fun t197 =>
 GqW (isB t185 true) (fun k89 => binW .neq t191 t197 k89) fun t198 =>
 GqW (isB t182 false) (fun k90 => pickW t185 t198 (.bool false) k90) fun t199 =>
 pickW t182 (.bool true) t199 fun t200 =>
 condW t200 (
 K (.bool false) w61.drew) (
 binW .add (s60.getD 0 undef) (.int .i64 1) fun t201 =>
 L60 [t201] w61.drew)) (
 binW .add (s34.getD 0 undef) (.int .i64 1) fun t202 =>
 L34 [t202] w61))) (
 K (.bool true) w35)))
theorem W11_ok {v0 v1 v2 : Value} {w : World} {K : Value → World → Prop} (h : W11 v0 v1 v2 w K) : callF Tryd.prog 11 [v0,v1,v2] w K :=
 tie _ 11 Tryd.f11 plan11 _ w K 3 _ rfl mixed Tryd.func11 (by kernel_rfl) (by kernel_rfl) Tryd.call11 h
def plan12 : Plan := { js := [],ds := [(7,⟨[0,1,2,3,4,5,6,7],[[],[0],[0,1],[],[3],[3,4],[0,1,2],[0,1,2,3,4,5,6]]⟩)] }
def W12 (v0 : Value) (w : World) (K : Value → World → Prop) : Prop :=
 putW (List.replicate 13 (.string (ofL []))) [(0,1,(.string (ofL [124,124]))),(1,1,(.string (ofL [38,38]))),(2,1,(.string (ofL [61,61]))),(3,1,(.string (ofL [33,61]))),(4,1,(.string (ofL [60]))),(5,1,(.string (ofL [62]))),(6,1,(.string (ofL [60,61]))),(7,1,(.string (ofL [62,61]))),(8,1,(.string (ofL [43]))),(9,1,(.string (ofL [45]))),(10,1,(.string (ofL [42]))),(11,1,(.string (ofL [47]))),(12,1,(.string (ofL [37])))] fun c1 =>
 allocW 72 (List.replicate 13 (.string (ofL []))) w fun t4 w2 =>
 stW 13 t4 (.agg c1.toArray) w2 fun w3 =>
 putW (List.replicate 13 (.int .i64 0)) [(0,1,(.int .i64 0)),(1,1,(.int .i64 1)),(2,1,(.int .i64 2)),(3,1,(.int .i64 2)),(4,1,(.int .i64 3)),(5,1,(.int .i64 3)),(6,1,(.int .i64 3)),(7,1,(.int .i64 3)),(8,1,(.int .i64 4)),(9,1,(.int .i64 4)),(10,1,(.int .i64 5)),(11,1,(.int .i64 5)),(12,1,(.int .i64 5))] fun c4 =>
 allocW 73 (List.replicate 13 (.int .i64 0)) w3 fun t5 w5 =>
 stW 13 t5 (.agg c4.toArray) w5 fun w6 =>
 ixaW (some 13) 1 t4 v0 fun t9 =>
 ldW false 1 t9 w6.drew fun t10 =>
 ixaW (some 13) 1 t5 v0 fun t12 =>
 ldW false 1 t12 w6.drew fun t13 =>
 K (.tuple #[t10,t13]) w6.drew
theorem W12_ok {v0 : Value} {w : World} {K : Value → World → Prop} (h : W12 v0 w K) : callF Tryd.prog 12 [v0] w K :=
 tie _ 12 Tryd.f12 plan12 _ w K 1 _ rfl mixed Tryd.func12 (by kernel_rfl) (by kernel_rfl) Tryd.call12 h
def plan14 : Plan := { js := [(11007,⟨[34],[],30⟩),(11015,⟨[27],[],22⟩),(11023,⟨[19],[],14⟩)],ds := [] }
def W14 (v0 v1 v2 : Value) (w : World) (K : Value → World → Prop) : Prop :=
 binW .eql v1 (.int .i64 0) fun t8 =>
 condW t8 (
 eqW .ptr false v0 (.pointer none) fun t10 =>
 K t10 w) (
 eqW .ptr true v0 (.pointer none) fun t12 =>
 GdW (isB t12 true) [undef] w (fun J1 =>
 nilW v0 fun t15 =>
 fldW 0 t15 fun t16 =>
 ldW false 1 t16 w fun t17 =>
 binW .eql t17 v1 fun t19 =>
 J1 [t19] w)
 fun s1 _ w2 =>
 pickW t12 (s1.getD 0 undef) (.bool false) fun t20 =>
 GdW (isB t20 true) [undef] w2 (fun J3 =>
 nilW v0 fun t23 =>
 fldW 2 t23 fun t24 =>
 ldW false 1 t24 w2 fun t25 =>
 binW .eql t25 v2 fun t27 =>
 J3 [t27] w2)
 fun s3 _ w4 =>
 pickW t20 (s3.getD 0 undef) (.bool false) fun t28 =>
 GdW (isB t28 true) [undef] w4 (fun J5 =>
 nilW v0 fun t31 =>
 fldW 1 t31 fun t32 =>
 ldW false 1 t32 w4 fun t33 =>
 binW .eql t33 (.string (ofL [])) fun t34 =>
 J5 [t34] w4)
 fun s5 _ w6 =>
 pickW t28 (s5.getD 0 undef) (.bool false) fun t35 =>
 K t35 w6)
theorem W14_ok {v0 v1 v2 : Value} {w : World} {K : Value → World → Prop} (h : W14 v0 v1 v2 w K) : callF Tryd.prog 14 [v0,v1,v2] w K :=
 tie _ 14 Tryd.f14 plan14 _ w K 3 _ rfl mixed Tryd.func14 (by kernel_rfl) (by kernel_rfl) Tryd.call14 h
def plan21 : Plan := { js := [(14,⟨[13],[4,5],13⟩)],ds := [(26,⟨[0,1,2,3,4,5,6,7,8],[[],[],[0,1],[0,1,2],[],[],[4,5],[4,5,6],[0,1,2,3,4,5,6,7]]⟩)] }
def W21 (v0 v1 : Value) (w : World) (K : Value → World → Prop) : Prop :=
 lenlW v0 fun t7 =>
 lenlW v1 fun t9 =>
 binW .neq t7 t9 fun t10 =>
 condW t10 (
 K (.bool false) w) (
 lenlW v0 fun t12 =>
 LoopW [(.int .i64 0)] w fun s1 _ w2 L1 =>
 binW .lss (s1.getD 0 undef) t12 fun t14 =>
 condW t14 (
 ixaW none 1 v0 (s1.getD 0 undef) fun t18 =>
 ldW false 1 t18 w2.drew fun t19 =>
 ixaW none 1 v1 (s1.getD 0 undef) fun t22 =>
 ldW false 1 t22 w2.drew fun t23 =>
 binW .neq t19 t23 fun t24 =>
 condW t24 (
 K (.bool false) w2.drew) (
 binW .add (s1.getD 0 undef) (.int .i64 1) fun t25 =>
 L1 [t25] w2.drew)) (
 K (.bool true) w2))
theorem W21_ok {v0 v1 : Value} {w : World} {K : Value → World → Prop} (h : W21 v0 v1 w K) : callF Tryd.prog 21 [v0,v1] w K :=
 tie _ 21 Tryd.f21 plan21 _ w K 2 _ rfl mixed Tryd.func21 (by kernel_rfl) (by kernel_rfl) Tryd.call21 h
def plan48 : Plan := { js := [],ds := [] }
def W48 (v0 v1 : Value) (w : World) (K : Value → World → Prop) : Prop :=
 callF Tryd.prog 62 [v0,v1] w fun t7 w1 =>
 binW .geq t7 (.int .i64 0) fun t8 =>
 K t8 w1
theorem W48_ok {v0 v1 : Value} {w : World} {K : Value → World → Prop} (h : W48 v0 v1 w K) : callF Tryd.prog 48 [v0,v1] w K :=
 tie _ 48 Tryd.f48 plan48 _ w K 2 _ rfl mixed Tryd.func48 (by kernel_rfl) (by kernel_rfl) Tryd.call48 h
def plan58 : Plan := { js := [],ds := [] }
def W58 (v0 v1 : Value) (w : World) (K : Value → World → Prop) : Prop :=
 callF Tryd.prog 77 [v0] w fun t6 w1 =>
 nilW v0 fun t9 =>
 fldW 1 t9 fun t10 =>
 ldW false 1 t10 w1 fun t11 =>
 bslW 5 1 [(.int .u8 0)] [(0,1,v1)] w1 fun t13 w2 =>
 semE Tryd.prog (Builtin.append_ #[54,54] 54 #[t11,t13]) w2 fun t14 w3 =>
 nilW v0 fun t15 =>
 fldW 1 t15 fun t16 =>
 stW 1 t16 t14 w3 fun w4 =>
 K .nilIface w4
theorem W58_ok {v0 v1 : Value} {w : World} {K : Value → World → Prop} (h : W58 v0 v1 w K) : callF Tryd.prog 58 [v0,v1] w K :=
 tie _ 58 Tryd.f58 plan58 _ w K 2 _ rfl mixed Tryd.func58 (by kernel_rfl) (by kernel_rfl) Tryd.call58 h
def plan59 : Plan := { js := [],ds := [] }
def W59 (v0 v1 : Value) (w : World) (K : Value → World → Prop) : Prop :=
 callF Tryd.prog 77 [v0] w fun t8 w1 =>
 nilW v0 fun t10 =>
 fldW 1 t10 fun t11 =>
 ldW false 1 t11 w1 fun t12 =>
 lenlW t12 fun t13 =>
 nilW v0 fun t16 =>
 fldW 1 t16 fun t17 =>
 ldW false 1 t17 w1 fun t18 =>
 callF Tryd.prog 78 [t18,v1] w1 fun t20 w2 =>
 nilW v0 fun t21 =>
 fldW 1 t21 fun t22 =>
 stW 1 t22 t20 w2 fun w3 =>
 nilW v0 fun t24 =>
 fldW 1 t24 fun t25 =>
 ldW false 1 t25 w3 fun t26 =>
 lenlW t26 fun t27 =>
 binW .sub t27 t13 fun t29 =>
 K (.tuple #[t29,.nilIface]) w3
theorem W59_ok {v0 v1 : Value} {w : World} {K : Value → World → Prop} (h : W59 v0 v1 w K) : callF Tryd.prog 59 [v0,v1] w K :=
 tie _ 59 Tryd.f59 plan59 _ w K 2 _ rfl mixed Tryd.func59 (by kernel_rfl) (by kernel_rfl) Tryd.call59 h
def plan60 : Plan := { js := [],ds := [] }
def W60 (v0 v1 : Value) (w : World) (K : Value → World → Prop) : Prop :=
 callF Tryd.prog 77 [v0] w fun t7 w1 =>
 nilW v0 fun t10 =>
 fldW 1 t10 fun t11 =>
 ldW false 1 t11 w1 fun t12 =>
 semE Tryd.prog (Builtin.append_ #[54,9] 54 #[t12,v1]) w1 fun t14 w2 =>
 nilW v0 fun t15 =>
 fldW 1 t15 fun t16 =>
 stW 1 t16 t14 w2 fun w3 =>
 lensW v1 fun t18 =>
 K (.tuple #[t18,.nilIface]) w3
theorem W60_ok {v0 v1 : Value} {w : World} {K : Value → World → Prop} (h : W60 v0 v1 w K) : callF Tryd.prog 60 [v0,v1] w K :=
 tie _ 60 Tryd.f60 plan60 _ w K 2 _ rfl mixed Tryd.func60 (by kernel_rfl) (by kernel_rfl) Tryd.call60 h
def plan62 : Plan := { js := [(6,⟨[8],[4,5],8⟩)],ds := [] }
def W62 (v0 v1 : Value) (w : World) (K : Value → World → Prop) : Prop :=
 lenlW v0 fun t7 =>
 LoopW [(.int .i64 0)] w fun s1 _ w2 L1 =>
 binW .lss (s1.getD 0 undef) t7 fun t9 =>
 condW t9 (
 ixaW none 1 v0 (s1.getD 0 undef) fun t14 =>
 ldW false 1 t14 w2 fun t15 =>
 binW .eql v1 t15 fun t16 =>
 condW t16 (
 K (s1.getD 0 undef) w2) (
 binW .add (s1.getD 0 undef) (.int .i64 1) fun t18 =>
 L1 [t18] w2)) (
 K (.int .i64 (-1)) w2)
theorem W62_ok {v0 v1 : Value} {w : World} {K : Value → World → Prop} (h : W62 v0 v1 w K) : callF Tryd.prog 62 [v0,v1] w K :=
 tie _ 62 Tryd.f62 plan62 _ w K 2 _ rfl mixed Tryd.func62 (by kernel_rfl) (by kernel_rfl) Tryd.call62 h
def plan78 : Plan := { js := [],ds := [] }
def W78 (v0 v1 : Value) (w : World) (K : Value → World → Prop) : Prop :=
 cvtW .u32 v1 fun t6 =>
 binW .leq t6 (.int .u32 127) fun t7 =>
 condW t7 (
 cvtW .u8 v1 fun t10 =>
 bslW 5 1 [(.int .u8 0)] [(0,1,t10)] w fun t11 w1 =>
 semE Tryd.prog (Builtin.append_ #[54,54] 54 #[v0,t11]) w1 fun t12 w2 =>
 K t12 w2) (
 callF Tryd.prog 87 [v0,v1] w fun t15 w3 =>
 K t15 w3)
theorem W78_ok {v0 v1 : Value} {w : World} {K : Value → World → Prop} (h : W78 v0 v1 w K) : callF Tryd.prog 78 [v0,v1] w K :=
 tie _ 78 Tryd.f78 plan78 _ w K 2 _ rfl mixed Tryd.func78 (by kernel_rfl) (by kernel_rfl) Tryd.call78 h
def plan87 : Plan := { js := [(22004,⟨[55],[],54⟩),(11,⟨[25],[],6⟩),(16004,⟨[32],[],31⟩)],ds := [] }
def W87 (v0 v1 : Value) (w : World) (K : Value → World → Prop) : Prop :=
 cvtW .u32 v1 fun t7 =>
 binW .leq t7 (.int .u32 2047) fun t13 =>
 condW t13 (
 binW .shr v1 (.int .u64 6) fun t16 =>
 cvtW .u8 t16 fun t17 =>
 binW .or (.int .u8 192) t17 fun t18 =>
 cvtW .u8 v1 fun t20 =>
 binW .and t20 (.int .u8 63) fun t21 =>
 binW .or (.int .u8 128) t21 fun t22 =>
 bslW 5 2 [(.int .u8 0),(.int .u8 0)] [(0,1,t18),(1,1,t22)] w fun t23 w1 =>
 semE Tryd.prog (Builtin.append_ #[54,54] 54 #[v0,t23]) w1 fun t24 w2 =>
 K t24 w2) (
 JoinW (fun J3 =>
 binW .lss t7 (.int .u32 55296) fun t27 =>
 condW t27 (
 J3 [t27] w) (
 binW .lss (.int .u32 57343) t7 fun t29 =>
 GdW (isB t29 true) [undef] w (fun J4 =>
 binW .leq t7 (.int .u32 65535) fun t32 =>
 J4 [t32] w)
 fun s4 _ w5 =>
 pickW t29 (s4.getD 0 undef) (.bool false) fun t33 =>
 J3 [t33] w5))
 fun s3 _ w6 =>
 condW (s3.getD 0 undef) (
 binW .shr v1 (.int .u64 12) fun t36 =>
 cvtW .u8 t36 fun t37 =>
 binW .or (.int .u8 224) t37 fun t38 =>
 binW .shr v1 (.int .u64 6) fun t40 =>
 cvtW .u8 t40 fun t41 =>
 binW .and t41 (.int .u8 63) fun t42 =>
 binW .or (.int .u8 128) t42 fun t43 =>
 cvtW .u8 v1 fun t45 =>
 binW .and t45 (.int .u8 63) fun t46 =>
 binW .or (.int .u8 128) t46 fun t47 =>
 bslW 5 3 [(.int .u8 0),(.int .u8 0),(.int .u8 0)] [(0,1,t38),(1,1,t43),(2,1,t47)] w6 fun t48 w7 =>
 semE Tryd.prog (Builtin.append_ #[54,54] 54 #[v0,t48]) w7 fun t49 w8 =>
 K t49 w8) (
 binW .gtr t7 (.int .u32 65535) fun t52 =>
 GdW (isB t52 true) [undef] w6 (fun J9 =>
 binW .leq t7 (.int .u32 1114111) fun t55 =>
 J9 [t55] w6)
 fun s9 _ w10 =>
 pickW t52 (s9.getD 0 undef) (.bool false) fun t56 =>
 condW t56 (
 binW .shr v1 (.int .u64 18) fun t59 =>
 cvtW .u8 t59 fun t60 =>
 binW .or (.int .u8 240) t60 fun t61 =>
 binW .shr v1 (.int .u64 12) fun t63 =>
 cvtW .u8 t63 fun t64 =>
 binW .and t64 (.int .u8 63) fun t65 =>
 binW .or (.int .u8 128) t65 fun t66 =>
 binW .shr v1 (.int .u64 6) fun t68 =>
 cvtW .u8 t68 fun t69 =>
 binW .and t69 (.int .u8 63) fun t70 =>
 binW .or (.int .u8 128) t70 fun t71 =>
 cvtW .u8 v1 fun t73 =>
 binW .and t73 (.int .u8 63) fun t74 =>
 binW .or (.int .u8 128) t74 fun t75 =>
 bslW 5 4 [(.int .u8 0),(.int .u8 0),(.int .u8 0),(.int .u8 0)] [(0,1,t61),(1,1,t66),(2,1,t71),(3,1,t75)] w10 fun t76 w11 =>
 semE Tryd.prog (Builtin.append_ #[54,54] 54 #[v0,t76]) w11 fun t77 w12 =>
 K t77 w12) (
 bslW 5 3 [(.int .u8 0),(.int .u8 0),(.int .u8 0)] [(0,1,(.int .u8 239)),(1,1,(.int .u8 191)),(2,1,(.int .u8 189))] w10 fun t9 w13 =>
 semE Tryd.prog (Builtin.append_ #[54,54] 54 #[v0,t9]) w13 fun t10 w14 =>
 K t10 w14)))
theorem W87_ok {v0 v1 : Value} {w : World} {K : Value → World → Prop} (h : W87 v0 v1 w K) : callF Tryd.prog 87 [v0,v1] w K :=
 tie _ 87 Tryd.f87 plan87 _ w K 2 _ rfl mixed Tryd.func87 (by kernel_rfl) (by kernel_rfl) Tryd.call87 h
end Go.Proofs.YtofhaneggcpdaaaDoor
namespace Go.Proofs.YtofhaneggcpdaaaDoor
open Go Go.Eng Go.RowKit Go.Syn Go.Lex
set_option maxRecDepth 100000
abbrev DT : TypeId := 29
def tokc (t : Tok) : List Value := [i64 t.k,str t.t,i64 t.a]
def psAt (w : World) (p : Nat) : Nat := match w.heap[p]? with | some (.cells c _ _) => (match (c[1]? : Option Value) with | some (Value.int _ i) => i.toNat | _ => 0) | _ => 0
theorem PR.at_ {w0 w : World} {p f : Nat} {M : Lay} {vt : Value} {s : PS} {top : List Nat} (h : PR w0 w p f M vt s top) : psAt w p = s.i := by
 unfold psAt
 rw [h.ps]
 simp
theorem wsi {N : Int} {s : PS} (h : WS N s) (hN : s.toks.length ≤ 100000) : s.i ≤ 1000000 := by have := h.lt; omega
section
variable [HX]
def Thr (w0 : World) (f : Nat) (code at_ : Int) : Prop :=
 ∀ (d : Nat) (w' : World) (cs : List Value),Chg (Of f) w0 w' → w0.heap.size ≤ d → cs.length = 3 → w'.heap[f]? = some (.cells cs.toArray FlT (0,0)) → w'.heap[d]? = some (.cells [i64 code,str [],i64 at_].toArray 34 (0,0)) → HX.X [{ v := .iface DT (.pointer (some ⟨d,0,none⟩)),recovered := false }] w'
section
variable {w0 w : World} {p f : Nat} {M : Lay} {vt : Value} {s : PS} {top : List Nat} {N : Int} {K : Value → World → Prop}
theorem fail_p {e a : Int} (h : PR w0 w p f M vt s top) (ht : Thr w0 f e a) : callF Tryd.prog 20 [i64 e,i64 a] w K := by
 refine W20_ok ?_
 unfold W20
 simp only [put_int,put_str,put_nil,List.length_cons,List.length_nil,List.set_cons_zero,List.set_cons_succ]
 refine ⟨by omega,by omega,?_⟩
 refine box_new (z := [i64 e,str [],i64 a]) fun d w' hd hz hb hx => ?_
 have h' := h.ext hx
 exact ht d w' _ h'.ch (by have := h.base; omega) (by rfl) h'.fr.hf hb
theorem lineRun_get : ∀ {l : List Tok} {i : Nat} {t : Tok},l[i]? = some t → lineRun (l.drop i) = if t.k = 5 then lineRun (l.drop (i + 1)) + 1 else 0 := by
 intro l i t h
 have hlt := (List.getElem?_eq_some_iff.1 h).1
 rw [List.drop_eq_getElem_cons hlt,(List.getElem?_eq_some_iff.1 h).2]
 rfl
theorem now_p (h : PR w0 w p f M vt s top) (hs : WS N s) (hN : N ≤ 1000000) (hl : s.toks.length ≤ 100000) (hK : ∀ w',PR w0 w' p f M vt (nowS s) top → Eff p f M M w w' → K (.agg (tokc (cur s)).toArray) w') :
   callF Tryd.prog 18 [.pointer (some ⟨p,0,none⟩)] w K := by
 refine W18_ok ?_
 unfold W18
 refine alloc_new fun b w1 hb hz1 hbb hx1 => ?_
 have hp := h.lt
 have h1 := h.ext hx1
 have L1 := h.loc hz1 hb hbb
 refine LoopW.go (fun st w' => st = [] ∧ ∃ j,PR w0 w' p f M vt { s with i := j } top ∧ s.i ≤ j ∧ nowS { s with i := j } = nowS s ∧ j ≤ (nowS s).i ∧ Eff p f M M w w' ∧ Loc w0 w' p f M vt b TkT [i64 0,str [],i64 0]) (fun _ w' => s.toks.length - psAt w' p)
   ⟨rfl,s.i,h1,Nat.le_refl _,rfl,now_i s,Eff.ext hx1,L1⟩ ?_
 rintro st g w2 ⟨rfl,j,h2,hj,hnow,hjn,he2,L2⟩
 have hg := now_go hs
 have hjl : j < s.toks.length := by have := (hg.ws hs).lt; rw [hg.toks] at this; omega
 have hws : WS N { s with i := j } := ⟨hs.tg,hjl,hs.pN⟩
 obtain ⟨t,ht⟩ : ∃ t,s.toks[j]? = some t := ⟨_,List.getElem?_eq_getElem hjl⟩
 have h3 := h2.drew
 have sl : SlAt w2.drew TkT vt s.toks.length (toks s.toks) := h3.tk
 have stop : nowS { s with i := j } = { s with i := j } → nilW (.pointer (some ⟨p,0,none⟩)) (fun t30 => fldW 0 t30 fun t31 => ldW false 1 t31 w2.drew.drew fun t32 => nilW (.pointer (some ⟨p,0,none⟩)) fun t34 => fldW 1 t34 fun t35 => ldW false 1 t35 w2.drew.drew fun t36 => ixaW none 3 t32 t36 fun t37 => ldW true 3 t37 w2.drew.drew fun t38 => allocW TkT [(.int .i64 0),(.string (ofL [])),(.int .i64 0)] w2.drew.drew fun t3 w17 => (ldW true 3 t37 w17 fun x => x = t38) ∧ (ldW false 1 t35 w17 fun x => x = t36) ∧ (ldW false 1 t31 w17 fun x => x = t32) ∧ stW 3 t3 t38 w17 fun w18 => fldW 2 t3 fun t39 => ldW false 1 t39 w18.drew fun t40 => nilW (.pointer (some ⟨p,0,none⟩)) fun t42 => fldW 2 t42 fun t43 => ldW false 1 t43 w18.drew fun t44 => binW .add t40 t44 fun t45 => fldW 2 t3 fun t46 => stW 1 t46 t45 w18.drew fun w19 => ldW true 3 t3 w19 fun t47 => stW 3 (.pointer (some ⟨b,0,none⟩)) t47 w19 fun w20 => ldW true 3 (.pointer (some ⟨b,0,none⟩)) w20 fun r21 => K r21 w20) := fun hn => by
   have h4 := h3.drew
   have ecur : cur s = { t with a := t.a + s.off } := by
     unfold cur
     rw [← hnow,hn]
     have : tokI { s with i := j } = t := by unfold tokI; rw [List.getD_eq_getElem?_getD,ht]; rfl
     rw [this]
   have hpos := hws.tg.pos j t ht
   simp only at hpos
   have ldT : ∀ {w' : World},PR w0 w' p f M vt { s with i := j } top → ldW false 1 (.pointer (some ((⟨p,0,none⟩ : Addr).add 0))) w' fun x => x = vt := fun h => by
     rw [ld_one]; exact ⟨vt,by rw [add_mk,cell_eq,h.ps,cellO_some]; rfl,rfl⟩
   have ldI : ∀ {w' : World},PR w0 w' p f M vt { s with i := j } top → ldW false 1 (.pointer (some ((⟨p,0,none⟩ : Addr).add 1))) w' fun x => x = i64 (j : Nat) := fun h => by
     rw [ld_one]; exact ⟨_,by rw [add_mk,cell_eq,h.ps,cellO_some]; rfl,rfl⟩
   refine h4.ld rfl ?_
   refine h4.ld rfl ?_
   refine ixa_at (size := 3) h4.tk (toks_len _) (by omega) hjl fun tb o c fr htb hc => ?_
   have hcell : ∀ i,i < 3 → c[o + i]? = (tokc t)[i]? := fun i hi => by rw [hc i hi]; exact toks_get ht hi
   have three : ∀ {w' : World},w'.heap[tb]? = some (.cells c TkT fr) → cellsAt w' ⟨tb,o,none⟩ 0 3 = some (tokc t) := fun h => by
     have h0 := hcell 0 (by omega)
     have h1 := hcell 1 (by omega)
     have h2 := hcell 2 (by omega)
     simp only [tokc,Nat.add_zero,List.getElem?_cons_zero,List.getElem?_cons_succ] at h0 h1 h2
     simp only [cellsAt,add_mk,cell_eq,h,cellO_some,Nat.add_zero,h0,h1,h2,Option.map_some,Nat.reduceAdd]
     rfl
   rw [ld_agg]
   refine ⟨tokc t,three htb,?_⟩
   refine alloc_new fun b2 w5 hb2 hz5 hbb5 hx5 => ?_
   have h5 := h4.ext hx5
   have L5 := h4.loc hz5 hb2 hbb5
   have htb5 := hx5.at htb id
   refine ⟨by rw [ld_agg]; exact ⟨_,three htb5,rfl⟩,ldI h5,ldT h5,?_⟩
   refine st_agg_at (l := tokc t) L5.1 rfl rfl rfl fun w6 hz6 hb6 hc6 => ?_
   have L6 : Loc w0 w6 p f M vt b2 TkT (tokc t) := ⟨hb6,L5.2.up (by omega)⟩
   have h6 := h5.one hc6 L5.2
   refine L6.drew.ldf rfl ?_
   refine h6.drew.ld (v := i64 s.off) rfl ?_
   rw [bin_add,wrap_id (by omega) (by omega),fld_ptr,add_mk,Nat.zero_add]
   refine L6.drew.st rfl (by simp [tokc]) fun w7 L7 hc7 hz7 => ?_
   have h7 := h6.drew.one hc7 L6.drew.2
   refine ld_all (l := tokc (cur s)) (by rw [L7.1,ecur]; rfl) rfl ?_
   have hbb2 : b2 ≠ b := by have := L2.lt; have : w2.drew.drew.heap.size = w2.heap.size := rfl; omega
   have L2' := (((L2.drew.drew.ext hx5).one hc6 (Ne.symm hbb2)).drew.one hc7 (Ne.symm hbb2))
   refine ret_agg (l := tokc (cur s)) L2'.1 rfl rfl rfl fun w8 hc8 => ?_
   have h8 := h7.one hc8 L2'.2
   refine hK w8 (by rw [← hnow,hn]; exact h8) ?_
   have hz2 := he2.chg.size
   have z1 : w2.drew.drew.heap.size = w2.heap.size := rfl
   exact ((((((he2.x (ext_drew _)).x (ext_drew _)).x hx5).one hc6 (by omega)).x (ext_drew _)).one hc7 (by omega)).one hc8 (by omega)
 by_cases hq : s.quiet = true
 · refine h3.ld (v := .bool true) (by simp [hq]) ?_
   simp only [isB_t,GqW_t]
   refine ⟨_,rfl,_,rfl,_,rfl,vt,by rw [ld_one]; exact ⟨vt,by rw [add_mk,cell_eq,h3.ps,cellO_some]; rfl,rfl⟩,_,rfl,_,rfl,_,rfl,i64 (j : Nat),by rw [ld_one]; exact ⟨_,by rw [add_mk,cell_eq,h3.ps,cellO_some]; rfl,rfl⟩,?_⟩
   obtain ⟨q,cap,hv,g1,g2,g3⟩ := sl
   have hne : toks s.toks ≠ [] := fun e => by have := congrArg List.length e; rw [toks_len,List.length_nil] at this; omega
   obtain ⟨tb,o,c,fr,rfl,htb,hcs⟩ := g3 hne
   have hlen : (toks s.toks).length = s.toks.length * 3 := toks_len _
   refine ⟨.pointer (some ((⟨tb,o,none⟩ : Addr).add (j * 3))),?_,.pointer (some (((⟨tb,o,none⟩ : Addr).add (j * 3)).add 0)),rfl,i64 t.k,?_,.bool (decide (t.k = 5)),by rw [bin_eql],?_⟩
   · rw [hv,ixa_slice]
     exact ⟨by omega,by omega,by rw [Int.toNat_natCast]⟩
   · rw [ld_one]
     refine ⟨_,?_,rfl⟩
     rw [add_mk,add_mk,cell_eq,htb,cellO_some,Nat.add_zero,hcs _ (by omega)]
     have := toks_get (j := 0) ht (by omega)
     rw [Nat.add_zero] at this
     exact this
   rw [pick_t,condW_dec]
   refine ⟨fun hk => ?_,fun hk => stop ?_⟩
   · have hrun : nowS { s with i := j + 1 } = nowS s := by
       rw [← hnow]
       unfold nowS
       simp only [hq,if_true]
       have e := lineRun_get ht
       rw [if_pos hk] at e
       rw [e]
       congr 1
       omega
     refine h3.go (wsi hws hl) fun w4 h4 he4 hz4 => ?_
     refine ⟨⟨trivial,j + 1,h4,by omega,hrun,?_,(he2.x (ext_drew _)).trans he4,L2.drew.eff he4⟩,?_⟩
     · rw [← hrun]; exact now_i { s with i := j + 1 }
     · rw [h4.at_,h2.at_]; simp only [step1]; omega
   · have e := lineRun_get ht
     rw [if_neg hk] at e
     unfold nowS
     simp only [hq,if_true,e,Nat.add_zero]
 · have hq : s.quiet = false := by simpa using hq
   refine h3.ld (v := .bool false) (by simp [hq]) ?_
   simp only [isB_t,GqW_f]
   rw [pick_f,condW_false]
   exact stop (by unfold nowS; simp only [hq]; rfl)
end
end
end Go.Proofs.YtofhaneggcpdaaaDoor
namespace Go.Proofs.YtofhaneggcpdaaaDoor
open Go Go.Eng Go.RowKit Go.Syn Go.Lex
set_option maxRecDepth 100000
theorem slat_at {S : Nat → Prop} {w w' : World} {T : TypeId} {n : Nat} {v : Value} {xs : List Value} (h : SlAt w T v n xs) (hc : Chg S w w') (hS : ∀ k,v.ownBlock = some k → ¬ S k) : SlAt w' T v n xs := by
 obtain ⟨q,cap,hv,h1,h2,h3⟩ := h
 refine ⟨q,cap,hv,h1,h2,fun hne => ?_⟩
 obtain ⟨b,off,c,fr,hq,hb,hcs⟩ := h3 hne
 exact ⟨b,off,c,fr,hq,hc.at hb (hS b (by rw [hv,hq]; rfl)),hcs⟩
def LocS (w0 w : World) (p f : Nat) (M : Lay) (vt : Value) (v : Value) (T : TypeId) (n : Nat) (cs : List Value) : Prop := SlAt w T v n cs ∧ ∀ k,v.ownBlock = some k → Off w0 w p f M vt k
theorem upi {i : Nat} (h : i ≤ 4611686018427387904) : IntKind.i64.wrap ((i : Int) + 1) = ((i + 1 : Nat) : Int) := by rw [wrap_id (by omega) (by omega)]; rfl
def sidxF : List Str → Str → Nat → Int
 | [],_,_ => -1
 | a :: r,x,i => if x = a then (i : Nat) else sidxF r x (i + 1)
theorem sidxF_in (x : Str) : ∀ (l : List Str) (i : Nat),(0 ≤ sidxF l x i ↔ x ∈ l)
 | [],i => by simp [sidxF]
 | a :: r,i => by
   simp only [sidxF]
   split
   · rename_i h
     simp [h]
   · rename_i h
     rw [sidxF_in x r (i + 1)]
     simp [h]
theorem bsl_str {x : Str} {w : World} {K : Value → World → Prop} (hK : ∀ b w',b = w.heap.size → w'.heap.size = w.heap.size + 1 → w'.heap[b]? = some (.cells [str x].toArray StT (0,0)) → Ext w w' → K (.slice (some ⟨b,0,none⟩) 1 1) w') : bslW StT 1 [(.string (ofL []))] [(0,1,str x)] w K := by
 rw [bslW]
 simp only [put_str,put_nil,List.length_cons,List.length_nil,List.set_cons_zero]
 refine ⟨by omega,?_⟩
 exact row_new fun a w' ha hz hb hx _ => hK a w' ha hz hb hx
theorem bsl_int1 {x : Int} {w : World} {K : Value → World → Prop} (hK : ∀ b w',b = w.heap.size → w'.heap.size = w.heap.size + 1 → w'.heap[b]? = some (.cells [i64 x].toArray IntT (0,0)) → Ext w w' → K (.slice (some ⟨b,0,none⟩) 1 1) w') : bslW IntT 1 [(.int .i64 0)] [(0,1,i64 x)] w K := by
 rw [bslW]
 simp only [put_int,put_nil,List.length_cons,List.length_nil,List.set_cons_zero]
 refine ⟨by omega,?_⟩
 exact row_new fun a w' ha hz hb hx _ => hK a w' ha hz hb hx
theorem bsl_int2 {x y : Int} {w : World} {K : Value → World → Prop} (hK : ∀ b w',b = w.heap.size → w'.heap.size = w.heap.size + 1 → w'.heap[b]? = some (.cells [i64 x,i64 y].toArray IntT (0,0)) → Ext w w' → K (.slice (some ⟨b,0,none⟩) 2 2) w') : bslW IntT 2 [(.int .i64 0),(.int .i64 0)] [(0,1,i64 x),(1,1,i64 y)] w K := by
 rw [bslW]
 simp only [put_int,put_nil,List.length_cons,List.length_nil,List.set_cons_zero,List.set_cons_succ]
 refine ⟨by omega,by omega,?_⟩
 exact row_new fun a w' ha hz hb hx _ => hK a w' ha hz hb hx
theorem bsl_int3 {x y z : Int} {w : World} {K : Value → World → Prop} (hK : ∀ b w',b = w.heap.size → w'.heap.size = w.heap.size + 1 → w'.heap[b]? = some (.cells [i64 x,i64 y,i64 z].toArray IntT (0,0)) → Ext w w' → K (.slice (some ⟨b,0,none⟩) 3 3) w') : bslW IntT 3 [(.int .i64 0),(.int .i64 0),(.int .i64 0)] [(0,1,i64 x),(1,1,i64 y),(2,1,i64 z)] w K := by
 rw [bslW]
 simp only [put_int,put_nil,List.length_cons,List.length_nil,List.set_cons_zero,List.set_cons_succ]
 refine ⟨by omega,by omega,by omega,?_⟩
 exact row_new fun a w' ha hz hb hx _ => hK a w' ha hz hb hx
theorem bsl_agg {T : TypeId} {n : Nat} {z d : List Value} {w : World} {K : Value → World → Prop} (hd : d.length = n) (hz0 : z.length = n) (hK : ∀ b w',b = w.heap.size → w'.heap.size = w.heap.size + 1 → w'.heap[b]? = some (.cells d.toArray T (0,0)) → Ext w w' → K (.slice (some ⟨b,0,none⟩) 1 1) w') : bslW T 1 z [(0,n,.agg d.toArray)] w K := by
 rw [bslW]
 simp only [putW,Value.cells]
 refine ⟨by simpa using hd,by omega,?_⟩
 have e : (z.take 0 ++ (d ++ z.drop (0 + n))) = d := by rw [List.take_zero,List.nil_append,Nat.zero_add,← hz0,List.drop_length,List.append_nil]
 rw [e]
 exact row_new fun a w' ha hz hb hx _ => hK a w' ha hz hb hx
theorem slat_new {w : World} {b n : Nat} {T : TypeId} {cs : List Value} (h : w.heap[b]? = some (.cells cs.toArray T (0,0))) (hn : cs.length = n) : SlAt w T (.slice (some ⟨b,0,none⟩) n n) n cs :=
 ⟨_,_,rfl,Nat.le_refl _,fun e => (by cases e),fun _ => ⟨b,0,cs.toArray,_,rfl,h,fun i _ => by simp⟩⟩
theorem own_of {w : World} {B b n m : Nat} {T : TypeId} {cs : List Value} (h : w.heap[b]? = some (.cells cs.toArray T (0,0))) (hB : B ≤ b) (hn : cs.length = n * m) (hm : n ≤ 1000000) : Own w B T m (.slice (some ⟨b,0,none⟩) n n) n cs :=
 ⟨hn,.inr ⟨b,n,cs.toArray,rfl,hB,h,Nat.le_refl _,by unfold maxLen; omega,by simpa using hn,by simp [← hn]⟩⟩
theorem nd_grow {f : Nat} {a a' b d : List Nat} {n : Nat} (h : (f :: (a ++ b)).Nodup) (hlt : ∀ k ∈ f :: (a ++ b),k < n) (ha' : a'.Nodup) (hn : ∀ k ∈ a',k ∈ a ∨ n ≤ k) (hd : d.Nodup) (hdd : ∀ k ∈ d,k < n ∧ k ∉ f :: (a ++ b)) : (f :: (a' ++ (d ++ b))).Nodup := by
 rw [List.nodup_cons,List.nodup_append] at h
 obtain ⟨hf,_,hb,hab⟩ := h
 have new : ∀ k ∈ a',k ∉ b ∧ k ≠ f ∧ k ∉ d := fun k hk => by
   rcases hn k hk with hk | hk
   · exact ⟨fun e => hab k hk k e rfl,fun e => hf (e ▸ List.mem_append_left _ hk),fun e => (hdd k e).2 (List.mem_cons_of_mem _ (List.mem_append_left _ hk))⟩
   · exact ⟨fun e => by have := hlt k (List.mem_cons_of_mem _ (List.mem_append_right _ e)); omega,fun e => by have := hlt k (by rw [e]; exact List.mem_cons_self); omega,fun e => by have := (hdd k e).1; omega⟩
 rw [List.nodup_cons]
 refine ⟨fun e => ?_,?_⟩
 · rcases List.mem_append.1 e with e | e
   · exact (new f e).2.1 rfl
   rcases List.mem_append.1 e with e | e
   · exact (hdd f e).2 List.mem_cons_self
   · exact hf (List.mem_append_right _ e)
 · refine List.nodup_append.2 ⟨ha',List.nodup_append.2 ⟨hd,hb,fun x hx y hy e => ?_⟩,fun x hx y hy e => ?_⟩
   · subst e
     exact (hdd x hx).2 (List.mem_cons_of_mem _ (List.mem_append_right _ hy))
   · subst e
     rcases List.mem_append.1 hy with hy | hy
     · exact (new x hx).2.2 hy
     · exact (new x hx).1 hy
theorem ub_cons (v : Value) (c : List Value) : ub (v :: c) = ub [v] ++ ub c := by
 rw [← ub_app]; rfl
theorem ub_nodup1 (v : Value) : (ub [v]).Nodup := by
 unfold ub
 cases h : v.ownBlock with
 | none => simp [h]
 | some k => simp [h]
theorem uses_E (M : Lay) (f : Nat) : M.uses f = f :: (ub [M.vE] ++ ub ([M.vB,M.vT] ++ (M.cE ++ M.cB))) := by
 unfold Lay.uses
 rw [List.cons_append,ub_cons]
theorem uses_E' (M : Lay) (f : Nat) (v : Value) (d : List Value) : (({ M with vE := v,cE := M.cE ++ d } : Lay).uses f).Perm (f :: (ub [v] ++ (ub d ++ ub ([M.vB,M.vT] ++ (M.cE ++ M.cB))))) := by
 rw [List.perm_iff_count]
 intro a
 rw [uses_E]
 simp only [ub_app,List.count_append,List.count_cons]
 omega
theorem uses_B (M : Lay) (f : Nat) : (M.uses f).Perm (f :: (ub [M.vB] ++ ub ([M.vE,M.vT] ++ (M.cE ++ M.cB)))) := by
 rw [List.perm_iff_count]
 intro a
 unfold Lay.uses
 simp only [ub_app,List.count_append,List.count_cons]
 rw [ub_cons M.vE,ub_cons M.vB,ub_cons M.vE [M.vT]]
 simp only [List.count_append]
 omega
theorem uses_B' (M : Lay) (f : Nat) (v : Value) (d : List Value) : (({ M with vB := v,cB := M.cB ++ d } : Lay).uses f).Perm (f :: (ub [v] ++ (ub d ++ ub ([M.vE,M.vT] ++ (M.cE ++ M.cB))))) := by
 rw [List.perm_iff_count]
 intro a
 rw [(uses_B _ f).count_eq]
 simp only [ub_app,List.count_append,List.count_cons]
 omega
section
variable {w0 w w1 w2 : World} {p f : Nat} {M : Lay} {vt : Value} {s : PS} {top : List Nat}
theorem PR.putE (h : PR w0 w p f M vt s top) {wb : World} {M0 : Lay} (he : Eff p f M0 M wb w) {e : Ex} {d : List Value} {v' : Value} (hd : ExR w w0.heap.size e d) (hu : ∀ k ∈ ub d,Off w0 w p f M vt k) (hn : (ub d).Nodup) (hnew : ∀ k ∈ ub d,wb.heap.size ≤ k)
   (hO : Own w1 w0.heap.size ExT 5 v' (s.ex.length + 1) (M.cE ++ d)) (hc1 : Chg (fun k => M.vE.ownBlock = some k) w w1) (hv : ∀ k,v'.ownBlock = some k → M.vE.ownBlock = some k ∨ w.heap.size ≤ k)
   (hc2 : Chg (One f) w1 w2) (hf : w2.heap[f]? = some (.cells [v',M.vB,M.vT].toArray FlT (0,0))) : PR w0 w2 p f { M with vE := v',cE := M.cE ++ d } vt { s with ex := s.ex ++ [e] } top ∧ Eff p f M0 { M with vE := v',cE := M.cE ++ d } wb w2 ∧ ∀ b T cs,Loc w0 w p f M vt b T cs → b ∉ ub d → Loc w0 w2 p f { M with vE := v',cE := M.cE ++ d } vt b T cs := by
 have hb := h.base
 have hzb := he.chg.size
 have eE := uses_E M f
 have use : ∀ k,M.vE.ownBlock = some k → k ∈ M.uses f := fun k hk => List.mem_cons_of_mem _ (ub_mem (v := M.vE) (by simp) hk)
 have hnd := h.fr.nd
 rw [eE,List.nodup_cons,List.nodup_append] at hnd
 obtain ⟨nf,_,nb,nab⟩ := hnd
 have rest : ∀ k ∈ ub ([M.vB,M.vT] ++ (M.cE ++ M.cB)),M.vE.ownBlock ≠ some k ∧ k ≠ f ∧ k < w.heap.size := fun k hk =>
   ⟨fun e => nab k (ub_one.2 e) k hk rfl,fun e => nf (e ▸ List.mem_append_right _ hk),h.fr.lt k (by rw [eE]; exact List.mem_cons_of_mem _ (List.mem_append_right _ hk))⟩
 have c12 : Chg (fun k => M.vE.ownBlock = some k ∨ k = f) w w2 := (hc1.mono fun k _ e => .inl e).trans (hc2.mono fun k _ e => .inr e)
 have sub : ∀ v ∈ [M.vB,M.vT] ++ (M.cE ++ M.cB),∀ k,v.ownBlock = some k → ¬ (M.vE.ownBlock = some k ∨ k = f) := fun v hv k hk e => by
   have := rest k (ub_mem hv hk)
   exact e.elim this.1 this.2.1
 have hOf : ∀ k,v'.ownBlock = some k → k ≠ f := fun k hk e => by
   subst e
   rcases hv k hk with e | e
   · exact nf (List.mem_append_left _ (ub_one.2 e))
   · have := at_lt h.fr.hf; omega
 have nE : M.vE.ownBlock ≠ some p := fun e => h.np (use p e)
 have pf : p ≠ f := fun e => h.np (e ▸ List.mem_cons_self)
 have perm := uses_E' M f v' d
 have hN : (f :: (ub [v'] ++ (ub d ++ ub ([M.vB,M.vT] ++ (M.cE ++ M.cB))))).Nodup := nd_grow (n := w.heap.size) (a := ub [M.vE]) (by rw [← eE]; exact h.fr.nd) (fun k hk => h.fr.lt k (by rw [eE]; exact hk)) (ub_nodup1 _) (fun k hk => (hv k (ub_one.1 hk)).imp (fun e => ub_one.2 e) id) hn fun k hk => ⟨(hu k hk).1.2,by rw [← eE]; exact (hu k hk).2.2.1⟩
 have hz := c12.size
 have mem : ∀ k ∈ ({ M with vE := v',cE := M.cE ++ d } : Lay).uses f,k = f ∨ v'.ownBlock = some k ∨ k ∈ ub d ∨ k ∈ ub ([M.vB,M.vT] ++ (M.cE ++ M.cB)) := fun k hk => by
   have hk := perm.mem_iff.1 hk
   rcases List.mem_cons.1 hk with e | e
   · exact .inl e
   rcases List.mem_append.1 e with e | e
   · exact .inr (.inl (ub_one.1 e))
   rcases List.mem_append.1 e with e | e
   · exact .inr (.inr (.inl e))
   · exact .inr (.inr (.inr e))
 have cT : Chg (Tn p f M) w w2 := c12.mono fun k _ e => e.elim (fun e => .inr (.inr (.inl e))) fun e => .inr (.inl e)
 refine ⟨⟨?_,⟨hf,?_,?_,?_,?_,?_,perm.nodup_iff.2 hN,fun k hk => ?_,fun k hk => ?_⟩,?_,?_,fun e => ?_,h.lo,fun k hk => ?_⟩,⟨(he.trans (Eff.of cT)).chg,fun k hk => ?_,fun k hk => (hv k hk).elim (he.hE k) fun e => .inr (by omega),he.hB,he.hT⟩,fun b T cs hL hbd => ⟨cT.at hL.1 hL.2.no,⟨hL.2.1.1,Nat.lt_of_lt_of_le hL.2.1.2 hz⟩,hL.2.2.1,fun hk => ?_,hL.2.2.2.2⟩⟩
 · refine h.ch.then c12 fun k hk e => ?_
   rcases e with e | e
   · exact (h.fr.lo k (use k e)).resolve_right (by omega)
   · exact e
 · rw [List.length_append]
   exact own_at hO hc2 fun k hk e => hOf k hk e
 · exact own_at h.fr.oB c12 (sub _ (by simp))
 · exact own_at h.fr.oT c12 (sub _ (by simp))
 · refine RowsR.snoc ?_ (hd.at_ c12 fun k hk e => ?_) (by obtain ⟨va,vk,rfl,_⟩ := hd; rfl)
   · refine h.fr.ee.imp fun x d hd hx => hx.at_ c12 fun k hk => ?_
     obtain ⟨v,hv,hk⟩ := List.mem_filterMap.1 hk
     exact sub v (by simp [hd v hv]) k hk
   · have ho := (hu k hk).2.2.1
     rcases e with e | e
     · exact ho (use k e)
     · exact ho (e ▸ List.mem_cons_self)
 · refine h.fr.bb.imp fun x d hd hx => hx.at_ c12 fun k hk => ?_
   obtain ⟨v,hv,hk⟩ := List.mem_filterMap.1 hk
   exact sub v (by simp [hd v hv]) k hk
 · rcases mem k hk with e | e | e | e
   · rw [e]; exact at_lt hf
   · exact Nat.lt_of_lt_of_le (own_lt hO e).1 hc2.size
   · exact Nat.lt_of_lt_of_le (hu k e).1.2 hz
   · exact Nat.lt_of_lt_of_le (rest k e).2.2 hz
 · rcases mem k hk with e | e | e | e
   · exact .inl e
   · exact .inr (own_lt hO e).2
   · exact .inr (hu k e).1.1
   · exact h.fr.lo k (by rw [eE]; exact List.mem_cons_of_mem _ (List.mem_append_right _ e))
 · exact c12.at h.ps fun e => e.elim nE pf
 · exact slat_at h.tk c12 fun k hk e => by
     have := (h.nt k hk).1
     rcases e with e | e
     · exact this (use k e)
     · exact this (e ▸ List.mem_cons_self)
 · rcases mem p e with e | e | e | e
   · exact pf e
   · exact (hv p e).elim nE fun e => by have := h.lt; omega
   · exact (hu p e).2.1 rfl
   · exact h.np (by rw [eE]; exact List.mem_cons_of_mem _ (List.mem_append_right _ e))
 · have ht := h.nt k hk
   refine ⟨fun e => ?_,ht.2.1,Nat.lt_of_lt_of_le ht.2.2 hz⟩
   rcases mem k e with e | e | e | e
   · exact ht.1 (e ▸ List.mem_cons_self)
   · exact (hv k e).elim (fun e => ht.1 (use k e)) fun e => by omega
   · exact (hu k e).2.2.2 hk
   · exact ht.1 (by rw [eE]; exact List.mem_cons_of_mem _ (List.mem_append_right _ e))
 · rcases mem k hk with e | e | e | e
   · exact he.us k (e ▸ List.mem_cons_self)
   · exact (hv k e).elim (fun e => he.us k (use k e)) fun e => .inr (by omega)
   · exact .inr (hnew k e)
   · exact he.us k (by rw [eE]; exact List.mem_cons_of_mem _ (List.mem_append_right _ e))
 · have ho := hL.2
   rcases mem b hk with e | e | e | e
   · exact ho.2.2.1 (e ▸ List.mem_cons_self)
   · exact (hv b e).elim (fun e => ho.2.2.1 (use b e)) fun e => by have := ho.1.2; omega
   · exact hbd e
   · exact ho.2.2.1 (by rw [eE]; exact List.mem_cons_of_mem _ (List.mem_append_right _ e))
end
section
variable [HX]
variable {w0 w : World} {p f : Nat} {M : Lay} {vt : Value} {s : PS} {top : List Nat} {N : Int} {K : Value → World → Prop}
theorem index_p {l : List Str} {x : Str} {v : Value} {T : TypeId} {w : World} {K : Value → World → Prop} (h : SlAt w T v l.length (strs l)) (hl : l.length ≤ 1000000) (hK : K (i64 (sidxF l x 0)) w) : callF Tryd.prog 62 [v,str x] w K := by
 refine W62_ok ?_
 unfold W62
 rw [lenl_at h]
 refine LoopW.go (fun st w' => ∃ j : Nat,st = [i64 j] ∧ j ≤ l.length ∧ w' = w ∧ sidxF (l.drop j) x j = sidxF l x 0) (fun st _ => match st with | [.int _ j] => l.length - j.toNat | _ => 0) ⟨0,rfl,by omega,rfl,rfl⟩ ?_
 rintro st g w' ⟨j,rfl,hj,rfl,hs⟩
 simp only [List.getD_cons_zero]
 rw [bin_lss,condW_dec]
 refine ⟨fun hlt => ?_,fun hge => ?_⟩
 · have hlt : j < l.length := by omega
   refine ixa_ld (x := str l[j]) h (by simp [strs]) (by simp [strs,hlt]) ?_
   rw [List.drop_eq_getElem_cons hlt] at hs
   simp only [sidxF] at hs
   rw [bin_seq,condW_dec]
   refine ⟨fun e => ?_,fun e => ?_⟩
   · rw [if_pos e] at hs
     rw [hs]; exact hK
   · rw [if_neg e] at hs
     rw [bin_add,upi (by omega)]
     exact ⟨⟨j + 1,rfl,by omega,trivial,hs⟩,by simp only [Int.toNat_natCast]; omega⟩
 · rw [List.drop_of_length_le (by omega)] at hs
   simp only [sidxF] at hs
   rw [hs]; exact hK
theorem containss_p {l : List Str} {x : Str} {v : Value} {T : TypeId} {w : World} {K : Value → World → Prop} (h : SlAt w T v l.length (strs l)) (hl : l.length ≤ 1000000) (hK : K (.bool (decide (x ∈ l))) w) : callF Tryd.prog 48 [v,str x] w K := by
 refine W48_ok ?_
 unfold W48
 refine index_p h hl ?_
 rw [bin_geq]
 simp only [sidxF_in]
 exact hK
theorem next_p (h : PR w0 w p f M vt s top) (hs : WS N s) (hN : N ≤ 1000000) (hl : s.toks.length ≤ 100000) (hK : ∀ w',PR w0 w' p f M vt (nextS s) top → Eff p f M M w w' → K (.agg (tokc (cur s)).toArray) w') :
   callF Tryd.prog 28 [.pointer (some ⟨p,0,none⟩)] w K := by
 refine W28_ok ?_
 unfold W28
 refine alloc_new fun b w1 hb hz1 hbb hx1 => ?_
 have h1 := h.ext hx1
 have L1 := h.loc hz1 hb hbb
 refine now_p h1 hs hN hl fun w2 h2 he2 => ?_
 have L2 := L1.eff he2
 refine alloc_new fun b2 w3 hb2 hz3 hbb3 hx3 => ?_
 have h3 := h2.ext hx3
 have L3 := h2.loc hz3 hb2 hbb3
 have hne : b ≠ b2 := by have := L2.lt; omega
 have L23 := L2.ext hx3
 refine st_agg_at (l := tokc (cur s)) L3.1 rfl rfl rfl fun w4 hz4 hb4 hc4 => ?_
 have L4 : Loc w0 w4 p f M vt b2 TkT (tokc (cur s)) := ⟨hb4,L3.2.up (by omega)⟩
 have h4 := h3.one hc4 L3.2
 have L24 := L23.one hc4 hne
 have he4 : Eff p f M M w w4 := (((Eff.ext hx1).trans he2).x hx3).one hc4 (by have := he2.chg.size; omega)
 refine JoinW.cut (fun _ w' => PR w0 w' p f M vt (nextS s) top ∧ Eff p f M M w4 w') ?_ ?_
 · refine L4.ldf rfl ?_
   rw [bin_neq,condW_dec]
   unfold nextS
   refine ⟨fun hk => ?_,fun hk => ?_⟩
   · rw [if_pos hk]
     exact h4.go (wsi ((now_go hs).ws hs) (by rw [(now_go hs).toks]; exact hl)) fun w5 h5 he5 _ => ⟨h5,he5⟩
   · rw [if_neg hk]
     exact ⟨h4,Eff.refl _ _ _ _⟩
 rintro st g w5 ⟨h5,he5⟩
 have L5 := L4.eff he5
 have L25 := L24.eff he5
 refine ld_all L5.1 rfl ?_
 refine ret_agg (l := tokc (cur s)) L25.1 rfl rfl rfl fun w6 hc6 => ?_
 exact hK w6 (h5.one hc6 L25.2) ((he4.trans he5).one hc6 (by omega))
theorem is_p {x : Str} {v : Value} (h : PR w0 w p f M vt s top) (hs : WS N s) (hN : N ≤ 1000000) (hl : s.toks.length ≤ 100000) (hv : LocS w0 w p f M vt v StT 1 [str x]) (hK : ∀ w',PR w0 w' p f M vt (nowS s) top → Eff p f M M w w' → K (.bool (isS s x)) w') :
   callF Tryd.prog 29 [.pointer (some ⟨p,0,none⟩),v] w K := by
 refine W29_ok ?_
 unfold W29
 refine now_p h hs hN hl fun w1 h1 he1 => ?_
 refine alloc_new fun b w2 hb hz2 hbb hx2 => ?_
 have h2 := h1.ext hx2
 have L2 := h1.loc hz2 hb hbb
 refine st_agg_at (l := tokc (cur s)) L2.1 rfl rfl rfl fun w3 hz3 hb3 hc3 => ?_
 have L3 : Loc w0 w3 p f M vt b TkT (tokc (cur s)) := ⟨hb3,L2.2.up (by omega)⟩
 have h3 := h2.one hc3 L2.2
 have he3 : Eff p f M M w w3 := (he1.x hx2).one hc3 (by have := he1.chg.size; omega)
 have sl3 : SlAt w3 StT v 1 [str x] := slat_at hv.1 he3.chg fun k hk => (hv.2 k hk).no
 refine L3.ldf rfl ?_
 rw [bin_eql]
 refine GdW.look (decide ((cur s).t = x)) (fun _ J hJ => ?_) fun g => ?_
 · refine L3.ldf rfl ?_
   refine containss_p (l := [x]) sl3 (by simp) ?_
   simpa using hJ
 · simp only [List.getD_cons_zero,isB_t]
   rw [pick_gd_and]
   exact hK w3 h3 he3
theorem take_p {x : Str} (h : PR w0 w p f M vt s top) (hs : WS N s) (hN : N ≤ 1000000) (hl : s.toks.length ≤ 100000) (hK : ∀ w',PR w0 w' p f M vt (takeS s x).2 top → Eff p f M M w w' → K (.bool (takeS s x).1) w') :
   callF Tryd.prog 32 [.pointer (some ⟨p,0,none⟩),str x] w K := by
 refine W32_ok ?_
 unfold W32
 refine bsl_str fun b w1 hb hz1 hbb hx1 => ?_
 have h1 := h.ext hx1
 have L1 := h.loc hz1 hb hbb
 refine is_p h1 hs hN hl ⟨slat_new hbb rfl,fun k hk => by simp only [Value.ownBlock,Option.some.injEq] at hk; subst hk; exact L1.2⟩ fun w2 h2 he2 => ?_
 have he := (Eff.ext hx1).trans he2
 unfold takeS at hK
 rw [un_not,condW_b]
 refine ⟨fun e => ?_,fun e => ?_⟩
 · have e : isS s x = false := by simpa using e
   rw [if_neg (by rw [e]; decide)] at hK
   exact hK w2 h2 he
 · have e : isS s x = true := by simpa using e
   rw [if_pos e] at hK
   exact h2.go (wsi ((now_go hs).ws hs) (by rw [(now_go hs).toks]; exact hl)) fun w3 h3 he3 _ => hK w3 h3 (he.trans he3)
theorem want_p {x : Str} (h : PR w0 w p f M vt s top) (hs : WS N s) (hN : N ≤ 1000000) (hl : s.toks.length ≤ 100000) (hK : ∀ s',wantR s x = .ok () s' → ∀ w',PR w0 w' p f M vt s' top → Eff p f M M w w' → K (.tuple #[]) w') (ht : ∀ c a,wantR s x = .err c a → Thr w0 f c a) :
   callF Tryd.prog 65 [.pointer (some ⟨p,0,none⟩),str x] w K := by
 refine W65_ok ?_
 unfold W65
 refine take_p h hs hN hl fun w1 h1 he1 => ?_
 unfold takeS at h1 he1 ⊢
 unfold wantR at hK ht
 rw [un_not,condW_b]
 by_cases e : isS s x = true
 · simp only [if_pos e] at h1 he1 hK ht ⊢
   exact ⟨fun e => (by cases e),fun _ => hK _ rfl w1 h1 he1⟩
 · simp only [if_neg e] at h1 he1 hK ht ⊢
   refine ⟨fun _ => ?_,fun e => (by cases e)⟩
   refine now_p h1 ((now_go hs).ws hs) hN (by rw [(now_go hs).toks]; exact hl) fun w2 h2 he2 => ?_
   rw [cur_now]
   refine ⟨i64 (cur s).a,rfl,?_⟩
   exact fail_p h2 (ht _ _ rfl)
theorem kind_p {k : Int} (h : PR w0 w p f M vt s top) (hs : WS N s) (hN : N ≤ 1000000) (hl : s.toks.length ≤ 100000) (hK : ∀ t s',kindR s k = .ok t s' → ∀ w',PR w0 w' p f M vt s' top → Eff p f M M w w' → K (.agg (tokc t).toArray) w') (ht : ∀ c a,kindR s k = .err c a → Thr w0 f c a) :
   callF Tryd.prog 26 [.pointer (some ⟨p,0,none⟩),i64 k] w K := by
 refine W26_ok ?_
 unfold W26
 refine alloc_new fun b w1 hb hz1 hbb hx1 => ?_
 have h1 := h.ext hx1
 have L1 := h.loc hz1 hb hbb
 have hsn := (now_go hs).ws hs
 have hln : (nowS s).toks.length ≤ 100000 := by rw [(now_go hs).toks]; exact hl
 unfold kindR at hK ht
 refine JoinW.cut (fun _ w' => PR w0 w' p f M vt (nowS s) top ∧ Eff p f M M w1 w' ∧ (cur s).k = k) ?_ ?_
 · refine now_p h1 hs hN hl fun w2 h2 he2 => ?_
   refine ⟨i64 (cur s).k,rfl,?_⟩
   dsimp only
   rw [bin_neq,condW_dec]
   refine ⟨fun e => ?_,fun e => ⟨h2,he2,by omega⟩⟩
   refine now_p h2 hsn hN hln fun w3 h3 he3 => ?_
   rw [cur_now]
   refine ⟨i64 (cur s).a,rfl,?_⟩
   exact fail_p h3 (ht _ _ (by rw [if_neg e]))
 rintro st g w2 ⟨h2,he2,hk⟩
 rw [if_pos hk] at hK
 refine next_p h2 hsn hN hln fun w3 h3 he3 => ?_
 rw [cur_now]
 have L3 := (L1.eff he2).eff he3
 refine ret_agg (l := tokc (cur s)) L3.1 rfl rfl rfl fun w4 hc4 => ?_
 have e : nextS (nowS s) = nextS s := by unfold nextS; rw [cur_now,nowS_idem]
 rw [e] at h3
 exact hK _ _ rfl w4 (h3.one hc4 L3.2) ((((Eff.ext hx1).trans he2).trans he3).one hc4 (by omega))
end
end Go.Proofs.YtofhaneggcpdaaaDoor
namespace Go.Syn
open Go Go.Eng Go.Lex
def escs : Str → Bool
 | [] => true
 | [c] => c != 92
 | c :: e :: r => if c = 92 then escs r else escs (e :: r)
theorem escs_cons {c : UInt8} {r : Str} (hc : c ≠ 92) (h : escs r = true) : escs (c :: r) = true := by
 cases r with
 | nil => simp [escs,hc]
 | cons e r => simp only [escs]; rw [if_neg hc]; exact h
theorem noD_escs : ∀ (n : Nat) (t : Str),t.length ≤ n → noD t = true → escs t = true
 | _,[],_,_ => rfl
 | _,[c],_,h => by simp only [noD,Bool.and_eq_true] at h; exact h.1
 | 0,c :: e :: r,h,_ => by simp at h
 | n + 1,c :: e :: r,h,hd => by
   simp only [noD] at hd
   simp only [List.length_cons] at h
   simp only [escs]
   split at hd
   · rename_i hc
     rw [if_pos hc]
     exact noD_escs n r (by omega) hd
   · rename_i hc
     rw [if_neg hc]
     simp only [Bool.and_eq_true] at hd
     exact noD_escs n (e :: r) (by simp only [List.length_cons]; omega) hd.2
theorem take_cons_eq {c c' : UInt8} {r r' : Str} {k : Nat} (h : (c' :: r').take (k + 1) = (c :: r).take (k + 1)) : c' = c ∧ r'.take k = r.take k := by
 simp only [List.take_succ_cons,List.cons.injEq] at h
 exact h
theorem take_drop_eq {r r' : Str} {k j m : Nat} (h : r'.take k = r.take k) (hk : j + m ≤ k) : (r'.drop j).take m = (r.drop j).take m := by
 have e : ∀ s : Str,(s.drop j).take m = ((s.take k).drop j).take m := fun s => by
   rw [List.drop_take,List.take_take,Nat.min_eq_left (by omega)]
 rw [e r',e r,h]
theorem pre_stab {c x x' : UInt8} {r r' : Str} (h : x = x') : preM [36,123] (c :: x :: r) = preM [36,123] (c :: x' :: r') := by
 subst h; simp [preM,List.isPrefixOf]
theorem stab : ∀ (N : Nat) (r r' : Str),r.length ≤ N →
   (∀ d k,textX r d = (k,0) → r'.take k = r.take k → k ≤ r'.length → textX r' d = (k,0)) ∧
   (∀ d k,insX r d = (k,0) → r'.take k = r.take k → k ≤ r'.length → insX r' d = (k,0)) := by
 intro N
 induction N with
 | zero =>
   intro r r' hr
   have : r = [] := List.eq_nil_of_length_eq_zero (by omega)
   subst this
   exact ⟨fun d k h => (by rw [textX_nil] at h; cases h),fun d k h => (by rw [insX_nil] at h; cases h)⟩
 | succ N ih =>
   intro r r' hr
   cases r with
   | nil => exact ih [] r' (by simp)
   | cons c r =>
     simp only [List.length_cons] at hr
     have hr : r.length ≤ N := by omega
     have sh : ∀ {k : Nat},1 ≤ k → r'.take k = (c :: r).take k → k ≤ r'.length → ∃ r2,r' = c :: r2 ∧ r2.take (k - 1) = r.take (k - 1) ∧ k - 1 ≤ r2.length := fun {k} hk ht hl => by
       cases r' with
       | nil => simp at hl; omega
       | cons c' r2 =>
         obtain ⟨j,rfl⟩ : ∃ j,k = j + 1 := ⟨k - 1,by omega⟩
         obtain ⟨rfl,h2⟩ := take_cons_eq ht
         exact ⟨r2,rfl,h2,by simpa using hl⟩
     refine ⟨fun d k h ht hl => ?_,fun d k h ht hl => ?_⟩
     · have hk := ((ins_bra _ (c :: r) (Nat.le_refl _)).1 d k h).2.1
       obtain ⟨r2,rfl,h2,hl2⟩ := sh hk ht hl
       rw [textX_cons] at h ⊢
       simp only [beq_iff_eq] at h ⊢
       split at h
       · rename_i e; rw [if_pos e]; exact h
       rename_i e
       rw [if_neg e]
       split at h
       · cases h
       rename_i e1
       rw [if_neg e1]
       split at h
       · rename_i e2
         rw [if_pos e2]
         cases r with
         | nil => cases h
         | cons x rr =>
           simp only at h
           split at h
           · rename_i e3
             obtain ⟨g1,g2⟩ := add_ok h
             have gk := ((ins_bra _ rr (Nat.le_refl _)).1 d _ g1).2.1
             cases r2 with
             | nil => simp at hl2; omega
             | cons x' rr' =>
               obtain ⟨j,rfl⟩ : ∃ j,k = j + 2 := ⟨k - 2,by omega⟩
               rw [show j + 2 - 1 = j + 1 by omega] at h2 hl2
               obtain ⟨rfl,h3⟩ := take_cons_eq h2
               simp only [if_pos e3]
               have := (ih rr rr' (by simp at hr; omega)).1 d j (by simpa using g1) h3 (by simpa using hl2)
               rw [this]; unfold addM; simp
           · cases h
       rename_i e2
       rw [if_neg e2]
       split at h
       · rename_i e3
         split at h
         · cases h
         rename_i e24
         split at h
         · rename_i e4
           obtain ⟨g1,g2⟩ := add_ok h
           have gk := ((ins_bra _ _ (Nat.le_refl _)).1 d _ g1).2
           have gi := ((ins_bra _ (r.drop 1) (Nat.le_refl _)).2 (d + 1) _ (Prod.ext rfl e4)).1
           cases r with
           | nil => simp [preM] at e3
           | cons x rr =>
             cases r2 with
             | nil => simp at hl2; omega
             | cons x' rr' =>
               obtain ⟨j,rfl⟩ : ∃ j,k = j + 2 := ⟨k - 2,by omega⟩
               rw [show j + 2 - 1 = j + 1 by omega] at h2 hl2
               obtain ⟨rfl,h3⟩ := take_cons_eq h2
               simp only [List.drop_succ_cons,List.drop_zero] at g1 gk gi e4 ⊢
               have hl3 : j ≤ rr'.length := by simpa using hl2
               have hp : preM [36,123] (c :: x' :: rr') = true := by rw [pre_stab (r' := rr) rfl]; exact e3
               have hrr : rr.length ≤ N := by simp at hr; omega
               have hi := (ih rr rr' hrr).2 (d + 1) (insX rr (d + 1)).1 (Prod.ext rfl e4) (by have := take_drop_eq (j := 0) (m := (insX rr (d + 1)).1) h3 (by omega); simpa using this) (by omega)
               rw [if_pos hp,if_neg e24,hi]
               simp only
               have ht := (ih (rr.drop (insX rr (d + 1)).1) (rr'.drop (insX rr (d + 1)).1) (drop_le _ hrr)).1 d _ g1 (take_drop_eq h3 (by omega)) (by rw [List.length_drop]; omega)
               rw [ht]; unfold addM; simp; omega
         · rename_i e4
           injection h with _ h2
           exact absurd h2 e4
       · rename_i e3
         obtain ⟨g1,g2⟩ := add_ok h
         have gk := ((ins_bra _ _ (Nat.le_refl _)).1 d _ g1).2
         have hp : ¬ preM [36,123] (c :: r2) = true := by
           cases r with
           | nil => rw [textX_nil] at g1; exact absurd (congrArg Prod.snd g1) (by simp)
           | cons x rr =>
             cases r2 with
             | nil => simp at hl2; omega
             | cons x' rr' =>
               obtain ⟨j,hj⟩ : ∃ j,k - 1 = j + 1 := ⟨k - 2,by omega⟩
               rw [hj] at h2
               obtain ⟨rfl,_⟩ := take_cons_eq h2
               rw [pre_stab (r' := rr) rfl]; exact e3
         rw [if_neg hp]
         have := (ih r r2 hr).1 d (k - 1) g1 h2 hl2
         rw [this]; unfold addM; simp; omega
     · have hk := ((ins_bra _ (c :: r) (Nat.le_refl _)).2 d k h).1.1
       obtain ⟨r2,rfl,h2,hl2⟩ := sh hk ht hl
       rw [insX_cons] at h ⊢
       simp only [beq_iff_eq] at h ⊢
       split at h
       · rename_i e; rw [if_pos e]; exact h
       rename_i e
       rw [if_neg e]
       split at h
       · cases h
       rename_i e1
       rw [if_neg e1]
       split at h
       · rename_i e2
         rw [if_pos e2]
         split at h
         · cases h
         rename_i e24
         rw [if_neg e24]
         split at h
         · rename_i e4
           obtain ⟨g1,g2⟩ := add_ok h
           have gk := ((ins_bra _ _ (Nat.le_refl _)).2 d _ g1).1
           have hi := (ih r r2 hr).2 (d + 1) (insX r (d + 1)).1 (Prod.ext rfl e4) (by have := take_drop_eq (j := 0) (m := (insX r (d + 1)).1) h2 (by omega); simpa using this) (by omega)
           rw [hi]
           simp only [if_true]
           have ht := (ih (r.drop (insX r (d + 1)).1) (r2.drop (insX r (d + 1)).1) (drop_le _ hr)).2 d _ g1 (take_drop_eq h2 (by omega)) (by rw [List.length_drop]; omega)
           rw [ht]; unfold addM; simp; omega
         · rename_i e4
           injection h with _ h2
           exact absurd h2 e4
       rename_i e2
       rw [if_neg e2]
       split at h
       · rename_i e3
         rw [if_pos e3]
         split at h
         · rename_i e4
           obtain ⟨g1,g2⟩ := add_ok h
           have gk := ((ins_bra _ _ (Nat.le_refl _)).2 d _ g1).1
           have hi := (ih r r2 hr).1 d (textX r d).1 (Prod.ext rfl e4) (by have := take_drop_eq (j := 0) (m := (textX r d).1) h2 (by omega); simpa using this) (by omega)
           rw [hi]
           simp only [if_true]
           have ht := (ih (r.drop (textX r d).1) (r2.drop (textX r d).1) (drop_le _ hr)).2 d _ g1 (take_drop_eq h2 (by omega)) (by rw [List.length_drop]; omega)
           rw [ht]; unfold addM; simp; omega
         · rename_i e4
           injection h with _ h2
           exact absurd h2 e4
       · rename_i e3
         rw [if_neg e3]
         obtain ⟨g1,g2⟩ := add_ok h
         have := (ih r r2 hr).2 d (k - 1) g1 h2 hl2
         rw [this]; unfold addM; simp; omega
def Scd (t : Str) : Prop := ∃ d,textX (t ++ [34]) d = (t.length + 1,0)
theorem scd_text {r : Str} {d k : Nat} (h : textX r d = (k,0)) (hl : ∀ b,r[k - 1]? = some b → b = 34) : Scd (r.take (k - 1)) := by
 obtain ⟨_,h1,h2⟩ := (ins_bra _ r (Nat.le_refl _)).1 d k h
 obtain ⟨j,rfl⟩ : ∃ j,k = j + 1 := ⟨k - 1,by omega⟩
 rw [Nat.add_sub_cancel] at hl ⊢
 have e1 : (r.take j).length = j := by rw [List.length_take]; omega
 have hlt : j < r.length := by omega
 have e2 : r.take j ++ [34] = r.take (j + 1) := by
   have := hl _ (List.getElem?_eq_getElem hlt)
   rw [List.take_add_one,List.getElem?_eq_getElem hlt,this]
   rfl
 refine ⟨d,?_⟩
 rw [e2,e1]
 exact (stab _ r (r.take (j + 1)) (Nat.le_refl _)).1 d (j + 1) h (by rw [List.take_take,Nat.min_self]) (by rw [List.length_take]; omega)
theorem text_end : ∀ (N : Nat) (r : Str) (d k : Nat),r.length ≤ N → textX r d = (k,0) → r[k - 1]? = some 34
 | 0,r,d,k,hr,h => by
   have : r = [] := List.eq_nil_of_length_eq_zero (by omega)
   subst this
   rw [textX_nil] at h; cases h
 | N + 1,[],d,k,_,h => by rw [textX_nil] at h; cases h
 | N + 1,c :: r,d,k,hr,h => by
   simp only [List.length_cons] at hr
   have hr : r.length ≤ N := by omega
   rw [textX_cons] at h
   simp only [beq_iff_eq] at h
   split at h
   · rename_i e
     injection h with h1 _
     subst h1 e
     rfl
   split at h
   · cases h
   split at h
   · cases r with
     | nil => cases h
     | cons x rr =>
       simp only at h
       split at h
       · obtain ⟨g1,g2⟩ := add_ok h
         have gk := ((ins_bra _ rr (Nat.le_refl _)).1 d _ g1).2.1
         have := text_end N rr d _ (by simp at hr; omega) g1
         rw [show k - 1 = (k - 2 - 1) + 2 by omega]
         exact this
       · cases h
   split at h
   · rename_i e3
     split at h
     · cases h
     split at h
     · obtain ⟨g1,g2⟩ := add_ok h
       have gk := ((ins_bra _ _ (Nat.le_refl _)).1 d _ g1).2.1
       have := text_end N _ d _ (drop_le _ (drop_le 1 hr)) g1
       rw [List.getElem?_drop,List.getElem?_drop] at this
       rw [show k - 1 = 1 + ((insX (r.drop 1) (d + 1)).1 + (k - ((insX (r.drop 1) (d + 1)).1 + 2) - 1)) + 1 by omega]
       exact this
     · rename_i e4
       injection h with _ h2
       exact absurd h2 e4
   · obtain ⟨g1,g2⟩ := add_ok h
     have gk := ((ins_bra _ r (Nat.le_refl _)).1 d _ g1).2.1
     have := text_end N r d _ hr g1
     rw [show k - 1 = (k - 1 - 1) + 1 by omega]
     exact this
theorem scd_ins : ∀ (N : Nat) (t : Str),t.length ≤ N → Scd t → (insP t = none → escs t = true) ∧ ∀ i e,insP t = some (i,e) → escs (t.take i) = true ∧ i + 3 ≤ e ∧ e ≤ t.length ∧ Scd (t.drop e)
 | _,[],_,_ => ⟨fun _ => rfl,fun i e h => by simp [insP] at h⟩
 | 0,_ :: _,h,_ => by simp at h
 | N + 1,[c],_,⟨d,h⟩ => by
   refine ⟨fun _ => ?_,fun i e h => by simp [insP] at h⟩
   simp only [escs,bne_iff_ne,ne_eq]
   intro e
   subst e
   simp only [List.cons_append,List.nil_append] at h
   rw [textX_cons] at h
   simp [escOk,addM,textX_nil] at h
 | N + 1,c :: x :: r,hN,⟨d,h⟩ => by
   simp only [List.length_cons] at hN
   simp only [List.cons_append] at h
   rw [textX_cons] at h
   simp only [beq_iff_eq] at h
   split at h
   · injection h with h1 _
     simp at h1
   split at h
   · cases h
   simp only [insP,escs]
   split at h
   · rename_i e92
     rw [if_pos e92,if_pos e92]
     split at h
     · obtain ⟨g1,g2⟩ := add_ok h
       have sr : Scd r := ⟨d,by rw [g1]; simp⟩
       obtain ⟨i1,i2⟩ := scd_ins N r (by omega) sr
       refine ⟨fun hn => i1 (by cases hr : insP r with | none => rfl | some y => rw [hr] at hn; cases hn),fun i e hi => ?_⟩
       cases hr : insP r with
       | none => rw [hr] at hi; cases hi
       | some y =>
         rw [hr] at hi
         simp only [Option.map_some,Option.some.injEq,Prod.mk.injEq] at hi
         obtain ⟨rfl,rfl⟩ := hi
         obtain ⟨j1,j2,j3,j4⟩ := i2 _ _ hr
         refine ⟨?_,by omega,by simp only [List.length_cons]; omega,by rw [show y.2 + 2 = y.2 + 1 + 1 by omega,List.drop_succ_cons,List.drop_succ_cons]; exact j4⟩
         rw [show y.1 + 2 = y.1 + 1 + 1 by omega,List.take_succ_cons,List.take_succ_cons]
         simp only [escs]
         rw [if_pos e92]
         exact j1
     · cases h
   rename_i e92
   rw [if_neg e92,if_neg e92]
   split at h
   · rename_i e3
     have hc : c = 36 ∧ x = 123 := by
       simp [preM,List.isPrefixOf] at e3
       exact ⟨e3.1.symm,e3.2.symm⟩
     rw [if_pos hc]
     refine ⟨fun hn => (by cases hn),fun i e hi => ?_⟩
     simp only [Option.some.injEq,Prod.mk.injEq] at hi
     obtain ⟨rfl,rfl⟩ := hi
     split at h
     · cases h
     split at h
     · rename_i e4
       simp only [List.drop_succ_cons,List.drop_zero] at h e4
       obtain ⟨k1,e5⟩ : ∃ k1,insX (r ++ [34]) (d + 1) = (k1,0) := ⟨_,Prod.ext rfl e4⟩
       simp only [e5] at h
       obtain ⟨g1,g2⟩ := add_ok h
       have gk := ((ins_bra _ _ (Nat.le_refl _)).1 d _ g1).2
       have gi := ((ins_bra _ (r ++ [34]) (Nat.le_refl _)).2 (d + 1) _ e5).1
       simp only [List.length_cons] at g1 gk g2
       have hle : k1 ≤ r.length := by omega
       have hs := (stab _ (r ++ [34]) r (Nat.le_refl _)).2 (d + 1) _ e5 (by rw [List.take_append_of_le_length hle]) hle
       have hb := ((ins_bra _ r (Nat.le_refl _)).2 (d + 1) _ hs).2 1 (by omega)
       rw [if_pos rfl] at hb
       have eb : braM (x :: r) = 1 + k1 := by
         show braX (x :: r) 0 = _
         rw [braX_cons,if_pos hc.2,show (0 : Int) + 1 = 1 from rfl,hb]
       rw [eb]
       refine ⟨rfl,by omega,by simp only [List.length_cons]; omega,?_⟩
       rw [show 1 + (1 + k1) = k1 + 1 + 1 by omega,List.drop_succ_cons,List.drop_succ_cons]
       refine ⟨d,?_⟩
       rw [← List.drop_append_of_le_length hle,g1,List.length_drop]
       simp only [Prod.mk.injEq,and_true]
       omega
     · rename_i e4
       injection h with _ h2
       exact absurd h2 e4
   · rename_i e3
     have hc : ¬ (c = 36 ∧ x = 123) := fun e => e3 (by simp [preM,List.isPrefixOf,e.1,e.2])
     rw [if_neg hc]
     obtain ⟨g1,g2⟩ := add_ok h
     have sr : Scd (x :: r) := ⟨d,by simp only [List.cons_append]; rw [g1]; simp⟩
     obtain ⟨i1,i2⟩ := scd_ins N (x :: r) (by simp only [List.length_cons]; omega) sr
     refine ⟨fun hn => i1 (by cases hr : insP (x :: r) with | none => rfl | some y => rw [hr] at hn; cases hn),fun i e hi => ?_⟩
     cases hr : insP (x :: r) with
     | none => rw [hr] at hi; cases hi
     | some y =>
       rw [hr] at hi
       simp only [Option.map_some,Option.some.injEq,Prod.mk.injEq] at hi
       obtain ⟨rfl,rfl⟩ := hi
       obtain ⟨j1,j2,j3,j4⟩ := i2 _ _ hr
       refine ⟨?_,by omega,by simp only [List.length_cons] at j3 ⊢; omega,by rw [List.drop_succ_cons]; exact j4⟩
       rw [List.take_succ_cons]
       exact escs_cons e92 j1
def TxOk (t : Str) : Prop := noD t = true ∨ Scd t
theorem tx_ins {t : Str} (h : TxOk t) : (insP t = none → escs t = true) ∧ ∀ i e,insP t = some (i,e) → escs (t.take i) = true ∧ i + 3 ≤ e ∧ e ≤ t.length ∧ TxOk (t.drop e) := by
 rcases h with h | h
 · exact ⟨fun _ => noD_escs _ t (Nat.le_refl _) h,fun i e hi => by rw [noD_ins _ t (Nat.le_refl _) h] at hi; cases hi⟩
 · obtain ⟨h1,h2⟩ := scd_ins _ t (Nat.le_refl _) h
   exact ⟨h1,fun i e hi => by obtain ⟨a,b,c,d⟩ := h2 i e hi; exact ⟨a,b,c,.inr d⟩⟩
def TS (l : List Tok) : Prop := ∀ t ∈ l,t.k = 3 → TxOk t.t ∧ t.t.length ≤ 100000
theorem hereL_len : ∀ s : Str,(hereL s).length ≤ 2 * s.length
 | [] => Nat.le_refl _
 | c :: r => by
   have := hereL_len r
   simp only [hereL]
   split
   · simp only [List.length_cons]; omega
   split
   · simp only [List.length_cons]; omega
   split
   · simp only [List.length_cons]; omega
   · simp only [List.length_cons]; omega
theorem hereF_len : ∀ (n : Nat) (name s : Str),(hereF n name s).1.length ≤ 2 * s.length
 | 0,_,_ => by simp [hereF]
 | n + 1,name,s => by
   have hr := run_le (fun b => b != 10) s
   simp only [hereF]
   split
   · simp
   split
   · simp
   rename_i hlen
   split
   · have h1 := hereF_len n name (s.drop (runM (fun b => b != 10) s + 1))
     have h2 := hereL_len (s.take (runM (fun b => b != 10) s))
     rw [List.length_drop] at h1
     rw [List.length_take] at h2
     simp only [List.length_append,List.length_cons,List.length_nil]
     omega
   · simp
theorem heredoc_len (s : Str) : (heredocM s).1.length ≤ 2 * s.length := by
 unfold heredocM
 simp only
 generalize (if isLetter ((s.drop 2).headD 0) = true then runM isName (s.drop 2) else 0) = n
 split
 · simp
 split
 · have h1 := hereF_len (s.length + 1) ((s.drop 2).take n) (s.drop (2 + n + 1))
   rw [List.length_drop] at h1
   split
   · show (hereF (s.length + 1) ((s.drop 2).take n) (s.drop (2 + n + 1))).1.length ≤ _
     omega
   · simp
 · simp
theorem one_tx {s : Str} {t : Tok} {k : Nat} (h : oneM s = (t,k,0)) (hk : t.k = 3) : TxOk t.t ∧ t.t.length ≤ 2 * s.length := by
 unfold oneM at h
 simp only at h
 split at h
 · injection h with h1 _; subst h1; cases hk
 split at h
 · injection h with h1 _; subst h1; cases hk
 split at h
 · injection h with h1 _; subst h1; cases hk
 split at h
 · split at h
   · rename_i hq he
     injection h with h1 _
     subst h1
     have hx : textF (s.length + 1) (s.drop 1) 0 = textX (s.drop 1) 0 := textF_x (by rw [List.length_drop]; omega)
     rw [hx] at he ⊢
     refine ⟨.inr (scd_text (d := 0) (Prod.ext rfl he) fun b hb => ?_),by simp only [List.length_take,List.length_drop]; omega⟩
     rw [text_end _ (s.drop 1) 0 _ (Nat.le_refl _) (Prod.ext rfl he)] at hb
     injection hb with hb
     exact hb.symm
   · rename_i he
     injection h with h1 h2
     injection h2 with _ h2
     exact absurd h2 he
 split at h
 · injection h with h1 h2
   injection h2 with h2 h3
   obtain ⟨i1,i2,i3⟩ := heredoc_ok (s := s) (t := (heredocM s).1) (k := (heredocM s).2.1) (Prod.ext rfl (Prod.ext rfl h3))
   subst h1
   exact ⟨.inl i3,heredoc_len s⟩
 · injection h with h1 _; subst h1; cases hk
theorem scanF_ts : ∀ (n : Nat) (s : Str) (a cnt : Nat) (l : List Tok),s.length ≤ 16384 → scanF n s a cnt = .ok l → TS l
 | 0,_,_,_,_,_,h => by simp [scanF] at h
 | n + 1,s,a,cnt,l,hl,h => by
   simp only [scanF] at h
   split at h
   · cases h
   split at h
   · injection h with h
     subst h
     intro t ht hk
     simp only [List.mem_singleton] at ht
     subst ht
     cases hk
   split at h
   · cases h
   rename_i ho
   split at h
   · cases h
   split at h
   · rename_i l' hl'
     injection h with h
     subst h
     intro t ht hk
     rcases List.mem_cons.1 ht with rfl | ht
     · have h1 := one_tx (t := (oneM (s.drop (skipF (s.length + 1) s).1)).1) (k := (oneM (s.drop (skipF (s.length + 1) s).1)).2.1) (Prod.ext rfl (Prod.ext rfl (Classical.not_not.1 ho))) hk
       rw [List.length_drop] at h1
       exact ⟨h1.1,by simp only; omega⟩
     · exact scanF_ts n _ _ _ _ (by rw [List.length_drop,List.length_drop]; omega) hl' t ht hk
   · rename_i hne
     exact absurd h (hne l)
theorem scan_ts {s : Str} {l : List Tok} (h : scanM s = .ok l) : TS l := by
 unfold scanM at h
 split at h
 · cases h
 rename_i hl
 split at h
 · cases h
 exact scanF_ts _ _ _ _ _ (by omega) h
theorem scanF_few : ∀ (n : Nat) (s : Str) (a cnt : Nat) (l : List Tok),cnt ≤ 4096 → scanF n s a cnt = .ok l → cnt + l.length ≤ 4097
 | 0,_,_,_,_,_,h => by simp [scanF] at h
 | n + 1,s,a,cnt,l,hc,h => by
   simp only [scanF] at h
   split at h
   · cases h
   split at h
   · injection h with h
     subst h
     simp only [List.length_cons,List.length_nil]; omega
   split at h
   · cases h
   split at h
   · cases h
   rename_i hne
   split at h
   · rename_i l' hl'
     injection h with h
     subst h
     have := scanF_few n _ _ _ _ (by omega) hl'
     simp only [List.length_cons]; omega
   · rename_i hne
     exact absurd h (hne l)
theorem scan_few {s : Str} {l : List Tok} (h : scanM s = .ok l) : l.length ≤ 4097 ∧ s.length ≤ 16384 := by
 unfold scanM at h
 split at h
 · cases h
 rename_i hl
 split at h
 · cases h
 have := scanF_few _ _ _ _ _ (Nat.zero_le _) h
 omega
end Go.Syn
namespace Go.Proofs.YtofhaneggcpdaaaDoor
open Go Go.Eng
set_option maxRecDepth 100000
variable [HX]
def plan22 : Plan := { js := [(14,⟨[13],[4,5],13⟩)],ds := [(26,⟨[0,1,2,3,4,5,6,7,8],[[],[],[0,1],[0,1,2],[],[],[4,5],[4,5,6],[0,1,2,3,4,5,6,7]]⟩)] }
def W22 (v0 v1 : Value) (w : World) (K : Value → World → Prop) : Prop :=
 lenlW v0 fun t7 =>
 lenlW v1 fun t9 =>
 binW .neq t7 t9 fun t10 =>
 condW t10 (
 K (.bool false) w) (
 lenlW v0 fun t12 =>
 LoopW [(.int .i64 0)] w fun s1 _ w2 L1 =>
 binW .lss (s1.getD 0 undef) t12 fun t14 =>
 condW t14 (
 ixaW none 1 v0 (s1.getD 0 undef) fun t18 =>
 ldW false 1 t18 w2.drew fun t19 =>
 ixaW none 1 v1 (s1.getD 0 undef) fun t22 =>
 ldW false 1 t22 w2.drew fun t23 =>
 binW .neq t19 t23 fun t24 =>
 condW t24 (
 K (.bool false) w2.drew) (
 binW .add (s1.getD 0 undef) (.int .i64 1) fun t25 =>
 L1 [t25] w2.drew)) (
 K (.bool true) w2))
theorem W22_ok {v0 v1 : Value} {w : World} {K : Value → World → Prop} (h : W22 v0 v1 w K) : callF Tryd.prog 22 [v0,v1] w K :=
 tie _ 22 Tryd.f22 plan22 _ w K 2 _ rfl mixed Tryd.func22 (by kernel_rfl) (by kernel_rfl) Tryd.call22 h
end Go.Proofs.YtofhaneggcpdaaaDoor
namespace Go.Proofs.YtofhaneggcpdaaaDoor
open Go Go.Eng Go.Num
set_option maxRecDepth 100000
theorem loop_up (n : Nat) {w1 : World} {B : List Value → Fr → World → (List Value → World → Prop) → Prop} (R : Nat → World → Prop) (h0 : R 0 w1)
   (step : ∀ i w g L,i < n → R i w → (∀ w',R (i + 1) w' → L [i64 ((i + 1 : Nat) : Int)] w') → B [i64 (i : Nat)] g w L)
   (fin : ∀ w g L,R n w → B [i64 (n : Nat)] g w L) : LoopW [i64 0] w1 B := by
 refine ⟨fun s w => ∃ i,i ≤ n ∧ s = [i64 (i : Nat)] ∧ R i w,fun s _ => match s with | [.int _ i] => n - i.toNat | _ => 0,⟨0,Nat.zero_le _,rfl,h0⟩,?_⟩
 rintro s g w ⟨i,hi,rfl,hR⟩
 rcases Nat.lt_or_ge i n with hlt | hge
 · exact step i w g _ hlt hR fun w' h' => ⟨⟨i + 1,hlt,rfl,h'⟩,by simp only [Int.toNat_natCast]; omega⟩
 · obtain rfl : i = n := by omega
   exact fin w g _ hR
theorem up1 {i : Nat} (h : (i : Int) < 9223372036854775807) : IntKind.i64.wrap ((i : Int) + 1) = ((i + 1 : Nat) : Int) := by rw [wrap_id (by omega) (by omega)]; simp
section
variable [HX]
end
end Go.Proofs.YtofhaneggcpdaaaDoor
namespace Go.Proofs.YtofhaneggcpdaaaDoor
open Go Go.Eng Go.Num
set_option maxRecDepth 100000
section
variable [HX]
theorem isDig_out (c : UInt8) : (decide (((c.toNat : Nat) : Int) < 48) || decide ((57 : Int) < ((c.toNat : Nat) : Int))) = !Num.isDig c := by
 unfold Num.isDig
 rcases Nat.lt_or_ge c.toNat 48 with h | h
 · rw [decide_eq_true (by omega),decide_eq_false (show ¬ 48 ≤ c.toNat by omega)]; rfl
 · rw [decide_eq_false (show ¬ ((c.toNat : Nat) : Int) < 48 by omega),decide_eq_true (show 48 ≤ c.toNat by omega)]
   rcases Nat.lt_or_ge 57 c.toNat with h2 | h2
   · rw [decide_eq_true (by omega),decide_eq_false (show ¬ c.toNat ≤ 57 by omega)]; rfl
   · rw [decide_eq_false (by omega),decide_eq_true (show c.toNat ≤ 57 by omega)]; rfl
theorem u8_is (c : UInt8) (m : Int) (d : UInt8) (hm : m = (d.toNat : Nat)) : decide (((c.toNat : Nat) : Int) = m) = (c == d) := by
 rw [Bool.eq_iff_iff,decide_eq_true_eq,beq_iff_eq,hm]
 constructor
 · intro h; exact UInt8.toNat_inj.1 (by omega)
 · intro h; rw [h]
end
end Go.Proofs.YtofhaneggcpdaaaDoor
namespace Go.Proofs.YtofhaneggcpdaaaDoor
open Go Go.Eng Go.Num
set_option maxRecDepth 100000
abbrev ptr (b : Nat) : Value := .pointer (some ⟨b,0,none⟩)
end Go.Proofs.YtofhaneggcpdaaaDoor



namespace Go.Proofs.YtofhaneggcpdaaaDoor
open Go Go.Eng
set_option maxRecDepth 100000
variable [HX]
def plan42 : Plan := { js := [(28003,⟨[36],[],35⟩),(16,⟨[28],[2,5],28⟩),(6002,⟨[23],[],17⟩),(6004,⟨[22],[],21⟩),(6008,⟨[20],[],17⟩),(6013,⟨[14],[],12⟩)],ds := [] }
def W42 (v0 : Value) (w : World) (K : Value → World → Prop) : Prop :=
 callF Tryd.prog 52 [v0,(.string (ofL [45]))] w fun t7 w1 =>
 lensW t7 fun t9 =>
 binW .lss t9 (.int .i64 1) fun t10 =>
 GdW (isB t10 false) [undef] w1 (fun J2 =>
 lensW t7 fun t13 =>
 binW .gtr t13 (.int .i64 100) fun t14 =>
 J2 [t14] w1)
 fun s2 _ w3 =>
 pickW t10 (.bool true) (s2.getD 0 undef) fun t15 =>
 GdW (isB t15 false) [undef] w3 (fun J4 =>
 ixsW t7 (.int .i64 0) fun t18 =>
 binW .eql t18 (.int .u8 48) fun t19 =>
 J4 [t19] w3)
 fun s4 _ w5 =>
 GdW (isB (s4.getD 0 undef) true) [undef] w5 (fun J6 =>
 binW .neq v0 (.string (ofL [48])) fun t22 =>
 J6 [t22] w5)
 fun s6 _ w7 =>
 GdW (isB t15 false) [undef] w7 (fun J8 =>
 pickW (s4.getD 0 undef) (s6.getD 0 undef) (.bool false) fun t23 =>
 J8 [t23] w7)
 fun s8 _ w9 =>
 pickW t15 (.bool true) (s8.getD 0 undef) fun t24 =>
 condW t24 (
 K (.bool false) w9) (
 semE Tryd.prog (convert 9 54 t7) w9 fun t26 w10 =>
 lenlW t26 fun t27 =>
 LoopW [(.int .i64 0)] w10 fun s11 _ w12 L11 =>
 binW .lss (s11.getD 0 undef) t27 fun t29 =>
 condW t29 (
 ixaW none 1 t26 (s11.getD 0 undef) fun t30 =>
 ldW false 1 t30 w12 fun t31 =>
 binW .lss t31 (.int .u8 48) fun t33 =>
 GdW (isB t33 false) [undef] w12 (fun J13 =>
 binW .gtr t31 (.int .u8 57) fun t36 =>
 J13 [t36] w12)
 fun s13 _ w14 =>
 pickW t33 (.bool true) (s13.getD 0 undef) fun t37 =>
 condW t37 (
 K (.bool false) w14) (
 binW .add (s11.getD 0 undef) (.int .i64 1) fun t38 =>
 L11 [t38] w14)) (
 K (.bool true) w12))
theorem W42_ok {v0 : Value} {w : World} {K : Value → World → Prop} (h : W42 v0 w K) : callF Tryd.prog 42 [v0] w K :=
 tie _ 42 Tryd.f42 plan42 _ w K 1 _ rfl mixed Tryd.func42 (by kernel_rfl) (by kernel_rfl) Tryd.call42 h
def plan52 : Plan := { js := [],ds := [] }
def W52 (v0 v1 : Value) (w : World) (K : Value → World → Prop) : Prop :=
 callF Tryd.prog 71 [v0,v1] w fun t7 w1 =>
 K t7 w1
theorem W52_ok {v0 v1 : Value} {w : World} {K : Value → World → Prop} (h : W52 v0 v1 w K) : callF Tryd.prog 52 [v0,v1] w K :=
 tie _ 52 Tryd.f52 plan52 _ w K 2 _ rfl mixed Tryd.func52 (by kernel_rfl) (by kernel_rfl) Tryd.call52 h
def plan71 : Plan := { js := [],ds := [] }
def W71 (v0 v1 : Value) (w : World) (K : Value → World → Prop) : Prop :=
 callF Tryd.prog 34 [v0,v1] w fun t7 w1 =>
 condW t7 (
 lensW v1 fun t10 =>
 slsW v0 (some t10) none fun t11 =>
 K t11 w1) (
 K v0 w1)
theorem W71_ok {v0 v1 : Value} {w : World} {K : Value → World → Prop} (h : W71 v0 v1 w K) : callF Tryd.prog 71 [v0,v1] w K :=
 tie _ 71 Tryd.f71 plan71 _ w K 2 _ rfl mixed Tryd.func71 (by kernel_rfl) (by kernel_rfl) Tryd.call71 h
end Go.Proofs.YtofhaneggcpdaaaDoor
namespace Go.Proofs
open Go.Shelf
def Tryd.lays169_ren : Go.Shelf.Ren := ⟨fun | 169 => 57 | n => n,fun | 70 => 96 | 9 => 9 | 0 => 0 | 72 => 98 | 37 => 54 | 127 => 120 | 3 => 3 | 5 => 5 | n => n,fun | n => n⟩
theorem Tryd.lays169 : Go.Proofs.Lays.n169 Tryd.prog Tryd.lays169_ren := {
 mixed := by kernel_rfl
 f169 := Tryd.func57.trans (congrArg some (by kernel_rfl))
 t0 := Tryd.underlying0
 a0 := Tryd.isAgg0
 z0 := Tryd.sizeOf0
 v0 := Tryd.zeroValue0
 t3 := Tryd.underlying3
 a3 := Tryd.isAgg3
 z3 := Tryd.sizeOf3
 v3 := Tryd.zeroValue3
 t9 := Tryd.underlying9
 a9 := Tryd.isAgg9
 z9 := Tryd.sizeOf9
 v9 := Tryd.zeroValue9
 t37 := Tryd.underlying54
 a37 := Tryd.isAgg54
 z37 := Tryd.sizeOf54
 v37 := Tryd.zeroValue54
 t70 := Tryd.underlying96
 a70 := Tryd.isAgg96
 z70 := Tryd.sizeOf96
 v70 := Tryd.zeroValue96
 t72 := Tryd.underlying98
 a72 := Tryd.isAgg98
 z72 := Tryd.sizeOf98
 v72 := Tryd.zeroValue98
 t127 := Tryd.underlying120
 a127 := Tryd.isAgg120
 z127 := Tryd.sizeOf120
 v127 := Tryd.zeroValue120 }
theorem Tryd.Builder_Extra_169 : Builder.Extra Tryd.prog Tryd.lays169_ren := {
 sizeBuilder := by kernel_rfl
 liesBuilder := by kernel_rfl
 t5 := Tryd.underlying5
 a5 := Tryd.isAgg5
 z5 := Tryd.sizeOf5
 v5 := Tryd.zeroValue5
 infoByte := by kernel_rfl
 cellsByte := by kernel_rfl
 sizeByte := by kernel_rfl
 neB5 := by decide }
def Tryd.lays161_ren : Go.Shelf.Ren := ⟨fun | 161 => 56 | 231 => 73 | 227 => 74 | 233 => 75 | 235 => 76 | 228 => 83 | 197 => 84 | 151 => 85 | 260 => 90 | 152 => 91 | 137 => 35 | 119 => 94 | 224 => 69 | 225 => 68 | 217 => 50 | 266 => 67 | n => n,fun | 9 => 9 | 4 => 4 | 3 => 3 | 5 => 5 | 117 => 116 | 116 => 115 | 0 => 0 | 124 => 119 | 105 => 126 | 21 => 21 | 119 => 132 | 46 => 45 | 139 => 135 | 138 => 134 | n => n,fun | 3 => 1 | 4 => 2 | n => n⟩
theorem Tryd.lays161 : Go.Proofs.Lays.n161 Tryd.prog Tryd.lays161_ren := {
 mixed := by kernel_rfl
 f119 := Tryd.func94.trans (congrArg some (by kernel_rfl))
 f137 := Tryd.func35.trans (congrArg some (by kernel_rfl))
 f151 := Tryd.func85.trans (congrArg some (by kernel_rfl))
 f152 := Tryd.func91.trans (congrArg some (by kernel_rfl))
 f161 := Tryd.func56.trans (congrArg some (by kernel_rfl))
 f197 := Tryd.func84.trans (congrArg some (by kernel_rfl))
 f217 := Tryd.func50.trans (congrArg some (by kernel_rfl))
 f224 := Tryd.func69.trans (congrArg some (by kernel_rfl))
 f225 := Tryd.func68.trans (congrArg some (by kernel_rfl))
 f227 := Tryd.func74.trans (congrArg some (by kernel_rfl))
 f228 := Tryd.func83.trans (congrArg some (by kernel_rfl))
 f231 := Tryd.func73.trans (congrArg some (by kernel_rfl))
 f233 := Tryd.func75.trans (congrArg some (by kernel_rfl))
 f235 := Tryd.func76.trans (congrArg some (by kernel_rfl))
 f260 := Tryd.func90.trans (congrArg some (by kernel_rfl))
 f266 := Tryd.func67.trans (congrArg some (by kernel_rfl))
 t0 := Tryd.underlying0
 a0 := Tryd.isAgg0
 z0 := Tryd.sizeOf0
 v0 := Tryd.zeroValue0
 t3 := Tryd.underlying3
 a3 := Tryd.isAgg3
 z3 := Tryd.sizeOf3
 v3 := Tryd.zeroValue3
 t4 := Tryd.underlying4
 a4 := Tryd.isAgg4
 z4 := Tryd.sizeOf4
 v4 := Tryd.zeroValue4
 t5 := Tryd.underlying5
 a5 := Tryd.isAgg5
 z5 := Tryd.sizeOf5
 v5 := Tryd.zeroValue5
 t9 := Tryd.underlying9
 a9 := Tryd.isAgg9
 z9 := Tryd.sizeOf9
 v9 := Tryd.zeroValue9
 t21 := Tryd.underlying21
 a21 := Tryd.isAgg21
 z21 := Tryd.sizeOf21
 v21 := Tryd.zeroValue21
 t46 := Tryd.underlying45
 a46 := Tryd.isAgg45
 z46 := Tryd.sizeOf45
 v46 := Tryd.zeroValue45
 t105 := Tryd.underlying126
 a105 := Tryd.isAgg126
 z105 := Tryd.sizeOf126
 v105 := Tryd.zeroValue126
 t116 := Tryd.underlying115
 a116 := Tryd.isAgg115
 z116 := Tryd.sizeOf115
 t117 := Tryd.underlying116
 a117 := Tryd.isAgg116
 z117 := Tryd.sizeOf116
 v117 := Tryd.zeroValue116
 t119 := Tryd.underlying132
 a119 := Tryd.isAgg132
 z119 := Tryd.sizeOf132
 t124 := Tryd.underlying119
 a124 := Tryd.isAgg119
 z124 := Tryd.sizeOf119
 v124 := Tryd.zeroValue119
 t138 := Tryd.underlying134
 a138 := Tryd.isAgg134
 z138 := Tryd.sizeOf134
 v138 := Tryd.zeroValue134
 t139 := Tryd.underlying135
 a139 := Tryd.isAgg135
 z139 := Tryd.sizeOf135
 v139 := Tryd.zeroValue135
 g3 := by kernel_rfl
 g4 := by kernel_rfl }
def Tryd.lays137_ren : Go.Shelf.Ren := ⟨fun | 137 => 35 | 217 => 50 | 266 => 67 | n => n,fun | 9 => 9 | 5 => 5 | 3 => 3 | n => n,fun | n => n⟩
theorem Tryd.lays137 : Go.Proofs.Lays.n137 Tryd.prog Tryd.lays137_ren := {
 mixed := by kernel_rfl
 f137 := Tryd.func35.trans (congrArg some (by kernel_rfl))
 f217 := Tryd.func50.trans (congrArg some (by kernel_rfl))
 f266 := Tryd.func67.trans (congrArg some (by kernel_rfl))
 t3 := Tryd.underlying3
 a3 := Tryd.isAgg3
 z3 := Tryd.sizeOf3
 v3 := Tryd.zeroValue3
 t5 := Tryd.underlying5
 a5 := Tryd.isAgg5
 z5 := Tryd.sizeOf5
 v5 := Tryd.zeroValue5
 t9 := Tryd.underlying9
 a9 := Tryd.isAgg9
 z9 := Tryd.sizeOf9
 v9 := Tryd.zeroValue9 }
open Go.RowKit in
theorem Tryd.strings_IndexByte (s : ByteArray) (c : Int) (w : World) :
   Calls Tryd.prog 35 #[.string s,.int .u8 c] w fun e w' => e = .returned (.int .i64 (Lib.indexByte s.data.toList c.toNat.toUInt8)) ∧ w' = w := Any.strings_IndexByte Tryd.lays137 s c w
open Go.RowKit in
theorem Tryd.Builder_String_any_k (B b : Nat) (l : List UInt8) (w : World) (h : Lib.IsBuilderF 98 5 B b (Lib.byteCells l) w) (hBw : B ≤ w.heap.size) :
   Calls Tryd.prog 57 #[.pointer (some ⟨b,0,none⟩)] w fun e w' => e = .returned (.string ⟨l.toArray⟩) ∧ (Lib.IsBuilderF 98 5 B b (Lib.byteCells l) w' ∧ Below B w w' ∧ Lib.OthersKept 5 (some b) w w') := Any.Builder_String_any_k Tryd.lays169 Tryd.Builder_Extra_169 B b l w h hBw
def Tryd.lays143_ren : Go.Shelf.Ren := ⟨fun | 143 => 38 | 219 => 51 | 217 => 50 | 225 => 68 | 224 => 69 | 267 => 70 | 266 => 67 | 314 => 82 | n => n,fun | 9 => 9 | 3 => 3 | 4 => 4 | 5 => 5 | 46 => 45 | 146 => 124 | 51 => 123 | n => n,fun | 1 => 0 | n => n⟩
theorem Tryd.lays143 : Go.Proofs.Lays.n143 Tryd.prog Tryd.lays143_ren := {
 mixed := by kernel_rfl
 f143 := Tryd.func38.trans (congrArg some (by kernel_rfl))
 f217 := Tryd.func50.trans (congrArg some (by kernel_rfl))
 f219 := Tryd.func51.trans (congrArg some (by kernel_rfl))
 f224 := Tryd.func69.trans (congrArg some (by kernel_rfl))
 f225 := Tryd.func68.trans (congrArg some (by kernel_rfl))
 f266 := Tryd.func67.trans (congrArg some (by kernel_rfl))
 f267 := Tryd.func70.trans (congrArg some (by kernel_rfl))
 f314 := Tryd.func82.trans (congrArg some (by kernel_rfl))
 t3 := Tryd.underlying3
 a3 := Tryd.isAgg3
 z3 := Tryd.sizeOf3
 v3 := Tryd.zeroValue3
 t4 := Tryd.underlying4
 a4 := Tryd.isAgg4
 z4 := Tryd.sizeOf4
 v4 := Tryd.zeroValue4
 t5 := Tryd.underlying5
 a5 := Tryd.isAgg5
 z5 := Tryd.sizeOf5
 v5 := Tryd.zeroValue5
 t9 := Tryd.underlying9
 a9 := Tryd.isAgg9
 z9 := Tryd.sizeOf9
 v9 := Tryd.zeroValue9
 t46 := Tryd.underlying45
 a46 := Tryd.isAgg45
 z46 := Tryd.sizeOf45
 v46 := Tryd.zeroValue45
 t51 := Tryd.underlying123
 a51 := Tryd.isAgg123
 z51 := Tryd.sizeOf123
 v51 := Tryd.zeroValue123
 t146 := Tryd.underlying124
 a146 := Tryd.isAgg124
 z146 := Tryd.sizeOf124
 v146 := Tryd.zeroValue124
 g1 := by kernel_rfl }
open Go.RowKit Go.Lib in
theorem Tryd.strings_Index (s sub : ByteArray) (m : Int) (w : World) (hs : s.size < 4294967281) (hm : w.cell? ⟨0,0,none⟩ = some (.int .i64 m)) :
   Calls Tryd.prog 38 #[.string s,.string sub] w fun e w' => e = .returned (.int .i64 (Lib.index s.data.toList sub.data.toList)) ∧ w' = w := Any.strings_Index Tryd.lays143 s sub m w hs hm
def Tryd.lays145_ren : Go.Shelf.Ren := ⟨fun | 145 => 55 | 220 => 72 | 219 => 51 | 217 => 50 | 225 => 68 | 224 => 69 | 267 => 70 | 266 => 67 | 314 => 82 | n => n,fun | 9 => 9 | 4 => 4 | 59 => 99 | 3 => 3 | 5 => 5 | 46 => 45 | 146 => 124 | 51 => 123 | n => n,fun | 1 => 0 | n => n⟩
theorem Tryd.lays145 : Go.Proofs.Lays.n145 Tryd.prog Tryd.lays145_ren := {
 mixed := by kernel_rfl
 f145 := Tryd.func55.trans (congrArg some (by kernel_rfl))
 f217 := Tryd.func50.trans (congrArg some (by kernel_rfl))
 f219 := Tryd.func51.trans (congrArg some (by kernel_rfl))
 f220 := Tryd.func72.trans (congrArg some (by kernel_rfl))
 f224 := Tryd.func69.trans (congrArg some (by kernel_rfl))
 f225 := Tryd.func68.trans (congrArg some (by kernel_rfl))
 f266 := Tryd.func67.trans (congrArg some (by kernel_rfl))
 f267 := Tryd.func70.trans (congrArg some (by kernel_rfl))
 f314 := Tryd.func82.trans (congrArg some (by kernel_rfl))
 t3 := Tryd.underlying3
 a3 := Tryd.isAgg3
 z3 := Tryd.sizeOf3
 v3 := Tryd.zeroValue3
 t4 := Tryd.underlying4
 a4 := Tryd.isAgg4
 z4 := Tryd.sizeOf4
 v4 := Tryd.zeroValue4
 t5 := Tryd.underlying5
 a5 := Tryd.isAgg5
 z5 := Tryd.sizeOf5
 v5 := Tryd.zeroValue5
 t9 := Tryd.underlying9
 a9 := Tryd.isAgg9
 z9 := Tryd.sizeOf9
 v9 := Tryd.zeroValue9
 t46 := Tryd.underlying45
 a46 := Tryd.isAgg45
 z46 := Tryd.sizeOf45
 v46 := Tryd.zeroValue45
 t51 := Tryd.underlying123
 a51 := Tryd.isAgg123
 z51 := Tryd.sizeOf123
 v51 := Tryd.zeroValue123
 t59 := Tryd.underlying99
 a59 := Tryd.isAgg99
 z59 := Tryd.sizeOf99
 v59 := Tryd.zeroValue99
 t146 := Tryd.underlying124
 a146 := Tryd.isAgg124
 z146 := Tryd.sizeOf124
 v146 := Tryd.zeroValue124
 g1 := by kernel_rfl }
open Go.RowKit Go.Lib in
theorem Tryd.strings_Cut (s sep : ByteArray) (m : Int) (w : World) (hs : s.size < 4294967281) (hm : w.cell? ⟨0,0,none⟩ = some (.int .i64 m)) :
   Calls Tryd.prog 55 #[.string s,.string sep] w fun e w' => e = .returned (.tuple #[.string ⟨(Lib.cut s.data.toList sep.data.toList).1.toArray⟩,.string ⟨(Lib.cut s.data.toList sep.data.toList).2.1.toArray⟩,.bool (Lib.cut s.data.toList sep.data.toList).2.2]) ∧ ∃ n,w' = w.drewN n := Any.strings_Cut Tryd.lays145 s sep m w hs hm
def Tryd.lays206_ren : Go.Shelf.Ren := ⟨fun | 206 => 34 | n => n,fun | 9 => 9 | 4 => 4 | 3 => 3 | n => n,fun | n => n⟩
theorem Tryd.lays206 : Go.Proofs.Lays.n206 Tryd.prog Tryd.lays206_ren := {
 mixed := by kernel_rfl
 f206 := Tryd.func34.trans (congrArg some (by kernel_rfl))
 t3 := Tryd.underlying3
 a3 := Tryd.isAgg3
 z3 := Tryd.sizeOf3
 v3 := Tryd.zeroValue3
 t4 := Tryd.underlying4
 a4 := Tryd.isAgg4
 z4 := Tryd.sizeOf4
 v4 := Tryd.zeroValue4
 t9 := Tryd.underlying9
 a9 := Tryd.isAgg9
 z9 := Tryd.sizeOf9
 v9 := Tryd.zeroValue9 }
open Go.RowKit Go.Lib in
theorem Tryd.stringslite_HasPrefix (s p : ByteArray) (w : World) :
   Calls Tryd.prog 34 #[.string s,.string p] w fun e w' => e = .returned (.bool (Lib.hasPrefix s.data.toList p.data.toList)) ∧ w' = w := Any.stringslite_HasPrefix Tryd.lays206 s p w
def Tryd.lays99_ren : Go.Shelf.Ren := ⟨fun | 99 => 23 | 206 => 34 | n => n,fun | 9 => 9 | 4 => 4 | 3 => 3 | n => n,fun | n => n⟩
theorem Tryd.lays99 : Go.Proofs.Lays.n99 Tryd.prog Tryd.lays99_ren := {
 mixed := by kernel_rfl
 f99 := Tryd.func23.trans (congrArg some (by kernel_rfl))
 f206 := Tryd.func34.trans (congrArg some (by kernel_rfl))
 t3 := Tryd.underlying3
 a3 := Tryd.isAgg3
 z3 := Tryd.sizeOf3
 v3 := Tryd.zeroValue3
 t4 := Tryd.underlying4
 a4 := Tryd.isAgg4
 z4 := Tryd.sizeOf4
 v4 := Tryd.zeroValue4
 t9 := Tryd.underlying9
 a9 := Tryd.isAgg9
 z9 := Tryd.sizeOf9
 v9 := Tryd.zeroValue9 }
open Go.RowKit Go.Lib in
theorem Tryd.strings_HasPrefix (s p : ByteArray) (w : World) :
   Calls Tryd.prog 23 #[.string s,.string p] w fun e w' => e = .returned (.bool (Lib.hasPrefix s.data.toList p.data.toList)) ∧ w' = w := Any.strings_HasPrefix Tryd.lays99 s p w
open Go.RowKit Go.Lib in
theorem Tryd.strings_TrimLeft_laid (s cutset : ByteArray) (w : World) (hcs : cutset.size < 4294967281) (hascii : ∀ (j : Nat) b,cutset.data.toList[j]? = some b → b.toNat < 128) :
   Calls Tryd.prog 56 #[.string s,.string cutset] w fun e w' => e = .returned (.string ⟨(Lib.trimLeftS s.data.toList cutset.data.toList).toArray⟩) ∧ Below w.heap.size w w' := Any.strings_TrimLeft_laid Tryd.lays161 (by kernel_rfl) s cutset w hcs hascii
end Go.Proofs
namespace Go.Proofs.YtofhaneggcpdaaaDoor
open Go Go.Eng Go.Num
set_option maxRecDepth 100000
abbrev u64 (n : Nat) : Value := .int .u64 (n : Int)
abbrev U8 : TypeId := 5
theorem bytes_ext (w : World) (e : TypeId) (s : ByteArray) : Ext w (Lib.bytesWorld w e s) :=
 ⟨rfl,rfl,rfl,by rw [Lib.bytesWorld_size]; omega,fun k hk _ => Lib.bytesWorld_at_old w e s k hk⟩
theorem to_bytes {l : Str} {w : World} {src dst : TypeId} {K : Value → World → Prop} (hs : Tryd.prog.underlying src = some .string) (hd : Tryd.prog.underlying dst = some (.slice U8)) (he : Tryd.prog.underlying U8 = some (.int .u8))
   (hK : ∀ v w',Byt w' U8 v l → Ext w w' → K v w') : semE Tryd.prog (convert src dst (str l)) w K := by
 unfold semE
 rw [Lib.run_convert_string_bytes w src dst U8 (ofL l) hs hd he]
 refine hK _ _ ?_ (bytes_ext _ _ _)
 have hle : (ofL l).size ≤ grownCap w (ofL l).size 0 U8 := by
   exact grownCap_ge w (ofL l).size 0 U8
 refine ⟨some ⟨w.heap.size,0,none⟩,grownCap w (ofL l).size 0 U8,by rw [ofL_size],by rw [← ofL_size]; exact hle,(fun e => by cases e),fun _ => ⟨w.heap.size,0,_,_,rfl,Lib.bytesWorld_at_new w U8 (ofL l),fun i hi => ?_⟩⟩
 have hi : i < (ofL l).size := by rw [ofL_size]; simpa [u8s_length] using hi
 have := Lib.bytesWorld_cell w U8 (ofL l) i hi
 rw [cell_eq,Lib.bytesWorld_at_new,cellO_some] at this
 rw [Nat.zero_add,this,u8s_get,ofL_data]
 have hi' : i < l.length := by rw [ofL_size] at hi; exact hi
 simp [List.getD_eq_getElem?_getD,List.getElem?_eq_getElem hi']
theorem of_calls [HX] {g : FuncId} {args : Array Value} {w : World} {K : Value → World → Prop} (hr : ∀ (ar : Array Value) (w : World),(callFunc g ar).run Tryd.prog w = .ok (.enter g ar) w)
   (h : Calls Tryd.prog g args w fun e w' => ∃ v,e = .returned v ∧ K v w') : callF Tryd.prog g args.toList w K := by
 unfold callF
 rw [show args.toList.toArray = args from by simp,hr]
 refine h.mono ?_
 rintro e w' ⟨v,rfl,hk⟩
 exact hk
section
variable [HX]
theorem pre_ref {s p : Str} {w : World} {K : Value → World → Prop} (hs : s.length ≤ 9223372036854775807) (hK : K (.bool (p.isPrefixOf s)) w) : callF Tryd.prog 34 [str s,str p] w K := by
 refine of_calls (args := #[str s,str p]) Tryd.call34 ((Tryd.stringslite_HasPrefix (ofL s) (ofL p) w).mono ?_)
 rintro e w' ⟨rfl,rfl⟩
 refine ⟨_,rfl,?_⟩
 rw [ofL_data,ofL_data]
 exact hK
theorem trimpre_ref {a : Str} {w : World} {K : Value → World → Prop} (hs : a.length ≤ 9223372036854775807) (hK : K (str (dig a)) w) : callF Tryd.prog 52 [str a,str [45]] w K := by
 refine W52_ok ?_
 unfold W52
 refine W71_ok ?_
 unfold W71
 refine pre_ref hs ?_
 cases a with
 | nil =>
   rw [show ([45] : Str).isPrefixOf [] = false from rfl]
   simp only [wsv,wsg,wsh,wsl,cond_true,cond_false,exists_eq_left',wsu,Nat.reduceAdd,Nat.reduceLT,Nat.lt_add_one,Nat.zero_lt_succ,decide_true,decide_false,ne_eq,reduceCtorEq]
   exact hK
 | cons c r =>
   by_cases hc : c = 45
   · subst hc
     have e : ([45] : Str).isPrefixOf (45 :: r) = true := by simp [List.isPrefixOf]
     have ed : dig (45 :: r) = r := by simp [dig]
     rw [ed] at hK
     rw [e]
     have e1 : ((0 + 1 : Nat) : Int).toNat = 1 := rfl
     simp only [wsv,wsg,wsh,wsl,cond_true,cond_false,exists_eq_left',wsu,Nat.reduceAdd,Nat.reduceLT,Nat.lt_add_one,Nat.zero_lt_succ,decide_true,decide_false,ne_eq,reduceCtorEq,e1]
     refine ⟨by omega,by omega,?_⟩
     rw [← List.length_cons (a := (45 : UInt8)),List.take_length]
     exact hK
   · have e : ([45] : Str).isPrefixOf (c :: r) = false := by simp [List.isPrefixOf,Ne.symm hc]
     have ed : dig (c :: r) = c :: r := by simp [dig,hc]
     rw [ed] at hK
     rw [e]
     simp only [wsv,wsg,wsh,wsl,cond_true,cond_false,exists_eq_left',wsu,Nat.reduceAdd,Nat.reduceLT,Nat.lt_add_one,Nat.zero_lt_succ,decide_true,decide_false,ne_eq,reduceCtorEq]
     exact hK
theorem numgood_ref {a : Str} {w : World} {K : Value → World → Prop} (ha : a.length ≤ 9223372036854775807) (hK : ∀ w',Ext w w' → K (.bool (goodN a)) w') : callF Tryd.prog 42 [str a] w K := by
 refine W42_ok ?_
 unfold W42
 refine trimpre_ref ha ?_
 have hg : goodN a = (!decide ((dig a).length < 1) && !decide (100 < (dig a).length) && !((dig a).head? == some 48 && !decide (a = [48])) && (dig a).all Num.isDig) := by
   unfold goodN
   have e1 : decide (1 ≤ (dig a).length) = !decide ((dig a).length < 1) := by rw [← decide_not]; exact decide_eq_decide.2 (by omega)
   have e2 : decide ((dig a).length ≤ 100) = !decide (100 < (dig a).length) := by rw [← decide_not]; exact decide_eq_decide.2 (by omega)
   rw [e1,e2]
   cases ((dig a).head? == some 48) <;> cases decide (a = [48]) <;> simp
 rw [hg] at hK
 have hdl : (dig a).length ≤ a.length := by
   cases a with
   | nil => simp [dig]
   | cons c r => simp only [dig]; split <;> simp
 cases hd : dig a with
 | nil =>
   rw [hd] at hK
   have hz : decide (((0 : Nat) : Int) < 1) = true := by decide
   simp only [wsv,wsg,wsh,wsl,cond_true,cond_false,exists_eq_left',wsu,Nat.reduceAdd,Nat.reduceLT,Nat.lt_add_one,Nat.zero_lt_succ,decide_true,decide_false,ne_eq,reduceCtorEq,hz]
   intros
   exact hK _ (Chg.refl _ _)
 | cons c r =>
   rw [hd] at hK hdl
   have hz : decide (((r.length + 1 : Nat) : Int) < 1) = false := decide_eq_false (by omega)
   simp only [wsv,wsg,wsh,wsl,cond_true,cond_false,exists_eq_left',wsu,Nat.reduceAdd,Nat.reduceLT,Nat.lt_add_one,Nat.zero_lt_succ,decide_true,decide_false,ne_eq,reduceCtorEq,Int.le_refl,Int.toNat_zero,u8_is c 48 48 rfl,hz]
   intros
   rw [condW_b]
   have e1 : decide ((100 : Int) < ((r.length + 1 : Nat) : Int)) = decide (100 < (c :: r).length) := decide_eq_decide.2 (by simp only [List.length_cons]; omega)
   have e4 : decide ((c :: r).length < 1) = false := decide_eq_false (by simp)
   have e5 : ((c :: r).head? == some 48) = (c == 48) := by simp
   rw [e1]
   rw [e4,e5] at hK
   simp only [decide_not]
   generalize decide (100 < (c :: r).length) = b1 at *
   generalize ((c == 48) && !decide (a = [48])) = b2 at *
   refine ⟨fun h => ?_,fun h => ?_⟩
   · have := hK _ (Chg.refl _ _)
     have e : (!false && !b1 && !b2 && (c :: r).all Num.isDig) = false := by
       cases b1 <;> cases b2 <;> simp at h ⊢
     rw [e] at this
     exact this
   · have hb : b1 = false ∧ b2 = false := by simpa using h
     rw [hb.1,hb.2] at hK
     refine to_bytes (l := c :: r) (by kernel_rfl) (by kernel_rfl) (by kernel_rfl) fun v w1 hv hx1 => ?_
     rw [lenl_at hv]
     generalize c :: r = D at *
     refine loop_up D.length (fun i w2 => Ext w1 w2 ∧ (D.take i).all Num.isDig = true) ⟨Chg.refl _ _,rfl⟩ ?_ ?_
     · rintro i w2 g L hi ⟨hx2,hall⟩ hL
       obtain ⟨e,he⟩ : ∃ e,D[i]? = some e := ⟨_,List.getElem?_eq_getElem hi⟩
       have hlt : ((i : Int) < ((D.length : Nat) : Int)) := by omega
       simp only [wsv,wsg,wsh,wsl,cond_true,cond_false,exists_eq_left',wsu,Nat.reduceAdd,Nat.reduceLT,Nat.lt_add_one,Nat.zero_lt_succ,decide_true,decide_false,ne_eq,reduceCtorEq,hlt]
       refine ixa_ld (hv.ext hx2) (by rw [u8s_length]) (by rw [u8s_get,he]; rfl) ?_
       simp only [wsv,wsg,wsh,wsl,cond_true,cond_false,exists_eq_left',wsu,Nat.reduceAdd,Nat.reduceLT,Nat.lt_add_one,Nat.zero_lt_succ,decide_true,decide_false,ne_eq,reduceCtorEq,isDig_out]
       intros
       rw [condW_b]
       refine ⟨fun hf => ?_,fun ht => ?_⟩
       · have hf : Num.isDig e = false := by simpa using hf
         have := hK _ (hx1.trans hx2)
         rw [all_no he hf] at this
         exact this
       · have ht : Num.isDig e = true := by simpa using ht
         rw [up1 (by omega)]
         exact hL _ ⟨hx2,by rw [all_take he,hall,ht]; rfl⟩
     · rintro w2 g L ⟨hx2,hall⟩
       simp only [wsv,wsg,wsh,wsl,cond_true,cond_false,exists_eq_left',wsu,Nat.reduceAdd,Nat.reduceLT,Nat.lt_add_one,Nat.zero_lt_succ,decide_true,decide_false,ne_eq,reduceCtorEq,Int.lt_irrefl]
       rw [List.take_length] at hall
       have := hK w2 (hx1.trans hx2)
       rw [hall] at this
       exact this
end
end Go.Proofs.YtofhaneggcpdaaaDoor
namespace Go.Proofs
open Go.RowKit Go.Lib Go.Shelf
abbrev BdT : TypeId := 98
set_option maxHeartbeats 1000000 in
set_option maxRecDepth 100000 in
theorem Tryd.check_used (b : Nat) (w : World) (h0 : w.cell? ⟨b,0,none⟩ = some (.pointer (some ⟨b,0,none⟩))) :
   Calls Tryd.prog 77 #[.pointer (some ⟨b,0,none⟩)] w fun e w' => e = .returned (.tuple #[]) ∧ w' = w := by
 obtain ⟨j,hj,_⟩ := Option.map_eq_some_iff.1 (show (Tryd.prog.info? 98).map (·.size) = some 2 by kernel_rfl)
 go_enter Tryd.func77,Tryd.ntmps77
 go_wp2
 rw [Lib.run_neq_ptr_same w _ Tryd.underlying96 hj]
 go_wp2
 go_end0
 exact ⟨rfl,rfl⟩
set_option maxHeartbeats 1000000 in
set_option maxRecDepth 100000 in
theorem Tryd.check_fresh (b : Nat) (w : World) (h0 : w.cell? ⟨b,0,none⟩ = some (.pointer none)) (hsh : w.shape? b = some (98,2)) (hfz : w.frozen? ⟨b,0,none⟩ = false) :
   Calls Tryd.prog 77 #[.pointer (some ⟨b,0,none⟩)] w fun e w' => e = .returned (.tuple #[]) ∧ w' = w.setCell ⟨b,0,none⟩ (.pointer (some ⟨b,0,none⟩)) := by
 obtain ⟨j,hj,hjs⟩ := Option.map_eq_some_iff.1 (show (Tryd.prog.info? 98).map (·.size) = some 2 by kernel_rfl)
 go_enter Tryd.func77,Tryd.ntmps77
 go_wp2
 rw [Lib.run_to_unsafe w ⟨b,0,none⟩ Tryd.underlying96 Tryd.underlying129 hj (by rw [hjs]; decide) hsh (Nat.zero_lt_succ 1)]
 simp only [Result.andThen]
 rw [Oper.upon_value]
 go_wp2
 rw [run_callFunc_extern Tryd.func86 (by kernel_rfl) (by kernel_rfl) (by kernel_rfl) (e := Extern.AbiNoEscape.same) (by kernel_rfl)]
 rw [Lib.run_noEscape]
 simp only [Result.andThen]
 rw [Oper.upon_value]
 go_wp2
 rw [Lib.run_from_unsafe w ⟨b,0,none⟩ Tryd.underlying129 Tryd.underlying96 hj hsh (show liesAt Tryd.prog Tryd.prog.depth 98 (2 / Tryd.prog.cellsOf 98) 0 98 1 = true by kernel_rfl)]
 simp only [Result.andThen]
 rw [Oper.upon_value]
 go_wp2
 go_end0
 exact ⟨rfl,rfl⟩
end Go.Proofs

