/- One plain sentence: weakest preconditions, contracts and plain laws that the claim rests on, text behind text. Conditions: those that each states. -/
import Derived.Test.YtofhaneggcpdaaaGreatDoorPL1
import Derived.Test.YtofhaneggcpdaaaGreatDoorProg
import Derived.Recover
import Derived.Shelf.Strings.BuilderK
import Derived.Shelf.Strings.Cut
import Derived.Shelf.Strings.Prefix
import Derived.Shelf.Strings.Search3
import Derived.Shelf.Small.Strs
import Derived.Shelf.Strings.OnBuilder
import Derived.Shelf.Strings.Repeat
import Derived.Shelf.Strings.SlTrimAscii
import Derived.Shelf.Small.Utf8
import Derived.Shelf.Strings.BuilderX
import Derived.Shelf.Lays
import Derived.Lib.ConvBytes
import Derived.Lib.ParseIntBCases
import Derived.Lib.Builder
import Derived.ProofKit
import Derived.WalkKit
import Derived.Lib.AppendStr
import Derived.Lib.RuneBytes
set_option linter.all false
set_option linter.unusedSimpArgs false
set_option linter.unusedVariables false
set_option linter.unusedSectionVars false
namespace Go.Syn
open Go Go.Eng Go.Lex
abbrev blL (bl : List Blk) : List (List Nat) := bl.map (·.blocks)
abbrev erefs (bl : List Blk) : List Nat := bl.flatMap fun b => b.attrs.map (·.e)
def Named (us : List Atr) : Prop := ∀ a ∈ us,a.n ≠ []
structure FI (s : PS) (pe pb : List Nat) : Prop where
 ex : Forest (exL s.ex) (erefs s.bl ++ pe)
 bl : Forest (blL s.bl) pb
 nm : ∀ b ∈ s.bl,Named b.attrs
theorem FI.perm {s : PS} {pe pe' pb pb' : List Nat} (h : FI s pe pb) (h1 : pe.Perm pe') (h2 : pb.Perm pb') : FI s pe' pb' := ⟨h.ex.perm (h1.append_left _),h.bl.perm h2,h.nm⟩
theorem FI.same {s s' : PS} {pe pb : List Nat} (h : FI s pe pb) (h1 : s'.ex = s.ex) (h2 : s'.bl = s.bl) : FI s' pe pb := ⟨by rw [h1,h2]; exact h.ex,by rw [h2]; exact h.bl,by rw [h2]; exact h.nm⟩
theorem FI.expr {s s' : PS} {x : Nat} {pe pb : List Nat} (h : FI s pe pb) (h2 : s'.bl = s.bl) (hf : ∀ roots,Forest (exL s.ex) roots → Forest (exL s'.ex) (x :: roots)) : FI s' (x :: pe) pb :=
 ⟨by rw [h2]; exact (hf _ h.ex).perm (List.perm_middle).symm,by rw [h2]; exact h.bl,by rw [h2]; exact h.nm⟩
def BOk (N : Int) (B : PS → R Nat) : Prop := ∀ s,WS N s → Sat (B s) (fun x s' => Later N s s' ∧ ∀ pe pb,FI s pe pb → FI s' pe (x :: pb)) (InN N)
section
variable {N : Int} {E B : PS → R Nat}
theorem labels_sat : ∀ (n : Nat) (s : PS) (ls : List Str),WS N s → Sat (labelsF n s ls) (fun _ s' => Go1 N s s' ∧ s'.ex = s.ex ∧ s'.bl = s.bl) (InN N)
 | 0,s,_,h => ⟨Int.le_refl _,h.pN⟩
 | n + 1,s,ls,h => by
   have hc := cur_pos h
   have n1 := next_go h
   simp only [labelsF]
   split
   · refine (plain_sat (n1.1.ws h) (t := cur s) ⟨hc.1,hc.2.1⟩).bind fun l s1 e1 => ?_
     subst e1
     exact (labels_sat n _ (ls ++ [l]) (n1.1.ws h)).mono fun _ s2 ⟨g,e,b⟩ => ⟨n1.1.trans g,e.trans n1.2.2.1,b.trans n1.2.2.2⟩
   · exact ⟨now_go h,(now_ex s).1,(now_ex s).2⟩
theorem item_sat (hE : EOk N E) (hB : BOk N B) {s : PS} (h : WS N s) (us : List Atr) (bs : List Nat) (hn : Named us) :
   Sat (itemR E B s us bs) (fun x s' => Later N s s' ∧ Named x.1 ∧ ∀ pe pb,FI s (us.map (·.e) ++ pe) (bs ++ pb) → FI s' (x.1.map (·.e) ++ pe) (x.2 ++ pb)) (InN N) := by
 unfold itemR
 refine (kind_sat h 1 (by decide)).bind fun t s1 ⟨g1,x1,b1,ht,hk⟩ => ?_
 have hw1 := g1.1.ws h
 have t1 := take_go hw1 [61]
 have hw2 := t1.1.ws hw1
 have hc := cur_pos h
 split
 · refine (hE _ hw2).bind fun x s2 ⟨g2,b2,f2⟩ => ?_
   refine ⟨⟨g1.1.trans (t1.1.trans g2.1),by have := g1.2; have := t1.1.le; have := g2.2; omega⟩,fun a ha => ?_,fun pe pb hf => ?_⟩
   · rcases List.mem_append.1 ha with ha | ha
     · exact hn a ha
     · rw [List.mem_singleton] at ha
       subst ha
       rw [ht]
       exact hc.2.2.2.2 (by rw [← ht]; exact hk)
   · have := (hf.same (s' := (takeS s1 [61]).2) (t1.2.2.1.trans x1) (t1.2.2.2.trans b1)).expr b2 f2
     refine this.perm ?_ (List.Perm.refl _)
     simp only [List.map_append,List.map_cons,List.map_nil,List.append_assoc]
     exact (List.perm_middle).symm
 · have hle := g1.2
   have hle2 := t1.1.le
   have hg : Go1 N s { (takeS s1 [61]).2 with i := (takeS s1 [61]).2.i - 1 } := by
     have g := g1.1.trans t1.1
     refine ⟨g.toks,g.off,g.deep,g.quiet,?_,?_,g.exs⟩
     · show s.i ≤ (takeS s1 [61]).2.i - 1
       omega
     · show (takeS s1 [61]).2.i - 1 < (takeS s1 [61]).2.toks.length
       have := g.lt
       omega
   refine (hB _ (hg.ws h)).bind fun x s2 ⟨g2,f2⟩ => ?_
   refine ⟨⟨hg.trans g2.1,by have := hg.le; have := g2.2; omega⟩,hn,fun pe pb hf => ?_⟩
   have := f2 _ _ (hf.same (s' := { (takeS s1 [61]).2 with i := (takeS s1 [61]).2.i - 1 }) (t1.2.2.1.trans x1) (t1.2.2.2.trans b1))
   refine this.perm (List.Perm.refl _) ?_
   simp only [List.append_assoc]
   exact (List.perm_middle).symm
theorem items_sat (hE : EOk N E) (hB : BOk N B) : ∀ (n : Nat) (s : PS) (us : List Atr) (bs : List Nat),WS N s → Named us →
   Sat (itemsF E B n s us bs) (fun x s' => Later N s s' ∧ Named x.1 ∧ ∀ pe pb,FI s (us.map (·.e) ++ pe) (bs ++ pb) → FI s' (x.1.map (·.e) ++ pe) (x.2 ++ pb)) (InN N)
 | 0,s,_,_,h,_ => ⟨Int.le_refl _,h.pN⟩
 | n + 1,s,us,bs,h,hn => by
   have t1 := take_go h [125]
   have hw1 := t1.1.ws h
   simp only [itemsF]
   split
   · rename_i ht
     exact ⟨⟨t1.1,t1.2.1 ht⟩,hn,fun pe pb hf => hf.same t1.2.2.1 t1.2.2.2⟩
   refine (item_sat hE hB hw1 us bs hn).bind fun x s1 ⟨g1,n1,f1⟩ => ?_
   have hw2 := g1.1.ws hw1
   have m1 := now_go hw2
   have hw3 := m1.ws hw2
   split
   · have := cur_pos hw3
     exact ⟨this.1,this.2.1⟩
   have l1 := lines_go hw3
   refine (items_sat hE hB n _ x.1 x.2 (l1.1.ws hw3) n1).mono fun y s2 ⟨g2,n2,f2⟩ => ⟨⟨t1.1.trans (g1.1.trans (m1.trans (l1.1.trans g2.1))),by have := t1.1.le; have := g1.2; have := m1.le; have := l1.1.le; have := g2.2; omega⟩,n2,fun pe pb hf => f2 pe pb ?_⟩
   exact (f1 pe pb (hf.same t1.2.2.1 t1.2.2.2)).same (l1.2.1.trans (now_ex _).1) (l1.2.2.trans (now_ex _).2)
theorem block_sat (hE : EOk N E) (hB : BOk N B) : BOk N (blockR E B) := by
 intro s h
 unfold blockR
 refine (kind_sat h 1 (by decide)).bind fun t s1 ⟨g1,x1,b1,ht,hk⟩ => ?_
 have hw1 := g1.1.ws h
 refine (labels_sat _ s1 [] hw1).bind fun ls s2 ⟨g2,x2,b2⟩ => ?_
 have hw2 := g2.ws hw1
 have n2 := now_go hw2
 have hw3 := n2.ws hw2
 have hc := cur_pos hw2
 split
 · exact ⟨hc.1,hc.2.1⟩
 rename_i hi
 have hi : isS s2 [123] = true := by simpa using hi
 have e3 : (nowS s2).ex = s.ex := (now_ex _).1.trans (x2.trans x1)
 have b3 : (nowS s2).bl = s.bl := (now_ex _).2.trans (b2.trans b1)
 refine Sat.bind (within_sat hw3 (a := (cur s2).a) (q := false) ⟨hc.1,hc.2.1⟩ (P := fun (x : List Atr × List Nat) s' => Go1 N { nowS s2 with deep := (nowS s2).deep + 1,quiet := false } s' ∧ Named x.1 ∧ ∀ pe pb,FI s pe pb → FI s' (x.1.map (·.e) ++ pe) (x.2 ++ pb)) fun hw => ?_) fun x s3 ⟨q,⟨g4,m4,f4⟩,e4⟩ => ?_
 · have hh := sign_here hw2 hi ((nowS s2).deep + 1) false
   have h4 := step_go hw hh.2.1
   rw [hh.1] at h4
   have hw4 := h4.1.ws hw
   have l4 := lines_go hw4
   refine (items_sat hE hB _ _ [] [] (l4.1.ws hw4) (fun a ha => by cases ha)).mono fun x s' ⟨g,m,f⟩ => ⟨h4.1.trans (l4.1.trans g.1),m,fun pe pb hf => f pe pb ?_⟩
   exact hf.same (l4.2.1.trans e3) (l4.2.2.trans b3)
 · subst e4
   have g4' := g4.back
   have g := g1.1.trans (g2.trans (n2.trans g4'))
   refine ⟨⟨⟨g.toks,g.off,g.deep,g.quiet,g.le,g.lt,g.exs⟩,by have := g1.2; have := g2.le; have := n2.le; have := g4'.le; show s.i < q.i; simp only at this; omega⟩,fun pe pb hf => ?_⟩
   have hq := f4 pe pb hf
   refine ⟨?_,?_,?_⟩
   · show Forest (exL q.ex) (erefs (q.bl ++ [⟨t.t,ls,x.1,x.2,t.a⟩]) ++ pe)
     have e : erefs (q.bl ++ [⟨t.t,ls,x.1,x.2,t.a⟩]) ++ pe = erefs q.bl ++ (x.1.map (·.e) ++ pe) := by simp [erefs]
     rw [e]
     exact hq.ex
   · show Forest (blL (q.bl ++ [⟨t.t,ls,x.1,x.2,t.a⟩])) (q.bl.length :: pb)
     have := hq.bl.put
     rw [List.length_map] at this
     simpa [blL] using this
   · intro b hb
     have hb : b ∈ q.bl ++ [⟨t.t,ls,x.1,x.2,t.a⟩] := hb
     rcases List.mem_append.1 hb with hb | hb
     · exact hq.nm b hb
     · rw [List.mem_singleton] at hb
       subst hb
       exact m4
end
theorem dead_bok (N : Int) : BOk N dead := fun _ h => ⟨Int.le_refl _,h.pN⟩
theorem blockD_ok (N : Int) : ∀ d,BOk N (blockD d)
 | 0 => block_sat (dead_ok N) (dead_bok N)
 | d + 1 => block_sat (exprD_ok N d).1 (blockD_ok N d)
theorem top_sat {N : Int} : ∀ (n : Nat) (s : PS) (top : List Nat),WS N s → Sat (topF n s top) (fun x s' => Go1 N s s' ∧ (FI s [] top → FI s' [] x)) (InN N)
 | 0,s,_,h => ⟨Int.le_refl _,h.pN⟩
 | n + 1,s,top,h => by
   have n1 := now_go h
   have hw1 := n1.ws h
   simp only [topF]
   split
   · exact ⟨n1,fun hf => hf.same (now_ex _).1 (now_ex _).2⟩
   refine (blockD_ok N 24 _ hw1).bind fun x s1 ⟨g1,f1⟩ => ?_
   have hw2 := g1.1.ws hw1
   have m1 := now_go hw2
   have hw3 := m1.ws hw2
   split
   · have := cur_pos hw3
     exact ⟨this.1,this.2.1⟩
   have l1 := lines_go hw3
   refine (top_sat n _ (top ++ [x]) (l1.1.ws hw3)).mono fun y s2 ⟨g2,f2⟩ => ⟨n1.trans (g1.1.trans (m1.trans (l1.1.trans g2))),fun hf => f2 ?_⟩
   have := (f1 [] top (hf.same (now_ex _).1 (now_ex _).2)).same (s' := linesS (nowS s1)) (l1.2.1.trans (now_ex _).1) (l1.2.2.trans (now_ex _).2)
   refine this.perm (List.Perm.refl _) ?_
   exact (List.perm_append_comm (l₁ := [x]) (l₂ := top))
theorem forms_plain (t : Str) : match parseM t with
   | .bad _ a => 0 ≤ a ∧ a ≤ (t.length : Nat)
   | .ok f => (∀ e ∈ f.ex,0 ≤ e.a ∧ e.a < (t.length : Nat)) ∧ Forest (exL f.ex) (erefs f.bl) ∧ Forest (blL f.bl) f.top ∧ ∀ b ∈ f.bl,Named b.attrs := by
 unfold parseM
 cases hs : scanM t with
 | bad c a => exact scan_bad hs
 | ok l =>
   have htg := scan_tg (N := (t.length : Nat)) (off := 0) hs (Int.le_refl _) (by omega)
   have hw : WS (t.length : Nat) ⟨l,0,0,0,false,[],[]⟩ := ⟨htg,List.length_pos_iff.2 htg.ne,by omega⟩
   have l1 := lines_go hw
   have h := top_sat (l.length + 1) (linesS ⟨l,0,0,0,false,[],[]⟩) [] (l1.1.ws hw)
   cases hr : topF (l.length + 1) (linesS ⟨l,0,0,0,false,[],[]⟩) [] with
   | err c a =>
     rw [hr] at h
     simp only [hr]
     exact h
   | ok top s' =>
     rw [hr] at h
     simp only [hr]
     obtain ⟨g,f⟩ := h
     have hf := f (FI.same (s := ⟨l,0,0,0,false,[],[]⟩) ⟨Forest.nil,Forest.nil,fun b hb => by cases hb⟩ l1.2.1 l1.2.2)
     refine ⟨fun e he => ?_,by have := hf.ex; rw [List.append_nil] at this; exact this,hf.bl,hf.nm⟩
     rcases g.exs e he with h | h
     · rw [l1.2.1] at h; cases h
     · exact h
end Go.Syn
namespace Go.Eng
open Go
theorem append_own3 {P : Program} {t e T : TypeId} {size bytes : Nat} (hT : ElemT P t e size bytes) {w : World} {base : Nat} {v x : Value} {n m : Nat} {xs news : List Value} {ty : TypeId} {K : Value → World → Prop}
   (hown : Own w base e size v n xs) (hx : SlAt w T x m news) (hl : news.length = m * size) (h1 : ∀ u ∈ news,one1 u = true) (hlen : n + m ≤ 4611686018427387904) (hb : (n + m) * bytes ≤ 140737488355328) (hbase : base ≤ w.heap.size)
   (hK : ∀ v' w',Own w' base e size v' (n + m) (xs ++ news) → Chg (fun k => v.ownBlock = some k) w w' → (∀ k,v'.ownBlock = some k → v.ownBlock = some k ∨ w.heap.size ≤ k) → K v' w') :
   semE P (Builtin.append_ #[t,t] ty #[v,x]) w K := by
 obtain ⟨i,z,hi,hz,h2,h3,h4⟩ := hT.get
 have hsame : ∀ {K' : Value → World → Prop},semE P (Builtin.append_ #[t,t] ty #[v,x]) w K' → ∃ v' w',(Builtin.append_ #[t,t] ty #[v,x]).run P w = .ok v' w' ∧ K' v' w' := by
   intro K' h
   unfold semE at h
   split at h
   · rename_i v' w' hr; exact ⟨v',w',hr,h⟩
   · exact h.elim
 obtain ⟨v1,w1,hr1,hO1,hc1,hn1⟩ := hsame (append_own2 hT hown hx hl h1 hlen hb hbase fun v' w' a b c => (⟨a,b,c⟩ : Own w' base e size v' (n + m) (xs ++ news) ∧ Chg (fun k => v.ownBlock = some k) w w' ∧ (v' = .slice none 0 0 ↔ v = .slice none 0 0 ∧ m = 0)))
 unfold semE
 rw [hr1]
 refine hK v1 w1 hO1 hc1 ?_
 obtain ⟨hl',⟨rfl,rfl⟩ | ⟨g,cap,cur,rfl,hbg,hg,hnc,hcm,hcs,htake⟩⟩ := hown
 · have hnil : xs = [] := List.eq_nil_of_length_eq_zero (by simpa using hl')
   subst hnil
   obtain ⟨v2,w2,hr2,hO2⟩ := hsame (append_own2 hT (base := w.heap.size) (show Own w w.heap.size e size (.slice none 0 0) 0 [] from ⟨by simp,.inl ⟨rfl,rfl⟩⟩) hx hl h1 hlen hb (Nat.le_refl _) fun v' w' a _ _ => a)
   rw [hr1] at hr2
   cases hr2
   intro k hk
   exact .inr (hO2.block k hk).1
 · obtain ⟨p,c,rfl,_,hpn,hcells⟩ := hx
   cases p with
   | none =>
     obtain ⟨rfl,rfl⟩ := hpn rfl
     intro k hk
     have hn : news = [] := List.eq_nil_of_length_eq_zero (by simpa using hl)
     subst hn
     have hr : (Builtin.append_ #[t,t] ty #[.slice (some ⟨g,0,none⟩) n cap,.slice none 0 0]).run P w = .ok (.slice (some ⟨g,0,none⟩) n cap) w := by
       simp [Builtin.append_,run_bind,run_underlying' hT.und,run_sizeOf' (show (P.info? e).isSome = true by rw [hi]; rfl),Builtin.lenOf,run_pure,Builtin.firstCells,hnc,storeCells]
     rw [hr1] at hr
     cases hr
     exact .inl hk
   | some a =>
     have hcell : ∀ j u,news[j]? = some u → w.cell? (a.add j) = some u := by
       intro j u hu
       have hne : news ≠ [] := fun e => by subst e; simp at hu
       obtain ⟨b,off,c',fr,hp,hb',hcs'⟩ := hcells hne
       cases hp
       rw [add_mk,cell_eq,hb',cellO_some,hcs' j (List.getElem?_eq_some_iff.1 hu).1,hu]
     subst h2
     by_cases hroom : n + m ≤ cap
     · have hfit : n * i.size + news.length ≤ cur.size := by rw [hl,hcs,← Nat.add_mul]; exact Nat.mul_le_mul_right _ hroom
       have hr := run_append_room (P := P) w t ty e i hT.und hi g n cap cur hg a m c news hl hcell (fun u hu => one1_oneCell' (h1 u hu)) hroom hfit
       rw [hr1] at hr
       cases hr
       intro k hk
       exact .inl (by simpa [Value.ownBlock] using hk)
     · have holds : ∀ j u,xs[j]? = some u → w.cell? ((⟨g,0,none⟩ : Addr).add j) = some u := World.ownsRow.cells (base := base) (e := e) (size := i.size) (v := .slice (some ⟨g,0,none⟩) n cap) (n := n) ⟨hl',.inr ⟨g,cap,cur,rfl,hbg,hg,hnc,hcm,hcs,htake⟩⟩ rfl
       have hr := run_append_grow (P := P) w t ty e i z hT.und hi hz ⟨g,0,none⟩ n cap xs hl' holds a m c news hl hcell (by omega) (by omega) (growslice_fits (by omega) (by rw [h3]; exact hb))
       rw [hr1] at hr
       cases hr
       intro k hk
       right
       simp [Value.ownBlock] at hk
       omega
theorem GdW_pure (c : Bool) (u v : Value) (w : World) (B : List Value → Fr → World → Prop) : GdW c [u] w (fun J => J [v] w) B ↔ ∀ g,B [bif c then v else u] g w := by
 constructor
 · rintro ⟨J,h1,h2,h3⟩ g
   cases c with
   | true => exact h3 _ g _ (h1 rfl)
   | false => exact h3 _ g _ (h2 rfl)
 · intro h
   refine ⟨fun s w' => s = [bif c then v else u] ∧ w' = w,fun hc => ⟨by rw [hc]; rfl,rfl⟩,fun hc => ⟨by rw [hc]; rfl,rfl⟩,?_⟩
   rintro s g w' ⟨rfl,rfl⟩
   exact h g
theorem GdW_nest_and (g e f : Bool) (w : World) (B : List Value → Fr → World → Prop) :
   GdW g [undef] w (fun J => pickW (bif g then .bool e else undef) (bif (g && e) then .bool f else undef) (.bool false) fun t => J [t] w) B ↔ ∀ h,B [bif g then .bool (e && f) else undef] h w := by
 cases g with
 | true =>
   rw [← GdW_pure]
   cases e <;> exact Iff.rfl
 | false =>
   constructor
   · rintro ⟨J,_,h2,h3⟩ h; exact h3 _ h _ (h2 rfl)
   · intro h; exact GdW.f h
theorem GdW_nest_or (g e f : Bool) (w : World) (B : List Value → Fr → World → Prop) :
   GdW g [undef] w (fun J => pickW (bif g then .bool e else undef) (.bool true) (bif (g && !e) then .bool f else undef) fun t => J [t] w) B ↔ ∀ h,B [bif g then .bool (e || f) else undef] h w := by
 cases g with
 | true =>
   rw [← GdW_pure]
   cases e <;> exact Iff.rfl
 | false =>
   constructor
   · rintro ⟨J,_,h2,h3⟩ h; exact h3 _ h _ (h2 rfl)
   · intro h; exact GdW.f h
theorem pick_gd_and (c e : Bool) (K : Value → Prop) : pickW (.bool c) (bif c then .bool e else undef) (.bool false) K ↔ K (.bool (c && e)) := by cases c <;> exact Iff.rfl
theorem pick_gd_or (c e : Bool) (K : Value → Prop) : pickW (.bool c) (.bool true) (bif !c then .bool e else undef) K ↔ K (.bool (c || e)) := by cases c <;> exact Iff.rfl
theorem isB_gd_t (c e : Bool) : isB (bif c then .bool e else undef) true = (c && e) := by cases c <;> cases e <;> rfl
theorem isB_gd_f (c e : Bool) : isB (bif c then .bool e else undef) false = (c && !e) := by cases c <;> cases e <;> rfl
theorem GdW.look {c : Bool} {w : World} {A : (List Value → World → Prop) → Prop} {B : List Value → Fr → World → Prop} (e : Bool) (h1 : c = true → ∀ J : List Value → World → Prop,J [.bool e] w → A J) (h2 : ∀ g,B [bif c then .bool e else undef] g w) : GdW c [undef] w A B := by
 refine ⟨fun s w' => s = [bif c then .bool e else undef] ∧ w' = w,fun hc => h1 hc _ ⟨by rw [hc]; rfl,rfl⟩,fun hc => ⟨by rw [hc]; rfl,rfl⟩,?_⟩
 rintro s g w' ⟨rfl,rfl⟩
 exact h2 g
theorem GdW.act {c : Bool} {w : World} {A : (List Value → World → Prop) → Prop} {B : List Value → Fr → World → Prop} (e : Bool) (R : World → Prop) (h0 : c = false → R w) (h1 : c = true → ∀ J : List Value → World → Prop,(∀ w',R w' → J [.bool e] w') → A J) (h2 : ∀ g w',R w' → B [bif c then .bool e else undef] g w') : GdW c [undef] w A B := by
 refine ⟨fun s w' => s = [bif c then .bool e else undef] ∧ R w',fun hc => h1 hc _ fun w' hR => ⟨by rw [hc]; rfl,hR⟩,fun hc => ⟨by rw [hc]; rfl,h0 hc⟩,?_⟩
 rintro s g w' ⟨rfl,hR⟩
 exact h2 g w' hR
theorem GqW_f (A : (Value → Prop) → Prop) (B : Value → Prop) : GqW false A B ↔ B undef := by
 constructor
 · rintro ⟨v,_,h,hb⟩; rw [← h rfl]; exact hb
 · intro h; exact ⟨undef,(fun e => by cases e),fun _ => rfl,h⟩
theorem GqW_t (A : (Value → Prop) → Prop) (B : Value → Prop) : GqW true A B ↔ ∃ v,A (fun x => x = v) ∧ B v := by
 constructor
 · rintro ⟨v,h,_,hb⟩; exact ⟨v,h rfl,hb⟩
 · rintro ⟨v,h,hb⟩; exact ⟨v,fun _ => h,(fun e => by cases e),hb⟩
theorem GdW_f (u : List Value) (w : World) (A : (List Value → World → Prop) → Prop) (B : List Value → Fr → World → Prop) : GdW false u w A B ↔ ∀ g,B u g w := by
 constructor
 · rintro ⟨J,_,h2,h3⟩ g; exact h3 _ g _ (h2 rfl)
 · intro h; exact GdW.f h
theorem isB_u (c : Bool) : isB undef c = false := rfl
theorem condW_b (b : Bool) (A B : Prop) : condW (.bool b) A B ↔ (b = true → A) ∧ (b = false → B) := Iff.rfl
def wsv0 := And.intro @put_nil <| And.intro @put_map <| And.intro @put_int <| And.intro @put_str <| And.intro @put_bool <| And.intro @put_ptr <| And.intro @put_slice <| And.intro @bin_add <| And.intro @bin_sub <| And.intro @bin_mul <|
 And.intro @bin_quo <| And.intro @bin_rem <| And.intro @bin_eql <| And.intro @bin_neq <| And.intro @bin_lss <| And.intro @bin_leq <| And.intro @bin_gtr <| And.intro @bin_geq <| And.intro @bin_sadd <| And.intro @bin_seq <| And.intro @bin_sne <|
 And.intro @bin_slt <| And.intro @bin_sgt <| And.intro @bin_sge <| And.intro @bin_sle <| And.intro @nil_ptr <| And.intro @fld_ptr <| And.intro @ld_one <| And.intro @one_int <| And.intro @one_bool <| And.intro @one_str <| And.intro @one_slice <|
 And.intro @one_ptr <| And.intro @one_map <| And.intro @ext_tuple <| And.intro @ixa_slice <| And.intro @ixa_arr <| And.intro @ixs_str <| And.intro @lens_str <| And.intro @lenl_sl <| And.intro @un_not <| And.intro @un_neg <| And.intro @cvt_int <|
 And.intro @min_int <| And.intro @max_int <| And.intro @bd_none <| And.intro @bd_some <| And.intro @sls_str <| And.intro @pick_t <| And.intro @pick_f <| And.intro @condW_true @condW_false
def wsg0 := And.intro @isB_u <| And.intro @GqW_f <| And.intro @GqW_t <| And.intro @GdW_f <| And.intro @GdW_pure <| And.intro @GdW_nest_and <| And.intro @GdW_nest_or <| And.intro @pick_gd_and <| And.intro @pick_gd_or <| And.intro @isB_gd_t <| And.intro @isB_gd_f <| And.intro @isB_t @isB_f
def wsh0 := And.intro @add_mk <| And.intro @cell_eq <| And.intro @cellO_some <| And.intro @frozen_eq <| And.intro @frO_zero <| And.intro @heap_drew @size_drew
def wsl0 := And.intro @true_and <| And.intro @and_true <| And.intro @Bool.and_true <| And.intro @Bool.and_false <| And.intro @Bool.true_and <| And.intro @Bool.false_and <| And.intro @Bool.or_true <|
 And.intro @Bool.or_false <| And.intro @Bool.true_or <| And.intro @Bool.false_or <| And.intro @Bool.not_true @Bool.not_false
theorem wsv : type_of% wsv0 := wsv0
theorem wsg : type_of% wsg0 := wsg0
theorem wsh : type_of% wsh0 := wsh0
theorem wsl : type_of% wsl0 := wsl0
universe u
def wsu0 := And.intro @Option.some.injEq.{u} <| And.intro @Option.isSome_some.{u} <| And.intro @List.getElem?_toArray.{u} <| And.intro @List.getElem?_cons_zero.{u} <| And.intro @List.getElem?_cons_succ.{u} <| And.intro @List.length_cons.{u} <| And.intro @List.length_nil.{u} <| And.intro @List.set_cons_zero.{u} <| And.intro @List.set_cons_succ.{u} <| And.intro @List.getD_cons_zero.{u} <| And.intro @List.getD_cons_succ.{u} <| And.intro @Nat.zero_add @Nat.add_zero
theorem wsu : type_of% wsu0.{u} := wsu0.{u}
end Go.Eng
namespace Go.Proofs.YtofhaneggcpdaaaGreatDoor
open Go Go.Eng
theorem mixed : Tryz.prog.follows .mixedOrders = true := by kernel_rfl
end Go.Proofs.YtofhaneggcpdaaaGreatDoor
namespace Go.Proofs.YtofhaneggcpdaaaGreatDoor
open Go Go.Eng Go.RowKit Go.Syn Go.Lex
set_option maxRecDepth 100000
abbrev TkT : TypeId := 64
abbrev ExT : TypeId := 35
abbrev AtT : TypeId := 40
abbrev BkT : TypeId := 38
abbrev FlT : TypeId := 28
abbrev PsT : TypeId := 61
abbrev IntT : TypeId := 3
abbrev StT : TypeId := 9
theorem el_ex : ElemT Tryz.prog 24 ExT 5 80 := ⟨by kernel_rfl,by kernel_rfl,by decide⟩
theorem el_bk : ElemT Tryz.prog 25 BkT 5 96 := ⟨by kernel_rfl,by kernel_rfl,by decide⟩
theorem el_at : ElemT Tryz.prog 36 AtT 3 32 := ⟨by kernel_rfl,by kernel_rfl,by decide⟩
theorem el_int : ElemT Tryz.prog 26 IntT 1 8 := ⟨by kernel_rfl,by kernel_rfl,by decide⟩
theorem el_st : ElemT Tryz.prog 33 StT 1 16 := ⟨by kernel_rfl,by kernel_rfl,by decide⟩
theorem el_tk : ElemT Tryz.prog 55 TkT 3 32 := ⟨by kernel_rfl,by kernel_rfl,by decide⟩
def ints (l : List Nat) : List Value := l.map fun n => i64 (n : Nat)
def strs (l : List Str) : List Value := l.map str
def atrs (l : List Atr) : List Value := l.flatMap fun a => [str a.n,i64 (a.e : Nat),i64 a.a]
def toks (l : List Tok) : List Value := l.flatMap fun t => [i64 t.k,str t.t,i64 t.a]
theorem ints_len (l : List Nat) : (ints l).length = l.length * 1 := by simp [ints]
theorem ints_app (a b : List Nat) : ints (a ++ b) = ints a ++ ints b := by simp [ints]
theorem strs_app (a b : List Str) : strs (a ++ b) = strs a ++ strs b := by simp [strs]
theorem flat3_len {α : Type} (f : α → List Value) (h : ∀ a,(f a).length = 3) : ∀ l : List α,(l.flatMap f).length = l.length * 3
 | [] => rfl
 | a :: l => by rw [List.flatMap_cons,List.length_append,h,flat3_len f h l,List.length_cons]; omega
theorem atrs_len (l : List Atr) : (atrs l).length = l.length * 3 := flat3_len _ (fun _ => rfl) l
theorem toks_len (l : List Tok) : (toks l).length = l.length * 3 := flat3_len _ (fun _ => rfl) l
theorem flat3_get {α : Type} (f : α → List Value) (h : ∀ a,(f a).length = 3) : ∀ (l : List α) (i j : Nat) (x : α),l[i]? = some x → j < 3 → (l.flatMap f)[i * 3 + j]? = (f x)[j]?
 | [],i,_,_,hi,_ => by simp at hi
 | a :: l,0,j,x,hi,hj => by
   simp only [List.getElem?_cons_zero,Option.some.injEq] at hi
   subst hi
   rw [List.flatMap_cons,List.getElem?_append_left (by rw [h]; omega),Nat.zero_mul,Nat.zero_add]
 | a :: l,i + 1,j,x,hi,hj => by
   rw [List.getElem?_cons_succ] at hi
   rw [List.flatMap_cons,List.getElem?_append_right (by rw [h]; omega),h,show (i + 1) * 3 + j - 3 = i * 3 + j by omega]
   exact flat3_get f h l i j x hi hj
theorem toks_get {l : List Tok} {i j : Nat} {t : Tok} (h : l[i]? = some t) (hj : j < 3) : (toks l)[i * 3 + j]? = [i64 t.k,str t.t,i64 t.a][j]? := flat3_get _ (fun _ => rfl) l i j t h hj
def RowsR {α : Type} (R : α → List Value → Prop) (n : Nat) (xs : List α) (c : List Value) : Prop := c.length = xs.length * n ∧ ∀ i x,xs[i]? = some x → R x ((c.drop (i * n)).take n)
theorem RowsR.nil {α : Type} (R : α → List Value → Prop) (n : Nat) : RowsR R n [] [] := ⟨by simp,fun i x h => by simp at h⟩
theorem RowsR.snoc {α : Type} {R : α → List Value → Prop} {n : Nat} {xs : List α} {c d : List Value} {x : α} (h : RowsR R n xs c) (hd : R x d) (hl : d.length = n) : RowsR R n (xs ++ [x]) (c ++ d) := by
 refine ⟨by rw [List.length_append,h.1,hl,List.length_append,List.length_cons,List.length_nil,Nat.add_mul]; omega,fun i y hy => ?_⟩
 by_cases hi : i < xs.length
 · rw [List.getElem?_append_left hi] at hy
   have := h.2 i y hy
   have hm : i * n + n ≤ xs.length * n := by rw [← Nat.succ_mul]; exact Nat.mul_le_mul_right _ hi
   rw [List.drop_append_of_le_length (by rw [h.1]; omega),List.take_append_of_le_length (by rw [List.length_drop,h.1]; omega)]
   exact this
 · rw [List.getElem?_append_right (by omega)] at hy
   have h0 : i - xs.length = 0 := by
     by_cases h0 : i - xs.length = 0
     · exact h0
     · rw [List.getElem?_eq_none (by simp; omega)] at hy; cases hy
   obtain rfl : i = xs.length := by omega
   rw [h0] at hy
   simp only [List.getElem?_cons_zero,Option.some.injEq] at hy
   subst hy
   rw [← h.1,List.drop_left,List.take_of_length_le (by omega)]
   exact hd
theorem RowsR.imp {α : Type} {R R' : α → List Value → Prop} {n : Nat} {xs : List α} {c : List Value} (h : RowsR R n xs c) (hi : ∀ x d,(∀ v ∈ d,v ∈ c) → R x d → R' x d) : RowsR R' n xs c :=
 ⟨h.1,fun i x hx => hi x _ (fun v hv => List.mem_of_mem_drop (List.mem_of_mem_take hv)) (h.2 i x hx)⟩
def ub (c : List Value) : List Nat := c.filterMap Value.ownBlock
theorem ub_app (a b : List Value) : ub (a ++ b) = ub a ++ ub b := List.filterMap_append
theorem ub_mem {c : List Value} {v : Value} {k : Nat} (hv : v ∈ c) (hk : v.ownBlock = some k) : k ∈ ub c := List.mem_filterMap.2 ⟨v,hv,hk⟩
theorem ub_one {v : Value} {k : Nat} : k ∈ ub [v] ↔ v.ownBlock = some k := by simp [ub]
structure Lay where
 vE : Value
 vB : Value
 vT : Value
 cE : List Value
 cB : List Value
def Lay.uses (M : Lay) (f : Nat) : List Nat := f :: ub ([M.vE,M.vB,M.vT] ++ (M.cE ++ M.cB))
def ExR (w : World) (B : Nat) (e : Ex) (c : List Value) : Prop :=
 ∃ va vk,c = [i64 e.k,str e.t,va,vk,i64 e.a] ∧ Own w B IntT 1 va e.args.length (ints e.args) ∧ Own w B StT 1 vk e.keys.length (strs e.keys)
def BkR (w : World) (B : Nat) (b : Blk) (c : List Value) : Prop :=
 ∃ vl va vb,c = [str b.typ,vl,va,vb,i64 b.a] ∧ Own w B StT 1 vl b.labels.length (strs b.labels) ∧ Own w B AtT 3 va b.attrs.length (atrs b.attrs) ∧ Own w B IntT 1 vb b.blocks.length (ints b.blocks)
theorem own_at {S : Nat → Prop} {w w' : World} {B : Nat} {e : TypeId} {n m : Nat} {v : Value} {xs : List Value} (h : Own w B e m v n xs) (hc : Chg S w w') (hS : ∀ k,v.ownBlock = some k → ¬ S k) : Own w' B e m v n xs := by
 obtain ⟨hl,hn | ⟨g,cap,cur,rfl,hb,hg,r⟩⟩ := h
 · exact ⟨hl,.inl hn⟩
 · exact ⟨hl,.inr ⟨g,cap,cur,rfl,hb,hc.at hg (hS g rfl),r⟩⟩
theorem own_lt {w : World} {B : Nat} {e : TypeId} {n m : Nat} {v : Value} {xs : List Value} (h : Own w B e m v n xs) {k : Nat} (hk : v.ownBlock = some k) : k < w.heap.size ∧ B ≤ k := by
 obtain ⟨h1,c,h2⟩ := h.block k hk
 exact ⟨at_lt h2,h1⟩
theorem ExR.at_ {S : Nat → Prop} {w w' : World} {B : Nat} {e : Ex} {c : List Value} (h : ExR w B e c) (hc : Chg S w w') (hS : ∀ k ∈ ub c,¬ S k) : ExR w' B e c := by
 obtain ⟨va,vk,rfl,h1,h2⟩ := h
 exact ⟨va,vk,rfl,own_at h1 hc fun k hk => hS k (ub_mem (v := va) (by simp) hk),own_at h2 hc fun k hk => hS k (ub_mem (v := vk) (by simp) hk)⟩
theorem BkR.at_ {S : Nat → Prop} {w w' : World} {B : Nat} {e : Blk} {c : List Value} (h : BkR w B e c) (hc : Chg S w w') (hS : ∀ k ∈ ub c,¬ S k) : BkR w' B e c := by
 obtain ⟨vl,va,vb,rfl,h1,h2,h3⟩ := h
 exact ⟨vl,va,vb,rfl,own_at h1 hc fun k hk => hS k (ub_mem (v := vl) (by simp) hk),own_at h2 hc fun k hk => hS k (ub_mem (v := va) (by simp) hk),own_at h3 hc fun k hk => hS k (ub_mem (v := vb) (by simp) hk)⟩
theorem ub_sub {c d : List Value} (h : ∀ v ∈ d,v ∈ c) : ∀ k ∈ ub d,k ∈ ub c := by
 intro k hk
 obtain ⟨v,hv,hk⟩ := List.mem_filterMap.1 hk
 exact ub_mem (h v hv) hk
structure FR (w : World) (B f : Nat) (M : Lay) (ex : List Ex) (bl : List Blk) (top : List Nat) : Prop where
 hf : w.heap[f]? = some (.cells [M.vE,M.vB,M.vT].toArray FlT (0,0))
 oE : Own w B ExT 5 M.vE ex.length M.cE
 oB : Own w B BkT 5 M.vB bl.length M.cB
 oT : Own w B IntT 1 M.vT top.length (ints top)
 ee : RowsR (ExR w B) 5 ex M.cE
 bb : RowsR (BkR w B) 5 bl M.cB
 nd : (M.uses f).Nodup
 lt : ∀ k ∈ M.uses f,k < w.heap.size
 lo : ∀ k ∈ M.uses f,k = f ∨ B ≤ k
theorem FR.keep {S : Nat → Prop} {w w' : World} {B f : Nat} {M : Lay} {ex : List Ex} {bl : List Blk} {top : List Nat} (h : FR w B f M ex bl top) (hc : Chg S w w') (hS : ∀ k ∈ M.uses f,¬ S k) : FR w' B f M ex bl top := by
 have hu : ∀ v ∈ [M.vE,M.vB,M.vT] ++ (M.cE ++ M.cB),∀ k,v.ownBlock = some k → ¬ S k := fun v hv k hk => hS k (List.mem_cons_of_mem _ (ub_mem hv hk))
 refine ⟨hc.at h.hf (hS f List.mem_cons_self),own_at h.oE hc (hu _ (by simp)),own_at h.oB hc (hu _ (by simp)),own_at h.oT hc (hu _ (by simp)),?_,?_,h.nd,fun k hk => Nat.lt_of_lt_of_le (h.lt k hk) hc.size,h.lo⟩
 · refine h.ee.imp fun x d hd hx => hx.at_ hc fun k hk => ?_
   exact hS k (List.mem_cons_of_mem _ (ub_sub (fun v hv => by simp [hd v hv]) k hk))
 · refine h.bb.imp fun x d hd hx => hx.at_ hc fun k hk => ?_
   exact hS k (List.mem_cons_of_mem _ (ub_sub (fun v hv => by simp [hd v hv]) k hk))
abbrev Of (f : Nat) : Nat → Prop := fun k => k = f
abbrev One (b : Nat) : Nat → Prop := fun k => k = b
structure PR (w0 w : World) (p f : Nat) (M : Lay) (vt : Value) (s : PS) (top : List Nat) : Prop where
 ch : Chg (Of f) w0 w
 fr : FR w w0.heap.size f M s.ex s.bl top
 ps : w.heap[p]? = some (.cells [vt,i64 (s.i : Nat),i64 s.off,.pointer (some ⟨f,0,none⟩),i64 (s.deep : Nat),.bool s.quiet].toArray PsT (0,0))
 tk : SlAt w TkT vt s.toks.length (toks s.toks)
 np : p ∉ M.uses f
 lo : w0.heap.size ≤ p
 nt : ∀ k,vt.ownBlock = some k → k ∉ M.uses f ∧ k ≠ p ∧ k < w.heap.size
section
variable {w0 w w' w1 w2 : World} {p f b k : Nat} {M M' M1 M2 : Lay} {vt : Value} {s : PS} {top : List Nat}
theorem PR.lt (h : PR w0 w p f M vt s top) : p < w.heap.size := at_lt h.ps
theorem PR.base (h : PR w0 w p f M vt s top) : w0.heap.size ≤ w.heap.size := h.ch.size
def Tn (p f : Nat) (M : Lay) (k : Nat) : Prop := k = p ∨ k = f ∨ M.vE.ownBlock = some k ∨ M.vB.ownBlock = some k
structure Eff (p f : Nat) (M M' : Lay) (w w' : World) : Prop where
 chg : Chg (Tn p f M) w w'
 us : ∀ k ∈ M'.uses f,k ∈ M.uses f ∨ w.heap.size ≤ k
 hE : ∀ k,M'.vE.ownBlock = some k → M.vE.ownBlock = some k ∨ w.heap.size ≤ k
 hB : ∀ k,M'.vB.ownBlock = some k → M.vB.ownBlock = some k ∨ w.heap.size ≤ k
 hT : M'.vT = M.vT
theorem Eff.of (h : Chg (Tn p f M) w w') : Eff p f M M w w' := ⟨h,fun _ h => .inl h,fun _ h => .inl h,fun _ h => .inl h,rfl⟩
theorem Eff.refl (p f : Nat) (M : Lay) (w : World) : Eff p f M M w w := Eff.of (Chg.refl _ _)
theorem Eff.ext (h : Ext w w') : Eff p f M M w w' := Eff.of (Chg.of_ext h)
theorem Eff.trans (h : Eff p f M M1 w w1) (h' : Eff p f M1 M2 w1 w2) : Eff p f M M2 w w2 := by
 have hz := h.chg.size
 refine ⟨h.chg.then h'.chg fun k hk e => ?_,fun k hk => ?_,fun k hk => ?_,fun k hk => ?_,h'.hT.trans h.hT⟩
 · rcases e with e | e | e | e
   · exact .inl e
   · exact .inr (.inl e)
   · exact .inr (.inr (.inl ((h.hE k e).resolve_right (by omega))))
   · exact .inr (.inr (.inr ((h.hB k e).resolve_right (by omega))))
 · exact (h'.us k hk).elim (h.us k) fun e => .inr (by omega)
 · exact (h'.hE k hk).elim (h.hE k) fun e => .inr (by omega)
 · exact (h'.hB k hk).elim (h.hB k) fun e => .inr (by omega)
theorem Eff.then {S : Nat → Prop} (h : Eff p f M M1 w w1) (hc : Chg S w1 w2) (hS : ∀ k,k < w.heap.size → ¬ S k) : Eff p f M M1 w w2 := ⟨h.chg.then hc fun k hk e => (hS k hk e).elim,h.us,h.hE,h.hB,h.hT⟩
theorem Eff.x (h : Eff p f M M1 w w1) (hc : Ext w1 w2) : Eff p f M M1 w w2 := h.then hc fun _ _ e => e
theorem Eff.one (h : Eff p f M M1 w w1) (hc : Chg (One b) w1 w2) (hb : w.heap.size ≤ b) : Eff p f M M1 w w2 := h.then hc fun k hk e => by have e : k = b := e; omega
theorem Eff.anew {q : Nat} (hx : Ext w0 w) (h : Eff q f M M' w w') (hq : w0.heap.size ≤ q) : Eff p f M M' w0 w' := by
 have hz := hx.size
 refine ⟨(Chg.of_ext hx).then h.chg fun k hk e => ?_,fun k hk => (h.us k hk).imp id (by omega),fun k hk => (h.hE k hk).imp id (by omega),fun k hk => (h.hB k hk).imp id (by omega),h.hT⟩
 rcases e with e | e | e | e
 · omega
 · exact .inr (.inl e)
 · exact .inr (.inr (.inl e))
 · exact .inr (.inr (.inr e))
theorem tn_use (h : Tn p f M k) : k = p ∨ k ∈ M.uses f := by
 rcases h with h | h | h | h
 · exact .inl h
 · exact .inr (by subst h; exact List.mem_cons_self)
 · exact .inr (List.mem_cons_of_mem _ (ub_mem (v := M.vE) (by simp) h))
 · exact .inr (List.mem_cons_of_mem _ (ub_mem (v := M.vB) (by simp) h))
def Off (w0 w : World) (p f : Nat) (M : Lay) (vt : Value) (k : Nat) : Prop := (w0.heap.size ≤ k ∧ k < w.heap.size) ∧ k ≠ p ∧ k ∉ M.uses f ∧ vt.ownBlock ≠ some k
theorem Off.no (h : Off w0 w p f M vt k) : ¬ Tn p f M k := fun e => (tn_use e).elim h.2.1 h.2.2.1
theorem Off.eff (h : Off w0 w p f M vt k) (he : Eff p f M M' w w') : Off w0 w' p f M' vt k :=
 ⟨⟨h.1.1,Nat.lt_of_lt_of_le h.1.2 he.chg.size⟩,h.2.1,fun e => (he.us k e).elim h.2.2.1 fun e => by have := h.1.2; omega,h.2.2.2⟩
theorem Off.up (h : Off w0 w p f M vt k) (hz : w.heap.size ≤ w'.heap.size) : Off w0 w' p f M vt k := ⟨⟨h.1.1,Nat.lt_of_lt_of_le h.1.2 hz⟩,h.2⟩
theorem PR.off_new (h : PR w0 w p f M vt s top) (hk : w.heap.size ≤ k) (hk' : k < w'.heap.size) : Off w0 w' p f M vt k :=
 ⟨⟨Nat.le_trans h.base hk,hk'⟩,fun e => by have := h.lt; omega,fun e => by have := h.fr.lt k e; omega,fun e => by have := (h.nt k e).2.2; omega⟩
theorem Eff.at_ {o : Obj} (he : Eff p f M M' w w') (hk : w.heap[k]? = some o) (h : Off w0 w p f M vt k) : w'.heap[k]? = some o := he.chg.at hk h.no
theorem Eff.own {B : Nat} {e : TypeId} {n m : Nat} {v : Value} {xs : List Value} (he : Eff p f M M' w w') (h : Own w B e m v n xs) (ho : ∀ k,v.ownBlock = some k → Off w0 w p f M vt k) : Own w' B e m v n xs := own_at h he.chg fun k hk => (ho k hk).no
theorem PR.keep {S : Nat → Prop} (h : PR w0 w p f M vt s top) (hc : Chg S w w') (hb : ∀ k,k < w0.heap.size → ¬ S k) (hS : ∀ k ∈ M.uses f,¬ S k) (hp : ¬ S p) (ht : ∀ k,vt.ownBlock = some k → ¬ S k) : PR w0 w' p f M vt s top := by
 refine ⟨h.ch.then hc fun k hk e => (hb k hk e).elim,h.fr.keep hc hS,hc.at h.ps hp,?_,h.np,h.lo,fun k hk => ⟨(h.nt k hk).1,(h.nt k hk).2.1,Nat.lt_of_lt_of_le (h.nt k hk).2.2 hc.size⟩⟩
 obtain ⟨q,cap,hv,h1,h2,h3⟩ := h.tk
 refine ⟨q,cap,hv,h1,h2,fun hne => ?_⟩
 obtain ⟨b,off,c,fr,hq,hb,hcs⟩ := h3 hne
 exact ⟨b,off,c,fr,hq,hc.at hb (ht b (by rw [hv,hq]; rfl)),hcs⟩
theorem PR.ext (h : PR w0 w p f M vt s top) (hc : Ext w w') : PR w0 w' p f M vt s top := h.keep hc (fun _ _ e => e) (fun _ _ e => e) (fun e => e) fun _ _ e => e
theorem ext_drew (w : World) : Ext w w.drew := Chg.drew (Chg.refl _ _)
theorem PR.drew (h : PR w0 w p f M vt s top) : PR w0 w.drew p f M vt s top := h.ext (ext_drew w)
theorem PR.one {w3 : World} (h : PR w0 w p f M vt s top) (hc : Chg (One b) w w') (ho : Off w0 w3 p f M vt b) : PR w0 w' p f M vt s top :=
 h.keep hc (fun k hk e => by have e : k = b := e; have := ho.1.1; omega) (fun k hk e => ho.2.2.1 (by have e : k = b := e; exact e ▸ hk)) (fun e => ho.2.1 e.symm) fun k hk e => ho.2.2.2 (by have e : k = b := e; rw [hk,e])
theorem PR.ld {off : Nat} {v : Value} {K : Value → Prop} (h : PR w0 w p f M vt s top) (hv : [vt,i64 (s.i : Nat),i64 s.off,.pointer (some ⟨f,0,none⟩),i64 (s.deep : Nat),.bool s.quiet][off]? = some v) (hk : K v) :
   nilW (.pointer (some ⟨p,0,none⟩)) fun t => fldW off t fun t => ldW false 1 t w K := by
 rw [nil_ptr,fld_ptr,ld_one]
 refine ⟨v,?_,hk⟩
 rw [add_mk,cell_eq,h.ps,cellO_some,Nat.zero_add]
 simpa using hv
theorem PR.self {s' : PS} (h : PR w0 w p f M vt s top) (hc : Chg (One p) w w') (hb : w'.heap[p]? = some (.cells [vt,i64 (s'.i : Nat),i64 s'.off,.pointer (some ⟨f,0,none⟩),i64 (s'.deep : Nat),.bool s'.quiet].toArray PsT (0,0)))
   (h1 : s'.toks = s.toks) (h2 : s'.ex = s.ex) (h3 : s'.bl = s.bl) : PR w0 w' p f M vt s' top := by
 refine ⟨h.ch.then hc fun k hk e => (by have e : k = p := e; have := h.lo; omega),by rw [h2,h3]; exact h.fr.keep hc fun k hk e => h.np (by have e : k = p := e; exact e ▸ hk),hb,?_,h.np,h.lo,fun k hk => ⟨(h.nt k hk).1,(h.nt k hk).2.1,Nat.lt_of_lt_of_le (h.nt k hk).2.2 hc.size⟩⟩
 rw [h1]
 obtain ⟨q,cap,hv,g1,g2,g3⟩ := h.tk
 refine ⟨q,cap,hv,g1,g2,fun hne => ?_⟩
 obtain ⟨b,off,c,fr,hq,hb,hcs⟩ := g3 hne
 exact ⟨b,off,c,fr,hq,hc.at hb ((h.nt b (by rw [hv,hq]; rfl)).2.1),hcs⟩
theorem eff_self (hc : Chg (One p) w w') : Eff p f M M w w' := Eff.of (hc.mono fun k _ e => .inl e)
theorem PR.st_i {i : Nat} {K : World → Prop} (h : PR w0 w p f M vt s top) (hK : ∀ w',PR w0 w' p f M vt { s with i := i } top → Eff p f M M w w' → w'.heap.size = w.heap.size → K w') :
   nilW (.pointer (some ⟨p,0,none⟩)) fun t => fldW 1 t fun t => stW 1 t (i64 (i : Nat)) w K := by
 rw [nil_ptr,fld_ptr,add_mk,Nat.zero_add]
 refine st_at h.ps rfl (by simp) fun w' hz hb hc => hK w' (h.self hc (by rw [hb]; simp) rfl rfl rfl) (eff_self hc) hz
theorem PR.st_deep {i : Nat} {K : World → Prop} (h : PR w0 w p f M vt s top) (hK : ∀ w',PR w0 w' p f M vt { s with deep := i } top → Eff p f M M w w' → w'.heap.size = w.heap.size → K w') :
   nilW (.pointer (some ⟨p,0,none⟩)) fun t => fldW 4 t fun t => stW 1 t (i64 (i : Nat)) w K := by
 rw [nil_ptr,fld_ptr,add_mk,Nat.zero_add]
 refine st_at h.ps rfl (by simp) fun w' hz hb hc => hK w' (h.self hc (by rw [hb]; simp) rfl rfl rfl) (eff_self hc) hz
theorem PR.st_quiet {q : Bool} {K : World → Prop} (h : PR w0 w p f M vt s top) (hK : ∀ w',PR w0 w' p f M vt { s with quiet := q } top → Eff p f M M w w' → w'.heap.size = w.heap.size → K w') :
   nilW (.pointer (some ⟨p,0,none⟩)) fun t => fldW 5 t fun t => stW 1 t (.bool q) w K := by
 rw [nil_ptr,fld_ptr,add_mk,Nat.zero_add]
 refine st_at h.ps rfl (by simp) fun w' hz hb hc => hK w' (h.self hc (by rw [hb]; simp) rfl rfl rfl) (eff_self hc) hz
theorem PR.go {K : World → Prop} (h : PR w0 w p f M vt s top) (hi : s.i ≤ 1000000) (hK : ∀ w',PR w0 w' p f M vt (step1 s) top → Eff p f M M w w' → w'.heap.size = w.heap.size → K w') :
   nilW (.pointer (some ⟨p,0,none⟩)) fun t => fldW 1 t fun t => ldW false 1 t w fun t => binW .add t (.int .i64 1) fun t1 => nilW (.pointer (some ⟨p,0,none⟩)) fun t => fldW 1 t fun t => stW 1 t t1 w K := by
 refine h.ld rfl ?_
 rw [bin_add,wrap_id (by omega) (by omega)]
 exact h.st_i (i := s.i + 1) hK
def Loc (w0 w : World) (p f : Nat) (M : Lay) (vt : Value) (b : Nat) (T : TypeId) (cs : List Value) : Prop := w.heap[b]? = some (.cells cs.toArray T (0,0)) ∧ Off w0 w p f M vt b
variable {T : TypeId} {cs : List Value}
theorem Loc.eff (h : Loc w0 w p f M vt b T cs) (he : Eff p f M M' w w') : Loc w0 w' p f M' vt b T cs := ⟨he.at_ h.1 h.2,h.2.eff he⟩
theorem Loc.ext (h : Loc w0 w p f M vt b T cs) (hx : Ext w w') : Loc w0 w' p f M vt b T cs := h.eff (Eff.ext hx)
theorem Loc.drew (h : Loc w0 w p f M vt b T cs) : Loc w0 w.drew p f M vt b T cs := h.ext (ext_drew w)
theorem Loc.one {b' : Nat} (h : Loc w0 w p f M vt b T cs) (hc : Chg (One b') w w') (hb : b ≠ b') : Loc w0 w' p f M vt b T cs := ⟨hc.at h.1 hb,h.2.up hc.size⟩
theorem Loc.lt (h : Loc w0 w p f M vt b T cs) : b < w.heap.size := h.2.1.2
theorem Loc.ld {off : Nat} {v : Value} {K : Value → Prop} (h : Loc w0 w p f M vt b T cs) (hv : cs[off]? = some v) (hk : K v) : ldW false 1 (.pointer (some ⟨b,off,none⟩)) w K := by
 rw [ld_one]
 refine ⟨v,?_,hk⟩
 rw [cell_eq,h.1,cellO_some]
 simpa using hv
theorem Loc.ldf {off : Nat} {v : Value} {K : Value → Prop} (h : Loc w0 w p f M vt b T cs) (hv : cs[off]? = some v) (hk : K v) : fldW off (.pointer (some ⟨b,0,none⟩)) fun t => ldW false 1 t w K := by
 rw [fld_ptr,add_mk,Nat.zero_add]
 exact h.ld hv hk
theorem Loc.st {off : Nat} {v : Value} {K : World → Prop} (h : Loc w0 w p f M vt b T cs) (h1 : one1 v = true) (hoff : off < cs.length)
   (hK : ∀ w',Loc w0 w' p f M vt b T (cs.set off v) → Chg (One b) w w' → w'.heap.size = w.heap.size → K w') : stW 1 (.pointer (some ⟨b,off,none⟩)) v w K :=
 st_at h.1 h1 (by simpa using hoff) fun w' hz hb hc => hK w' ⟨by rw [hb]; simp,h.2.up (by omega)⟩ hc hz
theorem PR.loc (h : PR w0 w p f M vt s top) {w' : World} (hz : w'.heap.size = w.heap.size + 1) {b : Nat} (hb : b = w.heap.size) (hc : w'.heap[b]? = some (.cells cs.toArray T (0,0))) : Loc w0 w' p f M vt b T cs := ⟨hc,h.off_new (by omega) (by omega)⟩
end
end Go.Proofs.YtofhaneggcpdaaaGreatDoor
namespace Go.Syn
open Go Go.Eng Go.Lex
def wt (t : Tok) : Nat := if t.k = 0 then 0 else if t.k = 3 ∧ (insP t.t).isSome = true then t.t.length + 2 else 1
def wts (l : List Tok) : Nat := (l.map wt).sum
def phi (s : PS) : Nat := s.ex.length + s.bl.length + wts (s.toks.drop s.i)
theorem wts_cons (t : Tok) (l : List Tok) : wts (t :: l) = wt t + wts l := by simp [wts]
theorem wts_drop : ∀ (l : List Tok) (i : Nat),wts (l.drop i) ≤ wts l
 | [],i => by simp
 | t :: l,0 => Nat.le_refl _
 | t :: l,i + 1 => by
   rw [List.drop_succ_cons,wts_cons]
   have := wts_drop l i
   omega
theorem scanF_wt : ∀ (n : Nat) (s : Str) (a cnt : Nat) (l : List Tok),scanF n s a cnt = .ok l → wts l ≤ s.length
 | 0,_,_,_,_,h => by simp [scanF] at h
 | n + 1,s,a,cnt,l,h => by
   have hk := skip_le (s.length + 1) s
   simp only [scanF] at h
   split at h
   · cases h
   split at h
   · injection h with h
     subst h
     rw [wts_cons]
     simp [wt,wts]
   rename_i hr
   split at h
   · cases h
   rename_i ho
   split at h
   · cases h
   have hlen : s.length - (skipF (s.length + 1) s).1 = (s.drop (skipF (s.length + 1) s).1).length := (List.length_drop ..).symm
   obtain ⟨o1,o2,o3,o4,o5,o6⟩ := one_ok hr (Prod.ext rfl (Prod.ext rfl (Classical.not_not.1 ho)) : oneM (s.drop (skipF (s.length + 1) s).1) = ((oneM (s.drop (skipF (s.length + 1) s).1)).1,(oneM (s.drop (skipF (s.length + 1) s).1)).2.1,0))
   split at h
   · rename_i l' hl'
     injection h with h
     subst h
     have ih := scanF_wt n _ _ _ _ hl'
     rw [List.length_drop] at ih
     rw [wts_cons]
     have : wt ⟨(oneM (s.drop (skipF (s.length + 1) s).1)).1.k,(oneM (s.drop (skipF (s.length + 1) s).1)).1.t,((a + (skipF (s.length + 1) s).1 : Nat) : Int)⟩ ≤ (oneM (s.drop (skipF (s.length + 1) s).1)).2.1 := by
       unfold wt
       split
       · omega
       split
       · rename_i hx
         rcases o6 hx.1 with h | h
         · rw [h] at hx; simp at hx
         · exact h
       · omega
     omega
   · rename_i hne
     exact absurd h (hne l)
theorem scan_wt {s : Str} {l : List Tok} (h : scanM s = .ok l) : wts l ≤ s.length := by
 unfold scanM at h
 split at h
 · cases h
 split at h
 · cases h
 exact scanF_wt _ _ _ _ _ h
abbrev TT : Int → Prop := fun _ => True
theorem phi_now (s : PS) : phi (nowS s) ≤ phi s := by
 unfold nowS
 split
 · unfold phi
   simp only
   have := wts_drop (s.toks.drop s.i) (lineRun (s.toks.drop s.i))
   rw [List.drop_drop] at this
   omega
 · exact Nat.le_refl _
theorem phi_step {s : PS} (h : (tokI s).k ≠ 0) : phi (step1 s) + wt (tokI s) ≤ phi s := by
 have hlt : s.i < s.toks.length := by
   by_cases hl : s.i < s.toks.length
   · exact hl
   · unfold tokI at h
     rw [List.getD_eq_getElem?_getD,List.getElem?_eq_none (by omega)] at h
     exact absurd rfl h
 unfold phi step1
 simp only
 rw [List.drop_eq_getElem_cons hlt,wts_cons]
 have : tokI s = s.toks[s.i] := by unfold tokI; rw [List.getD_eq_getElem?_getD,List.getElem?_eq_getElem hlt]; rfl
 rw [this]
 omega
theorem wt_pos {t : Tok} (h : t.k ≠ 0) : 1 ≤ wt t := by unfold wt; rw [if_neg h]; split <;> omega
theorem phi_go {s : PS} (h : (cur s).k ≠ 0) : phi (step1 (nowS s)) + wt (tokI (nowS s)) ≤ phi s ∧ phi (step1 (nowS s)) + 1 ≤ phi s := by
 have h' : (tokI (nowS s)).k ≠ 0 := h
 have h1 := phi_step h'
 have h2 := phi_now s
 have h3 := wt_pos h'
 omega
theorem phi_take (s : PS) (w : Str) : phi (takeS s w).2 ≤ phi s ∧ ((takeS s w).1 = true → phi (takeS s w).2 + 1 ≤ phi s) := by
 unfold takeS
 split
 · rename_i hi
   have := (phi_go (is_kind hi)).2
   exact ⟨Nat.le_of_succ_le this,fun _ => this⟩
 · exact ⟨phi_now s,fun e => by cases e⟩
theorem phi_want (s : PS) (w : Str) : Sat (wantR s w) (fun _ s' => phi s' + 1 ≤ phi s) TT := by
 unfold wantR
 split
 · rename_i hi
   exact (phi_go (is_kind hi)).2
 · trivial
theorem phi_next (s : PS) : phi (nextS s) ≤ phi s ∧ ((cur s).k ≠ 0 → phi (nextS s) + wt (tokI (nowS s)) ≤ phi s ∧ phi (nextS s) + 1 ≤ phi s) := by
 unfold nextS
 split
 · rename_i hk
   have := phi_go hk
   exact ⟨by omega,fun _ => this⟩
 · rename_i hk
   exact ⟨phi_now s,fun e => absurd e hk⟩
theorem phi_kind (s : PS) (k : Int) : Sat (kindR s k) (fun _ s' => phi s' ≤ phi s ∧ (k ≠ 0 → phi s' + 1 ≤ phi s)) TT := by
 unfold kindR
 split
 · rename_i hk
   have := phi_next s
   exact ⟨this.1,fun h => (this.2 (by rw [hk]; exact h)).2⟩
 · trivial
theorem phi_lines (s : PS) : phi (linesS s) ≤ phi s := by
 have h := phi_now s
 unfold linesS phi at *
 simp only at *
 have e : (nowS s).toks = s.toks := by unfold nowS; split <;> rfl
 have := wts_drop ((nowS s).toks.drop (nowS s).i) (lineRun (s.toks.drop (nowS s).i))
 rw [List.drop_drop] at this
 omega
theorem phi_put (s : PS) (e : Ex) : Sat (putR s e) (fun _ s' => phi s' ≤ phi s + 1) TT := by
 show phi _ ≤ _
 unfold phi
 simp only [List.length_append,List.length_cons,List.length_nil]
 omega
theorem phi_within {α : Type} {s : PS} {a : Int} {q : Bool} {f : PS → R α} {P : α → Nat → Prop} (h : Sat (f { s with deep := s.deep + 1,quiet := q }) (fun x s' => P x (phi s')) TT) : Sat (within s a q f) (fun x s' => P x (phi s')) TT := by
 unfold within
 split
 · trivial
 · exact h.bind fun x s' hx => hx
def EZ (F : PS → R Nat) : Prop := ∀ s,Sat (F s) (fun _ s' => phi s' ≤ phi s) TT
section
variable {E S : PS → R Nat}
theorem phi_inner (hE : EZ E) (s : PS) (t : Str) (a : Int) : Sat (innerR E s t a) (fun _ s' => phi s' ≤ phi s + t.length) TT := by
 unfold innerR
 split
 · trivial
 · rename_i l hs
   have hw := scan_wt hs
   refine (hE _).bind fun x q hq => ?_
   refine (phi_kind q 0).bind fun _ q' hq' => ?_
   have h1 : phi q' ≤ s.ex.length + s.bl.length + wts l := Nat.le_trans hq'.1 hq
   show phi _ ≤ _
   unfold phi at h1 ⊢
   simp only
   omega
theorem phi_plain (s : PS) (t : Tok) : Sat (plainR s t) (fun _ s' => s' = s) TT := by
 unfold plainR
 split
 · trivial
 · rfl
theorem phi_parts (hE : EZ E) : ∀ (n : Nat) (s : PS) (rest : Str) (a : Int) (us : List Nat) (ks : List Str),Sat (partsF E n s rest a us ks) (fun _ s' => phi s' ≤ phi s + rest.length) TT
 | 0,_,_,_,_,_ => trivial
 | n + 1,s,rest,a,us,ks => by
   have one : ∀ (e : Ex),phi { s with ex := s.ex ++ [e] } ≤ phi s + 1 := fun e => phi_put s e
   simp only [partsF]
   split
   · exact Nat.le_add_right _ _
   rename_i hne
   have hpos : 1 ≤ rest.length := List.length_pos_iff.2 hne
   split
   · have := one ⟨5,saysM rest,[],[],a⟩
     show phi _ ≤ _
     omega
   · rename_i i e hi
     obtain ⟨i1,i2,i3⟩ := ins_some rest.length rest (Nat.le_refl _) i e hi
     have hs1 : ∃ s1,s1 = (if 0 < i then { s with ex := s.ex ++ [⟨5,saysM (rest.take i),[],[],a⟩] } else s) ∧ phi s1 ≤ phi s + i := by
       refine ⟨_,rfl,?_⟩
       split
       · have := one ⟨5,saysM (rest.take i),[],[],a⟩
         omega
       · omega
     obtain ⟨s1,e1,g1⟩ := hs1
     rw [← e1]
     have hd : (rest.drop e).length = rest.length - e := List.length_drop ..
     split
     · refine Sat.bind (phi_within (P := fun _ n => n ≤ phi s1 + (e - 1 - (i + 2))) ?_) fun x s2 h2 => ?_
       · refine (phi_inner hE _ _ _).mono fun x s' h => ?_
         refine Nat.le_trans h ?_
         have : ((rest.drop (i + 2)).take (e - 1 - (i + 2))).length ≤ e - 1 - (i + 2) := List.length_take_le _ _
         exact Nat.add_le_add_left this _
       · refine (phi_parts hE n s2 (rest.drop e) _ _ _).mono fun y s3 h3 => ?_
         rw [hd] at h3
         omega
     · refine (phi_parts hE n s1 (rest.drop e) _ _ _).mono fun y s3 h3 => ?_
       rw [hd] at h3
       omega
theorem phi_text (hE : EZ E) (s : PS) (t : Tok) (hk : t.k = 3) : Sat (textR E s t) (fun _ s' => phi s' ≤ phi s + wt t) TT := by
 unfold textR
 split
 · rename_i hi
   have e : wt t = t.t.length + 2 := by unfold wt; rw [if_neg (by omega),if_pos ⟨hk,hi⟩]
   refine (phi_parts hE _ s t.t _ _ _).bind fun x s1 h1 => ?_
   refine (phi_put s1 _).mono fun y s2 h2 => ?_
   omega
 · rename_i hi
   have e : wt t = 1 := by unfold wt; rw [if_neg (by omega),if_neg (fun h => hi h.2)]
   rw [e]
   exact phi_put s _
theorem phi_argsF (hE : EZ E) (w : Str) : ∀ (n : Nat) (s : PS) (out : List Nat),Sat (argsF E w n s out) (fun _ s' => phi s' ≤ phi s) TT
 | 0,_,_ => trivial
 | n + 1,s,out => by
   have t1 := phi_take s w
   have step : ∀ {s1 : PS},phi s1 ≤ phi s → Sat ((E s1).bind fun x s' => argsF E w n s' (out ++ [x])) (fun _ s' => phi s' ≤ phi s) TT := fun {s1} g1 =>
     (hE s1).bind fun x s2 g2 => (phi_argsF hE w n s2 (out ++ [x])).mono fun y s3 g3 => by omega
   simp only [argsF]
   split
   · exact t1.1
   split
   · rename_i ho
     have := step t1.1
     exact this
   · refine (phi_want _ [44]).bind fun _ s1 g1 => ?_
     have t2 := phi_take s1 w
     split
     · show phi _ ≤ _
       omega
     · exact step (by omega)
theorem phi_args (hE : EZ E) (w : Str) (s : PS) : Sat (argsR E w s) (fun _ s' => phi s' ≤ phi s) TT := phi_argsF hE w _ s []
theorem phi_list (hE : EZ E) {s : PS} (h : (cur s).k ≠ 0) (hn : nowS s = s) (a : Int) : Sat (listR E s a) (fun _ s' => phi s' + 1 ≤ phi s) TT := by
 have h0 := (phi_go h).2
 rw [hn] at h0
 have h1 := phi_now (step1 s)
 unfold listR
 simp only
 split
 · refine (phi_args hE [93] _).bind fun us s1 g1 => ?_
   show phi s1 + 1 ≤ _
   omega
 · rename_i hc
   have hk1 : (cur (step1 s)).k ≠ 0 := fun e => hc (.inl (by rw [e]; decide))
   have h2 := (phi_go hk1).2
   refine (phi_kind _ 1).bind fun t s2 g2 => (phi_kind s2 1).bind fun u s3 g3 => ?_
   split
   · trivial
   refine (hE s3).bind fun x s4 g4 => (phi_want s4 _).bind fun _ s5 g5 => (hE s5).bind fun y s6 g6 => (phi_want s6 _).bind fun _ s7 g7 => ?_
   show phi s7 + 1 ≤ _
   omega
theorem phi_objF (hE : EZ E) (a : Int) : ∀ (n : Nat) (s : PS) (us : List Nat) (ks : List Str),Sat (objF E a n s us ks) (fun _ s' => phi s' ≤ phi s) TT
 | 0,_,_,_ => trivial
 | n + 1,s,us,ks => by
   have t1 := phi_take s [125]
   have n1 := phi_next (takeS s [125]).2
   simp only [objF]
   split
   · exact t1.1
   refine Sat.bind (P := fun _ s3 => s3 = nextS (takeS s [125]).2) ?_ fun k s3 e3 => ?_
   · split
     · exact phi_plain _ _
     · split
       · rfl
       · trivial
   subst e3
   split
   · trivial
   refine (phi_want _ [61]).bind fun _ s4 g4 => (hE s4).bind fun x s5 g5 => ?_
   have t5 := phi_take s5 [44]
   have m5 := phi_now (takeS s5 [44]).2
   split
   · trivial
   have l6 : phi (if (takeS s5 [44]).1 = true then (takeS s5 [44]).2 else nowS (takeS s5 [44]).2) ≤ phi s5 := by split <;> omega
   generalize (if (takeS s5 [44]).1 = true then (takeS s5 [44]).2 else nowS (takeS s5 [44]).2) = s6 at *
   have l7 := phi_lines s6
   refine (phi_objF hE a n (linesS s6) _ _).mono fun e s8 g8 => ?_
   omega
theorem phi_atom (hE : EZ E) : EZ (atomR E) := by
 intro s
 have n1 := phi_now s
 have is_now : ∀ w,isS (nowS s) w = isS s w := fun w => by unfold isS; rw [cur_now]
 unfold atomR
 simp only
 split
 · rename_i hk
   have h2 := (phi_go (s := s) (by rw [hk]; decide)).2
   exact (phi_put _ _).mono fun x s' g => by omega
 split
 · rename_i hk
   have h2 := (phi_go (s := s) (by rw [hk]; decide)).1
   refine (phi_text hE _ _ hk).mono fun x s' g => ?_
   have e : wt (cur s) = wt (tokI (nowS s)) := rfl
   omega
 split
 · rename_i hk
   have h2 := (phi_go (s := s) (by rw [hk.1]; decide)).2
   have n2 := phi_now (step1 (nowS s))
   split
   · rename_i hi
     refine Sat.bind (phi_within (P := fun _ n => n ≤ phi (nowS (step1 (nowS s)))) ?_) fun us s2 g2 => ?_
     · refine (phi_args hE [41] _).mono fun x s' g => Nat.le_trans g ?_
       show phi (step1 _) ≤ _
       exact Nat.add_le_add_left (by have := wts_drop ((nowS (step1 (nowS s))).toks.drop (nowS (step1 (nowS s))).i) 1; rw [List.drop_drop] at this; exact this) _
     · exact (phi_put s2 _).mono fun x s' g => by omega
   · exact (phi_put _ _).mono fun x s' g => by omega
 have step1_le : ∀ (s : PS),phi (step1 s) ≤ phi s := fun s => Nat.add_le_add_left (by have := wts_drop (s.toks.drop s.i) 1; rw [List.drop_drop] at this; exact this) _
 have ph : ∀ (s : PS) (d : Nat) (q : Bool),phi { s with deep := d,quiet := q } = phi s := fun _ _ _ => rfl
 split
 · refine Sat.mono (phi_within (P := fun _ n => n ≤ phi (nowS s)) ?_) fun x s' g => by omega
   refine (hE _).bind fun x q1 g1 => (phi_want q1 _).bind fun _ q2 g2 => ?_
   show phi q2 ≤ _
   have h1 := step1_le (nowS s)
   have h2 : phi q1 ≤ phi (step1 (nowS s)) := g1
   omega
 split
 · rename_i hi
   rw [is_now] at hi
   have hk : (tokI (nowS s)).k ≠ 0 := is_kind hi
   have h4 : (tokI (nowS s)).k = 4 := by
     unfold isS cur at hi
     simp only [Bool.and_eq_true,decide_eq_true_eq] at hi
     exact hi.1
   refine Sat.bind (phi_within (P := fun _ n => n + 1 ≤ phi (nowS s)) ?_) fun e s2 g2 => ?_
   · have hr : nowS { nowS s with deep := (nowS s).deep + 1,quiet := true } = { nowS s with deep := (nowS s).deep + 1,quiet := true } := by
       have hlt : (nowS s).i < (nowS s).toks.length := by
         by_cases hl : (nowS s).i < (nowS s).toks.length
         · exact hl
         · unfold tokI at hk
           rw [List.getD_eq_getElem?_getD,List.getElem?_eq_none (by omega)] at hk
           exact absurd rfl hk
       have : lineRun ((nowS s).toks.drop (nowS s).i) = 0 := by
         refine run_here (t := tokI (nowS s)) ?_ (by omega)
         unfold tokI
         rw [List.getD_eq_getElem?_getD,List.getElem?_eq_getElem hlt]; rfl
       unfold nowS
       simp only [if_true]
       show ({ nowS s with i := (nowS s).i + lineRun ((nowS s).toks.drop (nowS s).i),deep := (nowS s).deep + 1,quiet := true } : PS) = _
       rw [this]
       rfl
     refine (phi_list hE ?_ hr _).mono fun e s' g => g
     unfold cur
     rw [hr]
     exact hk
   · exact (phi_put s2 _).mono fun x s' g => by omega
 split
 · rename_i hi
   rw [is_now] at hi
   have hk : (tokI (nowS s)).k ≠ 0 := is_kind hi
   have h1 := phi_step hk
   have h2 := wt_pos hk
   refine Sat.bind (phi_within (P := fun _ n => n + 1 ≤ phi (nowS s)) ?_) fun e s2 g2 => ?_
   · unfold objR
     refine (phi_objF hE _ _ _ [] []).mono fun e s' g => ?_
     have h3 := phi_lines (step1 (⟨(nowS s).toks,(nowS s).i,(nowS s).off,(nowS s).deep + 1,false,(nowS s).ex,(nowS s).bl⟩ : PS))
     have h4 : phi (step1 (⟨(nowS s).toks,(nowS s).i,(nowS s).off,(nowS s).deep + 1,false,(nowS s).ex,(nowS s).bl⟩ : PS)) = phi (step1 (nowS s)) := rfl
     omega
   · exact (phi_put s2 _).mono fun x s' g => by omega
 · trivial
theorem phi_postF (hE : EZ E) : ∀ (n : Nat) (s : PS) (x : Nat),Sat (postF E n s x) (fun _ s' => phi s' ≤ phi s) TT
 | 0,_,_ => trivial
 | n + 1,s,x => by
   have n1 := phi_now s
   have t1 := phi_take (nowS s) [46]
   have is_now : ∀ w,isS (nowS s) w = isS s w := fun w => by unfold isS; rw [cur_now]
   have step1_le : ∀ (s : PS),phi (step1 s) ≤ phi s := fun s => Nat.add_le_add_left (by have := wts_drop (s.toks.drop s.i) 1; rw [List.drop_drop] at this; exact this) _
   simp only [postF]
   split
   · rename_i ht
     refine (phi_kind _ 1).bind fun u s2 g2 => (phi_put s2 _).bind fun y s3 g3 => (phi_postF hE n s3 y).mono fun z s4 g4 => ?_
     have := t1.2 ht
     have := g2.2 (by decide)
     omega
   split
   · rename_i hi
     rw [is_now] at hi
     have hk : (tokI (nowS s)).k ≠ 0 := is_kind hi
     have h1 := phi_step hk
     have h2 := wt_pos hk
     refine Sat.bind (phi_within (P := fun _ n => n + 1 ≤ phi (nowS s)) ?_) fun o s2 g2 => ?_
     · have h4 : phi (step1 (⟨(nowS s).toks,(nowS s).i,(nowS s).off,(nowS s).deep + 1,true,(nowS s).ex,(nowS s).bl⟩ : PS)) = phi (step1 (nowS s)) := rfl
       have t5 := phi_take (step1 (⟨(nowS s).toks,(nowS s).i,(nowS s).off,(nowS s).deep + 1,true,(nowS s).ex,(nowS s).bl⟩ : PS)) [42]
       split
       · refine (phi_want _ _).bind fun _ q2 g => ?_
         show phi q2 + 1 ≤ _
         omega
       · refine (hE _).bind fun y q1 g => (phi_want q1 _).bind fun _ q2 g' => ?_
         show phi q2 + 1 ≤ _
         omega
     · cases o with
       | some y =>
         simp only
         exact (phi_put s2 _).bind fun z s3 g3 => (phi_postF hE n s3 z).mono fun z s4 g4 => by omega
       | none =>
         simp only
         exact (phi_want s2 _).bind fun _ s3 g3 => (phi_kind s3 1).bind fun u s4 g4 => (phi_put s4 _).bind fun z s5 g5 => (phi_postF hE n s5 z).mono fun z s6 g6 => by have := g4.1; omega
   · exact n1
theorem phi_post (hE : EZ E) : EZ (postR E) := fun s => by
 unfold postR
 exact (phi_atom hE s).bind fun x s1 g1 => (phi_postF hE _ s1 x).mono fun y s2 g2 => by omega
theorem phi_sign (hE : EZ E) (hS : EZ S) : EZ (signR E S) := by
 intro s
 have n1 := phi_now s
 have is_now : ∀ w,isS (nowS s) w = isS s w := fun w => by unfold isS; rw [cur_now]
 have one : ∀ (w : Str) (k : Int),isS s w = true → Sat ((within (nowS s) (cur s).a (nowS s).quiet fun q => S (step1 q)).bind fun x s2 => putR s2 ⟨k,[],[x],[],(cur s).a⟩) (fun _ s' => phi s' ≤ phi s) TT := fun w k hi => by
   have hk : (tokI (nowS s)).k ≠ 0 := is_kind hi
   have h1 := phi_step hk
   have h2 := wt_pos hk
   refine Sat.bind (phi_within (P := fun _ n => n + 1 ≤ phi (nowS s)) ?_) fun x s2 g2 => ?_
   · refine (hS _).mono fun x s' g => ?_
     have h4 : phi (step1 (⟨(nowS s).toks,(nowS s).i,(nowS s).off,(nowS s).deep + 1,(nowS s).quiet,(nowS s).ex,(nowS s).bl⟩ : PS)) = phi (step1 (nowS s)) := rfl
     omega
   · exact (phi_put s2 _).mono fun y s3 g3 => by omega
 unfold signR
 simp only
 split
 · rename_i hi
   rw [is_now] at hi
   exact one [33] 14 hi
 split
 · rename_i hi
   rw [is_now] at hi
   exact one [45] 13 hi
 · exact (phi_post hE (nowS s)).mono fun x s2 g2 => by omega
theorem phi_joinF {J : PS → R Nat} (hJ : EZ J) (k : Nat) : ∀ (f : Nat) (s : PS) (x : Nat),Sat (joinF J k f s x) (fun _ s' => phi s' ≤ phi s) TT
 | 0,_,_ => trivial
 | f + 1,s,x => by
   have n1 := phi_now s
   simp only [joinF]
   split
   · exact n1
   · rename_i hl
     have hk0 : (cur s).k ≠ 0 := fun e => hl (by unfold levelK; rw [e]; rfl)
     have h2 := (phi_go hk0).2
     exact (hJ _).bind fun b s1 g1 => (phi_put s1 _).bind fun y s2 g2 => (phi_joinF hJ k f s2 y).mono fun z s3 g3 => by omega
theorem phi_joinU (hE : EZ E) (hS : EZ S) : ∀ m,EZ (joinU E S m)
 | 0 => phi_sign hE hS
 | m + 1 => fun s => by
   simp only [joinU]
   exact (phi_joinU hE hS m s).bind fun a s1 g1 => (phi_joinF (phi_joinU hE hS m) _ _ s1 a).mono fun y s2 g2 => by omega
theorem phi_expr (hE : EZ E) (hS : EZ S) : EZ (exprR E S) := by
 intro s
 unfold exprR
 refine (phi_joinU hE hS 6 s).bind fun a s1 g1 => ?_
 have t1 := phi_take s1 [63]
 simp only
 split
 · rename_i ht
   refine Sat.bind (phi_within (P := fun _ n => n ≤ phi (takeS s1 [63]).2) ?_) fun z s2 g2 => ?_
   · refine (hE _).bind fun x q1 g3 => (phi_want q1 _).bind fun _ q2 g4 => (hE q2).bind fun y q3 g5 => ?_
     have h4 : phi (⟨(takeS s1 [63]).2.toks,(takeS s1 [63]).2.i,(takeS s1 [63]).2.off,(takeS s1 [63]).2.deep + 1,(takeS s1 [63]).2.quiet,(takeS s1 [63]).2.ex,(takeS s1 [63]).2.bl⟩ : PS) = phi (takeS s1 [63]).2 := rfl
     show phi q3 ≤ _
     omega
   · exact (phi_put s2 _).mono fun y s3 g3 => by have := t1.2 ht; omega
 · show phi _ ≤ _
   omega
end
theorem dead_z : EZ dead := fun _ => trivial
theorem exprD_z : ∀ d,EZ (exprD d).1 ∧ EZ (exprD d).2
 | 0 => ⟨phi_expr dead_z dead_z,phi_sign dead_z dead_z⟩
 | d + 1 => ⟨phi_expr (exprD_z d).1 (exprD_z d).2,phi_sign (exprD_z d).1 (exprD_z d).2⟩
section
variable {E B : PS → R Nat}
theorem phi_labels : ∀ (n : Nat) (s : PS) (ls : List Str),Sat (labelsF n s ls) (fun _ s' => phi s' ≤ phi s) TT
 | 0,_,_ => trivial
 | n + 1,s,ls => by
   have n1 := phi_next s
   simp only [labelsF]
   split
   · exact (phi_plain _ _).bind fun l s1 e1 => by subst e1; exact (phi_labels n _ (ls ++ [l])).mono fun _ s2 g => by omega
   · exact phi_now s
theorem wts_le (l : List Tok) {i j : Nat} (h : i ≤ j) : wts (l.drop j) ≤ wts (l.drop i) := by
 have := wts_drop (l.drop i) (j - i)
 rw [List.drop_drop,show i + (j - i) = j by omega] at this
 exact this
theorem now_i (s : PS) : s.i ≤ (nowS s).i := by unfold nowS; split; exact Nat.le_add_right _ _; exact Nat.le_refl _
theorem phi_item (hE : EZ E) (hB : EZ B) (s : PS) (us : List Atr) (bs : List Nat) : Sat (itemR E B s us bs) (fun _ s' => phi s' ≤ phi s) TT := by
 unfold itemR
 refine Sat.bind (P := fun _ s1 => s1 = step1 (nowS s) ∧ phi s1 + 1 ≤ phi s) ?_ fun t s1 ⟨e1,h1⟩ => ?_
 · unfold kindR
   split
   · rename_i hk
     have hk0 : (cur s).k ≠ 0 := by rw [hk]; decide
     refine ⟨by unfold nextS; rw [if_pos hk0],((phi_next s).2 hk0).2⟩
   · trivial
 have t1 := phi_take s1 [61]
 split
 · exact (hE _).bind fun x s2 h2 => by show phi s2 ≤ _; omega
 · rename_i ht
   refine Sat.bind (hB _) fun x s2 h2 => ?_
   show phi s2 ≤ _
   refine Nat.le_trans h2 ?_
   have e2 : (takeS s1 [61]).2 = nowS s1 := by
     unfold takeS at ht ⊢
     split
     · rename_i hi; rw [if_pos hi] at ht; exact absurd rfl ht
     · rfl
   rw [e2]
   have hi : s.i ≤ (nowS s1).i - 1 := by
     have h1 := now_i s
     have h2 := now_i s1
     have h3 : s1.i = (nowS s).i + 1 := by rw [e1]; rfl
     omega
   have x1 : (nowS s1).ex = s.ex := (now_ex s1).1.trans (by rw [e1]; exact (now_ex s).1)
   have x2 : (nowS s1).bl = s.bl := (now_ex s1).2.trans (by rw [e1]; exact (now_ex s).2)
   have x3 : (nowS s1).toks = s.toks := by
     have h1 : ∀ s : PS,(nowS s).toks = s.toks := fun s => by unfold nowS; split <;> rfl
     rw [h1,e1]; exact h1 s
   unfold phi
   simp only
   rw [x1,x2,x3]
   have := wts_le s.toks hi
   omega
theorem phi_items (hE : EZ E) (hB : EZ B) : ∀ (n : Nat) (s : PS) (us : List Atr) (bs : List Nat),Sat (itemsF E B n s us bs) (fun _ s' => phi s' ≤ phi s) TT
 | 0,_,_,_ => trivial
 | n + 1,s,us,bs => by
   have t1 := phi_take s [125]
   simp only [itemsF]
   split
   · exact t1.1
   refine (phi_item hE hB _ us bs).bind fun x s1 g1 => ?_
   have m1 := phi_now s1
   split
   · trivial
   have l1 := phi_lines (nowS s1)
   exact (phi_items hE hB n _ x.1 x.2).mono fun y s2 g2 => by omega
theorem phi_block (hE : EZ E) (hB : EZ B) : EZ (blockR E B) := by
 intro s
 unfold blockR
 refine (phi_kind s 1).bind fun t s1 g1 => (phi_labels _ s1 []).bind fun ls s2 g2 => ?_
 have n2 := phi_now s2
 split
 · trivial
 refine Sat.bind (phi_within (P := fun _ n => n ≤ phi (nowS s2)) ?_) fun x s3 g3 => ?_
 · refine (phi_items hE hB _ _ [] []).mono fun x s' g => ?_
   have h3 := phi_lines (step1 (⟨(nowS s2).toks,(nowS s2).i,(nowS s2).off,(nowS s2).deep + 1,false,(nowS s2).ex,(nowS s2).bl⟩ : PS))
   have h4 : phi (step1 (⟨(nowS s2).toks,(nowS s2).i,(nowS s2).off,(nowS s2).deep + 1,false,(nowS s2).ex,(nowS s2).bl⟩ : PS)) ≤ phi (nowS s2) := Nat.add_le_add_left (wts_le _ (Nat.le_succ _)) _
   omega
 · show phi _ ≤ _
   have h1 := g1.2 (by decide)
   have e : phi { s3 with bl := s3.bl ++ [⟨t.t,ls,x.1,x.2,t.a⟩] } = phi s3 + 1 := by
     unfold phi
     simp only [List.length_append,List.length_cons,List.length_nil]
     omega
   have e' : phi (⟨s3.toks,s3.i,s3.off,s3.deep,s3.quiet,s3.ex,s3.bl ++ [⟨t.t,ls,x.1,x.2,t.a⟩]⟩ : PS) = phi s3 + 1 := e
   omega
end
theorem blockD_z : ∀ d,EZ (blockD d)
 | 0 => phi_block dead_z dead_z
 | d + 1 => phi_block (exprD_z d).1 (blockD_z d)
theorem phi_ex (s : PS) : s.ex.length ≤ phi s ∧ s.bl.length ≤ phi s := by unfold phi; omega
end Go.Syn
namespace Go.Eng
open Go
section
variable {P : Program}
def DefC (P : Program) (g : FuncId) (caps : List Value) (u : FrameMode) (w : World) (K : World → Prop) : Prop :=
 CallsD P g caps.toArray u w fun e u' w' => (∃ v,e = .returned v) ∧ settle u' = .returning ∧ K w'
def defOf : List Oper → Option (Nat × FuncId × List Operand)
 | [o1,o2] =>
   match o1.guard,o2.guard,o1.dst,o1.op,o2.dst,o2.op with
   | none,none,some t,.makeFunc (.func g) first caps,none,.defer c =>
     match first.toList,c.callee,c.args.toList with
     | [],.value (.tmp t'),[] => bif Nat.beq t t' then some (t,g,caps.toList) else none
     | _,_,_ => none
   | _,_,_,_,_,_ => none
 | _ => none
def retW (P : Program) (fn : Func) (R : Ending → World → Prop) (f : Fr) (w : World) : Prop := resW P fn.results.toList f w fun l => R (.returned (one l)) w
def codeD (P : Program) (pl : Plan) (fn : Func) (R : Ending → World → Prop) : Nat → Code → Nat → Fr → World → Prop
 | 0,.seq (.region _ ops _) b,i,f,w =>
   match defOf ops.toList with
   | some (t,g,caps) =>
     @codeW ⟨fun ch w' => DefC P g (caps.map (ev f)) (.panicking ch) w' fun w'' => retW P fn R f w''⟩ P pl b (i + 2) (upd f (some t) (.func (.func g) #[] (caps.map (ev f)).toArray)) w
       (fun f' w' => DefC P g (caps.map (ev f)) .returning w' fun w'' => retW P fn R f' w'') (fun _ _ _ => False) (fun f' w' => DefC P g (caps.map (ev f)) .returning w' fun w'' => retW P fn R f' w'')
   | none => False
 | k + 1,.seq a b,i,f,w => @codeW ⟨fun ch w' => R (.panicked ch) w'⟩ P pl a (i + 1) f w (fun f' w' => codeD P pl fn R k b (i + 1 + nodes a) f' w') (fun _ _ _ => False) (fun f' w' => retW P fn R f' w')
 | _,_,_,_,_ => False
def resIn (lo t : Nat) : ResultVar → Bool
 | .tmp x => Nat.blt x lo && !(Nat.beq x t)
 | .cell x _ => Nat.blt x lo && !(Nat.beq x t)
def chkD (P : Program) (fn : Func) (pl : Plan) (lo gd : Nat) : Nat → Code → Nat → Bool
 | 0,.seq (.region _ ops draw) b,i => !draw && (lk pl.js i).isNone &&
   (match defOf ops.toList with
   | some (t,g,_) => Nat.blt t fn.ntmps && Nat.beq g gd && fn.results.toList.all (resIn lo t) && chk P fn.ntmps pl [] lo b (i + 2)
   | none => false)
 | k + 1,.seq a b,i => (lk pl.js i).isNone && chk P fn.ntmps pl [] 0 a (i + 1) && chkD P fn pl lo gd k b (i + 1 + nodes a)
 | _,_,_ => false
theorem ldW_mono {agg : Bool} {n : Nat} {x : Value} {w : World} {K K' : Value → Prop} (hk : ∀ v,K v → K' v) (h : ldW agg n x w K) : ldW agg n x w K' := by
 cases x with
 | pointer a =>
   cases a with
   | none => exact h
   | some a =>
     cases agg with
     | true => obtain ⟨l,h1,h2⟩ := h; exact ⟨l,h1,hk _ h2⟩
     | false => obtain ⟨l,h1,h2⟩ := h; exact ⟨l,h1,hk _ h2⟩
 | _ => exact h
theorem resW_same {f f' : Fr} {w : World} : ∀ {l : List ResultVar} {K : List Value → Prop},(∀ t,(∃ r ∈ l,r = .tmp t ∨ ∃ T,r = .cell t T) → f t = f' t) → resW P l f w K → resW P l f' w K
 | [],_,_,h => h
 | r :: l,K,h,hk => by
   have hl : ∀ t,(∃ r ∈ l,r = .tmp t ∨ ∃ T,r = .cell t T) → f t = f' t := fun t ⟨r',hr,e⟩ => h t ⟨r',List.mem_cons_of_mem _ hr,e⟩
   cases r with
   | tmp t => simp only [resW] at hk ⊢; rw [← h t ⟨_,List.mem_cons_self,.inl rfl⟩]; exact resW_same hl hk
   | cell t T =>
     simp only [resW] at hk ⊢
     rw [← h t ⟨_,List.mem_cons_self,.inr ⟨T,rfl⟩⟩]
     obtain ⟨h1,h2⟩ := andB.out hk
     rw [h1]
     exact ldW_mono (fun v hv => resW_same hl hv) h2
theorem defC_leaves {fn : Func} {R : Ending → World → Prop} {g : FuncId} {caps : List Value} {u : FrameMode} {w : World} {f : Fr} {a : Act} (hr : ∀ (ar : Array Value) (w : World),(callFunc g ar).run P w = .ok (.enter g ar) w) (hu : u ≠ .run)
   (ha : ∀ t,(∃ r ∈ fn.results.toList,r = .tmp t ∨ ∃ T,r = .cell t T) → f t = a.tmps.getD t undef) (h : DefC P g caps u w fun w'' => retW P fn R f w'') :
   Leaves P fn a.tmps R [{ target := .fn (.func g) caps.toArray,args := #[] }] u w := by
 refine leaves_cons (f := g) (args := caps.toArray) hu ?_ (h.mono ?_)
 · have := hr (#[] ++ caps.toArray) w
   rw [show (#[] ++ caps.toArray : Array Value) = caps.toArray from by simp] at this
   show (callFunc g (#[] ++ caps.toArray)).run P w = _
   rw [show (#[] ++ caps.toArray : Array Value) = caps.toArray from by simp]
   exact this
 · rintro e u' w' ⟨⟨v,rfl⟩,hs,hk⟩
   show Leaves P fn a.tmps R [] (settle u') w'
   rw [hs]
   have hag : Ag a.tmps.size a.defers (fun t => a.tmps.getD t undef) a := ⟨rfl,rfl,fun _ => rfl⟩
   letI := noX
   obtain ⟨v',hk',hr'⟩ := results_run (fn := fn) (K := fun v => R (.returned v) w') hag (resW_same ha hk)
   exact ⟨v',hr',hk'⟩
theorem defOf_some {l : List Oper} {t : Nat} {g : FuncId} {caps : List Operand} (h : defOf l = some (t,g,caps)) : ∃ o1 o2 first cp c,l = [o1,o2] ∧ o1.guard = none ∧ o2.guard = none ∧ o1.dst = some t ∧ o1.op = .makeFunc (.func g) first cp ∧ first = #[] ∧ cp.toList = caps ∧ o2.dst = none ∧ o2.op = .defer c ∧ c.callee = .value (.tmp t) ∧ c.args = #[] := by
 unfold defOf at h
 split at h
 · rename_i o1 o2
   split at h
   · rename_i t' g' first cp c e1 e2 e3 e4 e5 e6
     split at h
     · rename_i t'' h1 h2 h3
       cases hb : Nat.beq t' t'' with
       | false => rw [hb] at h; cases h
       | true =>
         rw [hb] at h
         simp only [cond_true,Option.some.injEq,Prod.mk.injEq] at h
         obtain ⟨rfl,rfl,rfl⟩ := h
         have : t' = t'' := Nat.eq_of_beq_eq_true hb
         subst this
         exact ⟨o1,o2,first,cp,c,rfl,e1,e2,e3,e4,by simpa using h1,rfl,e5,e6,h2,by simpa using h3⟩
     · cases h
   · cases h
 · cases h
theorem codeD_sound (hm : P.follows .mixedOrders = true) {pl : Plan} {fn : Func} {R : Ending → World → Prop} {lo gd : Nat} (hr : ∀ (ar : Array Value) (w : World),(callFunc gd ar).run P w = .ok (.enter gd ar) w) :
   ∀ (k : Nat) (c : Code) (i : Nat) (f : Fr) (a : Act) (w : World),chkD P fn pl lo gd k c i = true → Ag fn.ntmps [] f a → codeD P pl fn R k c i f w → c.wp P (bodyPostD P fn R) a w := by
 intro k
 induction k with
 | zero =>
   intro c i f a w hc hag h
   cases c with
   | seq x b =>
     cases x with
     | region id ops draw =>
       simp only [codeD] at h
       simp only [chkD,Bool.and_eq_true,Bool.not_eq_true'] at hc
       obtain ⟨⟨hdr,hl⟩,hc⟩ := hc
       cases hd : defOf ops.toList with
       | none => simp only [hd] at h
       | some x =>
         obtain ⟨t,g,caps⟩ := x
         simp only [hd,Bool.and_eq_true] at h hc
         obtain ⟨⟨⟨ht,hg⟩,hres⟩,hchk⟩ := hc
         obtain rfl : g = gd := Nat.eq_of_beq_eq_true hg
         obtain ⟨o1,o2,first,cp,cl,hops,g1,g2,d1,p1,rfl,rfl,d2,p2,hcl,hca⟩ := defOf_some hd
         subst hdr
         refine wp_seq (wp_region_list ?_)
         have hops' : ops = [o1,o2].toArray := by rw [← hops]
         subst hops'
         have htn : t < fn.ntmps := by simpa using ht
         have hv : (cp.toList.map (ev f)).toArray = cp.map a.eval := by
           rw [eval_fun hag]
           apply Array.ext'
           simp
         show wpList P [o1,o2].toArray _ [o1,o2] a w
         letI := noX
         refine op_step (K := fun v w' => v = .func (.func g) #[] (cp.toList.map (ev f)).toArray ∧ w' = w) hag (by simp [wantF,g1]) ?_ ?_ (fun _ _ h => h.elim)
         · unfold anyW
           rw [p1]
           exact ⟨rfl,rfl⟩
         · rintro v w' ⟨rfl,rfl⟩
           have hag1 := hag.put (d := some t) (fun x hx => by cases hx; exact htn) (.func (.func g) #[] (cp.toList.map (ev f)).toArray)
           rw [d1]
           unfold wpList
           rw [if_pos (by rw [want_ag hag1]; simp [wantF,g2])]
           refine .inl ?_
           unfold Oper.wp
           have hex : (execOp (a.put (some t) (.func (.func g) #[] (cp.toList.map (ev f)).toArray)).eval o2).run P w' = .ok (.defer { target := .fn (.func g) (cp.toList.map (ev f)).toArray,args := #[] }) w' := by
             rw [eval_fun hag1]
             unfold execOp
             rw [p2]
             have e : ev (upd f (some t) (.func (.func g) #[] (cp.toList.map (ev f)).toArray)) (.tmp t) = .func (.func g) #[] (cp.toList.map (ev f)).toArray := by
               simp [ev,upd_some]
             simp [resolve,hcl,hca,Deferred.ofValue,run_bind,run_pure,e]
           rw [hex,Oper.upon_defer,d2]
           clear hex
           have hag2 : Ag fn.ntmps [{ target := .fn (.func g) (cp.toList.map (ev f)).toArray,args := #[] }] (upd f (some t) (.func (.func g) #[] (cp.toList.map (ev f)).toArray)) ({ (a.put (some t) (.func (.func g) #[] (cp.toList.map (ev f)).toArray)) with defers := { target := .fn (.func g) (cp.toList.map (ev f)).toArray,args := #[] } :: (a.put (some t) (.func (.func g) #[] (cp.toList.map (ev f)).toArray)).defers }.put none undef) := by
             refine ⟨?_,hag1.2.1,hag1.2.2⟩
             show _ :: (a.put _ _).defers = _
             rw [hag1.1]
           generalize ({ (a.put (some t) (.func (.func g) #[] (cp.toList.map (ev f)).toArray)) with defers := { target := .fn (.func g) (cp.toList.map (ev f)).toArray,args := #[] } :: (a.put (some t) (.func (.func g) #[] (cp.toList.map (ev f)).toArray)).defers }.put none undef) = a2 at hag2 ⊢
           show b.wp P (bodyPostD P fn R) a2 w'
           refine @codeW_sound ⟨fun ch w' => DefC P g (cp.toList.map (ev f)) (.panicking ch) w' fun w'' => retW P fn R f w''⟩ P fn.ntmps [{ target := .fn (.func g) (cp.toList.map (ev f)).toArray,args := #[] }] pl hm b [] lo (i + 2) _ a2 w' _ _ _ _ hchk hag2 h (fun f' a' w' hag' _ hk => ?_) (fun _ _ _ _ _ _ hk => hk.elim) (fun f' a' w' hag' _ hk => ?_) (fun ch a' w' hd ht hx => ?_)
           · show Leaves P fn a'.tmps R a'.defers .returning w'
             rw [hag'.1]
             exact defC_leaves hr (by simp) (fun t _ => (hag'.2.2 t).symm) hk
           · show Leaves P fn a'.tmps R a'.defers .returning w'
             rw [hag'.1]
             exact defC_leaves hr (by simp) (fun t _ => (hag'.2.2 t).symm) hk
           · show Leaves P fn a'.tmps R a'.defers (.panicking ch) w'
             rw [hd]
             refine defC_leaves (f := f) hr (by simp) (fun x hx' => ?_) hx
             have hin : x < lo ∧ x ≠ t := by
               obtain ⟨r,hrm,hr'⟩ := hx'
               have := List.all_eq_true.1 hres r hrm
               have h2 : (Nat.blt x lo && !(Nat.beq x t)) = true := by
                 rcases hr' with rfl | ⟨T,rfl⟩
                 · exact this
                 · exact this
               simp only [Bool.and_eq_true,Bool.not_eq_true'] at h2
               refine ⟨by simpa using h2.1,fun e => ?_⟩
               rw [e] at h2
               have h3 := h2.2
               rw [Nat.beq_refl] at h3
               cases h3
             have hlt : Nat.ble lo x = false := by
               cases hb : Nat.ble lo x with
               | false => rfl
               | true => exact absurd (Nat.lt_of_lt_of_le hin.1 (Nat.le_of_ble_eq_true hb)) (Nat.lt_irrefl _)
             rw [ht x (by unfold inS; rw [hlt]; rfl)]
             simp [upd_some,hin.2]
     | _ => simp [chkD] at hc
   | _ => simp [chkD] at hc
 | succ k ih =>
   intro c i f a w hc hag h
   cases c with
   | seq x y =>
     simp only [codeD] at h
     simp only [chkD,Bool.and_eq_true] at hc
     obtain ⟨⟨hl,hc1⟩,hc2⟩ := hc
     refine wp_seq ?_
     letI : HX := ⟨fun ch w' => R (.panicked ch) w'⟩
     refine codeW_sound hm x [] 0 (i + 1) f a w _ _ _ _ hc1 hag h (fun f' a' w' hag' _ h' => ih y _ f' a' w' hc2 hag' h') (fun _ _ _ _ _ _ hk => hk.elim) (fun f' a' w' hag' _ hk => ?_) (fun ch a' w' hd _ hx => ?_)
     · show Leaves P fn a'.tmps R a'.defers .returning w'
       rw [hag'.1]
       obtain ⟨v',hk',hr'⟩ := results_run (fn := fn) (K := fun v => R (.returned v) w') hag' hk
       exact ⟨v',hr',hk'⟩
     · show Leaves P fn a'.tmps R a'.defers (.panicking ch) w'
       rw [hd]
       exact hx
   | _ => simp [chkD] at hc
def funD (P : Program) (fn : Func) (pl : Plan) (k : Nat) (args : List Value) (w : World) (R : Ending → World → Prop) : Prop :=
 match fn.body with
 | some c => codeD P pl fn R k c 0 (fr0 args) w
 | none => False
def chkFunD (P : Program) (fn : Func) (pl : Plan) (lo gd k na : Nat) : Bool :=
 match fn.body with
 | some c => Nat.ble na fn.ntmps && chkD P fn pl lo gd k c 0
 | none => false
theorem enter_ag {nt : Nat} {args : List Value} (hle : args.length ≤ nt) : Ag nt [] (fr0 args) { tmps := args.toArray ++ Array.replicate (nt - args.toArray.size) undef,defers := [] } := by
 refine ⟨rfl,by simp; omega,fun t => ?_⟩
 simp only [Array.getD_eq_getD_getElem?,Array.getElem?_append,List.size_toArray,List.getElem?_toArray,Array.getElem?_replicate,fr0,List.getD_eq_getElem?_getD]
 split
 · rfl
 · rename_i hlt
   rw [List.getElem?_eq_none (by omega)]
   split <;> rfl
theorem funD_sound {g : FuncId} {fn : Func} {pl : Plan} {args : List Value} {w : World} {R : Ending → World → Prop} {lo gd k : Nat} (hm : P.follows .mixedOrders = true) (hf : P.funcs[g]? = some fn) (hr : ∀ (ar : Array Value) (w : World),(callFunc gd ar).run P w = .ok (.enter gd ar) w)
   (hc : chkFunD P fn pl lo gd k args.length = true) (h : funD P fn pl k args w R) : Calls P g args.toArray w R := by
 unfold funD at h
 unfold chkFunD at hc
 cases hb : fn.body with
 | none => rw [hb] at h; exact h.elim
 | some c =>
   rw [hb] at h hc
   simp only [Bool.and_eq_true] at hc
   exact calls_of_wp_defers hf hb (codeD_sound hm hr k c 0 _ _ w hc.2 (enter_ag (Nat.le_of_ble_eq_true hc.1)) h)
theorem tieD [HX] (P : Program) (g : FuncId) (fn : Func) (pl : Plan) (args : List Value) (w : World) (K : Value → World → Prop) (lo gd k na : Nat) (X : Prop) (hk : args.length = na) (hm : P.follows .mixedOrders = true) (hf : P.funcs[g]? = some fn)
   (hc : chkFunD P fn pl lo gd k na = true) (he : funD P fn pl k args w (EndK K) = X) (hr : ∀ (az : Array Value) (w : World),(callFunc g az).run P w = .ok (.enter g az) w) (hrd : ∀ (ar : Array Value) (w : World),(callFunc gd ar).run P w = .ok (.enter gd ar) w) (h : X) : callF P g args w K := by
 unfold callF
 rw [hr]
 exact funD_sound hm hf hrd (by rw [hk]; exact hc) (by rw [he]; exact h)
end
end Go.Eng
namespace Go.Eng
open Go
section
variable {P : Program}
def recOf : List Oper → Option (Nat × Nat)
 | [o1,o2] =>
   match o1.guard,o2.guard,o1.dst,o1.op,o2.dst,o2.op with
   | none,none,some t,.call c,some t2,.assign (.tmp t') =>
     match c.callee,c.args.toList with
     | .builtin .recover,[] => bif Nat.beq t t' then some (t,t2) else none
     | _,_ => none
   | _,_,_,_,_,_ => none
 | _ => none
theorem recOf_some {l : List Oper} {t t2 : Nat} (h : recOf l = some (t,t2)) : ∃ o1 o2 c,l = [o1,o2] ∧ o1.guard = none ∧ o2.guard = none ∧ o1.dst = some t ∧ o1.op = .call c ∧ o2.dst = some t2 ∧ o2.op = .assign (.tmp t) ∧ c.callee = .builtin .recover ∧ c.args = #[] := by
 unfold recOf at h
 split at h
 · rename_i o1 o2
   split at h
   · rename_i t0 c t2' t' e1 e2 e3 e4 e5 e6
     split at h
     · rename_i h1 h2
       cases hb : Nat.beq t0 t' with
       | false => rw [hb] at h; cases h
       | true =>
         rw [hb] at h
         simp only [cond_true,Option.some.injEq,Prod.mk.injEq] at h
         obtain ⟨rfl,rfl⟩ := h
         have : t0 = t' := Nat.eq_of_beq_eq_true hb
         subst this
         exact ⟨o1,o2,c,rfl,e1,e2,e3,e4,e5,e6,h1,by simpa using h2⟩
     · cases h
   · cases h
 · cases h
def funR (P : Program) (fn : Func) (pl : Plan) (args : List Value) (x : Value) (w : World) (K : World → Prop) : Prop :=
 match fn.body with
 | some (.seq (.region _ ops _) b) =>
   match recOf ops.toList with
   | some (t,t2) => @codeW noX P pl b 2 (upd (upd (fr0 args) (some t) x) (some t2) x) w (fun _ w' => K w') (fun _ _ _ => False) (fun _ w' => K w')
   | none => False
 | _ => False
def chkFunR (P : Program) (fn : Func) (pl : Plan) (na : Nat) : Bool :=
 match fn.body with
 | some (.seq (.region _ ops draw) b) => !draw && Nat.ble na fn.ntmps && fn.results.toList.isEmpty &&
   (match recOf ops.toList with
   | some (t,t2) => Nat.blt t fn.ntmps && Nat.blt t2 fn.ntmps && chk P fn.ntmps pl [] 0 b 2
   | none => false)
 | _ => false
inductive Finds : FrameMode → Value → Prop
 | idle : Finds .returning .nilIface
 | thrown (v : Value) : Finds (.panicking [{ v,recovered := false }]) v
theorem funR_sound {g : FuncId} {fn : Func} {pl : Plan} {args : List Value} {x : Value} {u : FrameMode} {w : World} {K : World → Prop} (hm : P.follows .mixedOrders = true) (hf : P.funcs[g]? = some fn) (hc : chkFunR P fn pl args.length = true)
   (hu : Finds u x) (h : funR P fn pl args x w K) : DefC P g args u w K := by
 unfold funR at h
 unfold chkFunR at hc
 split at h
 · rename_i id ops draw b hb
   rw [hb] at hc
   simp only [Bool.and_eq_true,Bool.not_eq_true'] at hc
   obtain ⟨⟨⟨hd,hle⟩,hres⟩,hc⟩ := hc
   subst hd
   cases ho : recOf ops.toList with
   | none => simp only [ho] at h
   | some y =>
     obtain ⟨t,t2⟩ := y
     simp only [ho,Bool.and_eq_true] at h hc
     obtain ⟨⟨ht,ht2⟩,hchk⟩ := hc
     obtain ⟨o1,o2,c,hops,g1,g2,d1,p1,d2,p2,hcl,hca⟩ := recOf_some ho
     have hops' : ops = #[o1,o2] := by
       apply Array.ext'
       rw [hops]
     subst hops'
     letI := noX
     have hr0 : ∀ tmps w,(results fn tmps).run P w = .ok (.tuple #[]) w := by
       intro tmps w
       have h1 : fn.results.toList = [] := by simpa using hres
       obtain ⟨v,hv,hr⟩ := results_run (P := P) (fn := fn) (n := tmps.size) (D := []) (f := fun t => tmps.getD t undef) (a := { tmps := tmps,defers := [] }) (w := w) (K := fun v => v = .tuple #[]) ⟨rfl,rfl,fun _ => rfl⟩ (by rw [h1]; rfl)
       rw [hr,hv]
     have hag := enter_ag (nt := fn.ntmps) (args := args) (Nat.le_of_ble_eq_true hle)
     have ht : t < fn.ntmps := by simpa using ht
     have ht2 : t2 < fn.ntmps := by simpa using ht2
     refine callsD_of_wpS hf hb fun c₀ cs hmode => ?_
     generalize ({ tmps := args.toArray ++ Array.replicate (fn.ntmps - args.toArray.size) undef,defers := [] } : Act) = a0 at hag ⊢
     have hag1 := hag.put (d := some t) (fun y hy => by cases hy; exact ht) x
     have hag2 := hag1.put (d := some t2) (fun y hy => by cases hy; exact ht2) x
     have w1 : Region.wanted o1 (yielded #[o1,o2] a0.tmps) = true := by
       have := want_ag (ops := [o1,o2]) (o := o1) hag
       rw [show ([o1,o2] : List Oper).toArray = #[o1,o2] from rfl] at this
       rw [this]; simp [wantF,g1]
     have w2 : Region.wanted o2 (yielded #[o1,o2] (a0.put (some t) x).tmps) = true := by
       have := want_ag (ops := [o1,o2]) (o := o2) hag1
       rw [show ([o1,o2] : List Oper).toArray = #[o1,o2] from rfl] at this
       rw [this]; simp [wantF,g2]
     have e1 : (execOp a0.eval o1).run P w = .ok .recover w := by
       unfold execOp
       rw [p1]
       simp [resolve,hcl,hca,invoke,builtin,run_bind,run_pure]
     have e2 : (execOp (a0.put (some t) x).eval o2).run P w = .ok (.value x) w := by
       rw [eval_fun hag1]
       unfold execOp
       rw [p2]
       have e : ev (upd (fr0 args) (some t) x) (.tmp t) = x := by simp [ev,upd_some]
       simp [run_pure,e]
     have rest : ∀ u' : FrameMode,settle u' = .returning → b.wpS P (bodyPostS P fn c₀ cs fun e u' w' => (∃ v,e = .returned v) ∧ settle u' = .returning ∧ K w') ((a0.put (some t) x).put (some t2) x) ({ c₀ with mode := u' } :: cs) w := by
       intro u' hs
       refine wpS_of_wp ?_
       refine @codeW_sound noX P fn.ntmps [] pl hm b [] 0 2 _ _ w _ _ _ _ hchk hag2 h (fun f' a' w' hag' _ hk => ?_) (fun _ _ _ _ _ _ hk => hk.elim) (fun f' a' w' hag' _ hk => ?_) (fun ch a' w' hd ht hx => hx.elim)
       · exact ⟨hag'.1,u',rfl,_,hr0 _ _,⟨_,rfl⟩,hs,hk⟩
       · exact ⟨hag'.1,u',rfl,_,hr0 _ _,⟨_,rfl⟩,hs,hk⟩
     refine wpS_seq (wpS_region ?_)
     show wpOpsS P #[o1,o2] _ [0,1] a0 (c₀ :: cs) w
     have tail : ∀ c1 : Frame,b.wpS P (bodyPostS P fn c₀ cs fun e u' w' => (∃ v,e = .returned v) ∧ settle u' = .returning ∧ K w') ((a0.put (some t) x).put (some t2) x) (c1 :: cs) w →
         wpOpsS P #[o1,o2] (Exit.thenS (b.wpS P (bodyPostS P fn c₀ cs fun e u' w' => (∃ v,e = .returned v) ∧ settle u' = .returning ∧ K w')) (bodyPostS P fn c₀ cs fun e u' w' => (∃ v,e = .returned v) ∧ settle u' = .returning ∧ K w')) [1] (a0.put (some t) x) (c1 :: cs) w := by
       intro c1 hb1
       unfold wpOpsS
       rw [show (#[o1,o2] : Array Oper)[1]? = some o2 from rfl]
       show ite (Region.wanted o2 (yielded #[o1,o2] (a0.put (some t) x).tmps) = true) _ _
       rw [if_pos w2,e2]
       simp only [Oper.upon_value,d2]
       exact hb1
     unfold wpOpsS
     rw [show (#[o1,o2] : Array Oper)[0]? = some o1 from rfl]
     show ite (Region.wanted o1 (yielded #[o1,o2] a0.tmps) = true) _ _
     rw [if_pos w1,e1]
     cases hu with
     | idle =>
       have : recoverD (c₀ :: cs) = none := by simp [recoverD,hmode]
       simp only [this,d1]
       have e : ({ c₀ with mode := .returning } : Frame) = c₀ := by rw [← hmode]
       have := rest .returning rfl
       rw [e] at this
       exact tail c₀ this
     | thrown =>
       have : recoverD (c₀ :: cs) = some (x,{ c₀ with mode := .panicking [{ v := x,recovered := true }] } :: cs) := by simp [recoverD,hmode]
       simp only [this,d1]
       exact tail _ (rest (.panicking [{ v := x,recovered := true }]) rfl)
 · exact h.elim
end
end Go.Eng
namespace Go.Proofs.YtofhaneggcpdaaaGreatDoor
open Go Go.Eng
set_option maxRecDepth 100000
variable [HX]
def plan9 : Plan := { js := [(30,⟨[],[],6⟩),(34003,⟨[40],[],39⟩),(20,⟨[],[],6⟩)],ds := [(29,⟨[0,1,2,6],[[],[0],[],[2],[2,3],[0,1,2,3,4],[0,1,2,3,4,5],[0,1,2,3,4,5,6]]⟩),(9,⟨[0,1],[[],[],[0],[0,1,2]]⟩)] }
def W9 (v0 : Value) (w : World) (K : Value → World → Prop) : Prop :=
 allocW 28 [(.slice none 0 0),(.slice none 0 0),(.slice none 0 0)] w fun t2 w1 =>
 allocW 29 [(.pointer none)] w1 fun t3 w2 =>
 callF Tryz.prog 17 [v0] w2 fun t9 w3 =>
 extW 0 t9 fun t10 =>
 extW 1 t9 fun t11 =>
 stW 1 t3 t11 w3 fun w4 =>
 ldW false 1 t3 w4 fun t12 =>
 eqW .ptr true t12 (.pointer none) fun t13 =>
 condW t13 (
 putW [(.slice none 0 0),(.slice none 0 0),(.slice none 0 0)] [] fun c5 =>
 ldW false 1 t3 w4.drew fun t15 =>
 stW 3 t2 (.agg c5.toArray) w4.drew fun w6 =>
 (ldW false 1 t3 w6 fun x => x = t15) ∧
 stW 1 t3 t15 w6 fun w7 =>
 ldW true 3 t2 w7 fun r8 =>
 ldW false 1 t3 w7 fun r9 =>
 K (.tuple #[r8,r9]) w7) (
 letI : HX := ⟨fun ch x10 => DefC Tryz.prog 18 [t2,t3] (.panicking ch) x10 fun w10 =>
 ldW true 3 t2 w10 fun r11 =>
 ldW false 1 t3 w10 fun r12 =>
 K (.tuple #[r11,r12]) w10⟩
 putW [(.slice none 0 0),(.int .i64 0),(.int .i64 0),(.pointer none),(.int .i64 0),(.bool false)] [(0,1,t10),(3,1,t2)] fun c13 =>
 boxW 61 (.agg c13.toArray) w4 fun t19 w14 =>
 callF Tryz.prog 19 [t19] w14 fun t21 w15 =>
 LoopW [] w15 fun s16 _ w17 L16 =>
 callF Tryz.prog 20 [t19] w17 fun t23 w18 =>
 partW false 0 1 t23 fun t24 =>
 binW .neq t24 (.int .i64 0) fun t25 =>
 condW t25 (
 fldW 2 t2 fun t26 =>
 ldW false 1 t26 w18.drew fun t27 =>
 callF Tryz.prog 21 [t19] w18.drew fun t29 w19 =>
 (ldW false 1 t26 w19 fun x => x = t27) ∧
 bslW 3 1 [(.int .i64 0)] [(0,1,t29)] w19 fun t30 w20 =>
 (ldW false 1 t26 w20 fun x => x = t27) ∧
 semE Tryz.prog (Builtin.append_ #[26,26] 26 #[t27,t30]) w20 fun t31 w21 =>
 fldW 2 t2 fun t32 =>
 stW 1 t32 t31 w21 fun w22 =>
 JoinW (fun J23 =>
 callF Tryz.prog 20 [t19] w22 fun t34 w24 =>
 partW false 0 1 t34 fun t35 =>
 binW .neq t35 (.int .i64 5) fun t37 =>
 GdW (isB t37 true) [undef] w24 (fun J25 =>
 binW .neq t35 (.int .i64 0) fun t40 =>
 J25 [t40] w24)
 fun s25 _ w26 =>
 pickW t37 (s25.getD 0 undef) (.bool false) fun t41 =>
 condW t41 (
 callF Tryz.prog 20 [t19] w26 fun t43 w27 =>
 partW false 2 1 t43 fun t44 =>
 callF Tryz.prog 22 [(.int .i64 50),t44] w27 fun t45 w28 =>
 J23 [] w28) (
 J23 [] w26))
 fun s23 _ w29 =>
 callF Tryz.prog 19 [t19] w29 fun t47 w30 =>
 L16 [] w30) (
 ldW true 3 t2 w18 fun t48 =>
 stW 3 t2 t48 w18 fun w31 =>
 stW 1 t3 (.pointer none) w31 fun w32 =>
 DefC Tryz.prog 18 [t2,t3] .returning w32 fun w33 =>
 ldW true 3 t2 w33 fun r34 =>
 ldW false 1 t3 w33 fun r35 =>
 K (.tuple #[r34,r35]) w33))
theorem W9_eq (v0 : Value) (w : World) (K : Value → World → Prop) : funD Tryz.prog Tryz.f9 plan9 3 [v0] w (EndK K) = W9 v0 w K := by kernel_rfl
theorem W9_chk : chkFunD Tryz.prog Tryz.f9 plan9 4 18 3 1 = true := by kernel_rfl
theorem W9_ok {v0 : Value} {w : World} {K : Value → World → Prop} (h : W9 v0 w K) : callF Tryz.prog 9 [v0] w K :=
 tieD Tryz.prog 9 Tryz.f9 plan9 [v0] w K 4 18 3 1 (W9 v0 w K) rfl mixed Tryz.func9 W9_chk (W9_eq v0 w K) Tryz.call9 Tryz.call18 h
def plan17 : Plan := { js := [(60,⟨[9],[9],12⟩),(62004,⟨[73],[],71⟩),(54,⟨[9,11],[9],11⟩),(44005,⟨[51],[],48⟩),(36,⟨[6,7],[],1⟩),(25006,⟨[30],[],26⟩),(14,⟨[],[2,3,4,5],19⟩)],ds := [] }
def W17 (v0 : Value) (w : World) (K : Value → World → Prop) : Prop :=
 lensW v0 fun t13 =>
 binW .gtr t13 (.int .i64 16384) fun t14 =>
 condW t14 (
 putW [(.int .i64 0),(.string (ofL [])),(.int .i64 0)] [(0,1,(.int .i64 3))] fun c1 =>
 boxW 48 (.agg c1.toArray) w fun t16 w2 =>
 K (.tuple #[(.slice none 0 0),t16]) w2) (
 semE Tryz.prog (Instr.range 9 v0) w fun t18 w3 =>
 LoopW [] w3 fun s4 _ w5 L4 =>
 semE Tryz.prog (Instr.next t18 true 0) w5 fun t19 w6 =>
 extW 0 t19 fun t20 =>
 condW t20 (
 extW 1 t19 fun t21 =>
 extW 2 t19 fun t22 =>
 binW .eql t22 (.int .i32 65533) fun t24 =>
 GdW (isB t24 true) [undef] w6 (fun J7 =>
 slsW v0 (some t21) none fun t28 =>
 callF Tryz.prog 36 [t28,(.string (ofL [239,191,189]))] w6 fun t29 w8 =>
 unW .not t29 fun t30 =>
 J7 [t30] w8)
 fun s7 _ w9 =>
 pickW t24 (s7.getD 0 undef) (.bool false) fun t31 =>
 condW t31 (
 putW [(.int .i64 0),(.string (ofL [])),(.int .i64 0)] [(0,1,(.int .i64 31)),(2,1,t21)] fun c10 =>
 boxW 48 (.agg c10.toArray) w9 fun t34 w11 =>
 K (.tuple #[(.slice none 0 0),t34]) w11) (
 L4 [] w9)) (
 LoopW [(.slice none 0 0),(.int .i64 0)] w6 fun s12 _ w13 L12 =>
 slsW v0 (some (s12.getD 1 undef)) none fun t38 =>
 callF Tryz.prog 37 [t38] w13 fun t39 w14 =>
 extW 0 t39 fun t40 =>
 extW 1 t39 fun t41 =>
 binW .add (s12.getD 1 undef) t40 fun t44 =>
 binW .eql t41 (.int .i64 0) fun t46 =>
 GdW (isB t46 true) [undef] w14 (fun J15 =>
 lensW v0 fun t50 =>
 binW .eql t44 t50 fun t51 =>
 J15 [t51] w14)
 fun s15 _ w16 =>
 pickW t46 (s15.getD 0 undef) (.bool false) fun t52 =>
 condW t52 (
 putW [(.int .i64 0),(.string (ofL [])),(.int .i64 0)] [(2,1,t44)] fun c17 =>
 bslW 64 1 [(.int .i64 0),(.string (ofL [])),(.int .i64 0)] [(0,3,(.agg c17.toArray))] w16 fun t56 w18 =>
 semE Tryz.prog (Builtin.append_ #[55,55] 55 #[(s12.getD 0 undef),t56]) w18 fun t57 w19 =>
 K (.tuple #[t57,(.pointer none)]) w19) (
 allocW 64 [(.int .i64 0),(.string (ofL [])),(.int .i64 0)] w16 fun t10 w20 =>
 JoinW (fun J21 =>
 binW .eql t41 (.int .i64 0) fun t59 =>
 condW t59 (
 slsW v0 (some t44) none fun t63 =>
 callF Tryz.prog 38 [t63] w20 fun t64 w22 =>
 extW 0 t64 fun t65 =>
 extW 1 t64 fun t66 =>
 extW 2 t64 fun t67 =>
 stW 3 t10 t65 w22 fun w23 =>
 J21 [t67,t66] w23) (
 J21 [t41,(.int .i64 0)] w20))
 fun s21 _ w24 =>
 JoinW (fun J25 =>
 binW .eql (s21.getD 0 undef) (.int .i64 0) fun t69 =>
 GdW (isB t69 true) [undef] w24 (fun J26 =>
 lenlW (s12.getD 0 undef) fun t72 =>
 binW .eql t72 (.int .i64 4096) fun t73 =>
 J26 [t73] w24)
 fun s26 _ w27 =>
 pickW t69 (s26.getD 0 undef) (.bool false) fun t74 =>
 condW t74 (
 J25 [(.int .i64 3)] w27) (
 J25 [(s21.getD 0 undef)] w27))
 fun s25 _ w28 =>
 binW .neq (s25.getD 0 undef) (.int .i64 0) fun t76 =>
 condW t76 (
 putW [(.int .i64 0),(.string (ofL [])),(.int .i64 0)] [(0,1,(s25.getD 0 undef)),(2,1,t44)] fun c29 =>
 boxW 48 (.agg c29.toArray) w28 fun t80 w30 =>
 K (.tuple #[(.slice none 0 0),t80]) w30) (
 fldW 2 t10 fun t82 =>
 stW 1 t82 t44 w28 fun w31 =>
 ldW true 3 t10 w31 fun t84 =>
 bslW 64 1 [(.int .i64 0),(.string (ofL [])),(.int .i64 0)] [(0,3,t84)] w31 fun t85 w32 =>
 semE Tryz.prog (Builtin.append_ #[55,55] 55 #[(s12.getD 0 undef),t85]) w32 fun t86 w33 =>
 binW .add t44 (s21.getD 1 undef) fun t89 =>
 L12 [t86,t89] w33))))
theorem W17_ok {v0 : Value} {w : World} {K : Value → World → Prop} (h : W17 v0 w K) : callF Tryz.prog 17 [v0] w K :=
 tie _ 17 Tryz.f17 plan17 _ w K 1 _ rfl mixed Tryz.func17 (by kernel_rfl) (by kernel_rfl) Tryz.call17 h
def plan18 : Plan := { js := [],ds := [(5,⟨[0,1,2],[[],[],[1],[0],[0,1,2,3]]⟩)] }
def R18 (v0 v1 : Value) (x : Value) (w : World) (K : World → Prop) : Prop :=
 letI : HX := noX
 eqQ Tryz.prog .neq 20 false true x .nilIface w fun t5 =>
 condW t5 (
 putW [(.slice none 0 0),(.slice none 0 0),(.slice none 0 0)] [] fun c1 =>
 semQ Tryz.prog (Instr.typeAssert x 20 29 false) w.drew fun t8 =>
 stW 3 v0 (.agg c1.toArray) w.drew fun w2 =>
 (semQ Tryz.prog (Instr.typeAssert x 20 29 false) w2 fun x => x = t8) ∧
 stW 1 v1 t8 w2 fun w3 =>
 K w3) (
 K w)
theorem R18_eq (v0 v1 : Value) (x : Value) (w : World) (K : World → Prop) : funR Tryz.prog Tryz.f18 plan18 [v0,v1] x w K = R18 v0 v1 x w K := by kernel_rfl
theorem R18_chk : chkFunR Tryz.prog Tryz.f18 plan18 2 = true := by kernel_rfl
theorem R18_ok {v0 v1 : Value} {x : Value} {u : FrameMode} {w : World} {K : World → Prop} (hu : Finds u x) (h : R18 v0 v1 x w K) : DefC Tryz.prog 18 [v0,v1] u w K :=
 funR_sound (args := [v0,v1]) mixed Tryz.func18 R18_chk hu (by rw [R18_eq]; exact h)
def plan19 : Plan := { js := [(1,⟨[],[],1⟩)],ds := [] }
def W19 (v0 : Value) (w : World) (K : Value → World → Prop) : Prop :=
 LoopW [] w fun s1 _ w2 L1 =>
 callF Tryz.prog 20 [v0] w2 fun t3 w3 =>
 partW false 0 1 t3 fun t4 =>
 binW .eql t4 (.int .i64 5) fun t5 =>
 condW t5 (
 nilW v0 fun t7 =>
 fldW 1 t7 fun t8 =>
 ldW false 1 t8 w3 fun t9 =>
 binW .add t9 (.int .i64 1) fun t10 =>
 nilW v0 fun t11 =>
 fldW 1 t11 fun t12 =>
 stW 1 t12 t10 w3 fun w4 =>
 L1 [] w4) (
 K (.tuple #[]) w3)
theorem W19_ok {v0 : Value} {w : World} {K : Value → World → Prop} (h : W19 v0 w K) : callF Tryz.prog 19 [v0] w K :=
 tie _ 19 Tryz.f19 plan19 _ w K 1 _ rfl mixed Tryz.func19 (by kernel_rfl) (by kernel_rfl) Tryz.call19 h
def plan20 : Plan := { js := [(4,⟨[],[],3⟩)],ds := [(16,⟨[0,1,2,3,4,5,6,7],[[],[0],[],[2],[2,3],[2,3,4],[0,1,2,3,4,5],[0,1,2,3,4,5,6],[0,1,2,3,4,5,6,7]]⟩),(14,⟨[0,1,2,3,4,5,6,7,8,9],[[],[0],[0,1],[0,1,2],[],[4],[4,5],[4,5,6],[0,1,2,3,4,5,6,7],[0,1,2,3,4,5,6,7,8],[],[0,1,2,3,4,5,6,7,8,9,10]]⟩),(7,⟨[0,1,2,3,4,5,6,7,8,9,10,11,12,13,14,15,16,17],[[],[0],[0,1],[0,1,2],[0,1,2,3],[0,1,2,3,4],[0,1,2,3,4,5],[0,1,2,3,4,5,6],[0,1,2,3,4,5,6,7],[0,1,2,3,4],[0,1,2,3,4,9],[0,1,2,3,4,9,10],[0,1,2,3,4,9,10,11],[0,1,2,3,4,5,6,7,8,9,10,11,12],[0,1,2,3,4,5,6,7,8,9,10,11,12,13],[0,1,2,3,4,5,6,7,8,9,10,11,12,13,14],[0,1,2,3,4,5,6,7,8,9,10,11,12,13,14,15],[0,1,2,3,4,5,6,7,8,9,10,11,12,13,14,15,16]]⟩)] }
def W20 (v0 : Value) (w : World) (K : Value → World → Prop) : Prop :=
 allocW 64 [(.int .i64 0),(.string (ofL [])),(.int .i64 0)] w fun t2 w1 =>
 LoopW [] w1 fun s2 _ w3 L2 =>
 nilW v0 fun t5 =>
 fldW 5 t5 fun t6 =>
 ldW false 1 t6 w3.drew fun t7 =>
 GqW (isB t7 true) (fun k4 => k4 v0) fun t9 =>
 GqW (isB t7 true) (fun k5 => nilW t9 k5) fun t10 =>
 GqW (isB t7 true) (fun k6 => fldW 0 t10 k6) fun t11 =>
 GqW (isB t7 true) (fun k7 => ldW false 1 t11 w3.drew k7) fun t12 =>
 GqW (isB t7 true) (fun k8 => k8 v0) fun t13 =>
 GqW (isB t7 true) (fun k9 => nilW t13 k9) fun t14 =>
 GqW (isB t7 true) (fun k10 => fldW 1 t14 k10) fun t15 =>
 GqW (isB t7 true) (fun k11 => ldW false 1 t15 w3.drew k11) fun t16 =>
 GqW (isB t7 true) (fun k12 => ixaW none 3 t12 t16 k12) fun t17 =>
 GqW (isB t7 true) (fun k13 => fldW 0 t17 k13) fun t18 =>
 GqW (isB t7 true) (fun k14 => ldW false 1 t18 w3.drew k14) fun t19 =>
 GqW (isB t7 true) (fun k15 => binW .eql t19 (.int .i64 5) k15) fun t20 =>
 pickW t7 t20 (.bool false) fun t21 =>
 condW t21 (
 nilW v0 fun t23 =>
 fldW 1 t23 fun t24 =>
 ldW false 1 t24 w3.drew fun t25 =>
 binW .add t25 (.int .i64 1) fun t26 =>
 nilW v0 fun t27 =>
 fldW 1 t27 fun t28 =>
 stW 1 t28 t26 w3.drew fun w16 =>
 L2 [] w16) (
 nilW v0 fun t30 =>
 fldW 0 t30 fun t31 =>
 ldW false 1 t31 w3.drew.drew fun t32 =>
 nilW v0 fun t34 =>
 fldW 1 t34 fun t35 =>
 ldW false 1 t35 w3.drew.drew fun t36 =>
 ixaW none 3 t32 t36 fun t37 =>
 ldW true 3 t37 w3.drew.drew fun t38 =>
 allocW 64 [(.int .i64 0),(.string (ofL [])),(.int .i64 0)] w3.drew.drew fun t3 w17 =>
 (ldW true 3 t37 w17 fun x => x = t38) ∧
 (ldW false 1 t35 w17 fun x => x = t36) ∧
 (ldW false 1 t31 w17 fun x => x = t32) ∧
 stW 3 t3 t38 w17 fun w18 =>
 fldW 2 t3 fun t39 =>
 ldW false 1 t39 w18.drew fun t40 =>
 nilW v0 fun t42 =>
 fldW 2 t42 fun t43 =>
 ldW false 1 t43 w18.drew fun t44 =>
 binW .add t40 t44 fun t45 =>
 fldW 2 t3 fun t46 =>
 stW 1 t46 t45 w18.drew fun w19 =>
 ldW true 3 t3 w19 fun t47 =>
 stW 3 t2 t47 w19 fun w20 =>
 ldW true 3 t2 w20 fun r21 =>
 K r21 w20)
theorem W20_ok {v0 : Value} {w : World} {K : Value → World → Prop} (h : W20 v0 w K) : callF Tryz.prog 20 [v0] w K :=
 tie _ 20 Tryz.f20 plan20 _ w K 1 _ rfl mixed Tryz.func20 (by kernel_rfl) (by kernel_rfl) Tryz.call20 h
def plan21 : Plan := { js := [(19,⟨[],[],6⟩),(8,⟨[],[],5⟩)],ds := [(28,⟨[0,1,2,3,4,5,6,7,8,9,10,11,14,15],[[],[0],[0,1],[0,1,2],[],[4],[4,5],[4,5,6],[4,5,6,7],[4,5,6,7,8],[4,5,6,7,8,9],[],[11],[4,5,6,7,8,9,10,11,12],[0,1,2,3,4,5,6,7,8,9,10,11,12,13],[0,1,2,3,4,5,6,7,8,9,10,11,12,13,14],[0,1,2,3,4,5,6,7,8,9,10,11,12,13,14,15]]⟩),(16,⟨[0,1,2,3,8],[[],[0],[],[],[3],[2,3,4],[2,3,4,5],[0,1,2,3,4,5,6],[0,1,2,3,4,5,6,7],[0,1,2,3,4,5,6,7,8]]⟩)] }
def W21 (v0 : Value) (w : World) (K : Value → World → Prop) : Prop :=
 boxW 58 v0 w fun t1 w1 =>
 ldW false 1 t1 w1 fun t6 =>
 callF Tryz.prog 39 [t6,(.int .i64 1)] w1 fun t7 w2 =>
 allocW 64 [(.int .i64 0),(.string (ofL [])),(.int .i64 0)] w2 fun t3 w3 =>
 stW 3 t3 t7 w3 fun w4 =>
 fldW 1 t3 fun t8 =>
 ldW false 1 t8 w4 fun t9 =>
 fldW 2 t3 fun t10 =>
 ldW false 1 t10 w4 fun t11 =>
 putW [(.string (ofL [])),(.slice none 0 0),(.slice none 0 0),(.slice none 0 0),(.int .i64 0)] [(0,1,t9),(4,1,t11)] fun c5 =>
 allocW 38 [(.string (ofL [])),(.slice none 0 0),(.slice none 0 0),(.slice none 0 0),(.int .i64 0)] w4 fun t4 w6 =>
 stW 5 t4 (.agg c5.toArray) w6 fun w7 =>
 LoopW [] w7 fun s8 _ w9 L8 =>
 ldW false 1 t1 w9 fun t13 =>
 callF Tryz.prog 20 [t13] w9 fun t14 w10 =>
 partW false 0 1 t14 fun t15 =>
 binW .eql t15 (.int .i64 3) fun t16 =>
 condW t16 (
 fldW 1 t4 fun t17 =>
 ldW false 1 t17 w10.drew fun t18 =>
 ldW false 1 t1 w10.drew fun t19 =>
 ldW false 1 t1 w10.drew fun t20 =>
 callF Tryz.prog 41 [t20] w10.drew fun t21 w11 =>
 (ldW false 1 t1 w11 fun x => x = t19) ∧
 (ldW false 1 t17 w11 fun x => x = t18) ∧
 callF Tryz.prog 40 [t19,t21] w11 fun t22 w12 =>
 (ldW false 1 t17 w12 fun x => x = t18) ∧
 bslW 9 1 [(.string (ofL []))] [(0,1,t22)] w12 fun t23 w13 =>
 (ldW false 1 t17 w13 fun x => x = t18) ∧
 semE Tryz.prog (Builtin.append_ #[33,33] 33 #[t18,t23]) w13 fun t24 w14 =>
 fldW 1 t4 fun t25 =>
 stW 1 t25 t24 w14 fun w15 =>
 L8 [] w15) (
 ldW false 1 t1 w10 fun t26 =>
 callF Tryz.prog 20 [t26] w10 fun t27 w16 =>
 allocW 64 [(.int .i64 0),(.string (ofL [])),(.int .i64 0)] w16 fun t5 w17 =>
 stW 3 t5 t27 w17 fun w18 =>
 JoinW (fun J19 =>
 ldW false 1 t1 w18 fun t28 =>
 bslW 9 1 [(.string (ofL []))] [(0,1,(.string (ofL [123])))] w18 fun t29 w20 =>
 callF Tryz.prog 42 [t28,t29] w20 fun t30 w21 =>
 unW .not t30 fun t31 =>
 condW t31 (
 fldW 2 t5 fun t32 =>
 ldW false 1 t32 w21 fun t33 =>
 callF Tryz.prog 22 [(.int .i64 50),t33] w21 fun t34 w22 =>
 J19 [] w22) (
 J19 [] w21))
 fun s19 _ w23 =>
 ldW false 1 t1 w23 fun t35 =>
 fldW 2 t5 fun t36 =>
 ldW false 1 t36 w23 fun t37 =>
 callF Tryz.prog 43 [t35,t37,(.bool false),(.func (.func 44) #[] #[t1,t4])] w23 fun t39 w24 =>
 ldW false 1 t1 w24.drew fun t40 =>
 nilW t40 fun t41 =>
 fldW 3 t41 fun t42 =>
 ldW false 1 t42 w24.drew fun t43 =>
 ldW false 1 t1 w24.drew fun t44 =>
 nilW t44 fun t45 =>
 fldW 3 t45 fun t46 =>
 ldW false 1 t46 w24.drew fun t47 =>
 nilW t47 fun t48 =>
 fldW 1 t48 fun t49 =>
 ldW false 1 t49 w24.drew fun t50 =>
 ldW true 5 t4 w24.drew fun t51 =>
 bslW 38 1 [(.string (ofL [])),(.slice none 0 0),(.slice none 0 0),(.slice none 0 0),(.int .i64 0)] [(0,5,t51)] w24.drew fun t52 w25 =>
 (ldW false 1 t49 w25 fun x => x = t50) ∧
 (ldW false 1 t46 w25 fun x => x = t47) ∧
 (ldW false 1 t1 w25 fun x => x = t44) ∧
 (ldW false 1 t42 w25 fun x => x = t43) ∧
 (ldW false 1 t1 w25 fun x => x = t40) ∧
 semE Tryz.prog (Builtin.append_ #[25,25] 25 #[t50,t52]) w25 fun t53 w26 =>
 (ldW false 1 t42 w26 fun x => x = t43) ∧
 (ldW false 1 t1 w26 fun x => x = t40) ∧
 nilW t43 fun t54 =>
 fldW 1 t54 fun t55 =>
 stW 1 t55 t53 w26 fun w27 =>
 ldW false 1 t1 w27 fun t56 =>
 nilW t56 fun t57 =>
 fldW 3 t57 fun t58 =>
 ldW false 1 t58 w27 fun t59 =>
 nilW t59 fun t60 =>
 fldW 1 t60 fun t61 =>
 ldW false 1 t61 w27 fun t62 =>
 lenlW t62 fun t63 =>
 binW .sub t63 (.int .i64 1) fun t64 =>
 K t64 w27)
theorem W21_ok {v0 : Value} {w : World} {K : Value → World → Prop} (h : W21 v0 w K) : callF Tryz.prog 21 [v0] w K :=
 tie _ 21 Tryz.f21 plan21 _ w K 1 _ rfl mixed Tryz.func21 (by kernel_rfl) (by kernel_rfl) Tryz.call21 h
def plan22 : Plan := { js := [],ds := [] }
def W22 (v0 v1 : Value) (w : World) (K : Value → World → Prop) : Prop :=
 putW [(.int .i64 0),(.string (ofL [])),(.int .i64 0)] [(0,1,v0),(2,1,v1)] fun c1 =>
 boxW 48 (.agg c1.toArray) w fun t7 w2 =>
 pncW (.iface 29 t7) w2
theorem W22_ok {v0 v1 : Value} {w : World} {K : Value → World → Prop} (h : W22 v0 v1 w K) : callF Tryz.prog 22 [v0,v1] w K :=
 tie _ 22 Tryz.f22 plan22 _ w K 2 _ rfl mixed Tryz.func22 (by kernel_rfl) (by kernel_rfl) Tryz.call22 h
def plan37 : Plan := { js := [(21,⟨[23],[],6⟩),(6,⟨[4],[],1⟩)],ds := [] }
def W37 (v0 : Value) (w : World) (K : Value → World → Prop) : Prop :=
 LoopW [(.int .i64 0)] w fun s1 _ w2 L1 =>
 lensW v0 fun t9 =>
 binW .lss (s1.getD 0 undef) t9 fun t10 =>
 condW t10 (
 slsW v0 (some (s1.getD 0 undef)) none fun t13 =>
 ixsW v0 (s1.getD 0 undef) fun t18 =>
 callF Tryz.prog 67 [(.string (ofL [32,9,13])),t18] w2 fun t19 w3 =>
 binW .geq t19 (.int .i64 0) fun t20 =>
 condW t20 (
 binW .add (s1.getD 0 undef) (.int .i64 1) fun t22 =>
 L1 [t22] w3) (
 JoinW (fun J4 =>
 ixsW v0 (s1.getD 0 undef) fun t26 =>
 binW .eql t26 (.int .u8 35) fun t27 =>
 condW t27 (
 J4 [t27] w3) (
 callF Tryz.prog 36 [t13,(.string (ofL [47,47]))] w3 fun t29 w5 =>
 J4 [t29] w5))
 fun s4 _ w6 =>
 condW (s4.getD 0 undef) (
 callF Tryz.prog 68 [t13,(.func (.func 69) #[] #[])] w6 fun t32 w7 =>
 binW .add (s1.getD 0 undef) t32 fun t33 =>
 L1 [t33] w7) (
 callF Tryz.prog 36 [t13,(.string (ofL [47,42]))] w6 fun t36 w8 =>
 condW t36 (
 slsW t13 (some (.int .i64 2)) none fun t38 =>
 callF Tryz.prog 70 [t38,(.string (ofL [42,47]))] w8 fun t39 w9 =>
 binW .lss t39 (.int .i64 0) fun t41 =>
 condW t41 (
 K (.tuple #[(s1.getD 0 undef),(.int .i64 40)]) w9) (
 binW .add t39 (.int .i64 4) fun t45 =>
 binW .add (s1.getD 0 undef) t45 fun t46 =>
 L1 [t46] w9)) (
 K (.tuple #[(s1.getD 0 undef),(.int .i64 0)]) w8)))) (
 K (.tuple #[(s1.getD 0 undef),(.int .i64 0)]) w2)
theorem W37_ok {v0 : Value} {w : World} {K : Value → World → Prop} (h : W37 v0 w K) : callF Tryz.prog 37 [v0] w K :=
 tie _ 37 Tryz.f37 plan37 _ w K 1 _ rfl mixed Tryz.func37 (by kernel_rfl) (by kernel_rfl) Tryz.call37 h
def plan38 : Plan := { js := [(8,⟨[6,7],[3,4],6⟩),(38,⟨[43],[],8⟩),(43004,⟨[58],[],57⟩),(40006,⟨[52],[],49⟩)],ds := [] }
def W38 (v0 : Value) (w : World) (K : Value → World → Prop) : Prop :=
 allocW 64 [(.int .i64 0),(.string (ofL [])),(.int .i64 0)] w fun t2 w1 =>
 allocW 64 [(.int .i64 0),(.string (ofL [])),(.int .i64 0)] w1 fun t5 w2 =>
 JoinW (fun J3 =>
 ixsW v0 (.int .i64 0) fun t10 =>
 binW .eql t10 (.int .u8 10) fun t21 =>
 condW t21 (
 putW [(.int .i64 0),(.string (ofL [])),(.int .i64 0)] [(0,1,(.int .i64 5)),(1,1,(.string (ofL [10])))] fun c4 =>
 stW 3 t2 (.agg c4.toArray) w2 fun w5 =>
 ldW true 3 t2 w5 fun r6 =>
 K (.tuple #[r6,(.int .i64 1),(.int .i64 0)]) w5) (
 callF Tryz.prog 71 [t10] w2 fun t25 w7 =>
 condW t25 (
 callF Tryz.prog 68 [v0,(.func (.func 72) #[] #[])] w7 fun t27 w8 =>
 slsW v0 none (some t27) fun t30 =>
 putW [(.int .i64 0),(.string (ofL [])),(.int .i64 0)] [(0,1,(.int .i64 1)),(1,1,t30)] fun c9 =>
 stW 3 t5 (.agg c9.toArray) w8 fun w10 =>
 binW .gtr t27 (.int .i64 32) fun t33 =>
 condW t33 (
 J3 [(.int .i64 3),t27] w10) (
 J3 [(.int .i64 0),t27] w10)) (
 callF Tryz.prog 73 [t10] w7 fun t36 w11 =>
 condW t36 (
 callF Tryz.prog 68 [v0,(.func (.func 73) #[] #[])] w11 fun t38 w12 =>
 slsW v0 none (some t38) fun t41 =>
 putW [(.int .i64 0),(.string (ofL [])),(.int .i64 0)] [(0,1,(.int .i64 2)),(1,1,t41)] fun c13 =>
 stW 3 t5 (.agg c13.toArray) w12 fun w14 =>
 JoinW (fun J15 =>
 lensW v0 fun t46 =>
 binW .lss t38 t46 fun t47 =>
 GdW (isB t47 true) [undef] w14 (fun J16 =>
 ixsW v0 t38 fun t51 =>
 callF Tryz.prog 71 [t51] w14 fun t52 w17 =>
 J16 [t52] w17)
 fun s16 _ w18 =>
 pickW t47 (s16.getD 0 undef) (.bool false) fun t53 =>
 condW t53 (
 J15 [t53] w18) (
 binW .eql t10 (.int .u8 48) fun t55 =>
 GdW (isB t55 true) [undef] w18 (fun J19 =>
 binW .gtr t38 (.int .i64 1) fun t58 =>
 J19 [t58] w18)
 fun s19 _ w20 =>
 pickW t55 (s19.getD 0 undef) (.bool false) fun t59 =>
 J15 [t59] w20))
 fun s15 _ w21 =>
 condW (s15.getD 0 undef) (
 J3 [(.int .i64 40),t38] w21) (
 fldW 1 t5 fun t61 =>
 ldW false 1 t61 w21 fun t62 =>
 callF Tryz.prog 74 [t62] w21 fun t63 w22 =>
 unW .not t63 fun t64 =>
 condW t64 (
 J3 [(.int .i64 3),t38] w22) (
 J3 [(.int .i64 0),t38] w22))) (
 binW .eql t10 (.int .u8 34) fun t67 =>
 condW t67 (
 callF Tryz.prog 75 [v0,(.int .i64 0)] w11 fun t70 w23 =>
 extW 0 t70 fun t71 =>
 extW 1 t70 fun t72 =>
 binW .eql t72 (.int .i64 0) fun t74 =>
 condW t74 (
 binW .sub t71 (.int .i64 1) fun t77 =>
 slsW v0 (some (.int .i64 1)) (some t77) fun t78 =>
 putW [(.int .i64 0),(.string (ofL [])),(.int .i64 0)] [(0,1,(.int .i64 3)),(1,1,t78)] fun c24 =>
 stW 3 t5 (.agg c24.toArray) w23 fun w25 =>
 J3 [t72,t71] w25) (
 J3 [t72,t71] w23)) (
 callF Tryz.prog 36 [v0,(.string (ofL [60,60]))] w11 fun t82 w26 =>
 condW t82 (
 fldW 0 t5 fun t83 =>
 stW 1 t83 (.int .i64 3) w26 fun w27 =>
 callF Tryz.prog 76 [v0] w27 fun t86 w28 =>
 extW 0 t86 fun t87 =>
 extW 1 t86 fun t88 =>
 extW 2 t86 fun t89 =>
 fldW 1 t5 fun t90 =>
 stW 1 t90 t87 w28 fun w29 =>
 J3 [t89,t88] w29) (
 callF Tryz.prog 77 [v0] w26 fun t12 w30 =>
 putW [(.int .i64 0),(.string (ofL [])),(.int .i64 0)] [(0,1,(.int .i64 4)),(1,1,t12)] fun c31 =>
 stW 3 t5 (.agg c31.toArray) w30 fun w32 =>
 fldW 1 t5 fun t14 =>
 ldW false 1 t14 w32 fun t15 =>
 lensW t15 fun t16 =>
 binW .eql t16 (.int .i64 0) fun t18 =>
 condW t18 (
 J3 [(.int .i64 40),t16] w32) (
 J3 [(.int .i64 0),t16] w32)))))))
 fun s3 _ w33 =>
 ldW true 3 t5 w33 fun t91 =>
 stW 3 t2 t91 w33 fun w34 =>
 ldW true 3 t2 w34 fun r35 =>
 K (.tuple #[r35,(s3.getD 1 undef),(s3.getD 0 undef)]) w34
theorem W38_ok {v0 : Value} {w : World} {K : Value → World → Prop} (h : W38 v0 w K) : callF Tryz.prog 38 [v0] w K :=
 tie _ 38 Tryz.f38 plan38 _ w K 1 _ rfl mixed Tryz.func38 (by kernel_rfl) (by kernel_rfl) Tryz.call38 h
def plan39 : Plan := { js := [(2,⟨[],[],5⟩)],ds := [] }
def W39 (v0 v1 : Value) (w : World) (K : Value → World → Prop) : Prop :=
 allocW 64 [(.int .i64 0),(.string (ofL [])),(.int .i64 0)] w fun t4 w1 =>
 JoinW (fun J2 =>
 callF Tryz.prog 20 [v0] w1 fun t6 w3 =>
 partW false 0 1 t6 fun t7 =>
 binW .neq t7 v1 fun t9 =>
 condW t9 (
 callF Tryz.prog 20 [v0] w3 fun t11 w4 =>
 partW false 2 1 t11 fun t12 =>
 callF Tryz.prog 22 [(.int .i64 50),t12] w4 fun t13 w5 =>
 J2 [] w5) (
 J2 [] w3))
 fun s2 _ w6 =>
 callF Tryz.prog 41 [v0] w6 fun t15 w7 =>
 stW 3 t4 t15 w7 fun w8 =>
 ldW true 3 t4 w8 fun r9 =>
 K r9 w8
theorem W39_ok {v0 v1 : Value} {w : World} {K : Value → World → Prop} (h : W39 v0 v1 w K) : callF Tryz.prog 39 [v0,v1] w K :=
 tie _ 39 Tryz.f39 plan39 _ w K 2 _ rfl mixed Tryz.func39 (by kernel_rfl) (by kernel_rfl) Tryz.call39 h
def plan40 : Plan := { js := [(2,⟨[],[],4⟩)],ds := [] }
def W40 (v0 v1 : Value) (w : World) (K : Value → World → Prop) : Prop :=
 boxW 64 v1 w fun t3 w1 =>
 JoinW (fun J2 =>
 fldW 1 t3 fun t8 =>
 ldW false 1 t8 w1 fun t9 =>
 callF Tryz.prog 78 [t9] w1 fun t10 w3 =>
 extW 0 t10 fun t11 =>
 extW 1 t10 fun t12 =>
 binW .geq t11 (.int .i64 0) fun t14 =>
 condW t14 (
 fldW 2 t3 fun t15 =>
 ldW false 1 t15 w3 fun t16 =>
 callF Tryz.prog 22 [(.int .i64 50),t16] w3 fun t17 w4 =>
 J2 [] w4) (
 J2 [] w3))
 fun s2 _ w5 =>
 fldW 1 t3 fun t18 =>
 ldW false 1 t18 w5 fun t19 =>
 callF Tryz.prog 79 [t19] w5 fun t20 w6 =>
 K t20 w6
theorem W40_ok {v0 v1 : Value} {w : World} {K : Value → World → Prop} (h : W40 v0 v1 w K) : callF Tryz.prog 40 [v0,v1] w K :=
 tie _ 40 Tryz.f40 plan40 _ w K 2 _ rfl mixed Tryz.func40 (by kernel_rfl) (by kernel_rfl) Tryz.call40 h
def plan41 : Plan := { js := [(4,⟨[],[],4⟩)],ds := [] }
def W41 (v0 : Value) (w : World) (K : Value → World → Prop) : Prop :=
 allocW 64 [(.int .i64 0),(.string (ofL [])),(.int .i64 0)] w fun t2 w1 =>
 callF Tryz.prog 20 [v0] w1 fun t5 w2 =>
 allocW 64 [(.int .i64 0),(.string (ofL [])),(.int .i64 0)] w2 fun t3 w3 =>
 stW 3 t3 t5 w3 fun w4 =>
 JoinW (fun J5 =>
 fldW 0 t3 fun t6 =>
 ldW false 1 t6 w4 fun t7 =>
 binW .neq t7 (.int .i64 0) fun t8 =>
 condW t8 (
 nilW v0 fun t10 =>
 fldW 1 t10 fun t11 =>
 ldW false 1 t11 w4 fun t12 =>
 binW .add t12 (.int .i64 1) fun t13 =>
 nilW v0 fun t14 =>
 fldW 1 t14 fun t15 =>
 stW 1 t15 t13 w4 fun w6 =>
 J5 [] w6) (
 J5 [] w4))
 fun s5 _ w7 =>
 ldW true 3 t3 w7 fun t16 =>
 stW 3 t2 t16 w7 fun w8 =>
 ldW true 3 t2 w8 fun r9 =>
 K r9 w8
theorem W41_ok {v0 : Value} {w : World} {K : Value → World → Prop} (h : W41 v0 w K) : callF Tryz.prog 41 [v0] w K :=
 tie _ 41 Tryz.f41 plan41 _ w K 1 _ rfl mixed Tryz.func41 (by kernel_rfl) (by kernel_rfl) Tryz.call41 h
def plan42 : Plan := { js := [(5006,⟨[15],[],12⟩)],ds := [] }
def W42 (v0 v1 : Value) (w : World) (K : Value → World → Prop) : Prop :=
 callF Tryz.prog 20 [v0] w fun t7 w1 =>
 allocW 64 [(.int .i64 0),(.string (ofL [])),(.int .i64 0)] w1 fun t5 w2 =>
 stW 3 t5 t7 w2 fun w3 =>
 fldW 0 t5 fun t8 =>
 ldW false 1 t8 w3 fun t9 =>
 binW .eql t9 (.int .i64 4) fun t10 =>
 GdW (isB t10 true) [undef] w3 (fun J4 =>
 fldW 1 t5 fun t13 =>
 ldW false 1 t13 w3 fun t14 =>
 callF Tryz.prog 80 [v1,t14] w3 fun t15 w5 =>
 J4 [t15] w5)
 fun s4 _ w6 =>
 pickW t10 (s4.getD 0 undef) (.bool false) fun t16 =>
 K t16 w6
theorem W42_ok {v0 v1 : Value} {w : World} {K : Value → World → Prop} (h : W42 v0 v1 w K) : callF Tryz.prog 42 [v0,v1] w K :=
 tie _ 42 Tryz.f42 plan42 _ w K 2 _ rfl mixed Tryz.func42 (by kernel_rfl) (by kernel_rfl) Tryz.call42 h
def plan43 : Plan := { js := [(0,⟨[],[],4⟩)],ds := [] }
def W43 (v0 v1 v2 v3 : Value) (w : World) (K : Value → World → Prop) : Prop :=
 JoinW (fun J1 =>
 nilW v0 fun t10 =>
 fldW 4 t10 fun t11 =>
 ldW false 1 t11 w fun t12 =>
 binW .eql t12 (.int .i64 24) fun t13 =>
 condW t13 (
 callF Tryz.prog 22 [(.int .i64 7),v1] w fun t15 w2 =>
 J1 [] w2) (
 J1 [] w))
 fun s1 _ w3 =>
 nilW v0 fun t17 =>
 fldW 5 t17 fun t18 =>
 ldW false 1 t18 w3 fun t19 =>
 nilW v0 fun t21 =>
 fldW 4 t21 fun t22 =>
 ldW false 1 t22 w3 fun t23 =>
 binW .add t23 (.int .i64 1) fun t24 =>
 nilW v0 fun t25 =>
 fldW 4 t25 fun t26 =>
 stW 1 t26 t24 w3 fun w4 =>
 nilW v0 fun t29 =>
 fldW 5 t29 fun t30 =>
 stW 1 t30 v2 w4 fun w5 =>
 callV Tryz.prog v3 [] w5 fun t32 w6 =>
 nilW v0 fun t34 =>
 fldW 4 t34 fun t35 =>
 ldW false 1 t35 w6 fun t36 =>
 binW .sub t36 (.int .i64 1) fun t37 =>
 nilW v0 fun t38 =>
 fldW 4 t38 fun t39 =>
 stW 1 t39 t37 w6 fun w7 =>
 nilW v0 fun t42 =>
 fldW 5 t42 fun t43 =>
 stW 1 t43 t19 w7 fun w8 =>
 K (.tuple #[]) w8
theorem W43_ok {v0 v1 v2 v3 : Value} {w : World} {K : Value → World → Prop} (h : W43 v0 v1 v2 v3 w K) : callF Tryz.prog 43 [v0,v1,v2,v3] w K :=
 tie _ 43 Tryz.f43 plan43 _ w K 4 _ rfl mixed Tryz.func43 (by kernel_rfl) (by kernel_rfl) Tryz.call43 h
def plan44 : Plan := { js := [(15,⟨[],[],2⟩),(17005,⟨[24],[],21⟩),(5,⟨[],[],2⟩)],ds := [] }
def W44 (v0 v1 : Value) (w : World) (K : Value → World → Prop) : Prop :=
 ldW false 1 v0 w fun t2 =>
 nilW t2 fun t3 =>
 fldW 1 t3 fun t4 =>
 ldW false 1 t4 w fun t5 =>
 binW .add t5 (.int .i64 1) fun t6 =>
 nilW t2 fun t7 =>
 fldW 1 t7 fun t8 =>
 stW 1 t8 t6 w fun w1 =>
 ldW false 1 v0 w1 fun t9 =>
 callF Tryz.prog 19 [t9] w1 fun t10 w2 =>
 LoopW [] w2 fun s3 _ w4 L3 =>
 ldW false 1 v0 w4 fun t11 =>
 callF Tryz.prog 45 [t11,(.string (ofL [125]))] w4 fun t12 w5 =>
 unW .not t12 fun t13 =>
 condW t13 (
 ldW false 1 v0 w5 fun t14 =>
 callF Tryz.prog 46 [t14,v1] w5 fun t15 w6 =>
 JoinW (fun J7 =>
 ldW false 1 v0 w6 fun t16 =>
 callF Tryz.prog 20 [t16] w6 fun t17 w8 =>
 partW false 0 1 t17 fun t18 =>
 binW .neq t18 (.int .i64 5) fun t19 =>
 GdW (isB t19 true) [undef] w8 (fun J9 =>
 ldW false 1 v0 w8 fun t21 =>
 bslW 9 1 [(.string (ofL []))] [(0,1,(.string (ofL [125])))] w8 fun t22 w10 =>
 callF Tryz.prog 42 [t21,t22] w10 fun t23 w11 =>
 unW .not t23 fun t24 =>
 J9 [t24] w11)
 fun s9 _ w12 =>
 pickW t19 (s9.getD 0 undef) (.bool false) fun t25 =>
 condW t25 (
 ldW false 1 v0 w12 fun t26 =>
 callF Tryz.prog 20 [t26] w12 fun t27 w13 =>
 partW false 2 1 t27 fun t28 =>
 callF Tryz.prog 22 [(.int .i64 50),t28] w13 fun t29 w14 =>
 J7 [] w14) (
 J7 [] w12))
 fun s7 _ w15 =>
 ldW false 1 v0 w15 fun t30 =>
 callF Tryz.prog 19 [t30] w15 fun t31 w16 =>
 L3 [] w16) (
 K (.tuple #[]) w5)
theorem W44_ok {v0 v1 : Value} {w : World} {K : Value → World → Prop} (h : W44 v0 v1 w K) : callF Tryz.prog 44 [v0,v1] w K :=
 tie _ 44 Tryz.f44 plan44 _ w K 2 _ rfl mixed Tryz.func44 (by kernel_rfl) (by kernel_rfl) Tryz.call44 h
def plan45 : Plan := { js := [],ds := [] }
def W45 (v0 v1 : Value) (w : World) (K : Value → World → Prop) : Prop :=
 bslW 9 1 [(.string (ofL []))] [(0,1,v1)] w fun t7 w1 =>
 callF Tryz.prog 42 [v0,t7] w1 fun t8 w2 =>
 unW .not t8 fun t9 =>
 condW t9 (
 K (.bool false) w2) (
 nilW v0 fun t11 =>
 fldW 1 t11 fun t12 =>
 ldW false 1 t12 w2 fun t13 =>
 binW .add t13 (.int .i64 1) fun t14 =>
 nilW v0 fun t15 =>
 fldW 1 t15 fun t16 =>
 stW 1 t16 t14 w2 fun w3 =>
 K (.bool true) w3)
theorem W45_ok {v0 v1 : Value} {w : World} {K : Value → World → Prop} (h : W45 v0 v1 w K) : callF Tryz.prog 45 [v0,v1] w K :=
 tie _ 45 Tryz.f45 plan45 _ w K 2 _ rfl mixed Tryz.func45 (by kernel_rfl) (by kernel_rfl) Tryz.call45 h
def plan46 : Plan := { js := [],ds := [(12,⟨[0,1,2,3,4,5,9,10],[[],[],[1],[1,2],[1,2,3],[],[5],[5,6],[1,2,3,4,5,6,7],[0,1,2,3,4,5,6,7,8],[0,1,2,3,4,5,6,7,8,9],[0,1,2,3,4,5,6,7,8,9,10]]⟩),(7,⟨[0,1,2,3,4,5,6,7,9,10,11,14,15],[[],[],[1],[1,2],[1,2,3],[],[5],[],[7],[],[9],[5,6,7,8,9,10],[5,6,7,8,9,10,11],[1,2,3,4,5,6,7,8,9,10,11,12],[0,1,2,3,4,5,6,7,8,9,10,11,12,13],[0,1,2,3,4,5,6,7,8,9,10,11,12,13,14],[0,1,2,3,4,5,6,7,8,9,10,11,12,13,14,15]]⟩)] }
def W46 (v0 v1 : Value) (w : World) (K : Value → World → Prop) : Prop :=
 callF Tryz.prog 39 [v0,(.int .i64 1)] w fun t6 w1 =>
 allocW 64 [(.int .i64 0),(.string (ofL [])),(.int .i64 0)] w1 fun t4 w2 =>
 stW 3 t4 t6 w2 fun w3 =>
 callF Tryz.prog 45 [v0,(.string (ofL [61]))] w3 fun t8 w4 =>
 condW t8 (
 nilW v1 fun t11 =>
 fldW 2 t11 fun t12 =>
 ldW false 1 t12 w4.drew fun t13 =>
 fldW 1 t4 fun t14 =>
 ldW false 1 t14 w4.drew fun t15 =>
 fldW 2 t4 fun t18 =>
 ldW false 1 t18 w4.drew fun t19 =>
 callF Tryz.prog 81 [v0] w4.drew fun t17 w5 =>
 (ldW false 1 t18 w5 fun x => x = t19) ∧
 (ldW false 1 t14 w5 fun x => x = t15) ∧
 (ldW false 1 t12 w5 fun x => x = t13) ∧
 putW [(.string (ofL [])),(.int .i64 0),(.int .i64 0)] [(0,1,t15),(1,1,t17),(2,1,t19)] fun c6 =>
 bslW 40 1 [(.string (ofL [])),(.int .i64 0),(.int .i64 0)] [(0,3,(.agg c6.toArray))] w5 fun t21 w7 =>
 (ldW false 1 t12 w7 fun x => x = t13) ∧
 semE Tryz.prog (Builtin.append_ #[36,36] 36 #[t13,t21]) w7 fun t22 w8 =>
 nilW v1 fun t23 =>
 fldW 2 t23 fun t24 =>
 stW 1 t24 t22 w8 fun w9 =>
 K (.tuple #[]) w9) (
 nilW v0 fun t26 =>
 fldW 1 t26 fun t27 =>
 ldW false 1 t27 w4 fun t28 =>
 binW .sub t28 (.int .i64 1) fun t29 =>
 nilW v0 fun t30 =>
 fldW 1 t30 fun t31 =>
 stW 1 t31 t29 w4 fun w10 =>
 nilW v1 fun t34 =>
 fldW 3 t34 fun t35 =>
 ldW false 1 t35 w10.drew fun t36 =>
 callF Tryz.prog 21 [v0] w10.drew fun t38 w11 =>
 (ldW false 1 t35 w11 fun x => x = t36) ∧
 bslW 3 1 [(.int .i64 0)] [(0,1,t38)] w11 fun t39 w12 =>
 (ldW false 1 t35 w12 fun x => x = t36) ∧
 semE Tryz.prog (Builtin.append_ #[26,26] 26 #[t36,t39]) w12 fun t40 w13 =>
 nilW v1 fun t41 =>
 fldW 3 t41 fun t42 =>
 stW 1 t42 t40 w13 fun w14 =>
 K (.tuple #[]) w14)
theorem W46_ok {v0 v1 : Value} {w : World} {K : Value → World → Prop} (h : W46 v0 v1 w K) : callF Tryz.prog 46 [v0,v1] w K :=
 tie _ 46 Tryz.f46 plan46 _ w K 2 _ rfl mixed Tryz.func46 (by kernel_rfl) (by kernel_rfl) Tryz.call46 h
def plan68 : Plan := { js := [(6,⟨[8],[4,5],8⟩)],ds := [] }
def W68 (v0 v1 : Value) (w : World) (K : Value → World → Prop) : Prop :=
 lensW v0 fun t7 =>
 LoopW [(.int .i64 0)] w fun s1 _ w2 L1 =>
 binW .lss (s1.getD 0 undef) t7 fun t9 =>
 condW t9 (
 ixsW v0 (s1.getD 0 undef) fun t14 =>
 callV Tryz.prog v1 [t14] w2 fun t15 w3 =>
 unW .not t15 fun t16 =>
 condW t16 (
 K (s1.getD 0 undef) w3) (
 binW .add (s1.getD 0 undef) (.int .i64 1) fun t18 =>
 L1 [t18] w3)) (
 lensW v0 fun t20 =>
 K t20 w2)
theorem W68_ok {v0 v1 : Value} {w : World} {K : Value → World → Prop} (h : W68 v0 v1 w K) : callF Tryz.prog 68 [v0,v1] w K :=
 tie _ 68 Tryz.f68 plan68 _ w K 2 _ rfl mixed Tryz.func68 (by kernel_rfl) (by kernel_rfl) Tryz.call68 h
def plan69 : Plan := { js := [],ds := [] }
def W69 (v0 : Value) (w : World) (K : Value → World → Prop) : Prop :=
 binW .neq v0 (.int .u8 10) fun t4 =>
 K t4 w
theorem W69_ok {v0 : Value} {w : World} {K : Value → World → Prop} (h : W69 v0 w K) : callF Tryz.prog 69 [v0] w K :=
 tie _ 69 Tryz.f69 plan69 _ w K 1 _ rfl mixed Tryz.func69 (by kernel_rfl) (by kernel_rfl) Tryz.call69 h
def plan71 : Plan := { js := [(3004,⟨[19],[],18⟩),(3007,⟨[15],[],10⟩),(3009,⟨[14],[],13⟩),(3012,⟨[12],[],10⟩),(3016,⟨[7],[],6⟩)],ds := [] }
def W71 (v0 : Value) (w : World) (K : Value → World → Prop) : Prop :=
 binW .geq v0 (.int .u8 97) fun t4 =>
 GdW (isB t4 true) [undef] w (fun J1 =>
 binW .leq v0 (.int .u8 122) fun t7 =>
 J1 [t7] w)
 fun s1 _ w2 =>
 pickW t4 (s1.getD 0 undef) (.bool false) fun t8 =>
 GdW (isB t8 false) [undef] w2 (fun J3 =>
 binW .geq v0 (.int .u8 65) fun t11 =>
 J3 [t11] w2)
 fun s3 _ w4 =>
 GdW (isB (s3.getD 0 undef) true) [undef] w4 (fun J5 =>
 binW .leq v0 (.int .u8 90) fun t14 =>
 J5 [t14] w4)
 fun s5 _ w6 =>
 GdW (isB t8 false) [undef] w6 (fun J7 =>
 pickW (s3.getD 0 undef) (s5.getD 0 undef) (.bool false) fun t15 =>
 J7 [t15] w6)
 fun s7 _ w8 =>
 pickW t8 (.bool true) (s7.getD 0 undef) fun t16 =>
 GdW (isB t16 false) [undef] w8 (fun J9 =>
 binW .eql v0 (.int .u8 95) fun t19 =>
 J9 [t19] w8)
 fun s9 _ w10 =>
 pickW t16 (.bool true) (s9.getD 0 undef) fun t20 =>
 K t20 w10
theorem W71_ok {v0 : Value} {w : World} {K : Value → World → Prop} (h : W71 v0 w K) : callF Tryz.prog 71 [v0] w K :=
 tie _ 71 Tryz.f71 plan71 _ w K 1 _ rfl mixed Tryz.func71 (by kernel_rfl) (by kernel_rfl) Tryz.call71 h
def plan72 : Plan := { js := [(3004,⟨[11],[],10⟩),(3008,⟨[7],[],6⟩)],ds := [] }
def W72 (v0 : Value) (w : World) (K : Value → World → Prop) : Prop :=
 callF Tryz.prog 71 [v0] w fun t4 w1 =>
 GdW (isB t4 false) [undef] w1 (fun J2 =>
 callF Tryz.prog 73 [v0] w1 fun t7 w3 =>
 J2 [t7] w3)
 fun s2 _ w4 =>
 pickW t4 (.bool true) (s2.getD 0 undef) fun t8 =>
 GdW (isB t8 false) [undef] w4 (fun J5 =>
 binW .eql v0 (.int .u8 45) fun t11 =>
 J5 [t11] w4)
 fun s5 _ w6 =>
 pickW t8 (.bool true) (s5.getD 0 undef) fun t12 =>
 K t12 w6
theorem W72_ok {v0 : Value} {w : World} {K : Value → World → Prop} (h : W72 v0 w K) : callF Tryz.prog 72 [v0] w K :=
 tie _ 72 Tryz.f72 plan72 _ w K 1 _ rfl mixed Tryz.func72 (by kernel_rfl) (by kernel_rfl) Tryz.call72 h
def plan73 : Plan := { js := [(3004,⟨[7],[],6⟩)],ds := [] }
def W73 (v0 : Value) (w : World) (K : Value → World → Prop) : Prop :=
 binW .geq v0 (.int .u8 48) fun t4 =>
 GdW (isB t4 true) [undef] w (fun J1 =>
 binW .leq v0 (.int .u8 57) fun t7 =>
 J1 [t7] w)
 fun s1 _ w2 =>
 pickW t4 (s1.getD 0 undef) (.bool false) fun t8 =>
 K t8 w2
theorem W73_ok {v0 : Value} {w : World} {K : Value → World → Prop} (h : W73 v0 w K) : callF Tryz.prog 73 [v0] w K :=
 tie _ 73 Tryz.f73 plan73 _ w K 1 _ rfl mixed Tryz.func73 (by kernel_rfl) (by kernel_rfl) Tryz.call73 h
def plan75 : Plan := { js := [(32007,⟨[43],[],38⟩),(6,⟨[6],[],2⟩)],ds := [] }
def W75 (v0 v1 : Value) (w : World) (K : Value → World → Prop) : Prop :=
 LoopW [(.int .i64 1)] w fun s1 _ w2 L1 =>
 lensW v0 fun t11 =>
 binW .lss (s1.getD 0 undef) t11 fun t12 =>
 condW t12 (
 ixsW v0 (s1.getD 0 undef) fun t18 =>
 binW .eql t18 (.int .u8 34) fun t19 =>
 condW t19 (
 binW .add (s1.getD 0 undef) (.int .i64 1) fun t21 =>
 K (.tuple #[t21,(.int .i64 0)]) w2) (
 ixsW v0 (s1.getD 0 undef) fun t25 =>
 binW .eql t25 (.int .u8 10) fun t26 =>
 condW t26 (
 K (.tuple #[(.int .i64 0),(.int .i64 40)]) w2) (
 ixsW v0 (s1.getD 0 undef) fun t30 =>
 binW .eql t30 (.int .u8 92) fun t31 =>
 condW t31 (
 binW .add (s1.getD 0 undef) (.int .i64 1) fun t33 =>
 lensW v0 fun t35 =>
 binW .geq t33 t35 fun t36 =>
 GdW (isB t36 false) [undef] w2 (fun J3 =>
 binW .add (s1.getD 0 undef) (.int .i64 1) fun t40 =>
 ixsW v0 t40 fun t41 =>
 callF Tryz.prog 67 [(.string (ofL [34,92,110,116,114,36])),t41] w2 fun t42 w4 =>
 binW .lss t42 (.int .i64 0) fun t43 =>
 J3 [t43] w4)
 fun s3 _ w5 =>
 pickW t36 (.bool true) (s3.getD 0 undef) fun t44 =>
 condW t44 (
 K (.tuple #[(.int .i64 0),(.int .i64 40)]) w5) (
 binW .add (s1.getD 0 undef) (.int .i64 2) fun t46 =>
 L1 [t46] w5)) (
 slsW v0 (some (s1.getD 0 undef)) none fun t50 =>
 callF Tryz.prog 36 [t50,(.string (ofL [36,123]))] w2 fun t51 w6 =>
 condW t51 (
 binW .add (s1.getD 0 undef) (.int .i64 1) fun t55 =>
 slsW v0 (some t55) none fun t56 =>
 binW .add v1 (.int .i64 1) fun t58 =>
 callF Tryz.prog 98 [t56,t58] w6 fun t59 w7 =>
 extW 0 t59 fun t60 =>
 extW 1 t59 fun t61 =>
 binW .neq t61 (.int .i64 0) fun t63 =>
 condW t63 (
 K (.tuple #[(.int .i64 0),t61]) w7) (
 binW .add t60 (.int .i64 1) fun t67 =>
 binW .add (s1.getD 0 undef) t67 fun t68 =>
 L1 [t68] w7)) (
 binW .add (s1.getD 0 undef) (.int .i64 1) fun t14 =>
 L1 [t14] w6))))) (
 K (.tuple #[(.int .i64 0),(.int .i64 40)]) w2)
theorem W75_ok {v0 v1 : Value} {w : World} {K : Value → World → Prop} (h : W75 v0 v1 w K) : callF Tryz.prog 75 [v0,v1] w K :=
 tie _ 75 Tryz.f75 plan75 _ w K 2 _ rfl mixed Tryz.func75 (by kernel_rfl) (by kernel_rfl) Tryz.call75 h
def plan76 : Plan := { js := [(61,⟨[13],[13],68⟩),(65,⟨[72],[],72⟩),(51,⟨[],[13],68⟩),(27,⟨[7],[2,3,4,7],9⟩),(16005,⟨[43],[],40⟩),(16011,⟨[37],[],34⟩),(4,⟨[5],[],1⟩),(6004,⟨[20],[],18⟩)],ds := [] }
def W76 (v0 : Value) (w : World) (K : Value → World → Prop) : Prop :=
 JoinW (fun J1 =>
 lensW v0 fun t15 =>
 binW .gtr t15 (.int .i64 2) fun t16 =>
 GdW (isB t16 true) [undef] w (fun J2 =>
 ixsW v0 (.int .i64 2) fun t19 =>
 callF Tryz.prog 71 [t19] w fun t20 w3 =>
 J2 [t20] w3)
 fun s2 _ w4 =>
 pickW t16 (s2.getD 0 undef) (.bool false) fun t21 =>
 condW t21 (
 slsW v0 (some (.int .i64 2)) none fun t23 =>
 callF Tryz.prog 68 [t23,(.func (.func 99) #[] #[])] w4 fun t24 w5 =>
 J1 [t24] w5) (
 J1 [(.int .i64 0)] w4))
 fun s1 _ w6 =>
 binW .add (.int .i64 2) (s1.getD 0 undef) fun t27 =>
 slsW v0 (some (.int .i64 2)) (some t27) fun t28 =>
 binW .add (.int .i64 2) (s1.getD 0 undef) fun t30 =>
 binW .eql (s1.getD 0 undef) (.int .i64 0) fun t32 =>
 GdW (isB t32 false) [undef] w6 (fun J7 =>
 lensW v0 fun t36 =>
 binW .geq t30 t36 fun t37 =>
 J7 [t37] w6)
 fun s7 _ w8 =>
 pickW t32 (.bool true) (s7.getD 0 undef) fun t38 =>
 GdW (isB t38 false) [undef] w8 (fun J9 =>
 ixsW v0 t30 fun t42 =>
 binW .neq t42 (.int .u8 10) fun t43 =>
 J9 [t43] w8)
 fun s9 _ w10 =>
 pickW t38 (.bool true) (s9.getD 0 undef) fun t44 =>
 condW t44 (
 K (.tuple #[(.string (ofL [])),(.int .i64 0),(.int .i64 40)]) w10) (
 binW .add t30 (.int .i64 1) fun t46 =>
 allocW 84 [(.pointer none),(.slice none 0 0)] w10 fun t8 w11 =>
 LoopW [t46] w11 fun s12 _ w13 L12 =>
 slsW v0 (some (s12.getD 0 undef)) none fun t50 =>
 callF Tryz.prog 100 [t50,(.string (ofL [10]))] w13 fun t51 w14 =>
 extW 0 t51 fun t52 =>
 extW 1 t51 fun t53 =>
 extW 2 t51 fun t54 =>
 callF Tryz.prog 101 [t52,(.string (ofL [32,9]))] w14 fun t56 w15 =>
 binW .eql t56 t28 fun t58 =>
 condW t58 (
 callF Tryz.prog 34 [t8] w15 fun t59 w16 =>
 lensW t52 fun t62 =>
 binW .add (s12.getD 0 undef) t62 fun t63 =>
 K (.tuple #[t59,t63,(.int .i64 0)]) w16) (
 unW .not t54 fun t65 =>
 condW t65 (
 K (.tuple #[(.string (ofL [])),(.int .i64 0),(.int .i64 40)]) w15) (
 semE Tryz.prog (Instr.range 9 t52) w15 fun t67 w17 =>
 LoopW [] w17 fun s18 _ w19 L18 =>
 semE Tryz.prog (Instr.next t67 true 0) w19 fun t68 w20 =>
 extW 0 t68 fun t69 =>
 condW t69 (
 extW 2 t68 fun t70 =>
 JoinW (fun J21 =>
 JoinW (fun J22 =>
 binW .eql t70 (.int .i32 92) fun t73 =>
 condW t73 (
 J22 [t73] w20) (
 binW .eql t70 (.int .i32 34) fun t74 =>
 condW t74 (
 J22 [t74] w20) (
 binW .eql t70 (.int .i32 36) fun t75 =>
 J22 [t75] w20)))
 fun s22 _ w23 =>
 condW (s22.getD 0 undef) (
 callF Tryz.prog 89 [t8,(.int .u8 92)] w23 fun t76 w24 =>
 J21 [t70] w24) (
 binW .eql t70 (.int .i32 9) fun t78 =>
 condW t78 (
 callF Tryz.prog 89 [t8,(.int .u8 92)] w23 fun t79 w25 =>
 J21 [(.int .i32 116)] w25) (
 binW .eql t70 (.int .i32 13) fun t81 =>
 condW t81 (
 callF Tryz.prog 89 [t8,(.int .u8 92)] w23 fun t82 w26 =>
 J21 [(.int .i32 114)] w26) (
 J21 [t70] w23))))
 fun s21 _ w27 =>
 callF Tryz.prog 90 [t8,(s21.getD 0 undef)] w27 fun t84 w28 =>
 L18 [] w28) (
 callF Tryz.prog 65 [t8,(.string (ofL [92,110]))] w20 fun t85 w29 =>
 lensW t52 fun t88 =>
 binW .add t88 (.int .i64 1) fun t89 =>
 binW .add (s12.getD 0 undef) t89 fun t90 =>
 L12 [t90] w29))))
theorem W76_ok {v0 : Value} {w : World} {K : Value → World → Prop} (h : W76 v0 w K) : callF Tryz.prog 76 [v0] w K :=
 tie _ 76 Tryz.f76 plan76 _ w K 1 _ rfl mixed Tryz.func76 (by kernel_rfl) (by kernel_rfl) Tryz.call76 h
def plan77 : Plan := { js := [(2,⟨[],[],1⟩),(9,⟨[8],[],1⟩)],ds := [] }
def W77 (v0 : Value) (w : World) (K : Value → World → Prop) : Prop :=
 JoinW (fun J1 =>
 lensW v0 fun t4 =>
 binW .gtr t4 (.int .i64 1) fun t5 =>
 condW t5 (
 slsW v0 none (some (.int .i64 2)) fun t7 =>
 JoinW (fun J2 =>
 binW .eql t7 (.string (ofL [61,61])) fun t9 =>
 condW t9 (
 J2 [t9] w) (
 binW .eql t7 (.string (ofL [33,61])) fun t10 =>
 condW t10 (
 J2 [t10] w) (
 binW .eql t7 (.string (ofL [60,61])) fun t11 =>
 condW t11 (
 J2 [t11] w) (
 binW .eql t7 (.string (ofL [62,61])) fun t12 =>
 condW t12 (
 J2 [t12] w) (
 binW .eql t7 (.string (ofL [38,38])) fun t13 =>
 condW t13 (
 J2 [t13] w) (
 binW .eql t7 (.string (ofL [124,124])) fun t14 =>
 J2 [t14] w))))))
 fun s2 _ w3 =>
 condW (s2.getD 0 undef) (
 slsW v0 none (some (.int .i64 2)) fun t16 =>
 K t16 w3) (
 J1 [] w3)) (
 J1 [] w))
 fun s1 _ w4 =>
 ixsW v0 (.int .i64 0) fun t18 =>
 callF Tryz.prog 67 [(.string (ofL [123,125,91,93,40,41,61,43,45,42,47,37,60,62,33,63,58,44,46])),t18] w4 fun t19 w5 =>
 binW .geq t19 (.int .i64 0) fun t20 =>
 condW t20 (
 slsW v0 none (some (.int .i64 1)) fun t22 =>
 K t22 w5) (
 K (.string (ofL [])) w5)
theorem W77_ok {v0 : Value} {w : World} {K : Value → World → Prop} (h : W77 v0 w K) : callF Tryz.prog 77 [v0] w K :=
 tie _ 77 Tryz.f77 plan77 _ w K 1 _ rfl mixed Tryz.func77 (by kernel_rfl) (by kernel_rfl) Tryz.call77 h
def plan78 : Plan := { js := [(13,⟨[4],[],1⟩),(6,⟨[4],[],1⟩)],ds := [] }
def W78 (v0 : Value) (w : World) (K : Value → World → Prop) : Prop :=
 LoopW [(.int .i64 0)] w fun s1 _ w2 L1 =>
 lensW v0 fun t7 =>
 binW .lss (s1.getD 0 undef) t7 fun t8 =>
 condW t8 (
 JoinW (fun J3 =>
 ixsW v0 (s1.getD 0 undef) fun t13 =>
 binW .eql t13 (.int .u8 92) fun t14 =>
 condW t14 (
 binW .add (s1.getD 0 undef) (.int .i64 1) fun t16 =>
 J3 [t16] w2) (
 slsW v0 (some (s1.getD 0 undef)) none fun t19 =>
 callF Tryz.prog 36 [t19,(.string (ofL [36,123]))] w2 fun t20 w4 =>
 condW t20 (
 binW .add (s1.getD 0 undef) (.int .i64 1) fun t23 =>
 binW .add (s1.getD 0 undef) (.int .i64 1) fun t26 =>
 slsW v0 (some t26) none fun t27 =>
 callF Tryz.prog 102 [t27] w4 fun t28 w5 =>
 binW .add t23 t28 fun t29 =>
 K (.tuple #[(s1.getD 0 undef),t29]) w5) (
 J3 [(s1.getD 0 undef)] w4)))
 fun s3 _ w6 =>
 binW .add (s3.getD 0 undef) (.int .i64 1) fun t10 =>
 L1 [t10] w6) (
 K (.tuple #[(.int .i64 (-1)),(.int .i64 0)]) w2)
theorem W78_ok {v0 : Value} {w : World} {K : Value → World → Prop} (h : W78 v0 w K) : callF Tryz.prog 78 [v0] w K :=
 tie _ 78 Tryz.f78 plan78 _ w K 1 _ rfl mixed Tryz.func78 (by kernel_rfl) (by kernel_rfl) Tryz.call78 h
def plan79 : Plan := { js := [(19,⟨[4,5],[],4⟩),(8,⟨[4],[],4⟩)],ds := [] }
def W79 (v0 : Value) (w : World) (K : Value → World → Prop) : Prop :=
 allocW 84 [(.pointer none),(.slice none 0 0)] w fun t3 w1 =>
 LoopW [(.int .i64 0)] w1 fun s2 _ w3 L2 =>
 lensW v0 fun t8 =>
 binW .lss (s2.getD 0 undef) t8 fun t9 =>
 condW t9 (
 ixsW v0 (s2.getD 0 undef) fun t14 =>
 JoinW (fun J4 =>
 binW .eql t14 (.int .u8 92) fun t16 =>
 condW t16 (
 binW .add (s2.getD 0 undef) (.int .i64 1) fun t18 =>
 ixsW v0 t18 fun t21 =>
 binW .eql t21 (.int .u8 110) fun t24 =>
 condW t24 (
 J4 [t18,(.int .u8 10)] w3) (
 binW .eql t21 (.int .u8 116) fun t26 =>
 condW t26 (
 J4 [t18,(.int .u8 9)] w3) (
 binW .eql t21 (.int .u8 114) fun t28 =>
 condW t28 (
 J4 [t18,(.int .u8 13)] w3) (
 J4 [t18,t21] w3)))) (
 J4 [(s2.getD 0 undef),t14] w3))
 fun s4 _ w5 =>
 callF Tryz.prog 89 [t3,(s4.getD 1 undef)] w5 fun t30 w6 =>
 binW .add (s4.getD 0 undef) (.int .i64 1) fun t11 =>
 L2 [t11] w6) (
 callF Tryz.prog 34 [t3] w3 fun t31 w7 =>
 K t31 w7)
theorem W79_ok {v0 : Value} {w : World} {K : Value → World → Prop} (h : W79 v0 w K) : callF Tryz.prog 79 [v0] w K :=
 tie _ 79 Tryz.f79 plan79 _ w K 1 _ rfl mixed Tryz.func79 (by kernel_rfl) (by kernel_rfl) Tryz.call79 h
def plan81 : Plan := { js := [],ds := [(17,⟨[0,1,2,3,4,5,6,7],[[],[],[1],[],[3],[3,4],[3,4,5],[],[0,1,2,3,4,5,6,7]]⟩)] }
def W81 (v0 : Value) (w : World) (K : Value → World → Prop) : Prop :=
 boxW 58 v0 w fun t1 w1 =>
 ldW false 1 t1 w1 fun t6 =>
 callF Tryz.prog 104 [t6,(.int .i64 0)] w1 fun t7 w2 =>
 ldW false 1 t1 w2 fun t8 =>
 callF Tryz.prog 20 [t8] w2 fun t9 w3 =>
 allocW 64 [(.int .i64 0),(.string (ofL [])),(.int .i64 0)] w3 fun t4 w4 =>
 stW 3 t4 t9 w4 fun w5 =>
 ldW false 1 t1 w5 fun t10 =>
 callF Tryz.prog 45 [t10,(.string (ofL [63]))] w5 fun t11 w6 =>
 unW .not t11 fun t12 =>
 condW t12 (
 K t7 w6) (
 bslW 3 3 [(.int .i64 0),(.int .i64 0),(.int .i64 0)] [(0,1,t7),(1,1,(.int .i64 0)),(2,1,(.int .i64 0))] w6 fun t15 w7 =>
 allocW 26 [(.slice none 0 0)] w7 fun t5 w8 =>
 stW 1 t5 t15 w8 fun w9 =>
 ldW false 1 t1 w9.drew fun t16 =>
 fldW 2 t4 fun t17 =>
 ldW false 1 t17 w9.drew fun t18 =>
 ldW false 1 t1 w9.drew fun t19 =>
 nilW t19 fun t20 =>
 fldW 5 t20 fun t21 =>
 ldW false 1 t21 w9.drew fun t22 =>
 callF Tryz.prog 43 [t16,t18,t22,(.func (.func 105) #[] #[t1,t5])] w9.drew fun t24 w10 =>
 ldW false 1 t1 w10 fun t25 =>
 ldW false 1 t5 w10 fun t26 =>
 fldW 2 t4 fun t27 =>
 ldW false 1 t27 w10 fun t28 =>
 putW [(.int .i64 0),(.string (ofL [])),(.slice none 0 0),(.slice none 0 0),(.int .i64 0)] [(0,1,(.int .i64 28)),(2,1,t26),(4,1,t28)] fun c11 =>
 callF Tryz.prog 107 [t25,(.agg c11.toArray)] w10 fun t30 w12 =>
 K t30 w12)
theorem W81_ok {v0 : Value} {w : World} {K : Value → World → Prop} (h : W81 v0 w K) : callF Tryz.prog 81 [v0] w K :=
 tie _ 81 Tryz.f81 plan81 _ w K 1 _ rfl mixed Tryz.func81 (by kernel_rfl) (by kernel_rfl) Tryz.call81 h
def plan98 : Plan := { js := [(24,⟨[7,8],[4,5],7⟩),(14,⟨[6],[],2⟩)],ds := [] }
def W98 (v0 v1 : Value) (w : World) (K : Value → World → Prop) : Prop :=
 binW .gtr v1 (.int .i64 24) fun t10 =>
 condW t10 (
 K (.tuple #[(.int .i64 0),(.int .i64 7)]) w) (
 LoopW [(.int .i64 1)] w fun s1 _ w2 L1 =>
 lensW v0 fun t13 =>
 binW .lss (s1.getD 0 undef) t13 fun t14 =>
 condW t14 (
 JoinW (fun J3 =>
 ixsW v0 (s1.getD 0 undef) fun t17 =>
 binW .eql t17 (.int .u8 125) fun t19 =>
 condW t19 (
 binW .add (s1.getD 0 undef) (.int .i64 1) fun t21 =>
 K (.tuple #[t21,(.int .i64 0)]) w2) (
 binW .eql t17 (.int .u8 10) fun t23 =>
 condW t23 (
 K (.tuple #[(.int .i64 0),(.int .i64 40)]) w2) (
 binW .eql t17 (.int .u8 123) fun t25 =>
 condW t25 (
 slsW v0 (some (s1.getD 0 undef)) none fun t29 =>
 binW .add v1 (.int .i64 1) fun t31 =>
 callF Tryz.prog 98 [t29,t31] w2 fun t32 w4 =>
 extW 0 t32 fun t33 =>
 extW 1 t32 fun t34 =>
 J3 [t33,t34] w4) (
 binW .eql t17 (.int .u8 34) fun t36 =>
 condW t36 (
 slsW v0 (some (s1.getD 0 undef)) none fun t40 =>
 callF Tryz.prog 75 [t40,v1] w2 fun t42 w5 =>
 extW 0 t42 fun t43 =>
 extW 1 t42 fun t44 =>
 J3 [t43,t44] w5) (
 J3 [(.int .i64 1),(.int .i64 0)] w2)))))
 fun s3 _ w6 =>
 binW .neq (s3.getD 1 undef) (.int .i64 0) fun t46 =>
 condW t46 (
 K (.tuple #[(.int .i64 0),(s3.getD 1 undef)]) w6) (
 binW .add (s1.getD 0 undef) (s3.getD 0 undef) fun t50 =>
 L1 [t50] w6)) (
 K (.tuple #[(.int .i64 0),(.int .i64 40)]) w2))
theorem W98_ok {v0 v1 : Value} {w : World} {K : Value → World → Prop} (h : W98 v0 v1 w K) : callF Tryz.prog 98 [v0,v1] w K :=
 tie _ 98 Tryz.f98 plan98 _ w K 2 _ rfl mixed Tryz.func98 (by kernel_rfl) (by kernel_rfl) Tryz.call98 h
def plan99 : Plan := { js := [(3004,⟨[11],[],10⟩),(3008,⟨[7],[],6⟩)],ds := [] }
def W99 (v0 : Value) (w : World) (K : Value → World → Prop) : Prop :=
 callF Tryz.prog 71 [v0] w fun t4 w1 =>
 GdW (isB t4 false) [undef] w1 (fun J2 =>
 callF Tryz.prog 73 [v0] w1 fun t7 w3 =>
 J2 [t7] w3)
 fun s2 _ w4 =>
 pickW t4 (.bool true) (s2.getD 0 undef) fun t8 =>
 GdW (isB t8 false) [undef] w4 (fun J5 =>
 binW .eql v0 (.int .u8 45) fun t11 =>
 J5 [t11] w4)
 fun s5 _ w6 =>
 pickW t8 (.bool true) (s5.getD 0 undef) fun t12 =>
 K t12 w6
theorem W99_ok {v0 : Value} {w : World} {K : Value → World → Prop} (h : W99 v0 w K) : callF Tryz.prog 99 [v0] w K :=
 tie _ 99 Tryz.f99 plan99 _ w K 1 _ rfl mixed Tryz.func99 (by kernel_rfl) (by kernel_rfl) Tryz.call99 h
def plan102 : Plan := { js := [(15,⟨[3,4],[],1⟩),(8,⟨[3,4],[],1⟩)],ds := [] }
def W102 (v0 : Value) (w : World) (K : Value → World → Prop) : Prop :=
 LoopW [(.int .i64 0),(.int .i64 0)] w fun s1 _ w2 L1 =>
 lensW v0 fun t7 =>
 binW .lss (s1.getD 1 undef) t7 fun t8 =>
 condW t8 (
 JoinW (fun J3 =>
 ixsW v0 (s1.getD 1 undef) fun t13 =>
 binW .eql t13 (.int .u8 123) fun t15 =>
 condW t15 (
 binW .add (s1.getD 0 undef) (.int .i64 1) fun t17 =>
 J3 [t17,(s1.getD 1 undef)] w2) (
 binW .eql t13 (.int .u8 125) fun t19 =>
 condW t19 (
 binW .sub (s1.getD 0 undef) (.int .i64 1) fun t21 =>
 binW .eql t21 (.int .i64 0) fun t23 =>
 condW t23 (
 binW .add (s1.getD 1 undef) (.int .i64 1) fun t25 =>
 K t25 w2) (
 J3 [t21,(s1.getD 1 undef)] w2)) (
 binW .eql t13 (.int .u8 34) fun t27 =>
 condW t27 (
 slsW v0 (some (s1.getD 1 undef)) none fun t31 =>
 callF Tryz.prog 130 [t31] w2 fun t32 w4 =>
 binW .sub t32 (.int .i64 1) fun t33 =>
 binW .add (s1.getD 1 undef) t33 fun t34 =>
 J3 [(s1.getD 0 undef),t34] w4) (
 J3 [(s1.getD 0 undef),(s1.getD 1 undef)] w2))))
 fun s3 _ w5 =>
 binW .add (s3.getD 1 undef) (.int .i64 1) fun t10 =>
 L1 [(s3.getD 0 undef),t10] w5) (
 lensW v0 fun t36 =>
 K t36 w2)
theorem W102_ok {v0 : Value} {w : World} {K : Value → World → Prop} (h : W102 v0 w K) : callF Tryz.prog 102 [v0] w K :=
 tie _ 102 Tryz.f102 plan102 _ w K 1 _ rfl mixed Tryz.func102 (by kernel_rfl) (by kernel_rfl) Tryz.call102 h
def plan104 : Plan := { js := [(13,⟨[5],[],2⟩)],ds := [] }
def W104 (v0 v1 : Value) (w : World) (K : Value → World → Prop) : Prop :=
 binW .eql v1 (.int .i64 6) fun t10 =>
 condW t10 (
 callF Tryz.prog 131 [v0] w fun t12 w1 =>
 K t12 w1) (
 binW .add v1 (.int .i64 1) fun t15 =>
 callF Tryz.prog 104 [v0,t15] w fun t16 w2 =>
 LoopW [t16] w2 fun s3 _ w4 L3 =>
 callF Tryz.prog 20 [v0] w4 fun t18 w5 =>
 allocW 64 [(.int .i64 0),(.string (ofL [])),(.int .i64 0)] w5 fun t6 w6 =>
 stW 3 t6 t18 w6 fun w7 =>
 ldW true 3 t6 w7 fun t19 =>
 callF Tryz.prog 132 [t19,v1] w7 fun t21 w8 =>
 binW .eql t21 (.int .i64 0) fun t23 =>
 condW t23 (
 K (s3.getD 0 undef) w8) (
 nilW v0 fun t26 =>
 fldW 1 t26 fun t27 =>
 ldW false 1 t27 w8 fun t28 =>
 binW .add t28 (.int .i64 1) fun t29 =>
 nilW v0 fun t30 =>
 fldW 1 t30 fun t31 =>
 stW 1 t31 t29 w8 fun w9 =>
 binW .add v1 (.int .i64 1) fun t34 =>
 callF Tryz.prog 104 [v0,t34] w9 fun t35 w10 =>
 bslW 3 2 [(.int .i64 0),(.int .i64 0)] [(0,1,(s3.getD 0 undef)),(1,1,t35)] w10 fun t40 w11 =>
 fldW 2 t6 fun t41 =>
 ldW false 1 t41 w11 fun t42 =>
 putW [(.int .i64 0),(.string (ofL [])),(.slice none 0 0),(.slice none 0 0),(.int .i64 0)] [(0,1,t21),(2,1,t40),(4,1,t42)] fun c12 =>
 callF Tryz.prog 107 [v0,(.agg c12.toArray)] w11 fun t44 w13 =>
 L3 [t44] w13))
theorem W104_ok {v0 v1 : Value} {w : World} {K : Value → World → Prop} (h : W104 v0 v1 w K) : callF Tryz.prog 104 [v0,v1] w K :=
 tie _ 104 Tryz.f104 plan104 _ w K 2 _ rfl mixed Tryz.func104 (by kernel_rfl) (by kernel_rfl) Tryz.call104 h
def plan105 : Plan := { js := [],ds := [(4,⟨[0,1,3],[[],[],[1],[0,1,2],[0,1,2,3]]⟩),(1,⟨[0,1,3],[[],[],[1],[0,1,2],[0,1,2,3]]⟩)] }
def W105 (v0 v1 : Value) (w : World) (K : Value → World → Prop) : Prop :=
 ldW false 1 v1 w.drew fun t2 =>
 ldW false 1 v0 w.drew fun t3 =>
 callF Tryz.prog 81 [t3] w.drew fun t4 w1 =>
 (ldW false 1 v1 w1 fun x => x = t2) ∧
 ixaW none 1 t2 (.int .i64 1) fun t5 =>
 stW 1 t5 t4 w1 fun w2 =>
 ldW false 1 v0 w2 fun t6 =>
 callF Tryz.prog 106 [t6,(.string (ofL [58]))] w2 fun t7 w3 =>
 ldW false 1 v1 w3.drew fun t8 =>
 ldW false 1 v0 w3.drew fun t9 =>
 callF Tryz.prog 81 [t9] w3.drew fun t10 w4 =>
 (ldW false 1 v1 w4 fun x => x = t8) ∧
 ixaW none 1 t8 (.int .i64 2) fun t11 =>
 stW 1 t11 t10 w4 fun w5 =>
 K (.tuple #[]) w5
theorem W105_ok {v0 v1 : Value} {w : World} {K : Value → World → Prop} (h : W105 v0 v1 w K) : callF Tryz.prog 105 [v0,v1] w K :=
 tie _ 105 Tryz.f105 plan105 _ w K 2 _ rfl mixed Tryz.func105 (by kernel_rfl) (by kernel_rfl) Tryz.call105 h
def plan106 : Plan := { js := [],ds := [] }
def W106 (v0 v1 : Value) (w : World) (K : Value → World → Prop) : Prop :=
 callF Tryz.prog 45 [v0,v1] w fun t6 w1 =>
 unW .not t6 fun t7 =>
 condW t7 (
 callF Tryz.prog 20 [v0] w1 fun t9 w2 =>
 partW false 2 1 t9 fun t10 =>
 callF Tryz.prog 22 [(.int .i64 50),t10] w2 fun t11 w3 =>
 K (.tuple #[]) w3) (
 K (.tuple #[]) w1)
theorem W106_ok {v0 v1 : Value} {w : World} {K : Value → World → Prop} (h : W106 v0 v1 w K) : callF Tryz.prog 106 [v0,v1] w K :=
 tie _ 106 Tryz.f106 plan106 _ w K 2 _ rfl mixed Tryz.func106 (by kernel_rfl) (by kernel_rfl) Tryz.call106 h
def plan107 : Plan := { js := [],ds := [(3,⟨[0,1,2,3,4,5,6,7,8,9,10,11,14,15],[[],[0],[0,1],[0,1,2],[],[4],[4,5],[4,5,6],[4,5,6,7],[4,5,6,7,8],[4,5,6,7,8,9],[],[11],[4,5,6,7,8,9,10,11,12],[0,1,2,3,4,5,6,7,8,9,10,11,12,13],[0,1,2,3,4,5,6,7,8,9,10,11,12,13,14],[0,1,2,3,4,5,6,7,8,9,10,11,12,13,14,15]]⟩)] }
def W107 (v0 v1 : Value) (w : World) (K : Value → World → Prop) : Prop :=
 boxW 35 v1 w fun t3 w1 =>
 nilW v0 fun t6 =>
 fldW 3 t6 fun t7 =>
 ldW false 1 t7 w1.drew fun t8 =>
 nilW v0 fun t10 =>
 fldW 3 t10 fun t11 =>
 ldW false 1 t11 w1.drew fun t12 =>
 nilW t12 fun t13 =>
 fldW 0 t13 fun t14 =>
 ldW false 1 t14 w1.drew fun t15 =>
 ldW true 5 t3 w1.drew fun t16 =>
 bslW 35 1 [(.int .i64 0),(.string (ofL [])),(.slice none 0 0),(.slice none 0 0),(.int .i64 0)] [(0,5,t16)] w1.drew fun t17 w2 =>
 (ldW false 1 t14 w2 fun x => x = t15) ∧
 (ldW false 1 t11 w2 fun x => x = t12) ∧
 (ldW false 1 t7 w2 fun x => x = t8) ∧
 semE Tryz.prog (Builtin.append_ #[24,24] 24 #[t15,t17]) w2 fun t18 w3 =>
 (ldW false 1 t7 w3 fun x => x = t8) ∧
 nilW t8 fun t19 =>
 fldW 0 t19 fun t20 =>
 stW 1 t20 t18 w3 fun w4 =>
 nilW v0 fun t22 =>
 fldW 3 t22 fun t23 =>
 ldW false 1 t23 w4 fun t24 =>
 nilW t24 fun t25 =>
 fldW 0 t25 fun t26 =>
 ldW false 1 t26 w4 fun t27 =>
 lenlW t27 fun t28 =>
 binW .sub t28 (.int .i64 1) fun t29 =>
 K t29 w4
theorem W107_ok {v0 v1 : Value} {w : World} {K : Value → World → Prop} (h : W107 v0 v1 w K) : callF Tryz.prog 107 [v0,v1] w K :=
 tie _ 107 Tryz.f107 plan107 _ w K 2 _ rfl mixed Tryz.func107 (by kernel_rfl) (by kernel_rfl) Tryz.call107 h
def plan130 : Plan := { js := [(13,⟨[3],[],1⟩),(6,⟨[3],[],1⟩)],ds := [] }
def W130 (v0 : Value) (w : World) (K : Value → World → Prop) : Prop :=
 LoopW [(.int .i64 1)] w fun s1 _ w2 L1 =>
 lensW v0 fun t6 =>
 binW .lss (s1.getD 0 undef) t6 fun t7 =>
 condW t7 (
 JoinW (fun J3 =>
 ixsW v0 (s1.getD 0 undef) fun t13 =>
 binW .eql t13 (.int .u8 34) fun t14 =>
 condW t14 (
 binW .add (s1.getD 0 undef) (.int .i64 1) fun t16 =>
 K t16 w2) (
 ixsW v0 (s1.getD 0 undef) fun t20 =>
 binW .eql t20 (.int .u8 92) fun t21 =>
 condW t21 (
 binW .add (s1.getD 0 undef) (.int .i64 1) fun t23 =>
 J3 [t23] w2) (
 slsW v0 (some (s1.getD 0 undef)) none fun t27 =>
 callF Tryz.prog 36 [t27,(.string (ofL [36,123]))] w2 fun t28 w4 =>
 condW t28 (
 binW .add (s1.getD 0 undef) (.int .i64 1) fun t32 =>
 slsW v0 (some t32) none fun t33 =>
 callF Tryz.prog 102 [t33] w4 fun t34 w5 =>
 binW .add (s1.getD 0 undef) t34 fun t35 =>
 J3 [t35] w5) (
 J3 [(s1.getD 0 undef)] w4))))
 fun s3 _ w6 =>
 binW .add (s3.getD 0 undef) (.int .i64 1) fun t9 =>
 L1 [t9] w6) (
 lensW v0 fun t37 =>
 K t37 w2)
theorem W130_ok {v0 : Value} {w : World} {K : Value → World → Prop} (h : W130 v0 w K) : callF Tryz.prog 130 [v0] w K :=
 tie _ 130 Tryz.f130 plan130 _ w K 1 _ rfl mixed Tryz.func130 (by kernel_rfl) (by kernel_rfl) Tryz.call130 h
def plan131 : Plan := { js := [(8,⟨[4],[],4⟩)],ds := [(30,⟨[0,1,2,3,4,5,6,7],[[],[],[1],[],[3],[3,4],[3,4,5],[],[0,1,2,3,4,5,6,7]]⟩)] }
def W131 (v0 : Value) (w : World) (K : Value → World → Prop) : Prop :=
 boxW 58 v0 w fun t1 w1 =>
 ldW false 1 t1 w1 fun t6 =>
 callF Tryz.prog 20 [t6] w1 fun t7 w2 =>
 allocW 64 [(.int .i64 0),(.string (ofL [])),(.int .i64 0)] w2 fun t3 w3 =>
 stW 3 t3 t7 w3 fun w4 =>
 JoinW (fun J5 =>
 ldW false 1 t1 w4 fun t9 =>
 bslW 9 1 [(.string (ofL []))] [(0,1,(.string (ofL [33])))] w4 fun t10 w6 =>
 callF Tryz.prog 42 [t9,t10] w6 fun t11 w7 =>
 condW t11 (
 J5 [(.int .i64 14)] w7) (
 ldW false 1 t1 w7 fun t13 =>
 bslW 9 1 [(.string (ofL []))] [(0,1,(.string (ofL [45])))] w7 fun t14 w8 =>
 callF Tryz.prog 42 [t13,t14] w8 fun t15 w9 =>
 condW t15 (
 J5 [(.int .i64 13)] w9) (
 ldW false 1 t1 w9 fun t33 =>
 callF Tryz.prog 142 [t33] w9 fun t34 w10 =>
 K t34 w10)))
 fun s5 _ w11 =>
 allocW 3 [(.int .i64 0)] w11 fun t5 w12 =>
 stW 1 t5 (.int .i64 0) w12 fun w13 =>
 ldW false 1 t1 w13.drew fun t16 =>
 fldW 2 t3 fun t17 =>
 ldW false 1 t17 w13.drew fun t18 =>
 ldW false 1 t1 w13.drew fun t19 =>
 nilW t19 fun t20 =>
 fldW 5 t20 fun t21 =>
 ldW false 1 t21 w13.drew fun t22 =>
 callF Tryz.prog 43 [t16,t18,t22,(.func (.func 141) #[] #[t1,t5])] w13.drew fun t24 w14 =>
 ldW false 1 t1 w14 fun t25 =>
 ldW false 1 t5 w14 fun t27 =>
 bslW 3 1 [(.int .i64 0)] [(0,1,t27)] w14 fun t28 w15 =>
 fldW 2 t3 fun t29 =>
 ldW false 1 t29 w15 fun t30 =>
 putW [(.int .i64 0),(.string (ofL [])),(.slice none 0 0),(.slice none 0 0),(.int .i64 0)] [(0,1,(s5.getD 0 undef)),(2,1,t28),(4,1,t30)] fun c16 =>
 callF Tryz.prog 107 [t25,(.agg c16.toArray)] w15 fun t32 w17 =>
 K t32 w17
theorem W131_ok {v0 : Value} {w : World} {K : Value → World → Prop} (h : W131 v0 w K) : callF Tryz.prog 131 [v0] w K :=
 tie _ 131 Tryz.f131 plan131 _ w K 1 _ rfl mixed Tryz.func131 (by kernel_rfl) (by kernel_rfl) Tryz.call131 h
def plan132 : Plan := { js := [],ds := [] }
def W132 (v0 v1 : Value) (w : World) (K : Value → World → Prop) : Prop :=
 boxW 64 v0 w fun t2 w1 =>
 fldW 0 t2 fun t5 =>
 ldW false 1 t5 w1 fun t6 =>
 binW .neq t6 (.int .i64 4) fun t7 =>
 condW t7 (
 K (.int .i64 0) w1) (
 binW .mul v1 (.int .i64 100) fun t9 =>
 bslW 9 13 (List.replicate 13 (.string (ofL []))) [(0,1,(.string (ofL [124,124]))),(1,1,(.string (ofL [38,38]))),(2,1,(.string (ofL [61,61]))),(3,1,(.string (ofL [33,61]))),(4,1,(.string (ofL [60]))),(5,1,(.string (ofL [62]))),(6,1,(.string (ofL [60,61]))),(7,1,(.string (ofL [62,61]))),(8,1,(.string (ofL [43]))),(9,1,(.string (ofL [45]))),(10,1,(.string (ofL [42]))),(11,1,(.string (ofL [47]))),(12,1,(.string (ofL [37])))] w1 fun t10 w2 =>
 fldW 1 t2 fun t11 =>
 ldW false 1 t11 w2 fun t12 =>
 callF Tryz.prog 103 [t10,t12] w2 fun t13 w3 =>
 binW .add t9 t13 fun t14 =>
 binW .eql t14 (.int .i64 0) fun t16 =>
 condW t16 (
 K (.int .i64 27) w3) (
 binW .eql t14 (.int .i64 101) fun t18 =>
 condW t18 (
 K (.int .i64 26) w3) (
 binW .eql t14 (.int .i64 202) fun t20 =>
 condW t20 (
 K (.int .i64 20) w3) (
 binW .eql t14 (.int .i64 203) fun t22 =>
 condW t22 (
 K (.int .i64 21) w3) (
 binW .eql t14 (.int .i64 304) fun t24 =>
 condW t24 (
 K (.int .i64 22) w3) (
 binW .eql t14 (.int .i64 305) fun t26 =>
 condW t26 (
 K (.int .i64 23) w3) (
 binW .eql t14 (.int .i64 306) fun t28 =>
 condW t28 (
 K (.int .i64 24) w3) (
 binW .eql t14 (.int .i64 307) fun t30 =>
 condW t30 (
 K (.int .i64 25) w3) (
 binW .eql t14 (.int .i64 408) fun t32 =>
 condW t32 (
 K (.int .i64 15) w3) (
 binW .eql t14 (.int .i64 409) fun t34 =>
 condW t34 (
 K (.int .i64 16) w3) (
 binW .eql t14 (.int .i64 510) fun t36 =>
 condW t36 (
 K (.int .i64 17) w3) (
 binW .eql t14 (.int .i64 511) fun t38 =>
 condW t38 (
 K (.int .i64 18) w3) (
 binW .eql t14 (.int .i64 512) fun t40 =>
 condW t40 (
 K (.int .i64 19) w3) (
 K (.int .i64 0) w3))))))))))))))
theorem W132_ok {v0 v1 : Value} {w : World} {K : Value → World → Prop} (h : W132 v0 v1 w K) : callF Tryz.prog 132 [v0,v1] w K :=
 tie _ 132 Tryz.f132 plan132 _ w K 2 _ rfl mixed Tryz.func132 (by kernel_rfl) (by kernel_rfl) Tryz.call132 h
def plan141 : Plan := { js := [],ds := [] }
def W141 (v0 v1 : Value) (w : World) (K : Value → World → Prop) : Prop :=
 ldW false 1 v0 w fun t2 =>
 nilW t2 fun t3 =>
 fldW 1 t3 fun t4 =>
 ldW false 1 t4 w fun t5 =>
 binW .add t5 (.int .i64 1) fun t6 =>
 nilW t2 fun t7 =>
 fldW 1 t7 fun t8 =>
 stW 1 t8 t6 w fun w1 =>
 ldW false 1 v0 w1 fun t9 =>
 callF Tryz.prog 131 [t9] w1 fun t10 w2 =>
 stW 1 v1 t10 w2 fun w3 =>
 K (.tuple #[]) w3
theorem W141_ok {v0 v1 : Value} {w : World} {K : Value → World → Prop} (h : W141 v0 v1 w K) : callF Tryz.prog 141 [v0,v1] w K :=
 tie _ 141 Tryz.f141 plan141 _ w K 2 _ rfl mixed Tryz.func141 (by kernel_rfl) (by kernel_rfl) Tryz.call141 h
def plan142 : Plan := { js := [(5,⟨[3],[],2⟩)],ds := [(31,⟨[0,1,3,6,7,8],[[],[],[1],[1,2],[],[4],[],[6],[1,2,3,4,5,6,7],[0,1,2,3,4,5,6,7,8],[0,1,2,3,4,5,6,7,8,9]]⟩),(13,⟨[0,1,3,6,7,8],[[],[],[1],[1,2],[],[4],[],[6],[1,2,3,4,5,6,7],[0,1,2,3,4,5,6,7,8],[0,1,2,3,4,5,6,7,8,9]]⟩)] }
def W142 (v0 : Value) (w : World) (K : Value → World → Prop) : Prop :=
 boxW 58 v0 w fun t1 w1 =>
 ldW false 1 t1 w1 fun t7 =>
 callF Tryz.prog 146 [t7] w1 fun t8 w2 =>
 LoopW [t8] w2 fun s3 _ w4 L3 =>
 ldW false 1 t1 w4 fun t9 =>
 callF Tryz.prog 20 [t9] w4 fun t10 w5 =>
 allocW 64 [(.int .i64 0),(.string (ofL [])),(.int .i64 0)] w5 fun t4 w6 =>
 stW 3 t4 t10 w6 fun w7 =>
 ldW false 1 t1 w7 fun t13 =>
 callF Tryz.prog 45 [t13,(.string (ofL [46]))] w7 fun t14 w8 =>
 condW t14 (
 ldW false 1 t1 w8.drew fun t15 =>
 ldW false 1 t1 w8.drew fun t16 =>
 fldW 2 t4 fun t21 =>
 ldW false 1 t21 w8.drew fun t22 =>
 (
 callF Tryz.prog 39 [t16,(.int .i64 1)] w8.drew fun t17 w9 =>
 (ldW false 1 t21 w9 fun x => x = t22) ∧
 (ldW false 1 t1 w9 fun x => x = t15) ∧
 partW false 1 1 t17 fun t18 =>
 (ldW false 1 t21 w9 fun x => x = t22) ∧
 (ldW false 1 t1 w9 fun x => x = t15) ∧
 bslW 3 1 [(.int .i64 0)] [(0,1,(s3.getD 0 undef))] w9 fun t20 w10 =>
 (ldW false 1 t21 w10 fun x => x = t22) ∧
 (ldW false 1 t1 w10 fun x => x = t15) ∧
 putW [(.int .i64 0),(.string (ofL [])),(.slice none 0 0),(.slice none 0 0),(.int .i64 0)] [(0,1,(.int .i64 10)),(1,1,t18),(2,1,t20),(4,1,t22)] fun c11 =>
 callF Tryz.prog 107 [t15,(.agg c11.toArray)] w10 fun t24 w12 =>
 L3 [t24] w12) ∧
 (
 (ldW false 1 t21 w8.drew fun x => x = t22) ∧
 (ldW false 1 t1 w8.drew fun x => x = t16) ∧
 (ldW false 1 t1 w8.drew fun x => x = t15) ∧
 (
 callF Tryz.prog 39 [t16,(.int .i64 1)] w8.drew fun t17 w13 =>
 (ldW false 1 t21 w13 fun x => x = t22) ∧
 (ldW false 1 t1 w13 fun x => x = t15) ∧
 partW false 1 1 t17 fun t18 =>
 bslW 3 1 [(.int .i64 0)] [(0,1,(s3.getD 0 undef))] w13 fun t20 w14 =>
 (ldW false 1 t21 w14 fun x => x = t22) ∧
 (ldW false 1 t1 w14 fun x => x = t15) ∧
 putW [(.int .i64 0),(.string (ofL [])),(.slice none 0 0),(.slice none 0 0),(.int .i64 0)] [(0,1,(.int .i64 10)),(1,1,t18),(2,1,t20),(4,1,t22)] fun c15 =>
 callF Tryz.prog 107 [t15,(.agg c15.toArray)] w14 fun t24 w16 =>
 L3 [t24] w16) ∧
 (
 bslW 3 1 [(.int .i64 0)] [(0,1,(s3.getD 0 undef))] w8.drew fun t20 w17 =>
 (ldW false 1 t21 w17 fun x => x = t22) ∧
 (ldW false 1 t1 w17 fun x => x = t16) ∧
 (ldW false 1 t1 w17 fun x => x = t15) ∧
 callF Tryz.prog 39 [t16,(.int .i64 1)] w17 fun t17 w18 =>
 (ldW false 1 t21 w18 fun x => x = t22) ∧
 (ldW false 1 t1 w18 fun x => x = t15) ∧
 partW false 1 1 t17 fun t18 =>
 putW [(.int .i64 0),(.string (ofL [])),(.slice none 0 0),(.slice none 0 0),(.int .i64 0)] [(0,1,(.int .i64 10)),(1,1,t18),(2,1,t20),(4,1,t22)] fun c19 =>
 callF Tryz.prog 107 [t15,(.agg c19.toArray)] w18 fun t24 w20 =>
 L3 [t24] w20))) (
 ldW false 1 t1 w8 fun t26 =>
 bslW 9 1 [(.string (ofL []))] [(0,1,(.string (ofL [91])))] w8 fun t27 w21 =>
 callF Tryz.prog 42 [t26,t27] w21 fun t28 w22 =>
 condW t28 (
 allocW 3 [(.int .i64 0)] w22 fun t5 w23 =>
 allocW 4 [(.bool false)] w23 fun t6 w24 =>
 stW 1 t5 (.int .i64 0) w24 fun w25 =>
 stW 1 t6 (.bool false) w25 fun w26 =>
 ldW false 1 t1 w26 fun t29 =>
 fldW 2 t4 fun t30 =>
 ldW false 1 t30 w26 fun t31 =>
 callF Tryz.prog 43 [t29,t31,(.bool true),(.func (.func 147) #[] #[t1,t6,t5])] w26 fun t33 w27 =>
 ldW false 1 t6 w27 fun t34 =>
 unW .not t34 fun t35 =>
 condW t35 (
 ldW false 1 t1 w27 fun t36 =>
 ldW false 1 t5 w27 fun t38 =>
 bslW 3 2 [(.int .i64 0),(.int .i64 0)] [(0,1,(s3.getD 0 undef)),(1,1,t38)] w27 fun t39 w28 =>
 fldW 2 t4 fun t40 =>
 ldW false 1 t40 w28 fun t41 =>
 putW [(.int .i64 0),(.string (ofL [])),(.slice none 0 0),(.slice none 0 0),(.int .i64 0)] [(0,1,(.int .i64 11)),(2,1,t39),(4,1,t41)] fun c29 =>
 callF Tryz.prog 107 [t36,(.agg c29.toArray)] w28 fun t43 w30 =>
 L3 [t43] w30) (
 ldW false 1 t1 w27 fun t44 =>
 callF Tryz.prog 106 [t44,(.string (ofL [46]))] w27 fun t45 w31 =>
 ldW false 1 t1 w31.drew fun t46 =>
 ldW false 1 t1 w31.drew fun t47 =>
 fldW 2 t4 fun t52 =>
 ldW false 1 t52 w31.drew fun t53 =>
 (
 callF Tryz.prog 39 [t47,(.int .i64 1)] w31.drew fun t48 w32 =>
 (ldW false 1 t52 w32 fun x => x = t53) ∧
 (ldW false 1 t1 w32 fun x => x = t46) ∧
 partW false 1 1 t48 fun t49 =>
 (ldW false 1 t52 w32 fun x => x = t53) ∧
 (ldW false 1 t1 w32 fun x => x = t46) ∧
 bslW 3 1 [(.int .i64 0)] [(0,1,(s3.getD 0 undef))] w32 fun t51 w33 =>
 (ldW false 1 t52 w33 fun x => x = t53) ∧
 (ldW false 1 t1 w33 fun x => x = t46) ∧
 putW [(.int .i64 0),(.string (ofL [])),(.slice none 0 0),(.slice none 0 0),(.int .i64 0)] [(0,1,(.int .i64 30)),(1,1,t49),(2,1,t51),(4,1,t53)] fun c34 =>
 callF Tryz.prog 107 [t46,(.agg c34.toArray)] w33 fun t55 w35 =>
 L3 [t55] w35) ∧
 (
 (ldW false 1 t52 w31.drew fun x => x = t53) ∧
 (ldW false 1 t1 w31.drew fun x => x = t47) ∧
 (ldW false 1 t1 w31.drew fun x => x = t46) ∧
 (
 callF Tryz.prog 39 [t47,(.int .i64 1)] w31.drew fun t48 w36 =>
 (ldW false 1 t52 w36 fun x => x = t53) ∧
 (ldW false 1 t1 w36 fun x => x = t46) ∧
 partW false 1 1 t48 fun t49 =>
 bslW 3 1 [(.int .i64 0)] [(0,1,(s3.getD 0 undef))] w36 fun t51 w37 =>
 (ldW false 1 t52 w37 fun x => x = t53) ∧
 (ldW false 1 t1 w37 fun x => x = t46) ∧
 putW [(.int .i64 0),(.string (ofL [])),(.slice none 0 0),(.slice none 0 0),(.int .i64 0)] [(0,1,(.int .i64 30)),(1,1,t49),(2,1,t51),(4,1,t53)] fun c38 =>
 callF Tryz.prog 107 [t46,(.agg c38.toArray)] w37 fun t55 w39 =>
 L3 [t55] w39) ∧
 (
 bslW 3 1 [(.int .i64 0)] [(0,1,(s3.getD 0 undef))] w31.drew fun t51 w40 =>
 (ldW false 1 t52 w40 fun x => x = t53) ∧
 (ldW false 1 t1 w40 fun x => x = t47) ∧
 (ldW false 1 t1 w40 fun x => x = t46) ∧
 callF Tryz.prog 39 [t47,(.int .i64 1)] w40 fun t48 w41 =>
 (ldW false 1 t52 w41 fun x => x = t53) ∧
 (ldW false 1 t1 w41 fun x => x = t46) ∧
 partW false 1 1 t48 fun t49 =>
 putW [(.int .i64 0),(.string (ofL [])),(.slice none 0 0),(.slice none 0 0),(.int .i64 0)] [(0,1,(.int .i64 30)),(1,1,t49),(2,1,t51),(4,1,t53)] fun c42 =>
 callF Tryz.prog 107 [t46,(.agg c42.toArray)] w41 fun t55 w43 =>
 L3 [t55] w43)))) (
 K (s3.getD 0 undef) w22))
theorem W142_ok {v0 : Value} {w : World} {K : Value → World → Prop} (h : W142 v0 w K) : callF Tryz.prog 142 [v0] w K :=
 tie _ 142 Tryz.f142 plan142 _ w K 1 _ rfl mixed Tryz.func142 (by kernel_rfl) (by kernel_rfl) Tryz.call142 h
def plan146 : Plan := { js := [(6,⟨[],[2],5⟩),(23005,⟨[50],[],48⟩)],ds := [(43,⟨[0,1,3,4],[[],[],[1],[1,2],[],[0,1,2,3,4]]⟩),(42,⟨[0,1,2,4],[[],[0],[],[2],[0,1,2,3],[0,1,2,3,4]]⟩),(13,⟨[0,1,2,4],[[],[0],[],[2],[0,1,2,3],[0,1,2,3,4]]⟩)] }
def W146 (v0 : Value) (w : World) (K : Value → World → Prop) : Prop :=
 boxW 58 v0 w fun t1 w1 =>
 ldW false 1 t1 w1 fun t6 =>
 callF Tryz.prog 20 [t6] w1 fun t7 w2 =>
 allocW 64 [(.int .i64 0),(.string (ofL [])),(.int .i64 0)] w2 fun t3 w3 =>
 stW 3 t3 t7 w3 fun w4 =>
 fldW 2 t3 fun t8 =>
 ldW false 1 t8 w4 fun t9 =>
 putW [(.int .i64 0),(.string (ofL [])),(.slice none 0 0),(.slice none 0 0),(.int .i64 0)] [(4,1,t9)] fun c5 =>
 allocW 35 [(.int .i64 0),(.string (ofL [])),(.slice none 0 0),(.slice none 0 0),(.int .i64 0)] w4 fun t4 w6 =>
 stW 5 t4 (.agg c5.toArray) w6 fun w7 =>
 JoinW (fun J8 =>
 fldW 0 t3 fun t15 =>
 ldW false 1 t15 w7 fun t16 =>
 binW .eql t16 (.int .i64 2) fun t17 =>
 condW t17 (
 ldW false 1 t1 w7 fun t18 =>
 nilW t18 fun t19 =>
 fldW 1 t19 fun t20 =>
 ldW false 1 t20 w7 fun t21 =>
 binW .add t21 (.int .i64 1) fun t22 =>
 nilW t18 fun t23 =>
 fldW 1 t23 fun t24 =>
 stW 1 t24 t22 w7 fun w9 =>
 fldW 1 t3 fun t25 =>
 ldW false 1 t25 w9.drew fun t26 =>
 fldW 0 t4 fun t27 =>
 stW 1 t27 (.int .i64 4) w9.drew fun w10 =>
 (ldW false 1 t25 w10 fun x => x = t26) ∧
 fldW 1 t4 fun t28 =>
 stW 1 t28 t26 w10 fun w11 =>
 J8 [] w11) (
 fldW 0 t3 fun t30 =>
 ldW false 1 t30 w7 fun t31 =>
 binW .eql t31 (.int .i64 3) fun t32 =>
 condW t32 (
 ldW false 1 t1 w7 fun t33 =>
 nilW t33 fun t34 =>
 fldW 1 t34 fun t35 =>
 ldW false 1 t35 w7 fun t36 =>
 binW .add t36 (.int .i64 1) fun t37 =>
 nilW t33 fun t38 =>
 fldW 1 t38 fun t39 =>
 stW 1 t39 t37 w7 fun w12 =>
 ldW false 1 t1 w12 fun t40 =>
 ldW true 3 t3 w12 fun t41 =>
 callF Tryz.prog 150 [t40,t41] w12 fun t42 w13 =>
 K t42 w13) (
 fldW 0 t3 fun t44 =>
 ldW false 1 t44 w7 fun t45 =>
 binW .eql t45 (.int .i64 1) fun t46 =>
 GdW (isB t46 true) [undef] w7 (fun J14 =>
 fldW 1 t3 fun t48 =>
 ldW false 1 t48 w7 fun t49 =>
 binW .neq t49 (.string (ofL [102,111,114])) fun t50 =>
 J14 [t50] w7)
 fun s14 _ w15 =>
 pickW t46 (s14.getD 0 undef) (.bool false) fun t51 =>
 condW t51 (
 ldW false 1 t1 w15 fun t52 =>
 nilW t52 fun t53 =>
 fldW 1 t53 fun t54 =>
 ldW false 1 t54 w15 fun t55 =>
 binW .add t55 (.int .i64 1) fun t56 =>
 nilW t52 fun t57 =>
 fldW 1 t57 fun t58 =>
 stW 1 t58 t56 w15 fun w16 =>
 ldW false 1 t1 w16 fun t59 =>
 bslW 9 1 [(.string (ofL []))] [(0,1,(.string (ofL [40])))] w16 fun t60 w17 =>
 callF Tryz.prog 42 [t59,t60] w17 fun t61 w18 =>
 unW .not t61 fun t62 =>
 condW t62 (
 fldW 1 t3 fun t63 =>
 ldW false 1 t63 w18 fun t64 =>
 callF Tryz.prog 151 [t64] w18 fun t65 w19 =>
 fldW 0 t4 fun t66 =>
 stW 1 t66 t65 w19 fun w20 =>
 fldW 0 t4 fun t67 =>
 ldW false 1 t67 w20 fun t68 =>
 binW .eql t68 (.int .i64 9) fun t69 =>
 condW t69 (
 fldW 1 t3 fun t70 =>
 ldW false 1 t70 w20 fun t71 =>
 fldW 1 t4 fun t72 =>
 stW 1 t72 t71 w20 fun w21 =>
 J8 [] w21) (
 J8 [] w20)) (
 fldW 1 t3 fun t73 =>
 ldW false 1 t73 w18.drew fun t74 =>
 fldW 0 t4 fun t75 =>
 stW 1 t75 (.int .i64 12) w18.drew fun w22 =>
 (ldW false 1 t73 w22 fun x => x = t74) ∧
 fldW 1 t4 fun t76 =>
 stW 1 t76 t74 w22 fun w23 =>
 ldW false 1 t1 w23.drew fun t77 =>
 ldW false 1 t1 w23.drew fun t78 =>
 callF Tryz.prog 20 [t78] w23.drew fun t79 w24 =>
 (ldW false 1 t1 w24 fun x => x = t77) ∧
 partW false 2 1 t79 fun t80 =>
 callF Tryz.prog 43 [t77,t80,(.bool true),(.func (.func 152) #[] #[t1,t4])] w24 fun t82 w25 =>
 J8 [] w25)) (
 ldW false 1 t1 w15 fun t84 =>
 bslW 9 1 [(.string (ofL []))] [(0,1,(.string (ofL [40])))] w15 fun t85 w26 =>
 callF Tryz.prog 42 [t84,t85] w26 fun t86 w27 =>
 condW t86 (
 allocW 3 [(.int .i64 0)] w27 fun t5 w28 =>
 stW 1 t5 (.int .i64 0) w28 fun w29 =>
 ldW false 1 t1 w29 fun t87 =>
 fldW 2 t3 fun t88 =>
 ldW false 1 t88 w29 fun t89 =>
 callF Tryz.prog 43 [t87,t89,(.bool true),(.func (.func 154) #[] #[t1,t5])] w29 fun t91 w30 =>
 ldW false 1 t5 w30 fun t92 =>
 K t92 w30) (
 ldW false 1 t1 w27 fun t94 =>
 bslW 9 1 [(.string (ofL []))] [(0,1,(.string (ofL [91])))] w27 fun t95 w31 =>
 callF Tryz.prog 42 [t94,t95] w31 fun t96 w32 =>
 condW t96 (
 ldW false 1 t1 w32 fun t97 =>
 fldW 2 t3 fun t98 =>
 ldW false 1 t98 w32 fun t99 =>
 callF Tryz.prog 43 [t97,t99,(.bool true),(.func (.func 155) #[] #[t1,t3,t4])] w32 fun t101 w33 =>
 J8 [] w33) (
 ldW false 1 t1 w32 fun t103 =>
 bslW 9 1 [(.string (ofL []))] [(0,1,(.string (ofL [123])))] w32 fun t104 w34 =>
 callF Tryz.prog 42 [t103,t104] w34 fun t105 w35 =>
 condW t105 (
 ldW false 1 t1 w35 fun t106 =>
 fldW 2 t3 fun t107 =>
 ldW false 1 t107 w35 fun t108 =>
 callF Tryz.prog 43 [t106,t108,(.bool false),(.func (.func 157) #[] #[t1,t3,t4])] w35 fun t110 w36 =>
 J8 [] w36) (
 fldW 2 t3 fun t11 =>
 ldW false 1 t11 w35 fun t12 =>
 callF Tryz.prog 22 [(.int .i64 50),t12] w35 fun t13 w37 =>
 J8 [] w37)))))))
 fun s8 _ w38 =>
 ldW false 1 t1 w38 fun t111 =>
 ldW true 5 t4 w38 fun t112 =>
 callF Tryz.prog 107 [t111,t112] w38 fun t113 w39 =>
 K t113 w39
theorem W146_ok {v0 : Value} {w : World} {K : Value → World → Prop} (h : W146 v0 w K) : callF Tryz.prog 146 [v0] w K :=
 tie _ 146 Tryz.f146 plan146 _ w K 1 _ rfl mixed Tryz.func146 (by kernel_rfl) (by kernel_rfl) Tryz.call146 h
def plan147 : Plan := { js := [(2,⟨[],[],1⟩)],ds := [] }
def W147 (v0 v1 v2 : Value) (w : World) (K : Value → World → Prop) : Prop :=
 ldW false 1 v0 w fun t3 =>
 nilW t3 fun t4 =>
 fldW 1 t4 fun t5 =>
 ldW false 1 t5 w fun t6 =>
 binW .add t6 (.int .i64 1) fun t7 =>
 nilW t3 fun t8 =>
 fldW 1 t8 fun t9 =>
 stW 1 t9 t7 w fun w1 =>
 JoinW (fun J2 =>
 ldW false 1 v0 w1 fun t10 =>
 callF Tryz.prog 45 [t10,(.string (ofL [42]))] w1 fun t11 w3 =>
 stW 1 v1 t11 w3 fun w4 =>
 ldW false 1 v1 w4 fun t12 =>
 unW .not t12 fun t13 =>
 condW t13 (
 ldW false 1 v0 w4 fun t14 =>
 callF Tryz.prog 81 [t14] w4 fun t15 w5 =>
 stW 1 v2 t15 w5 fun w6 =>
 J2 [] w6) (
 J2 [] w4))
 fun s2 _ w7 =>
 ldW false 1 v0 w7 fun t16 =>
 callF Tryz.prog 106 [t16,(.string (ofL [93]))] w7 fun t17 w8 =>
 K (.tuple #[]) w8
theorem W147_ok {v0 v1 v2 : Value} {w : World} {K : Value → World → Prop} (h : W147 v0 v1 v2 w K) : callF Tryz.prog 147 [v0,v1,v2] w K :=
 tie _ 147 Tryz.f147 plan147 _ w K 3 _ rfl mixed Tryz.func147 (by kernel_rfl) (by kernel_rfl) Tryz.call147 h
def plan150 : Plan := { js := [(42,⟨[],[],12⟩),(34,⟨[],[],12⟩),(28,⟨[],[],12⟩),(18,⟨[],[],10⟩),(14,⟨[8,9],[],8⟩)],ds := [(50,⟨[0,1,2,3,4,5],[[],[],[0,1],[],[],[3,4],[0,1,2],[0,1,2,3,4,5,6]]⟩),(39,⟨[0,1,2,3,4,5,7,8,12],[[],[0],[],[],[],[3,4],[3,4,5],[],[3,4,5,6,7],[2,3,4,5,6,7,8],[2,3,4,5,6,7,8,9],[0,1,2,3,4,5,6,7,8,9,10],[0,1,2,3,4,5,6,7,8,9,10,11],[0,1,2,3,4,5,6,7,8,9,10,11,12]]⟩),(32,⟨[0,1,2,3],[[],[0],[],[2],[0,1],[0,1,2,3,4]]⟩),(15,⟨[0,1,2,3,4],[[],[0],[],[2],[2,3],[],[],[0,1,5,6],[0,1,2,3,4,5,6,7]]⟩),(9,⟨[0,1,2,4,5,6,8],[[],[],[1],[1,2],[],[4],[1,2,3,4,5],[0,1,2,3,4,5,6],[0,1,2,3,4,5,6,7]]⟩)] }
def W150 (v0 v1 : Value) (w : World) (K : Value → World → Prop) : Prop :=
 boxW 58 v0 w fun t2 w1 =>
 boxW 64 v1 w1 fun t3 w2 =>
 fldW 1 t3 fun t13 =>
 ldW false 1 t13 w2 fun t14 =>
 callF Tryz.prog 78 [t14] w2 fun t15 w3 =>
 extW 0 t15 fun t16 =>
 extW 1 t15 fun t17 =>
 binW .lss t16 (.int .i64 0) fun t19 =>
 condW t19 (
 ldW false 1 t2 w3.drew fun t20 =>
 fldW 1 t3 fun t21 =>
 ldW false 1 t21 w3.drew fun t22 =>
 fldW 2 t3 fun t24 =>
 ldW false 1 t24 w3.drew fun t25 =>
 callF Tryz.prog 79 [t22] w3.drew fun t23 w4 =>
 (ldW false 1 t24 w4 fun x => x = t25) ∧
 (ldW false 1 t2 w4 fun x => x = t20) ∧
 putW [(.int .i64 0),(.string (ofL [])),(.slice none 0 0),(.slice none 0 0),(.int .i64 0)] [(0,1,(.int .i64 5)),(1,1,t23),(4,1,t25)] fun c5 =>
 callF Tryz.prog 107 [t20,(.agg c5.toArray)] w4 fun t27 w6 =>
 K t27 w6) (
 fldW 2 t3 fun t28 =>
 ldW false 1 t28 w3 fun t29 =>
 putW [(.int .i64 0),(.string (ofL [])),(.slice none 0 0),(.slice none 0 0),(.int .i64 0)] [(0,1,(.int .i64 6)),(4,1,t29)] fun c7 =>
 allocW 35 [(.int .i64 0),(.string (ofL [])),(.slice none 0 0),(.slice none 0 0),(.int .i64 0)] w3 fun t7 w8 =>
 stW 5 t7 (.agg c7.toArray) w8 fun w9 =>
 JoinW (fun J10 =>
 fldW 1 t3 fun t31 =>
 ldW false 1 t31 w9.drew fun t32 =>
 fldW 2 t3 fun t33 =>
 ldW false 1 t33 w9.drew fun t34 =>
 binW .add t34 (.int .i64 1) fun t35 =>
 (
 allocW 9 [(.string (ofL []))] w9.drew fun t8 w11 =>
 (ldW false 1 t33 w11 fun x => x = t34) ∧
 (ldW false 1 t31 w11 fun x => x = t32) ∧
 allocW 3 [(.int .i64 0)] w11 fun t9 w12 =>
 (ldW false 1 t33 w12 fun x => x = t34) ∧
 (ldW false 1 t31 w12 fun x => x = t32) ∧
 stW 1 t8 t32 w12 fun w13 =>
 (ldW false 1 t33 w13 fun x => x = t34) ∧
 stW 1 t9 t35 w13 fun w14 =>
 J10 [t8,t9] w14) ∧
 (
 allocW 3 [(.int .i64 0)] w9.drew fun t9 w15 =>
 (ldW false 1 t33 w15 fun x => x = t34) ∧
 (ldW false 1 t31 w15 fun x => x = t32) ∧
 allocW 9 [(.string (ofL []))] w15 fun t8 w16 =>
 (ldW false 1 t33 w16 fun x => x = t34) ∧
 (ldW false 1 t31 w16 fun x => x = t32) ∧
 stW 1 t8 t32 w16 fun w17 =>
 (ldW false 1 t33 w17 fun x => x = t34) ∧
 stW 1 t9 t35 w17 fun w18 =>
 J10 [t8,t9] w18))
 fun s10 _ w19 =>
 LoopW [] w19 fun s20 _ w21 L20 =>
 ldW false 1 (s10.getD 0 undef) w21 fun t36 =>
 binW .neq t36 (.string (ofL [])) fun t37 =>
 condW t37 (
 ldW false 1 (s10.getD 0 undef) w21 fun t39 =>
 callF Tryz.prog 78 [t39] w21 fun t40 w22 =>
 extW 0 t40 fun t41 =>
 extW 1 t40 fun t42 =>
 allocW 3 [(.int .i64 0)] w22 fun t10 w23 =>
 allocW 3 [(.int .i64 0)] w23 fun t11 w24 =>
 stW 1 t10 t41 w24 fun w25 =>
 stW 1 t11 t42 w25 fun w26 =>
 JoinW (fun J27 =>
 ldW false 1 t10 w26 fun t43 =>
 binW .lss t43 (.int .i64 0) fun t44 =>
 condW t44 (
 ldW false 1 (s10.getD 0 undef) w26.drew fun t45 =>
 lensW t45 fun t46 =>
 ldW false 1 (s10.getD 0 undef) w26.drew fun t47 =>
 lensW t47 fun t48 =>
 stW 1 t10 t46 w26.drew fun w28 =>
 (ldW false 1 (s10.getD 0 undef) w28 fun x => x = t47) ∧
 stW 1 t11 t48 w28 fun w29 =>
 J27 [] w29) (
 J27 [] w26))
 fun s27 _ w30 =>
 JoinW (fun J31 =>
 ldW false 1 t10 w30 fun t49 =>
 binW .gtr t49 (.int .i64 0) fun t50 =>
 condW t50 (
 fldW 2 t7 fun t51 =>
 ldW false 1 t51 w30.drew fun t52 =>
 ldW false 1 t2 w30.drew fun t53 =>
 ldW false 1 (s10.getD 0 undef) w30.drew fun t54 =>
 ldW false 1 t10 w30.drew fun t55 =>
 slsW t54 none (some t55) fun t56 =>
 ldW false 1 (s10.getD 1 undef) w30.drew fun t58 =>
 callF Tryz.prog 79 [t56] w30.drew fun t57 w32 =>
 (ldW false 1 (s10.getD 1 undef) w32 fun x => x = t58) ∧
 (ldW false 1 t2 w32 fun x => x = t53) ∧
 (ldW false 1 t51 w32 fun x => x = t52) ∧
 putW [(.int .i64 0),(.string (ofL [])),(.slice none 0 0),(.slice none 0 0),(.int .i64 0)] [(0,1,(.int .i64 5)),(1,1,t57),(4,1,t58)] fun c33 =>
 callF Tryz.prog 107 [t53,(.agg c33.toArray)] w32 fun t60 w34 =>
 (ldW false 1 t51 w34 fun x => x = t52) ∧
 bslW 3 1 [(.int .i64 0)] [(0,1,t60)] w34 fun t61 w35 =>
 (ldW false 1 t51 w35 fun x => x = t52) ∧
 semE Tryz.prog (Builtin.append_ #[26,26] 26 #[t52,t61]) w35 fun t62 w36 =>
 fldW 2 t7 fun t63 =>
 stW 1 t63 t62 w36 fun w37 =>
 fldW 3 t7 fun t64 =>
 ldW false 1 t64 w37 fun t65 =>
 bslW 9 1 [(.string (ofL []))] [(0,1,(.string (ofL [116])))] w37 fun t66 w38 =>
 semE Tryz.prog (Builtin.append_ #[33,33] 33 #[t65,t66]) w38 fun t67 w39 =>
 fldW 3 t7 fun t68 =>
 stW 1 t68 t67 w39 fun w40 =>
 J31 [] w40) (
 J31 [] w30))
 fun s31 _ w41 =>
 JoinW (fun J42 =>
 ldW false 1 t10 w41 fun t69 =>
 ldW false 1 t11 w41 fun t70 =>
 binW .lss t69 t70 fun t71 =>
 condW t71 (
 ldW false 1 t2 w41 fun t72 =>
 ldW false 1 (s10.getD 1 undef) w41 fun t73 =>
 ldW false 1 t10 w41 fun t74 =>
 binW .add t73 t74 fun t75 =>
 callF Tryz.prog 43 [t72,t75,(.bool false),(.func (.func 163) #[] #[t7,t2,(s10.getD 0 undef),t10,t11,(s10.getD 1 undef)])] w41 fun t77 w43 =>
 fldW 3 t7 fun t78 =>
 ldW false 1 t78 w43 fun t79 =>
 bslW 9 1 [(.string (ofL []))] [(0,1,(.string (ofL [101])))] w43 fun t80 w44 =>
 semE Tryz.prog (Builtin.append_ #[33,33] 33 #[t79,t80]) w44 fun t81 w45 =>
 fldW 3 t7 fun t82 =>
 stW 1 t82 t81 w45 fun w46 =>
 J42 [] w46) (
 J42 [] w41))
 fun s42 _ w47 =>
 ldW false 1 (s10.getD 0 undef) w47.drew fun t83 =>
 ldW false 1 t11 w47.drew fun t84 =>
 slsW t83 (some t84) none fun t85 =>
 ldW false 1 (s10.getD 1 undef) w47.drew fun t86 =>
 ldW false 1 t11 w47.drew fun t87 =>
 binW .add t86 t87 fun t88 =>
 stW 1 (s10.getD 0 undef) t85 w47.drew fun w48 =>
 (ldW false 1 t11 w48 fun x => x = t87) ∧
 (ldW false 1 (s10.getD 1 undef) w48 fun x => x = t86) ∧
 stW 1 (s10.getD 1 undef) t88 w48 fun w49 =>
 L20 [] w49) (
 ldW false 1 t2 w21 fun t89 =>
 ldW true 5 t7 w21 fun t90 =>
 callF Tryz.prog 107 [t89,t90] w21 fun t91 w50 =>
 K t91 w50))
theorem W150_ok {v0 v1 : Value} {w : World} {K : Value → World → Prop} (h : W150 v0 v1 w K) : callF Tryz.prog 150 [v0,v1] w K :=
 tie _ 150 Tryz.f150 plan150 _ w K 2 _ rfl mixed Tryz.func150 (by kernel_rfl) (by kernel_rfl) Tryz.call150 h
def plan151 : Plan := { js := [],ds := [] }
def W151 (v0 : Value) (w : World) (K : Value → World → Prop) : Prop :=
 binW .eql v0 (.string (ofL [110,117,108,108])) fun t5 =>
 condW t5 (
 K (.int .i64 1) w) (
 binW .eql v0 (.string (ofL [116,114,117,101])) fun t7 =>
 condW t7 (
 K (.int .i64 2) w) (
 binW .eql v0 (.string (ofL [102,97,108,115,101])) fun t9 =>
 condW t9 (
 K (.int .i64 3) w) (
 K (.int .i64 9) w)))
theorem W151_ok {v0 : Value} {w : World} {K : Value → World → Prop} (h : W151 v0 w K) : callF Tryz.prog 151 [v0] w K :=
 tie _ 151 Tryz.f151 plan151 _ w K 1 _ rfl mixed Tryz.func151 (by kernel_rfl) (by kernel_rfl) Tryz.call151 h
def plan152 : Plan := { js := [],ds := [] }
def W152 (v0 v1 : Value) (w : World) (K : Value → World → Prop) : Prop :=
 ldW false 1 v0 w fun t2 =>
 nilW t2 fun t3 =>
 fldW 1 t3 fun t4 =>
 ldW false 1 t4 w fun t5 =>
 binW .add t5 (.int .i64 1) fun t6 =>
 nilW t2 fun t7 =>
 fldW 1 t7 fun t8 =>
 stW 1 t8 t6 w fun w1 =>
 ldW false 1 v0 w1 fun t9 =>
 callF Tryz.prog 153 [t9,(.string (ofL [41]))] w1 fun t10 w2 =>
 fldW 2 v1 fun t11 =>
 stW 1 t11 t10 w2 fun w3 =>
 K (.tuple #[]) w3
theorem W152_ok {v0 v1 : Value} {w : World} {K : Value → World → Prop} (h : W152 v0 v1 w K) : callF Tryz.prog 152 [v0,v1] w K :=
 tie _ 152 Tryz.f152 plan152 _ w K 2 _ rfl mixed Tryz.func152 (by kernel_rfl) (by kernel_rfl) Tryz.call152 h
def plan153 : Plan := { js := [(14,⟨[],[],6⟩),(6,⟨[5],[],2⟩)],ds := [] }
def W153 (v0 v1 : Value) (w : World) (K : Value → World → Prop) : Prop :=
 LoopW [(.slice none 0 0)] w fun s1 _ w2 L1 =>
 callF Tryz.prog 45 [v0,v1] w2 fun t8 w3 =>
 unW .not t8 fun t9 =>
 condW t9 (
 JoinW (fun J4 =>
 lenlW (s1.getD 0 undef) fun t11 =>
 binW .gtr t11 (.int .i64 0) fun t12 =>
 condW t12 (
 callF Tryz.prog 106 [v0,(.string (ofL [44]))] w3 fun t14 w5 =>
 callF Tryz.prog 45 [v0,v1] w5 fun t17 w6 =>
 condW t17 (
 K (s1.getD 0 undef) w6) (
 J4 [] w6)) (
 J4 [] w3))
 fun s4 _ w7 =>
 callF Tryz.prog 81 [v0] w7 fun t20 w8 =>
 bslW 3 1 [(.int .i64 0)] [(0,1,t20)] w8 fun t21 w9 =>
 semE Tryz.prog (Builtin.append_ #[26,26] 26 #[(s1.getD 0 undef),t21]) w9 fun t22 w10 =>
 L1 [t22] w10) (
 K (s1.getD 0 undef) w3)
theorem W153_ok {v0 v1 : Value} {w : World} {K : Value → World → Prop} (h : W153 v0 v1 w K) : callF Tryz.prog 153 [v0,v1] w K :=
 tie _ 153 Tryz.f153 plan153 _ w K 2 _ rfl mixed Tryz.func153 (by kernel_rfl) (by kernel_rfl) Tryz.call153 h
def plan154 : Plan := { js := [],ds := [] }
def W154 (v0 v1 : Value) (w : World) (K : Value → World → Prop) : Prop :=
 ldW false 1 v0 w fun t2 =>
 nilW t2 fun t3 =>
 fldW 1 t3 fun t4 =>
 ldW false 1 t4 w fun t5 =>
 binW .add t5 (.int .i64 1) fun t6 =>
 nilW t2 fun t7 =>
 fldW 1 t7 fun t8 =>
 stW 1 t8 t6 w fun w1 =>
 ldW false 1 v0 w1 fun t9 =>
 callF Tryz.prog 81 [t9] w1 fun t10 w2 =>
 stW 1 v1 t10 w2 fun w3 =>
 ldW false 1 v0 w3 fun t11 =>
 callF Tryz.prog 106 [t11,(.string (ofL [41]))] w3 fun t12 w4 =>
 K (.tuple #[]) w4
theorem W154_ok {v0 v1 : Value} {w : World} {K : Value → World → Prop} (h : W154 v0 v1 w K) : callF Tryz.prog 154 [v0,v1] w K :=
 tie _ 154 Tryz.f154 plan154 _ w K 2 _ rfl mixed Tryz.func154 (by kernel_rfl) (by kernel_rfl) Tryz.call154 h
def plan155 : Plan := { js := [],ds := [] }
def W155 (v0 v1 v2 : Value) (w : World) (K : Value → World → Prop) : Prop :=
 ldW false 1 v0 w fun t3 =>
 ldW true 3 v1 w fun t4 =>
 callF Tryz.prog 156 [t3,t4] w fun t5 w1 =>
 stW 5 v2 t5 w1 fun w2 =>
 K (.tuple #[]) w2
theorem W155_ok {v0 v1 v2 : Value} {w : World} {K : Value → World → Prop} (h : W155 v0 v1 v2 w K) : callF Tryz.prog 155 [v0,v1,v2] w K :=
 tie _ 155 Tryz.f155 plan155 _ w K 3 _ rfl mixed Tryz.func155 (by kernel_rfl) (by kernel_rfl) Tryz.call155 h
def plan156 : Plan := { js := [(18,⟨[],[],7⟩),(16,⟨[6],[],5⟩),(8004,⟨[23],[],21⟩)],ds := [(31,⟨[0,1,2,6],[[],[0],[],[2],[2,3],[0,1,2,3,4],[0,1,2,3,4,5],[0,1,2,3,4,5,6]]⟩),(27,⟨[0,1,2,6],[[],[0],[],[2],[2,3],[0,1,2,3,4],[0,1,2,3,4,5],[0,1,2,3,4,5,6]]⟩),(17,⟨[0,2,3,4,5],[[],[0],[0,1],[],[3],[0,1,2,3,4],[],[0,1,2,3,4,5,6]]⟩),(11,⟨[0,2,3,4],[[],[0],[],[2],[0,1,2,3],[0,1,2,3,4]]⟩)] }
def W156 (v0 v1 : Value) (w : World) (K : Value → World → Prop) : Prop :=
 boxW 64 v1 w fun t3 w1 =>
 allocW 35 [(.int .i64 0),(.string (ofL [])),(.slice none 0 0),(.slice none 0 0),(.int .i64 0)] w1 fun t4 w2 =>
 nilW v0 fun t9 =>
 fldW 1 t9 fun t10 =>
 ldW false 1 t10 w2 fun t11 =>
 binW .add t11 (.int .i64 1) fun t12 =>
 nilW v0 fun t13 =>
 fldW 1 t13 fun t14 =>
 stW 1 t14 t12 w2 fun w3 =>
 callF Tryz.prog 20 [v0] w3 fun t16 w4 =>
 allocW 64 [(.int .i64 0),(.string (ofL [])),(.int .i64 0)] w4 fun t5 w5 =>
 stW 3 t5 t16 w5 fun w6 =>
 fldW 0 t5 fun t17 =>
 ldW false 1 t17 w6 fun t18 =>
 binW .neq t18 (.int .i64 1) fun t19 =>
 GdW (isB t19 false) [undef] w6 (fun J7 =>
 fldW 1 t5 fun t21 =>
 ldW false 1 t21 w6 fun t22 =>
 binW .neq t22 (.string (ofL [102,111,114])) fun t23 =>
 J7 [t23] w6)
 fun s7 _ w8 =>
 pickW t19 (.bool true) (s7.getD 0 undef) fun t24 =>
 condW t24 (
 fldW 2 t3 fun t27 =>
 ldW false 1 t27 w8.drew fun t28 =>
 callF Tryz.prog 153 [v0,(.string (ofL [93]))] w8.drew fun t26 w9 =>
 (ldW false 1 t27 w9 fun x => x = t28) ∧
 putW [(.int .i64 0),(.string (ofL [])),(.slice none 0 0),(.slice none 0 0),(.int .i64 0)] [(0,1,(.int .i64 7)),(2,1,t26),(4,1,t28)] fun c10 =>
 stW 5 t4 (.agg c10.toArray) w9 fun w11 =>
 ldW true 5 t4 w11 fun r12 =>
 K r12 w11) (
 nilW v0 fun t31 =>
 fldW 1 t31 fun t32 =>
 ldW false 1 t32 w8 fun t33 =>
 binW .add t33 (.int .i64 1) fun t34 =>
 nilW v0 fun t35 =>
 fldW 1 t35 fun t36 =>
 stW 1 t36 t34 w8 fun w13 =>
 JoinW (fun J14 =>
 fldW 2 t3 fun t40 =>
 ldW false 1 t40 w13.drew fun t41 =>
 (
 callF Tryz.prog 39 [v0,(.int .i64 1)] w13.drew fun t38 w15 =>
 (ldW false 1 t40 w15 fun x => x = t41) ∧
 partW false 1 1 t38 fun t39 =>
 putW [(.int .i64 0),(.string (ofL [])),(.slice none 0 0),(.slice none 0 0),(.int .i64 0)] [(0,1,(.int .i64 29)),(1,1,t39),(4,1,t41)] fun c16 =>
 allocW 35 [(.int .i64 0),(.string (ofL [])),(.slice none 0 0),(.slice none 0 0),(.int .i64 0)] w15 fun t6 w17 =>
 (ldW false 1 t40 w17 fun x => x = t41) ∧
 stW 5 t6 (.agg c16.toArray) w17 fun w18 =>
 J14 [t6] w18) ∧
 (
 allocW 35 [(.int .i64 0),(.string (ofL [])),(.slice none 0 0),(.slice none 0 0),(.int .i64 0)] w13.drew fun t6 w19 =>
 (ldW false 1 t40 w19 fun x => x = t41) ∧
 callF Tryz.prog 39 [v0,(.int .i64 1)] w19 fun t38 w20 =>
 (ldW false 1 t40 w20 fun x => x = t41) ∧
 partW false 1 1 t38 fun t39 =>
 putW [(.int .i64 0),(.string (ofL [])),(.slice none 0 0),(.slice none 0 0),(.int .i64 0)] [(0,1,(.int .i64 29)),(1,1,t39),(4,1,t41)] fun c21 =>
 stW 5 t6 (.agg c21.toArray) w20 fun w22 =>
 J14 [t6] w22))
 fun s14 _ w23 =>
 JoinW (fun J24 =>
 callF Tryz.prog 39 [v0,(.int .i64 1)] w23 fun t44 w25 =>
 allocW 64 [(.int .i64 0),(.string (ofL [])),(.int .i64 0)] w25 fun t7 w26 =>
 stW 3 t7 t44 w26 fun w27 =>
 fldW 1 t7 fun t45 =>
 ldW false 1 t45 w27 fun t46 =>
 binW .neq t46 (.string (ofL [105,110])) fun t47 =>
 condW t47 (
 fldW 2 t7 fun t48 =>
 ldW false 1 t48 w27 fun t49 =>
 callF Tryz.prog 22 [(.int .i64 50),t49] w27 fun t50 w28 =>
 J24 [] w28) (
 J24 [] w27))
 fun s24 _ w29 =>
 fldW 2 (s14.getD 0 undef) fun t51 =>
 ldW false 1 t51 w29.drew fun t52 =>
 callF Tryz.prog 81 [v0] w29.drew fun t54 w30 =>
 (ldW false 1 t51 w30 fun x => x = t52) ∧
 bslW 3 1 [(.int .i64 0)] [(0,1,t54)] w30 fun t55 w31 =>
 (ldW false 1 t51 w31 fun x => x = t52) ∧
 semE Tryz.prog (Builtin.append_ #[26,26] 26 #[t52,t55]) w31 fun t56 w32 =>
 fldW 2 (s14.getD 0 undef) fun t57 =>
 stW 1 t57 t56 w32 fun w33 =>
 callF Tryz.prog 106 [v0,(.string (ofL [58]))] w33 fun t59 w34 =>
 fldW 2 (s14.getD 0 undef) fun t60 =>
 ldW false 1 t60 w34.drew fun t61 =>
 callF Tryz.prog 81 [v0] w34.drew fun t63 w35 =>
 (ldW false 1 t60 w35 fun x => x = t61) ∧
 bslW 3 1 [(.int .i64 0)] [(0,1,t63)] w35 fun t64 w36 =>
 (ldW false 1 t60 w36 fun x => x = t61) ∧
 semE Tryz.prog (Builtin.append_ #[26,26] 26 #[t61,t64]) w36 fun t65 w37 =>
 fldW 2 (s14.getD 0 undef) fun t66 =>
 stW 1 t66 t65 w37 fun w38 =>
 callF Tryz.prog 106 [v0,(.string (ofL [93]))] w38 fun t68 w39 =>
 ldW true 5 (s14.getD 0 undef) w39 fun t69 =>
 stW 5 t4 t69 w39 fun w40 =>
 ldW true 5 t4 w40 fun r41 =>
 K r41 w40)
theorem W156_ok {v0 v1 : Value} {w : World} {K : Value → World → Prop} (h : W156 v0 v1 w K) : callF Tryz.prog 156 [v0,v1] w K :=
 tie _ 156 Tryz.f156 plan156 _ w K 2 _ rfl mixed Tryz.func156 (by kernel_rfl) (by kernel_rfl) Tryz.call156 h
def plan157 : Plan := { js := [],ds := [] }
def W157 (v0 v1 v2 : Value) (w : World) (K : Value → World → Prop) : Prop :=
 ldW false 1 v0 w fun t3 =>
 ldW true 3 v1 w fun t4 =>
 callF Tryz.prog 158 [t3,t4] w fun t5 w1 =>
 stW 5 v2 t5 w1 fun w2 =>
 K (.tuple #[]) w2
theorem W157_ok {v0 v1 v2 : Value} {w : World} {K : Value → World → Prop} (h : W157 v0 v1 v2 w K) : callF Tryz.prog 157 [v0,v1,v2] w K :=
 tie _ 157 Tryz.f157 plan157 _ w K 3 _ rfl mixed Tryz.func157 (by kernel_rfl) (by kernel_rfl) Tryz.call157 h
def plan158 : Plan := { js := [(43,⟨[],[],6⟩),(45005,⟨[74],[],71⟩),(45011,⟨[68],[],65⟩),(33,⟨[],[],7⟩),(20,⟨[],[],7⟩),(10,⟨[],[],6⟩)],ds := [(42,⟨[0,1,2,3,6,7,8,12,14],[[],[0],[],[2],[2,3],[0,1,2,3,4],[],[6],[],[0,1,2,3,4,5,8],[0,1,2,3,4,5,8,9],[0,1,2,3,4,5,6,7,8,9,10],[0,1,2,3,4,5,6,7],[0,1,2,3,4,5,6,7,8,9,10,11,12],[0,1,2,3,4,5,6,7,8,9,10,11,12,13],[0,1,2,3,4,5,6,7,8,9,10,11,12,13,14]]⟩)] }
def W158 (v0 v1 : Value) (w : World) (K : Value → World → Prop) : Prop :=
 boxW 64 v1 w fun t3 w1 =>
 allocW 35 [(.int .i64 0),(.string (ofL [])),(.slice none 0 0),(.slice none 0 0),(.int .i64 0)] w1 fun t4 w2 =>
 nilW v0 fun t8 =>
 fldW 1 t8 fun t9 =>
 ldW false 1 t9 w2 fun t10 =>
 binW .add t10 (.int .i64 1) fun t11 =>
 nilW v0 fun t12 =>
 fldW 1 t12 fun t13 =>
 stW 1 t13 t11 w2 fun w3 =>
 fldW 2 t3 fun t14 =>
 ldW false 1 t14 w3 fun t15 =>
 putW [(.int .i64 0),(.string (ofL [])),(.slice none 0 0),(.slice none 0 0),(.int .i64 0)] [(0,1,(.int .i64 8)),(4,1,t15)] fun c4 =>
 allocW 35 [(.int .i64 0),(.string (ofL [])),(.slice none 0 0),(.slice none 0 0),(.int .i64 0)] w3 fun t5 w5 =>
 stW 5 t5 (.agg c4.toArray) w5 fun w6 =>
 callF Tryz.prog 19 [v0] w6 fun t18 w7 =>
 LoopW [] w7 fun s8 _ w9 L8 =>
 callF Tryz.prog 45 [v0,(.string (ofL [125]))] w9 fun t20 w10 =>
 unW .not t20 fun t21 =>
 condW t21 (
 callF Tryz.prog 41 [v0] w10 fun t23 w11 =>
 allocW 64 [(.int .i64 0),(.string (ofL [])),(.int .i64 0)] w11 fun t6 w12 =>
 stW 3 t6 t23 w12 fun w13 =>
 JoinW (fun J14 =>
 fldW 0 t6 fun t24 =>
 ldW false 1 t24 w13 fun t25 =>
 binW .eql t25 (.int .i64 3) fun t30 =>
 condW t30 (
 ldW true 3 t6 w13 fun t32 =>
 callF Tryz.prog 40 [v0,t32] w13 fun t33 w15 =>
 fldW 1 t6 fun t34 =>
 stW 1 t34 t33 w15 fun w16 =>
 J14 [] w16) (
 binW .eql t25 (.int .i64 1) fun t36 =>
 condW t36 (
 J14 [] w13) (
 fldW 2 t6 fun t26 =>
 ldW false 1 t26 w13 fun t27 =>
 callF Tryz.prog 22 [(.int .i64 50),t27] w13 fun t28 w17 =>
 J14 [] w17)))
 fun s14 _ w18 =>
 JoinW (fun J19 =>
 fldW 3 t5 fun t37 =>
 ldW false 1 t37 w18 fun t38 =>
 fldW 1 t6 fun t39 =>
 ldW false 1 t39 w18 fun t40 =>
 callF Tryz.prog 80 [t38,t40] w18 fun t41 w20 =>
 condW t41 (
 fldW 2 t6 fun t42 =>
 ldW false 1 t42 w20 fun t43 =>
 callF Tryz.prog 22 [(.int .i64 2),t43] w20 fun t44 w21 =>
 J19 [] w21) (
 J19 [] w20))
 fun s19 _ w22 =>
 callF Tryz.prog 106 [v0,(.string (ofL [61]))] w22 fun t46 w23 =>
 fldW 3 t5 fun t47 =>
 ldW false 1 t47 w23.drew fun t48 =>
 fldW 1 t6 fun t49 =>
 ldW false 1 t49 w23.drew fun t50 =>
 fldW 2 t5 fun t53 =>
 ldW false 1 t53 w23.drew fun t54 =>
 bslW 9 1 [(.string (ofL []))] [(0,1,t50)] w23.drew fun t51 w24 =>
 (ldW false 1 t53 w24 fun x => x = t54) ∧
 (ldW false 1 t47 w24 fun x => x = t48) ∧
 semE Tryz.prog (Builtin.append_ #[33,33] 33 #[t48,t51]) w24 fun t52 w25 =>
 (ldW false 1 t53 w25 fun x => x = t54) ∧
 fldW 3 t5 fun t59 =>
 callF Tryz.prog 81 [v0] w25 fun t56 w26 =>
 (ldW false 1 t53 w26 fun x => x = t54) ∧
 bslW 3 1 [(.int .i64 0)] [(0,1,t56)] w26 fun t57 w27 =>
 (ldW false 1 t53 w27 fun x => x = t54) ∧
 semE Tryz.prog (Builtin.append_ #[26,26] 26 #[t54,t57]) w27 fun t58 w28 =>
 stW 1 t59 t52 w28 fun w29 =>
 fldW 2 t5 fun t60 =>
 stW 1 t60 t58 w29 fun w30 =>
 JoinW (fun J31 =>
 callF Tryz.prog 45 [v0,(.string (ofL [44]))] w30 fun t62 w32 =>
 unW .not t62 fun t63 =>
 GdW (isB t63 true) [undef] w32 (fun J33 =>
 callF Tryz.prog 20 [v0] w32 fun t66 w34 =>
 partW false 0 1 t66 fun t67 =>
 binW .neq t67 (.int .i64 5) fun t68 =>
 J33 [t68] w34)
 fun s33 _ w35 =>
 pickW t63 (s33.getD 0 undef) (.bool false) fun t69 =>
 GdW (isB t69 true) [undef] w35 (fun J36 =>
 bslW 9 1 [(.string (ofL []))] [(0,1,(.string (ofL [125])))] w35 fun t72 w37 =>
 callF Tryz.prog 42 [v0,t72] w37 fun t73 w38 =>
 unW .not t73 fun t74 =>
 J36 [t74] w38)
 fun s36 _ w39 =>
 pickW t69 (s36.getD 0 undef) (.bool false) fun t75 =>
 condW t75 (
 callF Tryz.prog 20 [v0] w39 fun t77 w40 =>
 partW false 2 1 t77 fun t78 =>
 callF Tryz.prog 22 [(.int .i64 50),t78] w40 fun t79 w41 =>
 J31 [] w41) (
 J31 [] w39))
 fun s31 _ w42 =>
 callF Tryz.prog 19 [v0] w42 fun t81 w43 =>
 L8 [] w43) (
 ldW true 5 t5 w10 fun t82 =>
 stW 5 t4 t82 w10 fun w44 =>
 ldW true 5 t4 w44 fun r45 =>
 K r45 w44)
theorem W158_ok {v0 v1 : Value} {w : World} {K : Value → World → Prop} (h : W158 v0 v1 w K) : callF Tryz.prog 158 [v0,v1] w K :=
 tie _ 158 Tryz.f158 plan158 _ w K 2 _ rfl mixed Tryz.func158 (by kernel_rfl) (by kernel_rfl) Tryz.call158 h
def plan163 : Plan := { js := [],ds := [(0,⟨[0,1,2,3,4,5,6,7,8,9,10,11,12,16],[[],[0],[],[],[],[4],[],[6],[3,4,5,6,7],[],[],[9,10],[9,10,11],[2,3,4,5,6,7,8,9,10,11,12],[2,3,4,5,6,7,8,9,10,11,12,13],[0,1,2,3,4,5,6,7,8,9,10,11,12,13,14],[0,1,2,3,4,5,6,7,8,9,10,11,12,13,14,15],[0,1,2,3,4,5,6,7,8,9,10,11,12,13,14,15,16]]⟩)] }
def W163 (v0 v1 v2 v3 v4 v5 : Value) (w : World) (K : Value → World → Prop) : Prop :=
 fldW 2 v0 fun t6 =>
 ldW false 1 t6 w.drew fun t7 =>
 ldW false 1 v1 w.drew fun t8 =>
 ldW false 1 v2 w.drew fun t9 =>
 ldW false 1 v3 w.drew fun t10 =>
 binW .add t10 (.int .i64 2) fun t11 =>
 ldW false 1 v4 w.drew fun t12 =>
 binW .sub t12 (.int .i64 1) fun t13 =>
 slsW t9 (some t11) (some t13) fun t14 =>
 ldW false 1 v5 w.drew fun t15 =>
 ldW false 1 v3 w.drew fun t16 =>
 binW .add t15 t16 fun t17 =>
 binW .add t17 (.int .i64 2) fun t18 =>
 callF Tryz.prog 164 [t8,t14,t18] w.drew fun t19 w1 =>
 (ldW false 1 t6 w1 fun x => x = t7) ∧
 bslW 3 1 [(.int .i64 0)] [(0,1,t19)] w1 fun t20 w2 =>
 (ldW false 1 t6 w2 fun x => x = t7) ∧
 semE Tryz.prog (Builtin.append_ #[26,26] 26 #[t7,t20]) w2 fun t21 w3 =>
 fldW 2 v0 fun t22 =>
 stW 1 t22 t21 w3 fun w4 =>
 K (.tuple #[]) w4
theorem W163_ok {v0 v1 v2 v3 v4 v5 : Value} {w : World} {K : Value → World → Prop} (h : W163 v0 v1 v2 v3 v4 v5 w K) : callF Tryz.prog 163 [v0,v1,v2,v3,v4,v5] w K :=
 tie _ 163 Tryz.f163 plan163 _ w K 6 _ rfl mixed Tryz.func163 (by kernel_rfl) (by kernel_rfl) Tryz.call163 h
def plan164 : Plan := { js := [(4,⟨[],[],8⟩)],ds := [(11,⟨[0,1,2,3,4,5,6,7,8,9,10,12],[[],[],[],[2],[2,3],[2,3,4],[],[6],[6,7],[6,7,8],[0,1,2,3,4,5,6,7,8,9],[0,1,2,3,4,5,6,7,8,9,10],[0,1,2,3,4,5,6,7,8,9,10,11]]⟩),(8,⟨[0,1,2,3,4,5,6,7,8,9],[[],[0],[0,1],[0,1,2],[],[],[5],[5,6],[5,6,7],[4,5,6,7,8],[0,1,2,3,4,5,6,7,8,9]]⟩)] }
def W164 (v0 v1 v2 : Value) (w : World) (K : Value → World → Prop) : Prop :=
 callF Tryz.prog 17 [v1] w fun t13 w1 =>
 extW 0 t13 fun t14 =>
 extW 1 t13 fun t15 =>
 JoinW (fun J2 =>
 eqW .ptr true t15 (.pointer none) fun t17 =>
 condW t17 (
 nilW t15 fun t19 =>
 fldW 0 t19 fun t20 =>
 ldW false 1 t20 w1.drew fun t21 =>
 nilW t15 fun t24 =>
 fldW 2 t24 fun t25 =>
 ldW false 1 t25 w1.drew fun t26 =>
 binW .add v2 t26 fun t27 =>
 callF Tryz.prog 22 [t21,t27] w1.drew fun t28 w3 =>
 J2 [] w3) (
 J2 [] w1))
 fun s2 _ w4 =>
 nilW v0 fun t32 =>
 fldW 3 t32 fun t33 =>
 ldW false 1 t33 w4.drew fun t34 =>
 nilW v0 fun t36 =>
 fldW 4 t36 fun t37 =>
 ldW false 1 t37 w4.drew fun t38 =>
 putW [(.slice none 0 0),(.int .i64 0),(.int .i64 0),(.pointer none),(.int .i64 0),(.bool false)] [(0,1,t14),(2,1,v2),(3,1,t34),(4,1,t38)] fun c5 =>
 boxW 61 (.agg c5.toArray) w4.drew fun t40 w6 =>
 callF Tryz.prog 81 [t40] w6 fun t42 w7 =>
 callF Tryz.prog 39 [t40,(.int .i64 0)] w7 fun t44 w8 =>
 K t42 w8
theorem W164_ok {v0 v1 v2 : Value} {w : World} {K : Value → World → Prop} (h : W164 v0 v1 v2 w K) : callF Tryz.prog 164 [v0,v1,v2] w K :=
 tie _ 164 Tryz.f164 plan164 _ w K 3 _ rfl mixed Tryz.func164 (by kernel_rfl) (by kernel_rfl) Tryz.call164 h
end Go.Proofs.YtofhaneggcpdaaaGreatDoor
namespace Go.Proofs.YtofhaneggcpdaaaGreatDoor
open Go Go.Eng
set_option maxRecDepth 100000
variable [HX]
def plan8 : Plan := { js := [],ds := [] }
def W8 (v0 : Value) (w : World) (K : Value → World → Prop) : Prop :=
 lensW v0 fun t5 =>
 minW t5 (.int .i64 6000) fun t6 =>
 slsW v0 none (some t6) fun t7 =>
 K t7 w
theorem W8_ok {v0 : Value} {w : World} {K : Value → World → Prop} (h : W8 v0 w K) : callF Tryz.prog 8 [v0] w K :=
 tie _ 8 Tryz.f8 plan8 _ w K 1 _ rfl mixed Tryz.func8 (by kernel_rfl) (by kernel_rfl) Tryz.call8 h
def plan80 : Plan := { js := [],ds := [] }
def W80 (v0 v1 : Value) (w : World) (K : Value → World → Prop) : Prop :=
 callF Tryz.prog 103 [v0,v1] w fun t7 w1 =>
 binW .geq t7 (.int .i64 0) fun t8 =>
 K t8 w1
theorem W80_ok {v0 v1 : Value} {w : World} {K : Value → World → Prop} (h : W80 v0 v1 w K) : callF Tryz.prog 80 [v0,v1] w K :=
 tie _ 80 Tryz.f80 plan80 _ w K 2 _ rfl mixed Tryz.func80 (by kernel_rfl) (by kernel_rfl) Tryz.call80 h
def plan89 : Plan := { js := [],ds := [] }
def W89 (v0 v1 : Value) (w : World) (K : Value → World → Prop) : Prop :=
 callF Tryz.prog 94 [v0] w fun t6 w1 =>
 nilW v0 fun t9 =>
 fldW 1 t9 fun t10 =>
 ldW false 1 t10 w1 fun t11 =>
 bslW 5 1 [(.int .u8 0)] [(0,1,v1)] w1 fun t13 w2 =>
 semE Tryz.prog (Builtin.append_ #[50,50] 50 #[t11,t13]) w2 fun t14 w3 =>
 nilW v0 fun t15 =>
 fldW 1 t15 fun t16 =>
 stW 1 t16 t14 w3 fun w4 =>
 K .nilIface w4
theorem W89_ok {v0 v1 : Value} {w : World} {K : Value → World → Prop} (h : W89 v0 v1 w K) : callF Tryz.prog 89 [v0,v1] w K :=
 tie _ 89 Tryz.f89 plan89 _ w K 2 _ rfl mixed Tryz.func89 (by kernel_rfl) (by kernel_rfl) Tryz.call89 h
def plan90 : Plan := { js := [],ds := [] }
def W90 (v0 v1 : Value) (w : World) (K : Value → World → Prop) : Prop :=
 callF Tryz.prog 94 [v0] w fun t8 w1 =>
 nilW v0 fun t10 =>
 fldW 1 t10 fun t11 =>
 ldW false 1 t11 w1 fun t12 =>
 lenlW t12 fun t13 =>
 nilW v0 fun t16 =>
 fldW 1 t16 fun t17 =>
 ldW false 1 t17 w1 fun t18 =>
 callF Tryz.prog 115 [t18,v1] w1 fun t20 w2 =>
 nilW v0 fun t21 =>
 fldW 1 t21 fun t22 =>
 stW 1 t22 t20 w2 fun w3 =>
 nilW v0 fun t24 =>
 fldW 1 t24 fun t25 =>
 ldW false 1 t25 w3 fun t26 =>
 lenlW t26 fun t27 =>
 binW .sub t27 t13 fun t29 =>
 K (.tuple #[t29,.nilIface]) w3
theorem W90_ok {v0 v1 : Value} {w : World} {K : Value → World → Prop} (h : W90 v0 v1 w K) : callF Tryz.prog 90 [v0,v1] w K :=
 tie _ 90 Tryz.f90 plan90 _ w K 2 _ rfl mixed Tryz.func90 (by kernel_rfl) (by kernel_rfl) Tryz.call90 h
def plan65 : Plan := { js := [],ds := [] }
def W65 (v0 v1 : Value) (w : World) (K : Value → World → Prop) : Prop :=
 callF Tryz.prog 94 [v0] w fun t7 w1 =>
 nilW v0 fun t10 =>
 fldW 1 t10 fun t11 =>
 ldW false 1 t11 w1 fun t12 =>
 semE Tryz.prog (Builtin.append_ #[50,9] 50 #[t12,v1]) w1 fun t14 w2 =>
 nilW v0 fun t15 =>
 fldW 1 t15 fun t16 =>
 stW 1 t16 t14 w2 fun w3 =>
 lensW v1 fun t18 =>
 K (.tuple #[t18,.nilIface]) w3
theorem W65_ok {v0 v1 : Value} {w : World} {K : Value → World → Prop} (h : W65 v0 v1 w K) : callF Tryz.prog 65 [v0,v1] w K :=
 tie _ 65 Tryz.f65 plan65 _ w K 2 _ rfl mixed Tryz.func65 (by kernel_rfl) (by kernel_rfl) Tryz.call65 h
def plan103 : Plan := { js := [(6,⟨[8],[4,5],8⟩)],ds := [] }
def W103 (v0 v1 : Value) (w : World) (K : Value → World → Prop) : Prop :=
 lenlW v0 fun t7 =>
 LoopW [(.int .i64 0)] w fun s1 _ w2 L1 =>
 binW .lss (s1.getD 0 undef) t7 fun t9 =>
 condW t9 (
 ixaW none 1 v0 (s1.getD 0 undef) fun t14 =>
 ldW false 1 t14 w2 fun t15 =>
 binW .eql v1 t15 fun t16 =>
 condW t16 (
 K (s1.getD 0 undef) w2) (
 binW .add (s1.getD 0 undef) (.int .i64 1) fun t18 =>
 L1 [t18] w2)) (
 K (.int .i64 (-1)) w2)
theorem W103_ok {v0 v1 : Value} {w : World} {K : Value → World → Prop} (h : W103 v0 v1 w K) : callF Tryz.prog 103 [v0,v1] w K :=
 tie _ 103 Tryz.f103 plan103 _ w K 2 _ rfl mixed Tryz.func103 (by kernel_rfl) (by kernel_rfl) Tryz.call103 h
def plan115 : Plan := { js := [],ds := [] }
def W115 (v0 v1 : Value) (w : World) (K : Value → World → Prop) : Prop :=
 cvtW .u32 v1 fun t6 =>
 binW .leq t6 (.int .u32 127) fun t7 =>
 condW t7 (
 cvtW .u8 v1 fun t10 =>
 bslW 5 1 [(.int .u8 0)] [(0,1,t10)] w fun t11 w1 =>
 semE Tryz.prog (Builtin.append_ #[50,50] 50 #[v0,t11]) w1 fun t12 w2 =>
 K t12 w2) (
 callF Tryz.prog 135 [v0,v1] w fun t15 w3 =>
 K t15 w3)
theorem W115_ok {v0 v1 : Value} {w : World} {K : Value → World → Prop} (h : W115 v0 v1 w K) : callF Tryz.prog 115 [v0,v1] w K :=
 tie _ 115 Tryz.f115 plan115 _ w K 2 _ rfl mixed Tryz.func115 (by kernel_rfl) (by kernel_rfl) Tryz.call115 h
def plan135 : Plan := { js := [(22004,⟨[55],[],54⟩),(11,⟨[25],[],6⟩),(16004,⟨[32],[],31⟩)],ds := [] }
def W135 (v0 v1 : Value) (w : World) (K : Value → World → Prop) : Prop :=
 cvtW .u32 v1 fun t7 =>
 binW .leq t7 (.int .u32 2047) fun t13 =>
 condW t13 (
 binW .shr v1 (.int .u64 6) fun t16 =>
 cvtW .u8 t16 fun t17 =>
 binW .or (.int .u8 192) t17 fun t18 =>
 cvtW .u8 v1 fun t20 =>
 binW .and t20 (.int .u8 63) fun t21 =>
 binW .or (.int .u8 128) t21 fun t22 =>
 bslW 5 2 [(.int .u8 0),(.int .u8 0)] [(0,1,t18),(1,1,t22)] w fun t23 w1 =>
 semE Tryz.prog (Builtin.append_ #[50,50] 50 #[v0,t23]) w1 fun t24 w2 =>
 K t24 w2) (
 JoinW (fun J3 =>
 binW .lss t7 (.int .u32 55296) fun t27 =>
 condW t27 (
 J3 [t27] w) (
 binW .lss (.int .u32 57343) t7 fun t29 =>
 GdW (isB t29 true) [undef] w (fun J4 =>
 binW .leq t7 (.int .u32 65535) fun t32 =>
 J4 [t32] w)
 fun s4 _ w5 =>
 pickW t29 (s4.getD 0 undef) (.bool false) fun t33 =>
 J3 [t33] w5))
 fun s3 _ w6 =>
 condW (s3.getD 0 undef) (
 binW .shr v1 (.int .u64 12) fun t36 =>
 cvtW .u8 t36 fun t37 =>
 binW .or (.int .u8 224) t37 fun t38 =>
 binW .shr v1 (.int .u64 6) fun t40 =>
 cvtW .u8 t40 fun t41 =>
 binW .and t41 (.int .u8 63) fun t42 =>
 binW .or (.int .u8 128) t42 fun t43 =>
 cvtW .u8 v1 fun t45 =>
 binW .and t45 (.int .u8 63) fun t46 =>
 binW .or (.int .u8 128) t46 fun t47 =>
 bslW 5 3 [(.int .u8 0),(.int .u8 0),(.int .u8 0)] [(0,1,t38),(1,1,t43),(2,1,t47)] w6 fun t48 w7 =>
 semE Tryz.prog (Builtin.append_ #[50,50] 50 #[v0,t48]) w7 fun t49 w8 =>
 K t49 w8) (
 binW .gtr t7 (.int .u32 65535) fun t52 =>
 GdW (isB t52 true) [undef] w6 (fun J9 =>
 binW .leq t7 (.int .u32 1114111) fun t55 =>
 J9 [t55] w6)
 fun s9 _ w10 =>
 pickW t52 (s9.getD 0 undef) (.bool false) fun t56 =>
 condW t56 (
 binW .shr v1 (.int .u64 18) fun t59 =>
 cvtW .u8 t59 fun t60 =>
 binW .or (.int .u8 240) t60 fun t61 =>
 binW .shr v1 (.int .u64 12) fun t63 =>
 cvtW .u8 t63 fun t64 =>
 binW .and t64 (.int .u8 63) fun t65 =>
 binW .or (.int .u8 128) t65 fun t66 =>
 binW .shr v1 (.int .u64 6) fun t68 =>
 cvtW .u8 t68 fun t69 =>
 binW .and t69 (.int .u8 63) fun t70 =>
 binW .or (.int .u8 128) t70 fun t71 =>
 cvtW .u8 v1 fun t73 =>
 binW .and t73 (.int .u8 63) fun t74 =>
 binW .or (.int .u8 128) t74 fun t75 =>
 bslW 5 4 [(.int .u8 0),(.int .u8 0),(.int .u8 0),(.int .u8 0)] [(0,1,t61),(1,1,t66),(2,1,t71),(3,1,t75)] w10 fun t76 w11 =>
 semE Tryz.prog (Builtin.append_ #[50,50] 50 #[v0,t76]) w11 fun t77 w12 =>
 K t77 w12) (
 bslW 5 3 [(.int .u8 0),(.int .u8 0),(.int .u8 0)] [(0,1,(.int .u8 239)),(1,1,(.int .u8 191)),(2,1,(.int .u8 189))] w10 fun t9 w13 =>
 semE Tryz.prog (Builtin.append_ #[50,50] 50 #[v0,t9]) w13 fun t10 w14 =>
 K t10 w14)))
theorem W135_ok {v0 v1 : Value} {w : World} {K : Value → World → Prop} (h : W135 v0 v1 w K) : callF Tryz.prog 135 [v0,v1] w K :=
 tie _ 135 Tryz.f135 plan135 _ w K 2 _ rfl mixed Tryz.func135 (by kernel_rfl) (by kernel_rfl) Tryz.call135 h
end Go.Proofs.YtofhaneggcpdaaaGreatDoor
namespace Go.Proofs.YtofhaneggcpdaaaGreatDoor
open Go Go.Eng Go.RowKit Go.Syn Go.Lex
set_option maxRecDepth 100000
abbrev DT : TypeId := 29
def tokc (t : Tok) : List Value := [i64 t.k,str t.t,i64 t.a]
def psAt (w : World) (p : Nat) : Nat := match w.heap[p]? with | some (.cells c _ _) => (match (c[1]? : Option Value) with | some (Value.int _ i) => i.toNat | _ => 0) | _ => 0
theorem PR.at_ {w0 w : World} {p f : Nat} {M : Lay} {vt : Value} {s : PS} {top : List Nat} (h : PR w0 w p f M vt s top) : psAt w p = s.i := by
 unfold psAt
 rw [h.ps]
 simp
theorem wsi {N : Int} {s : PS} (h : WS N s) (hN : s.toks.length ≤ 100000) : s.i ≤ 1000000 := by have := h.lt; omega
section
variable [HX]
def Thr (w0 : World) (f : Nat) (code at_ : Int) : Prop :=
 ∀ (d : Nat) (w' : World) (cs : List Value),Chg (Of f) w0 w' → w0.heap.size ≤ d → cs.length = 3 → w'.heap[f]? = some (.cells cs.toArray FlT (0,0)) → w'.heap[d]? = some (.cells [i64 code,str [],i64 at_].toArray 48 (0,0)) → HX.X [{ v := .iface DT (.pointer (some ⟨d,0,none⟩)),recovered := false }] w'
section
variable {w0 w : World} {p f : Nat} {M : Lay} {vt : Value} {s : PS} {top : List Nat} {N : Int} {K : Value → World → Prop}
theorem fail_p {e a : Int} (h : PR w0 w p f M vt s top) (ht : Thr w0 f e a) : callF Tryz.prog 22 [i64 e,i64 a] w K := by
 refine W22_ok ?_
 unfold W22
 simp only [put_int,put_str,put_nil,List.length_cons,List.length_nil,List.set_cons_zero,List.set_cons_succ]
 refine ⟨by omega,by omega,?_⟩
 refine box_new (z := [i64 e,str [],i64 a]) fun d w' hd hz hb hx => ?_
 have h' := h.ext hx
 exact ht d w' _ h'.ch (by have := h.base; omega) (by rfl) h'.fr.hf hb
theorem lineRun_get : ∀ {l : List Tok} {i : Nat} {t : Tok},l[i]? = some t → lineRun (l.drop i) = if t.k = 5 then lineRun (l.drop (i + 1)) + 1 else 0 := by
 intro l i t h
 have hlt := (List.getElem?_eq_some_iff.1 h).1
 rw [List.drop_eq_getElem_cons hlt,(List.getElem?_eq_some_iff.1 h).2]
 rfl
theorem now_p (h : PR w0 w p f M vt s top) (hs : WS N s) (hN : N ≤ 1000000) (hl : s.toks.length ≤ 100000) (hK : ∀ w',PR w0 w' p f M vt (nowS s) top → Eff p f M M w w' → K (.agg (tokc (cur s)).toArray) w') :
   callF Tryz.prog 20 [.pointer (some ⟨p,0,none⟩)] w K := by
 refine W20_ok ?_
 unfold W20
 refine alloc_new fun b w1 hb hz1 hbb hx1 => ?_
 have hp := h.lt
 have h1 := h.ext hx1
 have L1 := h.loc hz1 hb hbb
 refine LoopW.go (fun st w' => st = [] ∧ ∃ j,PR w0 w' p f M vt { s with i := j } top ∧ s.i ≤ j ∧ nowS { s with i := j } = nowS s ∧ j ≤ (nowS s).i ∧ Eff p f M M w w' ∧ Loc w0 w' p f M vt b TkT [i64 0,str [],i64 0]) (fun _ w' => s.toks.length - psAt w' p)
   ⟨rfl,s.i,h1,Nat.le_refl _,rfl,now_i s,Eff.ext hx1,L1⟩ ?_
 rintro st g w2 ⟨rfl,j,h2,hj,hnow,hjn,he2,L2⟩
 have hg := now_go hs
 have hjl : j < s.toks.length := by have := (hg.ws hs).lt; rw [hg.toks] at this; omega
 have hws : WS N { s with i := j } := ⟨hs.tg,hjl,hs.pN⟩
 obtain ⟨t,ht⟩ : ∃ t,s.toks[j]? = some t := ⟨_,List.getElem?_eq_getElem hjl⟩
 have h3 := h2.drew
 have sl : SlAt w2.drew TkT vt s.toks.length (toks s.toks) := h3.tk
 have stop : nowS { s with i := j } = { s with i := j } → nilW (.pointer (some ⟨p,0,none⟩)) (fun t30 => fldW 0 t30 fun t31 => ldW false 1 t31 w2.drew.drew fun t32 => nilW (.pointer (some ⟨p,0,none⟩)) fun t34 => fldW 1 t34 fun t35 => ldW false 1 t35 w2.drew.drew fun t36 => ixaW none 3 t32 t36 fun t37 => ldW true 3 t37 w2.drew.drew fun t38 => allocW TkT [(.int .i64 0),(.string (ofL [])),(.int .i64 0)] w2.drew.drew fun t3 w17 => (ldW true 3 t37 w17 fun x => x = t38) ∧ (ldW false 1 t35 w17 fun x => x = t36) ∧ (ldW false 1 t31 w17 fun x => x = t32) ∧ stW 3 t3 t38 w17 fun w18 => fldW 2 t3 fun t39 => ldW false 1 t39 w18.drew fun t40 => nilW (.pointer (some ⟨p,0,none⟩)) fun t42 => fldW 2 t42 fun t43 => ldW false 1 t43 w18.drew fun t44 => binW .add t40 t44 fun t45 => fldW 2 t3 fun t46 => stW 1 t46 t45 w18.drew fun w19 => ldW true 3 t3 w19 fun t47 => stW 3 (.pointer (some ⟨b,0,none⟩)) t47 w19 fun w20 => ldW true 3 (.pointer (some ⟨b,0,none⟩)) w20 fun r21 => K r21 w20) := fun hn => by
   have h4 := h3.drew
   have ecur : cur s = { t with a := t.a + s.off } := by
     unfold cur
     rw [← hnow,hn]
     have : tokI { s with i := j } = t := by unfold tokI; rw [List.getD_eq_getElem?_getD,ht]; rfl
     rw [this]
   have hpos := hws.tg.pos j t ht
   simp only at hpos
   have ldT : ∀ {w' : World},PR w0 w' p f M vt { s with i := j } top → ldW false 1 (.pointer (some ((⟨p,0,none⟩ : Addr).add 0))) w' fun x => x = vt := fun h => by
     rw [ld_one]; exact ⟨vt,by rw [add_mk,cell_eq,h.ps,cellO_some]; rfl,rfl⟩
   have ldI : ∀ {w' : World},PR w0 w' p f M vt { s with i := j } top → ldW false 1 (.pointer (some ((⟨p,0,none⟩ : Addr).add 1))) w' fun x => x = i64 (j : Nat) := fun h => by
     rw [ld_one]; exact ⟨_,by rw [add_mk,cell_eq,h.ps,cellO_some]; rfl,rfl⟩
   refine h4.ld rfl ?_
   refine h4.ld rfl ?_
   refine ixa_at (size := 3) h4.tk (toks_len _) (by omega) hjl fun tb o c fr htb hc => ?_
   have hcell : ∀ i,i < 3 → c[o + i]? = (tokc t)[i]? := fun i hi => by rw [hc i hi]; exact toks_get ht hi
   have three : ∀ {w' : World},w'.heap[tb]? = some (.cells c TkT fr) → cellsAt w' ⟨tb,o,none⟩ 0 3 = some (tokc t) := fun h => by
     have h0 := hcell 0 (by omega)
     have h1 := hcell 1 (by omega)
     have h2 := hcell 2 (by omega)
     simp only [tokc,Nat.add_zero,List.getElem?_cons_zero,List.getElem?_cons_succ] at h0 h1 h2
     simp only [cellsAt,add_mk,cell_eq,h,cellO_some,Nat.add_zero,h0,h1,h2,Option.map_some,Nat.reduceAdd]
     rfl
   rw [ld_agg]
   refine ⟨tokc t,three htb,?_⟩
   refine alloc_new fun b2 w5 hb2 hz5 hbb5 hx5 => ?_
   have h5 := h4.ext hx5
   have L5 := h4.loc hz5 hb2 hbb5
   have htb5 := hx5.at htb id
   refine ⟨by rw [ld_agg]; exact ⟨_,three htb5,rfl⟩,ldI h5,ldT h5,?_⟩
   refine st_agg_at (l := tokc t) L5.1 rfl rfl rfl fun w6 hz6 hb6 hc6 => ?_
   have L6 : Loc w0 w6 p f M vt b2 TkT (tokc t) := ⟨hb6,L5.2.up (by omega)⟩
   have h6 := h5.one hc6 L5.2
   refine L6.drew.ldf rfl ?_
   refine h6.drew.ld (v := i64 s.off) rfl ?_
   rw [bin_add,wrap_id (by omega) (by omega),fld_ptr,add_mk,Nat.zero_add]
   refine L6.drew.st rfl (by simp [tokc]) fun w7 L7 hc7 hz7 => ?_
   have h7 := h6.drew.one hc7 L6.drew.2
   refine ld_all (l := tokc (cur s)) (by rw [L7.1,ecur]; rfl) rfl ?_
   have hbb2 : b2 ≠ b := by have := L2.lt; have : w2.drew.drew.heap.size = w2.heap.size := rfl; omega
   have L2' := (((L2.drew.drew.ext hx5).one hc6 (Ne.symm hbb2)).drew.one hc7 (Ne.symm hbb2))
   refine ret_agg (l := tokc (cur s)) L2'.1 rfl rfl rfl fun w8 hc8 => ?_
   have h8 := h7.one hc8 L2'.2
   refine hK w8 (by rw [← hnow,hn]; exact h8) ?_
   have hz2 := he2.chg.size
   have z1 : w2.drew.drew.heap.size = w2.heap.size := rfl
   exact ((((((he2.x (ext_drew _)).x (ext_drew _)).x hx5).one hc6 (by omega)).x (ext_drew _)).one hc7 (by omega)).one hc8 (by omega)
 by_cases hq : s.quiet = true
 · refine h3.ld (v := .bool true) (by simp [hq]) ?_
   simp only [isB_t,GqW_t]
   refine ⟨_,rfl,_,rfl,_,rfl,vt,by rw [ld_one]; exact ⟨vt,by rw [add_mk,cell_eq,h3.ps,cellO_some]; rfl,rfl⟩,_,rfl,_,rfl,_,rfl,i64 (j : Nat),by rw [ld_one]; exact ⟨_,by rw [add_mk,cell_eq,h3.ps,cellO_some]; rfl,rfl⟩,?_⟩
   obtain ⟨q,cap,hv,g1,g2,g3⟩ := sl
   have hne : toks s.toks ≠ [] := fun e => by have := congrArg List.length e; rw [toks_len,List.length_nil] at this; omega
   obtain ⟨tb,o,c,fr,rfl,htb,hcs⟩ := g3 hne
   have hlen : (toks s.toks).length = s.toks.length * 3 := toks_len _
   refine ⟨.pointer (some ((⟨tb,o,none⟩ : Addr).add (j * 3))),?_,.pointer (some (((⟨tb,o,none⟩ : Addr).add (j * 3)).add 0)),rfl,i64 t.k,?_,.bool (decide (t.k = 5)),by rw [bin_eql],?_⟩
   · rw [hv,ixa_slice]
     exact ⟨by omega,by omega,by rw [Int.toNat_natCast]⟩
   · rw [ld_one]
     refine ⟨_,?_,rfl⟩
     rw [add_mk,add_mk,cell_eq,htb,cellO_some,Nat.add_zero,hcs _ (by omega)]
     have := toks_get (j := 0) ht (by omega)
     rw [Nat.add_zero] at this
     exact this
   rw [pick_t,condW_dec]
   refine ⟨fun hk => ?_,fun hk => stop ?_⟩
   · have hrun : nowS { s with i := j + 1 } = nowS s := by
       rw [← hnow]
       unfold nowS
       simp only [hq,if_true]
       have e := lineRun_get ht
       rw [if_pos hk] at e
       rw [e]
       congr 1
       omega
     refine h3.go (wsi hws hl) fun w4 h4 he4 hz4 => ?_
     refine ⟨⟨trivial,j + 1,h4,by omega,hrun,?_,(he2.x (ext_drew _)).trans he4,L2.drew.eff he4⟩,?_⟩
     · rw [← hrun]; exact now_i { s with i := j + 1 }
     · rw [h4.at_,h2.at_]; simp only [step1]; omega
   · have e := lineRun_get ht
     rw [if_neg hk] at e
     unfold nowS
     simp only [hq,if_true,e,Nat.add_zero]
 · have hq : s.quiet = false := by simpa using hq
   refine h3.ld (v := .bool false) (by simp [hq]) ?_
   simp only [isB_t,GqW_f]
   rw [pick_f,condW_false]
   exact stop (by unfold nowS; simp only [hq]; rfl)
end
end
end Go.Proofs.YtofhaneggcpdaaaGreatDoor
namespace Go.Proofs.YtofhaneggcpdaaaGreatDoor
open Go Go.Eng Go.RowKit Go.Syn Go.Lex
set_option maxRecDepth 100000
theorem slat_at {S : Nat → Prop} {w w' : World} {T : TypeId} {n : Nat} {v : Value} {xs : List Value} (h : SlAt w T v n xs) (hc : Chg S w w') (hS : ∀ k,v.ownBlock = some k → ¬ S k) : SlAt w' T v n xs := by
 obtain ⟨q,cap,hv,h1,h2,h3⟩ := h
 refine ⟨q,cap,hv,h1,h2,fun hne => ?_⟩
 obtain ⟨b,off,c,fr,hq,hb,hcs⟩ := h3 hne
 exact ⟨b,off,c,fr,hq,hc.at hb (hS b (by rw [hv,hq]; rfl)),hcs⟩
def LocS (w0 w : World) (p f : Nat) (M : Lay) (vt : Value) (v : Value) (T : TypeId) (n : Nat) (cs : List Value) : Prop := SlAt w T v n cs ∧ ∀ k,v.ownBlock = some k → Off w0 w p f M vt k
theorem upi {i : Nat} (h : i ≤ 4611686018427387904) : IntKind.i64.wrap ((i : Int) + 1) = ((i + 1 : Nat) : Int) := by rw [wrap_id (by omega) (by omega)]; rfl
def sidxF : List Str → Str → Nat → Int
 | [],_,_ => -1
 | a :: r,x,i => if x = a then (i : Nat) else sidxF r x (i + 1)
theorem sidxF_in (x : Str) : ∀ (l : List Str) (i : Nat),(0 ≤ sidxF l x i ↔ x ∈ l)
 | [],i => by simp [sidxF]
 | a :: r,i => by
   simp only [sidxF]
   split
   · rename_i h
     simp [h]
   · rename_i h
     rw [sidxF_in x r (i + 1)]
     simp [h]
theorem bsl_str {x : Str} {w : World} {K : Value → World → Prop} (hK : ∀ b w',b = w.heap.size → w'.heap.size = w.heap.size + 1 → w'.heap[b]? = some (.cells [str x].toArray StT (0,0)) → Ext w w' → K (.slice (some ⟨b,0,none⟩) 1 1) w') : bslW StT 1 [(.string (ofL []))] [(0,1,str x)] w K := by
 rw [bslW]
 simp only [put_str,put_nil,List.length_cons,List.length_nil,List.set_cons_zero]
 refine ⟨by omega,?_⟩
 exact row_new fun a w' ha hz hb hx _ => hK a w' ha hz hb hx
theorem bsl_int1 {x : Int} {w : World} {K : Value → World → Prop} (hK : ∀ b w',b = w.heap.size → w'.heap.size = w.heap.size + 1 → w'.heap[b]? = some (.cells [i64 x].toArray IntT (0,0)) → Ext w w' → K (.slice (some ⟨b,0,none⟩) 1 1) w') : bslW IntT 1 [(.int .i64 0)] [(0,1,i64 x)] w K := by
 rw [bslW]
 simp only [put_int,put_nil,List.length_cons,List.length_nil,List.set_cons_zero]
 refine ⟨by omega,?_⟩
 exact row_new fun a w' ha hz hb hx _ => hK a w' ha hz hb hx
theorem bsl_int2 {x y : Int} {w : World} {K : Value → World → Prop} (hK : ∀ b w',b = w.heap.size → w'.heap.size = w.heap.size + 1 → w'.heap[b]? = some (.cells [i64 x,i64 y].toArray IntT (0,0)) → Ext w w' → K (.slice (some ⟨b,0,none⟩) 2 2) w') : bslW IntT 2 [(.int .i64 0),(.int .i64 0)] [(0,1,i64 x),(1,1,i64 y)] w K := by
 rw [bslW]
 simp only [put_int,put_nil,List.length_cons,List.length_nil,List.set_cons_zero,List.set_cons_succ]
 refine ⟨by omega,by omega,?_⟩
 exact row_new fun a w' ha hz hb hx _ => hK a w' ha hz hb hx
theorem bsl_int3 {x y z : Int} {w : World} {K : Value → World → Prop} (hK : ∀ b w',b = w.heap.size → w'.heap.size = w.heap.size + 1 → w'.heap[b]? = some (.cells [i64 x,i64 y,i64 z].toArray IntT (0,0)) → Ext w w' → K (.slice (some ⟨b,0,none⟩) 3 3) w') : bslW IntT 3 [(.int .i64 0),(.int .i64 0),(.int .i64 0)] [(0,1,i64 x),(1,1,i64 y),(2,1,i64 z)] w K := by
 rw [bslW]
 simp only [put_int,put_nil,List.length_cons,List.length_nil,List.set_cons_zero,List.set_cons_succ]
 refine ⟨by omega,by omega,by omega,?_⟩
 exact row_new fun a w' ha hz hb hx _ => hK a w' ha hz hb hx
theorem bsl_agg {T : TypeId} {n : Nat} {z d : List Value} {w : World} {K : Value → World → Prop} (hd : d.length = n) (hz0 : z.length = n) (hK : ∀ b w',b = w.heap.size → w'.heap.size = w.heap.size + 1 → w'.heap[b]? = some (.cells d.toArray T (0,0)) → Ext w w' → K (.slice (some ⟨b,0,none⟩) 1 1) w') : bslW T 1 z [(0,n,.agg d.toArray)] w K := by
 rw [bslW]
 simp only [putW,Value.cells]
 refine ⟨by simpa using hd,by omega,?_⟩
 have e : (z.take 0 ++ (d ++ z.drop (0 + n))) = d := by rw [List.take_zero,List.nil_append,Nat.zero_add,← hz0,List.drop_length,List.append_nil]
 rw [e]
 exact row_new fun a w' ha hz hb hx _ => hK a w' ha hz hb hx
theorem slat_new {w : World} {b n : Nat} {T : TypeId} {cs : List Value} (h : w.heap[b]? = some (.cells cs.toArray T (0,0))) (hn : cs.length = n) : SlAt w T (.slice (some ⟨b,0,none⟩) n n) n cs :=
 ⟨_,_,rfl,Nat.le_refl _,fun e => (by cases e),fun _ => ⟨b,0,cs.toArray,_,rfl,h,fun i _ => by simp⟩⟩
theorem own_of {w : World} {B b n m : Nat} {T : TypeId} {cs : List Value} (h : w.heap[b]? = some (.cells cs.toArray T (0,0))) (hB : B ≤ b) (hn : cs.length = n * m) (hm : n ≤ 1000000) : Own w B T m (.slice (some ⟨b,0,none⟩) n n) n cs :=
 ⟨hn,.inr ⟨b,n,cs.toArray,rfl,hB,h,Nat.le_refl _,by unfold maxLen; omega,by simpa using hn,by simp [← hn]⟩⟩
theorem nd_grow {f : Nat} {a a' b d : List Nat} {n : Nat} (h : (f :: (a ++ b)).Nodup) (hlt : ∀ k ∈ f :: (a ++ b),k < n) (ha' : a'.Nodup) (hn : ∀ k ∈ a',k ∈ a ∨ n ≤ k) (hd : d.Nodup) (hdd : ∀ k ∈ d,k < n ∧ k ∉ f :: (a ++ b)) : (f :: (a' ++ (d ++ b))).Nodup := by
 rw [List.nodup_cons,List.nodup_append] at h
 obtain ⟨hf,_,hb,hab⟩ := h
 have new : ∀ k ∈ a',k ∉ b ∧ k ≠ f ∧ k ∉ d := fun k hk => by
   rcases hn k hk with hk | hk
   · exact ⟨fun e => hab k hk k e rfl,fun e => hf (e ▸ List.mem_append_left _ hk),fun e => (hdd k e).2 (List.mem_cons_of_mem _ (List.mem_append_left _ hk))⟩
   · exact ⟨fun e => by have := hlt k (List.mem_cons_of_mem _ (List.mem_append_right _ e)); omega,fun e => by have := hlt k (by rw [e]; exact List.mem_cons_self); omega,fun e => by have := (hdd k e).1; omega⟩
 rw [List.nodup_cons]
 refine ⟨fun e => ?_,?_⟩
 · rcases List.mem_append.1 e with e | e
   · exact (new f e).2.1 rfl
   rcases List.mem_append.1 e with e | e
   · exact (hdd f e).2 List.mem_cons_self
   · exact hf (List.mem_append_right _ e)
 · refine List.nodup_append.2 ⟨ha',List.nodup_append.2 ⟨hd,hb,fun x hx y hy e => ?_⟩,fun x hx y hy e => ?_⟩
   · subst e
     exact (hdd x hx).2 (List.mem_cons_of_mem _ (List.mem_append_right _ hy))
   · subst e
     rcases List.mem_append.1 hy with hy | hy
     · exact (new x hx).2.2 hy
     · exact (new x hx).1 hy
theorem ub_cons (v : Value) (c : List Value) : ub (v :: c) = ub [v] ++ ub c := by
 rw [← ub_app]; rfl
theorem ub_nodup1 (v : Value) : (ub [v]).Nodup := by
 unfold ub
 cases h : v.ownBlock with
 | none => simp [h]
 | some k => simp [h]
theorem uses_E (M : Lay) (f : Nat) : M.uses f = f :: (ub [M.vE] ++ ub ([M.vB,M.vT] ++ (M.cE ++ M.cB))) := by
 unfold Lay.uses
 rw [List.cons_append,ub_cons]
theorem uses_E' (M : Lay) (f : Nat) (v : Value) (d : List Value) : (({ M with vE := v,cE := M.cE ++ d } : Lay).uses f).Perm (f :: (ub [v] ++ (ub d ++ ub ([M.vB,M.vT] ++ (M.cE ++ M.cB))))) := by
 rw [List.perm_iff_count]
 intro a
 rw [uses_E]
 simp only [ub_app,List.count_append,List.count_cons]
 omega
theorem uses_B (M : Lay) (f : Nat) : (M.uses f).Perm (f :: (ub [M.vB] ++ ub ([M.vE,M.vT] ++ (M.cE ++ M.cB)))) := by
 rw [List.perm_iff_count]
 intro a
 unfold Lay.uses
 simp only [ub_app,List.count_append,List.count_cons]
 rw [ub_cons M.vE,ub_cons M.vB,ub_cons M.vE [M.vT]]
 simp only [List.count_append]
 omega
theorem uses_B' (M : Lay) (f : Nat) (v : Value) (d : List Value) : (({ M with vB := v,cB := M.cB ++ d } : Lay).uses f).Perm (f :: (ub [v] ++ (ub d ++ ub ([M.vE,M.vT] ++ (M.cE ++ M.cB))))) := by
 rw [List.perm_iff_count]
 intro a
 rw [(uses_B _ f).count_eq]
 simp only [ub_app,List.count_append,List.count_cons]
 omega
section
variable {w0 w w1 w2 : World} {p f : Nat} {M : Lay} {vt : Value} {s : PS} {top : List Nat}
theorem PR.putE (h : PR w0 w p f M vt s top) {wb : World} {M0 : Lay} (he : Eff p f M0 M wb w) {e : Ex} {d : List Value} {v' : Value} (hd : ExR w w0.heap.size e d) (hu : ∀ k ∈ ub d,Off w0 w p f M vt k) (hn : (ub d).Nodup) (hnew : ∀ k ∈ ub d,wb.heap.size ≤ k)
   (hO : Own w1 w0.heap.size ExT 5 v' (s.ex.length + 1) (M.cE ++ d)) (hc1 : Chg (fun k => M.vE.ownBlock = some k) w w1) (hv : ∀ k,v'.ownBlock = some k → M.vE.ownBlock = some k ∨ w.heap.size ≤ k)
   (hc2 : Chg (One f) w1 w2) (hf : w2.heap[f]? = some (.cells [v',M.vB,M.vT].toArray FlT (0,0))) : PR w0 w2 p f { M with vE := v',cE := M.cE ++ d } vt { s with ex := s.ex ++ [e] } top ∧ Eff p f M0 { M with vE := v',cE := M.cE ++ d } wb w2 ∧ ∀ b T cs,Loc w0 w p f M vt b T cs → b ∉ ub d → Loc w0 w2 p f { M with vE := v',cE := M.cE ++ d } vt b T cs := by
 have hb := h.base
 have hzb := he.chg.size
 have eE := uses_E M f
 have use : ∀ k,M.vE.ownBlock = some k → k ∈ M.uses f := fun k hk => List.mem_cons_of_mem _ (ub_mem (v := M.vE) (by simp) hk)
 have hnd := h.fr.nd
 rw [eE,List.nodup_cons,List.nodup_append] at hnd
 obtain ⟨nf,_,nb,nab⟩ := hnd
 have rest : ∀ k ∈ ub ([M.vB,M.vT] ++ (M.cE ++ M.cB)),M.vE.ownBlock ≠ some k ∧ k ≠ f ∧ k < w.heap.size := fun k hk =>
   ⟨fun e => nab k (ub_one.2 e) k hk rfl,fun e => nf (e ▸ List.mem_append_right _ hk),h.fr.lt k (by rw [eE]; exact List.mem_cons_of_mem _ (List.mem_append_right _ hk))⟩
 have c12 : Chg (fun k => M.vE.ownBlock = some k ∨ k = f) w w2 := (hc1.mono fun k _ e => .inl e).trans (hc2.mono fun k _ e => .inr e)
 have sub : ∀ v ∈ [M.vB,M.vT] ++ (M.cE ++ M.cB),∀ k,v.ownBlock = some k → ¬ (M.vE.ownBlock = some k ∨ k = f) := fun v hv k hk e => by
   have := rest k (ub_mem hv hk)
   exact e.elim this.1 this.2.1
 have hOf : ∀ k,v'.ownBlock = some k → k ≠ f := fun k hk e => by
   subst e
   rcases hv k hk with e | e
   · exact nf (List.mem_append_left _ (ub_one.2 e))
   · have := at_lt h.fr.hf; omega
 have nE : M.vE.ownBlock ≠ some p := fun e => h.np (use p e)
 have pf : p ≠ f := fun e => h.np (e ▸ List.mem_cons_self)
 have perm := uses_E' M f v' d
 have hN : (f :: (ub [v'] ++ (ub d ++ ub ([M.vB,M.vT] ++ (M.cE ++ M.cB))))).Nodup := nd_grow (n := w.heap.size) (a := ub [M.vE]) (by rw [← eE]; exact h.fr.nd) (fun k hk => h.fr.lt k (by rw [eE]; exact hk)) (ub_nodup1 _) (fun k hk => (hv k (ub_one.1 hk)).imp (fun e => ub_one.2 e) id) hn fun k hk => ⟨(hu k hk).1.2,by rw [← eE]; exact (hu k hk).2.2.1⟩
 have hz := c12.size
 have mem : ∀ k ∈ ({ M with vE := v',cE := M.cE ++ d } : Lay).uses f,k = f ∨ v'.ownBlock = some k ∨ k ∈ ub d ∨ k ∈ ub ([M.vB,M.vT] ++ (M.cE ++ M.cB)) := fun k hk => by
   have hk := perm.mem_iff.1 hk
   rcases List.mem_cons.1 hk with e | e
   · exact .inl e
   rcases List.mem_append.1 e with e | e
   · exact .inr (.inl (ub_one.1 e))
   rcases List.mem_append.1 e with e | e
   · exact .inr (.inr (.inl e))
   · exact .inr (.inr (.inr e))
 have cT : Chg (Tn p f M) w w2 := c12.mono fun k _ e => e.elim (fun e => .inr (.inr (.inl e))) fun e => .inr (.inl e)
 refine ⟨⟨?_,⟨hf,?_,?_,?_,?_,?_,perm.nodup_iff.2 hN,fun k hk => ?_,fun k hk => ?_⟩,?_,?_,fun e => ?_,h.lo,fun k hk => ?_⟩,⟨(he.trans (Eff.of cT)).chg,fun k hk => ?_,fun k hk => (hv k hk).elim (he.hE k) fun e => .inr (by omega),he.hB,he.hT⟩,fun b T cs hL hbd => ⟨cT.at hL.1 hL.2.no,⟨hL.2.1.1,Nat.lt_of_lt_of_le hL.2.1.2 hz⟩,hL.2.2.1,fun hk => ?_,hL.2.2.2.2⟩⟩
 · refine h.ch.then c12 fun k hk e => ?_
   rcases e with e | e
   · exact (h.fr.lo k (use k e)).resolve_right (by omega)
   · exact e
 · rw [List.length_append]
   exact own_at hO hc2 fun k hk e => hOf k hk e
 · exact own_at h.fr.oB c12 (sub _ (by simp))
 · exact own_at h.fr.oT c12 (sub _ (by simp))
 · refine RowsR.snoc ?_ (hd.at_ c12 fun k hk e => ?_) (by obtain ⟨va,vk,rfl,_⟩ := hd; rfl)
   · refine h.fr.ee.imp fun x d hd hx => hx.at_ c12 fun k hk => ?_
     obtain ⟨v,hv,hk⟩ := List.mem_filterMap.1 hk
     exact sub v (by simp [hd v hv]) k hk
   · have ho := (hu k hk).2.2.1
     rcases e with e | e
     · exact ho (use k e)
     · exact ho (e ▸ List.mem_cons_self)
 · refine h.fr.bb.imp fun x d hd hx => hx.at_ c12 fun k hk => ?_
   obtain ⟨v,hv,hk⟩ := List.mem_filterMap.1 hk
   exact sub v (by simp [hd v hv]) k hk
 · rcases mem k hk with e | e | e | e
   · rw [e]; exact at_lt hf
   · exact Nat.lt_of_lt_of_le (own_lt hO e).1 hc2.size
   · exact Nat.lt_of_lt_of_le (hu k e).1.2 hz
   · exact Nat.lt_of_lt_of_le (rest k e).2.2 hz
 · rcases mem k hk with e | e | e | e
   · exact .inl e
   · exact .inr (own_lt hO e).2
   · exact .inr (hu k e).1.1
   · exact h.fr.lo k (by rw [eE]; exact List.mem_cons_of_mem _ (List.mem_append_right _ e))
 · exact c12.at h.ps fun e => e.elim nE pf
 · exact slat_at h.tk c12 fun k hk e => by
     have := (h.nt k hk).1
     rcases e with e | e
     · exact this (use k e)
     · exact this (e ▸ List.mem_cons_self)
 · rcases mem p e with e | e | e | e
   · exact pf e
   · exact (hv p e).elim nE fun e => by have := h.lt; omega
   · exact (hu p e).2.1 rfl
   · exact h.np (by rw [eE]; exact List.mem_cons_of_mem _ (List.mem_append_right _ e))
 · have ht := h.nt k hk
   refine ⟨fun e => ?_,ht.2.1,Nat.lt_of_lt_of_le ht.2.2 hz⟩
   rcases mem k e with e | e | e | e
   · exact ht.1 (e ▸ List.mem_cons_self)
   · exact (hv k e).elim (fun e => ht.1 (use k e)) fun e => by omega
   · exact (hu k e).2.2.2 hk
   · exact ht.1 (by rw [eE]; exact List.mem_cons_of_mem _ (List.mem_append_right _ e))
 · rcases mem k hk with e | e | e | e
   · exact he.us k (e ▸ List.mem_cons_self)
   · exact (hv k e).elim (fun e => he.us k (use k e)) fun e => .inr (by omega)
   · exact .inr (hnew k e)
   · exact he.us k (by rw [eE]; exact List.mem_cons_of_mem _ (List.mem_append_right _ e))
 · have ho := hL.2
   rcases mem b hk with e | e | e | e
   · exact ho.2.2.1 (e ▸ List.mem_cons_self)
   · exact (hv b e).elim (fun e => ho.2.2.1 (use b e)) fun e => by have := ho.1.2; omega
   · exact hbd e
   · exact ho.2.2.1 (by rw [eE]; exact List.mem_cons_of_mem _ (List.mem_append_right _ e))
end
section
variable [HX]
variable {w0 w : World} {p f : Nat} {M : Lay} {vt : Value} {s : PS} {top : List Nat} {N : Int} {K : Value → World → Prop}
theorem index_p {l : List Str} {x : Str} {v : Value} {T : TypeId} {w : World} {K : Value → World → Prop} (h : SlAt w T v l.length (strs l)) (hl : l.length ≤ 1000000) (hK : K (i64 (sidxF l x 0)) w) : callF Tryz.prog 103 [v,str x] w K := by
 refine W103_ok ?_
 unfold W103
 rw [lenl_at h]
 refine LoopW.go (fun st w' => ∃ j : Nat,st = [i64 j] ∧ j ≤ l.length ∧ w' = w ∧ sidxF (l.drop j) x j = sidxF l x 0) (fun st _ => match st with | [.int _ j] => l.length - j.toNat | _ => 0) ⟨0,rfl,by omega,rfl,rfl⟩ ?_
 rintro st g w' ⟨j,rfl,hj,rfl,hs⟩
 simp only [List.getD_cons_zero]
 rw [bin_lss,condW_dec]
 refine ⟨fun hlt => ?_,fun hge => ?_⟩
 · have hlt : j < l.length := by omega
   refine ixa_ld (x := str l[j]) h (by simp [strs]) (by simp [strs,hlt]) ?_
   rw [List.drop_eq_getElem_cons hlt] at hs
   simp only [sidxF] at hs
   rw [bin_seq,condW_dec]
   refine ⟨fun e => ?_,fun e => ?_⟩
   · rw [if_pos e] at hs
     rw [hs]; exact hK
   · rw [if_neg e] at hs
     rw [bin_add,upi (by omega)]
     exact ⟨⟨j + 1,rfl,by omega,trivial,hs⟩,by simp only [Int.toNat_natCast]; omega⟩
 · rw [List.drop_of_length_le (by omega)] at hs
   simp only [sidxF] at hs
   rw [hs]; exact hK
theorem containss_p {l : List Str} {x : Str} {v : Value} {T : TypeId} {w : World} {K : Value → World → Prop} (h : SlAt w T v l.length (strs l)) (hl : l.length ≤ 1000000) (hK : K (.bool (decide (x ∈ l))) w) : callF Tryz.prog 80 [v,str x] w K := by
 refine W80_ok ?_
 unfold W80
 refine index_p h hl ?_
 rw [bin_geq]
 simp only [sidxF_in]
 exact hK
theorem next_p (h : PR w0 w p f M vt s top) (hs : WS N s) (hN : N ≤ 1000000) (hl : s.toks.length ≤ 100000) (hK : ∀ w',PR w0 w' p f M vt (nextS s) top → Eff p f M M w w' → K (.agg (tokc (cur s)).toArray) w') :
   callF Tryz.prog 41 [.pointer (some ⟨p,0,none⟩)] w K := by
 refine W41_ok ?_
 unfold W41
 refine alloc_new fun b w1 hb hz1 hbb hx1 => ?_
 have h1 := h.ext hx1
 have L1 := h.loc hz1 hb hbb
 refine now_p h1 hs hN hl fun w2 h2 he2 => ?_
 have L2 := L1.eff he2
 refine alloc_new fun b2 w3 hb2 hz3 hbb3 hx3 => ?_
 have h3 := h2.ext hx3
 have L3 := h2.loc hz3 hb2 hbb3
 have hne : b ≠ b2 := by have := L2.lt; omega
 have L23 := L2.ext hx3
 refine st_agg_at (l := tokc (cur s)) L3.1 rfl rfl rfl fun w4 hz4 hb4 hc4 => ?_
 have L4 : Loc w0 w4 p f M vt b2 TkT (tokc (cur s)) := ⟨hb4,L3.2.up (by omega)⟩
 have h4 := h3.one hc4 L3.2
 have L24 := L23.one hc4 hne
 have he4 : Eff p f M M w w4 := (((Eff.ext hx1).trans he2).x hx3).one hc4 (by have := he2.chg.size; omega)
 refine JoinW.cut (fun _ w' => PR w0 w' p f M vt (nextS s) top ∧ Eff p f M M w4 w') ?_ ?_
 · refine L4.ldf rfl ?_
   rw [bin_neq,condW_dec]
   unfold nextS
   refine ⟨fun hk => ?_,fun hk => ?_⟩
   · rw [if_pos hk]
     exact h4.go (wsi ((now_go hs).ws hs) (by rw [(now_go hs).toks]; exact hl)) fun w5 h5 he5 _ => ⟨h5,he5⟩
   · rw [if_neg hk]
     exact ⟨h4,Eff.refl _ _ _ _⟩
 rintro st g w5 ⟨h5,he5⟩
 have L5 := L4.eff he5
 have L25 := L24.eff he5
 refine ld_all L5.1 rfl ?_
 refine ret_agg (l := tokc (cur s)) L25.1 rfl rfl rfl fun w6 hc6 => ?_
 exact hK w6 (h5.one hc6 L25.2) ((he4.trans he5).one hc6 (by omega))
theorem is_p {x : Str} {v : Value} (h : PR w0 w p f M vt s top) (hs : WS N s) (hN : N ≤ 1000000) (hl : s.toks.length ≤ 100000) (hv : LocS w0 w p f M vt v StT 1 [str x]) (hK : ∀ w',PR w0 w' p f M vt (nowS s) top → Eff p f M M w w' → K (.bool (isS s x)) w') :
   callF Tryz.prog 42 [.pointer (some ⟨p,0,none⟩),v] w K := by
 refine W42_ok ?_
 unfold W42
 refine now_p h hs hN hl fun w1 h1 he1 => ?_
 refine alloc_new fun b w2 hb hz2 hbb hx2 => ?_
 have h2 := h1.ext hx2
 have L2 := h1.loc hz2 hb hbb
 refine st_agg_at (l := tokc (cur s)) L2.1 rfl rfl rfl fun w3 hz3 hb3 hc3 => ?_
 have L3 : Loc w0 w3 p f M vt b TkT (tokc (cur s)) := ⟨hb3,L2.2.up (by omega)⟩
 have h3 := h2.one hc3 L2.2
 have he3 : Eff p f M M w w3 := (he1.x hx2).one hc3 (by have := he1.chg.size; omega)
 have sl3 : SlAt w3 StT v 1 [str x] := slat_at hv.1 he3.chg fun k hk => (hv.2 k hk).no
 refine L3.ldf rfl ?_
 rw [bin_eql]
 refine GdW.look (decide ((cur s).t = x)) (fun _ J hJ => ?_) fun g => ?_
 · refine L3.ldf rfl ?_
   refine containss_p (l := [x]) sl3 (by simp) ?_
   simpa using hJ
 · simp only [List.getD_cons_zero,isB_t]
   rw [pick_gd_and]
   exact hK w3 h3 he3
theorem take_p {x : Str} (h : PR w0 w p f M vt s top) (hs : WS N s) (hN : N ≤ 1000000) (hl : s.toks.length ≤ 100000) (hK : ∀ w',PR w0 w' p f M vt (takeS s x).2 top → Eff p f M M w w' → K (.bool (takeS s x).1) w') :
   callF Tryz.prog 45 [.pointer (some ⟨p,0,none⟩),str x] w K := by
 refine W45_ok ?_
 unfold W45
 refine bsl_str fun b w1 hb hz1 hbb hx1 => ?_
 have h1 := h.ext hx1
 have L1 := h.loc hz1 hb hbb
 refine is_p h1 hs hN hl ⟨slat_new hbb rfl,fun k hk => by simp only [Value.ownBlock,Option.some.injEq] at hk; subst hk; exact L1.2⟩ fun w2 h2 he2 => ?_
 have he := (Eff.ext hx1).trans he2
 unfold takeS at hK
 rw [un_not,condW_b]
 refine ⟨fun e => ?_,fun e => ?_⟩
 · have e : isS s x = false := by simpa using e
   rw [if_neg (by rw [e]; decide)] at hK
   exact hK w2 h2 he
 · have e : isS s x = true := by simpa using e
   rw [if_pos e] at hK
   exact h2.go (wsi ((now_go hs).ws hs) (by rw [(now_go hs).toks]; exact hl)) fun w3 h3 he3 _ => hK w3 h3 (he.trans he3)
theorem want_p {x : Str} (h : PR w0 w p f M vt s top) (hs : WS N s) (hN : N ≤ 1000000) (hl : s.toks.length ≤ 100000) (hK : ∀ s',wantR s x = .ok () s' → ∀ w',PR w0 w' p f M vt s' top → Eff p f M M w w' → K (.tuple #[]) w') (ht : ∀ c a,wantR s x = .err c a → Thr w0 f c a) :
   callF Tryz.prog 106 [.pointer (some ⟨p,0,none⟩),str x] w K := by
 refine W106_ok ?_
 unfold W106
 refine take_p h hs hN hl fun w1 h1 he1 => ?_
 unfold takeS at h1 he1 ⊢
 unfold wantR at hK ht
 rw [un_not,condW_b]
 by_cases e : isS s x = true
 · simp only [if_pos e] at h1 he1 hK ht ⊢
   exact ⟨fun e => (by cases e),fun _ => hK _ rfl w1 h1 he1⟩
 · simp only [if_neg e] at h1 he1 hK ht ⊢
   refine ⟨fun _ => ?_,fun e => (by cases e)⟩
   refine now_p h1 ((now_go hs).ws hs) hN (by rw [(now_go hs).toks]; exact hl) fun w2 h2 he2 => ?_
   rw [cur_now]
   refine ⟨i64 (cur s).a,rfl,?_⟩
   exact fail_p h2 (ht _ _ rfl)
theorem kind_p {k : Int} (h : PR w0 w p f M vt s top) (hs : WS N s) (hN : N ≤ 1000000) (hl : s.toks.length ≤ 100000) (hK : ∀ t s',kindR s k = .ok t s' → ∀ w',PR w0 w' p f M vt s' top → Eff p f M M w w' → K (.agg (tokc t).toArray) w') (ht : ∀ c a,kindR s k = .err c a → Thr w0 f c a) :
   callF Tryz.prog 39 [.pointer (some ⟨p,0,none⟩),i64 k] w K := by
 refine W39_ok ?_
 unfold W39
 refine alloc_new fun b w1 hb hz1 hbb hx1 => ?_
 have h1 := h.ext hx1
 have L1 := h.loc hz1 hb hbb
 have hsn := (now_go hs).ws hs
 have hln : (nowS s).toks.length ≤ 100000 := by rw [(now_go hs).toks]; exact hl
 unfold kindR at hK ht
 refine JoinW.cut (fun _ w' => PR w0 w' p f M vt (nowS s) top ∧ Eff p f M M w1 w' ∧ (cur s).k = k) ?_ ?_
 · refine now_p h1 hs hN hl fun w2 h2 he2 => ?_
   refine ⟨i64 (cur s).k,rfl,?_⟩
   dsimp only
   rw [bin_neq,condW_dec]
   refine ⟨fun e => ?_,fun e => ⟨h2,he2,by omega⟩⟩
   refine now_p h2 hsn hN hln fun w3 h3 he3 => ?_
   rw [cur_now]
   refine ⟨i64 (cur s).a,rfl,?_⟩
   exact fail_p h3 (ht _ _ (by rw [if_neg e]))
 rintro st g w2 ⟨h2,he2,hk⟩
 rw [if_pos hk] at hK
 refine next_p h2 hsn hN hln fun w3 h3 he3 => ?_
 rw [cur_now]
 have L3 := (L1.eff he2).eff he3
 refine ret_agg (l := tokc (cur s)) L3.1 rfl rfl rfl fun w4 hc4 => ?_
 have e : nextS (nowS s) = nextS s := by unfold nextS; rw [cur_now,nowS_idem]
 rw [e] at h3
 exact hK _ _ rfl w4 (h3.one hc4 L3.2) ((((Eff.ext hx1).trans he2).trans he3).one hc4 (by omega))
end
end Go.Proofs.YtofhaneggcpdaaaGreatDoor
namespace Go.Syn
open Go Go.Eng Go.Lex
def escs : Str → Bool
 | [] => true
 | [c] => c != 92
 | c :: e :: r => if c = 92 then escs r else escs (e :: r)
theorem escs_cons {c : UInt8} {r : Str} (hc : c ≠ 92) (h : escs r = true) : escs (c :: r) = true := by
 cases r with
 | nil => simp [escs,hc]
 | cons e r => simp only [escs]; rw [if_neg hc]; exact h
theorem noD_escs : ∀ (n : Nat) (t : Str),t.length ≤ n → noD t = true → escs t = true
 | _,[],_,_ => rfl
 | _,[c],_,h => by simp only [noD,Bool.and_eq_true] at h; exact h.1
 | 0,c :: e :: r,h,_ => by simp at h
 | n + 1,c :: e :: r,h,hd => by
   simp only [noD] at hd
   simp only [List.length_cons] at h
   simp only [escs]
   split at hd
   · rename_i hc
     rw [if_pos hc]
     exact noD_escs n r (by omega) hd
   · rename_i hc
     rw [if_neg hc]
     simp only [Bool.and_eq_true] at hd
     exact noD_escs n (e :: r) (by simp only [List.length_cons]; omega) hd.2
theorem take_cons_eq {c c' : UInt8} {r r' : Str} {k : Nat} (h : (c' :: r').take (k + 1) = (c :: r).take (k + 1)) : c' = c ∧ r'.take k = r.take k := by
 simp only [List.take_succ_cons,List.cons.injEq] at h
 exact h
theorem take_drop_eq {r r' : Str} {k j m : Nat} (h : r'.take k = r.take k) (hk : j + m ≤ k) : (r'.drop j).take m = (r.drop j).take m := by
 have e : ∀ s : Str,(s.drop j).take m = ((s.take k).drop j).take m := fun s => by
   rw [List.drop_take,List.take_take,Nat.min_eq_left (by omega)]
 rw [e r',e r,h]
theorem pre_stab {c x x' : UInt8} {r r' : Str} (h : x = x') : preM [36,123] (c :: x :: r) = preM [36,123] (c :: x' :: r') := by
 subst h; simp [preM,List.isPrefixOf]
theorem stab : ∀ (N : Nat) (r r' : Str),r.length ≤ N →
   (∀ d k,textX r d = (k,0) → r'.take k = r.take k → k ≤ r'.length → textX r' d = (k,0)) ∧
   (∀ d k,insX r d = (k,0) → r'.take k = r.take k → k ≤ r'.length → insX r' d = (k,0)) := by
 intro N
 induction N with
 | zero =>
   intro r r' hr
   have : r = [] := List.eq_nil_of_length_eq_zero (by omega)
   subst this
   exact ⟨fun d k h => (by rw [textX_nil] at h; cases h),fun d k h => (by rw [insX_nil] at h; cases h)⟩
 | succ N ih =>
   intro r r' hr
   cases r with
   | nil => exact ih [] r' (by simp)
   | cons c r =>
     simp only [List.length_cons] at hr
     have hr : r.length ≤ N := by omega
     have sh : ∀ {k : Nat},1 ≤ k → r'.take k = (c :: r).take k → k ≤ r'.length → ∃ r2,r' = c :: r2 ∧ r2.take (k - 1) = r.take (k - 1) ∧ k - 1 ≤ r2.length := fun {k} hk ht hl => by
       cases r' with
       | nil => simp at hl; omega
       | cons c' r2 =>
         obtain ⟨j,rfl⟩ : ∃ j,k = j + 1 := ⟨k - 1,by omega⟩
         obtain ⟨rfl,h2⟩ := take_cons_eq ht
         exact ⟨r2,rfl,h2,by simpa using hl⟩
     refine ⟨fun d k h ht hl => ?_,fun d k h ht hl => ?_⟩
     · have hk := ((ins_bra _ (c :: r) (Nat.le_refl _)).1 d k h).2.1
       obtain ⟨r2,rfl,h2,hl2⟩ := sh hk ht hl
       rw [textX_cons] at h ⊢
       simp only [beq_iff_eq] at h ⊢
       split at h
       · rename_i e; rw [if_pos e]; exact h
       rename_i e
       rw [if_neg e]
       split at h
       · cases h
       rename_i e1
       rw [if_neg e1]
       split at h
       · rename_i e2
         rw [if_pos e2]
         cases r with
         | nil => cases h
         | cons x rr =>
           simp only at h
           split at h
           · rename_i e3
             obtain ⟨g1,g2⟩ := add_ok h
             have gk := ((ins_bra _ rr (Nat.le_refl _)).1 d _ g1).2.1
             cases r2 with
             | nil => simp at hl2; omega
             | cons x' rr' =>
               obtain ⟨j,rfl⟩ : ∃ j,k = j + 2 := ⟨k - 2,by omega⟩
               rw [show j + 2 - 1 = j + 1 by omega] at h2 hl2
               obtain ⟨rfl,h3⟩ := take_cons_eq h2
               simp only [if_pos e3]
               have := (ih rr rr' (by simp at hr; omega)).1 d j (by simpa using g1) h3 (by simpa using hl2)
               rw [this]; unfold addM; simp
           · cases h
       rename_i e2
       rw [if_neg e2]
       split at h
       · rename_i e3
         split at h
         · cases h
         rename_i e24
         split at h
         · rename_i e4
           obtain ⟨g1,g2⟩ := add_ok h
           have gk := ((ins_bra _ _ (Nat.le_refl _)).1 d _ g1).2
           have gi := ((ins_bra _ (r.drop 1) (Nat.le_refl _)).2 (d + 1) _ (Prod.ext rfl e4)).1
           cases r with
           | nil => simp [preM] at e3
           | cons x rr =>
             cases r2 with
             | nil => simp at hl2; omega
             | cons x' rr' =>
               obtain ⟨j,rfl⟩ : ∃ j,k = j + 2 := ⟨k - 2,by omega⟩
               rw [show j + 2 - 1 = j + 1 by omega] at h2 hl2
               obtain ⟨rfl,h3⟩ := take_cons_eq h2
               simp only [List.drop_succ_cons,List.drop_zero] at g1 gk gi e4 ⊢
               have hl3 : j ≤ rr'.length := by simpa using hl2
               have hp : preM [36,123] (c :: x' :: rr') = true := by rw [pre_stab (r' := rr) rfl]; exact e3
               have hrr : rr.length ≤ N := by simp at hr; omega
               have hi := (ih rr rr' hrr).2 (d + 1) (insX rr (d + 1)).1 (Prod.ext rfl e4) (by have := take_drop_eq (j := 0) (m := (insX rr (d + 1)).1) h3 (by omega); simpa using this) (by omega)
               rw [if_pos hp,if_neg e24,hi]
               simp only
               have ht := (ih (rr.drop (insX rr (d + 1)).1) (rr'.drop (insX rr (d + 1)).1) (drop_le _ hrr)).1 d _ g1 (take_drop_eq h3 (by omega)) (by rw [List.length_drop]; omega)
               rw [ht]; unfold addM; simp; omega
         · rename_i e4
           injection h with _ h2
           exact absurd h2 e4
       · rename_i e3
         obtain ⟨g1,g2⟩ := add_ok h
         have gk := ((ins_bra _ _ (Nat.le_refl _)).1 d _ g1).2
         have hp : ¬ preM [36,123] (c :: r2) = true := by
           cases r with
           | nil => rw [textX_nil] at g1; exact absurd (congrArg Prod.snd g1) (by simp)
           | cons x rr =>
             cases r2 with
             | nil => simp at hl2; omega
             | cons x' rr' =>
               obtain ⟨j,hj⟩ : ∃ j,k - 1 = j + 1 := ⟨k - 2,by omega⟩
               rw [hj] at h2
               obtain ⟨rfl,_⟩ := take_cons_eq h2
               rw [pre_stab (r' := rr) rfl]; exact e3
         rw [if_neg hp]
         have := (ih r r2 hr).1 d (k - 1) g1 h2 hl2
         rw [this]; unfold addM; simp; omega
     · have hk := ((ins_bra _ (c :: r) (Nat.le_refl _)).2 d k h).1.1
       obtain ⟨r2,rfl,h2,hl2⟩ := sh hk ht hl
       rw [insX_cons] at h ⊢
       simp only [beq_iff_eq] at h ⊢
       split at h
       · rename_i e; rw [if_pos e]; exact h
       rename_i e
       rw [if_neg e]
       split at h
       · cases h
       rename_i e1
       rw [if_neg e1]
       split at h
       · rename_i e2
         rw [if_pos e2]
         split at h
         · cases h
         rename_i e24
         rw [if_neg e24]
         split at h
         · rename_i e4
           obtain ⟨g1,g2⟩ := add_ok h
           have gk := ((ins_bra _ _ (Nat.le_refl _)).2 d _ g1).1
           have hi := (ih r r2 hr).2 (d + 1) (insX r (d + 1)).1 (Prod.ext rfl e4) (by have := take_drop_eq (j := 0) (m := (insX r (d + 1)).1) h2 (by omega); simpa using this) (by omega)
           rw [hi]
           simp only [if_true]
           have ht := (ih (r.drop (insX r (d + 1)).1) (r2.drop (insX r (d + 1)).1) (drop_le _ hr)).2 d _ g1 (take_drop_eq h2 (by omega)) (by rw [List.length_drop]; omega)
           rw [ht]; unfold addM; simp; omega
         · rename_i e4
           injection h with _ h2
           exact absurd h2 e4
       rename_i e2
       rw [if_neg e2]
       split at h
       · rename_i e3
         rw [if_pos e3]
         split at h
         · rename_i e4
           obtain ⟨g1,g2⟩ := add_ok h
           have gk := ((ins_bra _ _ (Nat.le_refl _)).2 d _ g1).1
           have hi := (ih r r2 hr).1 d (textX r d).1 (Prod.ext rfl e4) (by have := take_drop_eq (j := 0) (m := (textX r d).1) h2 (by omega); simpa using this) (by omega)
           rw [hi]
           simp only [if_true]
           have ht := (ih (r.drop (textX r d).1) (r2.drop (textX r d).1) (drop_le _ hr)).2 d _ g1 (take_drop_eq h2 (by omega)) (by rw [List.length_drop]; omega)
           rw [ht]; unfold addM; simp; omega
         · rename_i e4
           injection h with _ h2
           exact absurd h2 e4
       · rename_i e3
         rw [if_neg e3]
         obtain ⟨g1,g2⟩ := add_ok h
         have := (ih r r2 hr).2 d (k - 1) g1 h2 hl2
         rw [this]; unfold addM; simp; omega
def Scd (t : Str) : Prop := ∃ d,textX (t ++ [34]) d = (t.length + 1,0)
theorem scd_text {r : Str} {d k : Nat} (h : textX r d = (k,0)) (hl : ∀ b,r[k - 1]? = some b → b = 34) : Scd (r.take (k - 1)) := by
 obtain ⟨_,h1,h2⟩ := (ins_bra _ r (Nat.le_refl _)).1 d k h
 obtain ⟨j,rfl⟩ : ∃ j,k = j + 1 := ⟨k - 1,by omega⟩
 rw [Nat.add_sub_cancel] at hl ⊢
 have e1 : (r.take j).length = j := by rw [List.length_take]; omega
 have hlt : j < r.length := by omega
 have e2 : r.take j ++ [34] = r.take (j + 1) := by
   have := hl _ (List.getElem?_eq_getElem hlt)
   rw [List.take_add_one,List.getElem?_eq_getElem hlt,this]
   rfl
 refine ⟨d,?_⟩
 rw [e2,e1]
 exact (stab _ r (r.take (j + 1)) (Nat.le_refl _)).1 d (j + 1) h (by rw [List.take_take,Nat.min_self]) (by rw [List.length_take]; omega)
theorem text_end : ∀ (N : Nat) (r : Str) (d k : Nat),r.length ≤ N → textX r d = (k,0) → r[k - 1]? = some 34
 | 0,r,d,k,hr,h => by
   have : r = [] := List.eq_nil_of_length_eq_zero (by omega)
   subst this
   rw [textX_nil] at h; cases h
 | N + 1,[],d,k,_,h => by rw [textX_nil] at h; cases h
 | N + 1,c :: r,d,k,hr,h => by
   simp only [List.length_cons] at hr
   have hr : r.length ≤ N := by omega
   rw [textX_cons] at h
   simp only [beq_iff_eq] at h
   split at h
   · rename_i e
     injection h with h1 _
     subst h1 e
     rfl
   split at h
   · cases h
   split at h
   · cases r with
     | nil => cases h
     | cons x rr =>
       simp only at h
       split at h
       · obtain ⟨g1,g2⟩ := add_ok h
         have gk := ((ins_bra _ rr (Nat.le_refl _)).1 d _ g1).2.1
         have := text_end N rr d _ (by simp at hr; omega) g1
         rw [show k - 1 = (k - 2 - 1) + 2 by omega]
         exact this
       · cases h
   split at h
   · rename_i e3
     split at h
     · cases h
     split at h
     · obtain ⟨g1,g2⟩ := add_ok h
       have gk := ((ins_bra _ _ (Nat.le_refl _)).1 d _ g1).2.1
       have := text_end N _ d _ (drop_le _ (drop_le 1 hr)) g1
       rw [List.getElem?_drop,List.getElem?_drop] at this
       rw [show k - 1 = 1 + ((insX (r.drop 1) (d + 1)).1 + (k - ((insX (r.drop 1) (d + 1)).1 + 2) - 1)) + 1 by omega]
       exact this
     · rename_i e4
       injection h with _ h2
       exact absurd h2 e4
   · obtain ⟨g1,g2⟩ := add_ok h
     have gk := ((ins_bra _ r (Nat.le_refl _)).1 d _ g1).2.1
     have := text_end N r d _ hr g1
     rw [show k - 1 = (k - 1 - 1) + 1 by omega]
     exact this
theorem scd_ins : ∀ (N : Nat) (t : Str),t.length ≤ N → Scd t → (insP t = none → escs t = true) ∧ ∀ i e,insP t = some (i,e) → escs (t.take i) = true ∧ i + 3 ≤ e ∧ e ≤ t.length ∧ Scd (t.drop e)
 | _,[],_,_ => ⟨fun _ => rfl,fun i e h => by simp [insP] at h⟩
 | 0,_ :: _,h,_ => by simp at h
 | N + 1,[c],_,⟨d,h⟩ => by
   refine ⟨fun _ => ?_,fun i e h => by simp [insP] at h⟩
   simp only [escs,bne_iff_ne,ne_eq]
   intro e
   subst e
   simp only [List.cons_append,List.nil_append] at h
   rw [textX_cons] at h
   simp [Lex.escOk,addM,textX_nil] at h
 | N + 1,c :: x :: r,hN,⟨d,h⟩ => by
   simp only [List.length_cons] at hN
   simp only [List.cons_append] at h
   rw [textX_cons] at h
   simp only [beq_iff_eq] at h
   split at h
   · injection h with h1 _
     simp at h1
   split at h
   · cases h
   simp only [insP,escs]
   split at h
   · rename_i e92
     rw [if_pos e92,if_pos e92]
     split at h
     · obtain ⟨g1,g2⟩ := add_ok h
       have sr : Scd r := ⟨d,by rw [g1]; simp⟩
       obtain ⟨i1,i2⟩ := scd_ins N r (by omega) sr
       refine ⟨fun hn => i1 (by cases hr : insP r with | none => rfl | some y => rw [hr] at hn; cases hn),fun i e hi => ?_⟩
       cases hr : insP r with
       | none => rw [hr] at hi; cases hi
       | some y =>
         rw [hr] at hi
         simp only [Option.map_some,Option.some.injEq,Prod.mk.injEq] at hi
         obtain ⟨rfl,rfl⟩ := hi
         obtain ⟨j1,j2,j3,j4⟩ := i2 _ _ hr
         refine ⟨?_,by omega,by simp only [List.length_cons]; omega,by rw [show y.2 + 2 = y.2 + 1 + 1 by omega,List.drop_succ_cons,List.drop_succ_cons]; exact j4⟩
         rw [show y.1 + 2 = y.1 + 1 + 1 by omega,List.take_succ_cons,List.take_succ_cons]
         simp only [escs]
         rw [if_pos e92]
         exact j1
     · cases h
   rename_i e92
   rw [if_neg e92,if_neg e92]
   split at h
   · rename_i e3
     have hc : c = 36 ∧ x = 123 := by
       simp [preM,List.isPrefixOf] at e3
       exact ⟨e3.1.symm,e3.2.symm⟩
     rw [if_pos hc]
     refine ⟨fun hn => (by cases hn),fun i e hi => ?_⟩
     simp only [Option.some.injEq,Prod.mk.injEq] at hi
     obtain ⟨rfl,rfl⟩ := hi
     split at h
     · cases h
     split at h
     · rename_i e4
       simp only [List.drop_succ_cons,List.drop_zero] at h e4
       obtain ⟨k1,e5⟩ : ∃ k1,insX (r ++ [34]) (d + 1) = (k1,0) := ⟨_,Prod.ext rfl e4⟩
       simp only [e5] at h
       obtain ⟨g1,g2⟩ := add_ok h
       have gk := ((ins_bra _ _ (Nat.le_refl _)).1 d _ g1).2
       have gi := ((ins_bra _ (r ++ [34]) (Nat.le_refl _)).2 (d + 1) _ e5).1
       simp only [List.length_cons] at g1 gk g2
       have hle : k1 ≤ r.length := by omega
       have hs := (stab _ (r ++ [34]) r (Nat.le_refl _)).2 (d + 1) _ e5 (by rw [List.take_append_of_le_length hle]) hle
       have hb := ((ins_bra _ r (Nat.le_refl _)).2 (d + 1) _ hs).2 1 (by omega)
       rw [if_pos rfl] at hb
       have eb : braM (x :: r) = 1 + k1 := by
         show braX (x :: r) 0 = _
         rw [braX_cons,if_pos hc.2,show (0 : Int) + 1 = 1 from rfl,hb]
       rw [eb]
       refine ⟨rfl,by omega,by simp only [List.length_cons]; omega,?_⟩
       rw [show 1 + (1 + k1) = k1 + 1 + 1 by omega,List.drop_succ_cons,List.drop_succ_cons]
       refine ⟨d,?_⟩
       rw [← List.drop_append_of_le_length hle,g1,List.length_drop]
       simp only [Prod.mk.injEq,and_true]
       omega
     · rename_i e4
       injection h with _ h2
       exact absurd h2 e4
   · rename_i e3
     have hc : ¬ (c = 36 ∧ x = 123) := fun e => e3 (by simp [preM,List.isPrefixOf,e.1,e.2])
     rw [if_neg hc]
     obtain ⟨g1,g2⟩ := add_ok h
     have sr : Scd (x :: r) := ⟨d,by simp only [List.cons_append]; rw [g1]; simp⟩
     obtain ⟨i1,i2⟩ := scd_ins N (x :: r) (by simp only [List.length_cons]; omega) sr
     refine ⟨fun hn => i1 (by cases hr : insP (x :: r) with | none => rfl | some y => rw [hr] at hn; cases hn),fun i e hi => ?_⟩
     cases hr : insP (x :: r) with
     | none => rw [hr] at hi; cases hi
     | some y =>
       rw [hr] at hi
       simp only [Option.map_some,Option.some.injEq,Prod.mk.injEq] at hi
       obtain ⟨rfl,rfl⟩ := hi
       obtain ⟨j1,j2,j3,j4⟩ := i2 _ _ hr
       refine ⟨?_,by omega,by simp only [List.length_cons] at j3 ⊢; omega,by rw [List.drop_succ_cons]; exact j4⟩
       rw [List.take_succ_cons]
       exact escs_cons e92 j1
def TxOk (t : Str) : Prop := noD t = true ∨ Scd t
theorem tx_ins {t : Str} (h : TxOk t) : (insP t = none → escs t = true) ∧ ∀ i e,insP t = some (i,e) → escs (t.take i) = true ∧ i + 3 ≤ e ∧ e ≤ t.length ∧ TxOk (t.drop e) := by
 rcases h with h | h
 · exact ⟨fun _ => noD_escs _ t (Nat.le_refl _) h,fun i e hi => by rw [noD_ins _ t (Nat.le_refl _) h] at hi; cases hi⟩
 · obtain ⟨h1,h2⟩ := scd_ins _ t (Nat.le_refl _) h
   exact ⟨h1,fun i e hi => by obtain ⟨a,b,c,d⟩ := h2 i e hi; exact ⟨a,b,c,.inr d⟩⟩
def TS (l : List Tok) : Prop := ∀ t ∈ l,t.k = 3 → TxOk t.t ∧ t.t.length ≤ 100000
theorem hereL_len : ∀ s : Str,(hereL s).length ≤ 2 * s.length
 | [] => Nat.le_refl _
 | c :: r => by
   have := hereL_len r
   simp only [hereL]
   split
   · simp only [List.length_cons]; omega
   split
   · simp only [List.length_cons]; omega
   split
   · simp only [List.length_cons]; omega
   · simp only [List.length_cons]; omega
theorem hereF_len : ∀ (n : Nat) (name s : Str),(hereF n name s).1.length ≤ 2 * s.length
 | 0,_,_ => by simp [hereF]
 | n + 1,name,s => by
   have hr := run_le (fun b => b != 10) s
   simp only [hereF]
   split
   · simp
   split
   · simp
   rename_i hlen
   split
   · have h1 := hereF_len n name (s.drop (runM (fun b => b != 10) s + 1))
     have h2 := hereL_len (s.take (runM (fun b => b != 10) s))
     rw [List.length_drop] at h1
     rw [List.length_take] at h2
     simp only [List.length_append,List.length_cons,List.length_nil]
     omega
   · simp
theorem heredoc_len (s : Str) : (heredocM s).1.length ≤ 2 * s.length := by
 unfold heredocM
 simp only
 generalize (if isLetter ((s.drop 2).headD 0) = true then runM isName (s.drop 2) else 0) = n
 split
 · simp
 split
 · have h1 := hereF_len (s.length + 1) ((s.drop 2).take n) (s.drop (2 + n + 1))
   rw [List.length_drop] at h1
   split
   · show (hereF (s.length + 1) ((s.drop 2).take n) (s.drop (2 + n + 1))).1.length ≤ _
     omega
   · simp
 · simp
theorem one_tx {s : Str} {t : Tok} {k : Nat} (h : oneM s = (t,k,0)) (hk : t.k = 3) : TxOk t.t ∧ t.t.length ≤ 2 * s.length := by
 unfold oneM at h
 simp only at h
 split at h
 · injection h with h1 _; subst h1; cases hk
 split at h
 · injection h with h1 _; subst h1; cases hk
 split at h
 · injection h with h1 _; subst h1; cases hk
 split at h
 · split at h
   · rename_i hq he
     injection h with h1 _
     subst h1
     have hx : textF (s.length + 1) (s.drop 1) 0 = textX (s.drop 1) 0 := textF_x (by rw [List.length_drop]; omega)
     rw [hx] at he ⊢
     refine ⟨.inr (scd_text (d := 0) (Prod.ext rfl he) fun b hb => ?_),by simp only [List.length_take,List.length_drop]; omega⟩
     rw [text_end _ (s.drop 1) 0 _ (Nat.le_refl _) (Prod.ext rfl he)] at hb
     injection hb with hb
     exact hb.symm
   · rename_i he
     injection h with h1 h2
     injection h2 with _ h2
     exact absurd h2 he
 split at h
 · injection h with h1 h2
   injection h2 with h2 h3
   obtain ⟨i1,i2,i3⟩ := heredoc_ok (s := s) (t := (heredocM s).1) (k := (heredocM s).2.1) (Prod.ext rfl (Prod.ext rfl h3))
   subst h1
   exact ⟨.inl i3,heredoc_len s⟩
 · injection h with h1 _; subst h1; cases hk
theorem scanF_ts : ∀ (n : Nat) (s : Str) (a cnt : Nat) (l : List Tok),s.length ≤ 16384 → scanF n s a cnt = .ok l → TS l
 | 0,_,_,_,_,_,h => by simp [scanF] at h
 | n + 1,s,a,cnt,l,hl,h => by
   simp only [scanF] at h
   split at h
   · cases h
   split at h
   · injection h with h
     subst h
     intro t ht hk
     simp only [List.mem_singleton] at ht
     subst ht
     cases hk
   split at h
   · cases h
   rename_i ho
   split at h
   · cases h
   split at h
   · rename_i l' hl'
     injection h with h
     subst h
     intro t ht hk
     rcases List.mem_cons.1 ht with rfl | ht
     · have h1 := one_tx (t := (oneM (s.drop (skipF (s.length + 1) s).1)).1) (k := (oneM (s.drop (skipF (s.length + 1) s).1)).2.1) (Prod.ext rfl (Prod.ext rfl (Classical.not_not.1 ho))) hk
       rw [List.length_drop] at h1
       exact ⟨h1.1,by simp only; omega⟩
     · exact scanF_ts n _ _ _ _ (by rw [List.length_drop,List.length_drop]; omega) hl' t ht hk
   · rename_i hne
     exact absurd h (hne l)
theorem scan_ts {s : Str} {l : List Tok} (h : scanM s = .ok l) : TS l := by
 unfold scanM at h
 split at h
 · cases h
 rename_i hl
 split at h
 · cases h
 exact scanF_ts _ _ _ _ _ (by omega) h
theorem scanF_few : ∀ (n : Nat) (s : Str) (a cnt : Nat) (l : List Tok),cnt ≤ 4096 → scanF n s a cnt = .ok l → cnt + l.length ≤ 4097
 | 0,_,_,_,_,_,h => by simp [scanF] at h
 | n + 1,s,a,cnt,l,hc,h => by
   simp only [scanF] at h
   split at h
   · cases h
   split at h
   · injection h with h
     subst h
     simp only [List.length_cons,List.length_nil]; omega
   split at h
   · cases h
   split at h
   · cases h
   rename_i hne
   split at h
   · rename_i l' hl'
     injection h with h
     subst h
     have := scanF_few n _ _ _ _ (by omega) hl'
     simp only [List.length_cons]; omega
   · rename_i hne
     exact absurd h (hne l)
theorem scan_few {s : Str} {l : List Tok} (h : scanM s = .ok l) : l.length ≤ 4097 ∧ s.length ≤ 16384 := by
 unfold scanM at h
 split at h
 · cases h
 rename_i hl
 split at h
 · cases h
 have := scanF_few _ _ _ _ _ (Nat.zero_le _) h
 omega
end Go.Syn

namespace Go.Proofs.YtofhaneggcpdaaaGreatDoor
open Go Go.Eng Go.Num
set_option maxRecDepth 100000
theorem loop_up (n : Nat) {w1 : World} {B : List Value → Fr → World → (List Value → World → Prop) → Prop} (R : Nat → World → Prop) (h0 : R 0 w1)
   (step : ∀ i w g L,i < n → R i w → (∀ w',R (i + 1) w' → L [i64 ((i + 1 : Nat) : Int)] w') → B [i64 (i : Nat)] g w L)
   (fin : ∀ w g L,R n w → B [i64 (n : Nat)] g w L) : LoopW [i64 0] w1 B := by
 refine ⟨fun s w => ∃ i,i ≤ n ∧ s = [i64 (i : Nat)] ∧ R i w,fun s _ => match s with | [.int _ i] => n - i.toNat | _ => 0,⟨0,Nat.zero_le _,rfl,h0⟩,?_⟩
 rintro s g w ⟨i,hi,rfl,hR⟩
 rcases Nat.lt_or_ge i n with hlt | hge
 · exact step i w g _ hlt hR fun w' h' => ⟨⟨i + 1,hlt,rfl,h'⟩,by simp only [Int.toNat_natCast]; omega⟩
 · obtain rfl : i = n := by omega
   exact fin w g _ hR
theorem up1 {i : Nat} (h : (i : Int) < 9223372036854775807) : IntKind.i64.wrap ((i : Int) + 1) = ((i + 1 : Nat) : Int) := by rw [wrap_id (by omega) (by omega)]; simp
section
variable [HX]
end
end Go.Proofs.YtofhaneggcpdaaaGreatDoor
namespace Go.Proofs.YtofhaneggcpdaaaGreatDoor
open Go Go.Eng Go.Num
set_option maxRecDepth 100000
section
variable [HX]
theorem isDig_out (c : UInt8) : (decide (((c.toNat : Nat) : Int) < 48) || decide ((57 : Int) < ((c.toNat : Nat) : Int))) = !Num.isDig c := by
 unfold Num.isDig
 rcases Nat.lt_or_ge c.toNat 48 with h | h
 · rw [decide_eq_true (by omega),decide_eq_false (show ¬ 48 ≤ c.toNat by omega)]; rfl
 · rw [decide_eq_false (show ¬ ((c.toNat : Nat) : Int) < 48 by omega),decide_eq_true (show 48 ≤ c.toNat by omega)]
   rcases Nat.lt_or_ge 57 c.toNat with h2 | h2
   · rw [decide_eq_true (by omega),decide_eq_false (show ¬ c.toNat ≤ 57 by omega)]; rfl
   · rw [decide_eq_false (by omega),decide_eq_true (show c.toNat ≤ 57 by omega)]; rfl
theorem u8_is (c : UInt8) (m : Int) (d : UInt8) (hm : m = (d.toNat : Nat)) : decide (((c.toNat : Nat) : Int) = m) = (c == d) := by
 rw [Bool.eq_iff_iff,decide_eq_true_eq,beq_iff_eq,hm]
 constructor
 · intro h; exact UInt8.toNat_inj.1 (by omega)
 · intro h; rw [h]
end
end Go.Proofs.YtofhaneggcpdaaaGreatDoor
namespace Go.Proofs.YtofhaneggcpdaaaGreatDoor
open Go Go.Eng Go.Num
set_option maxRecDepth 100000
abbrev ptr (b : Nat) : Value := .pointer (some ⟨b,0,none⟩)
end Go.Proofs.YtofhaneggcpdaaaGreatDoor



namespace Go.Proofs.YtofhaneggcpdaaaGreatDoor
open Go Go.Eng
set_option maxRecDepth 100000
variable [HX]
def plan74 : Plan := { js := [(28003,⟨[36],[],35⟩),(16,⟨[28],[2,5],28⟩),(6002,⟨[23],[],17⟩),(6004,⟨[22],[],21⟩),(6008,⟨[20],[],17⟩),(6013,⟨[14],[],12⟩)],ds := [] }
def W74 (v0 : Value) (w : World) (K : Value → World → Prop) : Prop :=
 callF Tryz.prog 97 [v0,(.string (ofL [45]))] w fun t7 w1 =>
 lensW t7 fun t9 =>
 binW .lss t9 (.int .i64 1) fun t10 =>
 GdW (isB t10 false) [undef] w1 (fun J2 =>
 lensW t7 fun t13 =>
 binW .gtr t13 (.int .i64 100) fun t14 =>
 J2 [t14] w1)
 fun s2 _ w3 =>
 pickW t10 (.bool true) (s2.getD 0 undef) fun t15 =>
 GdW (isB t15 false) [undef] w3 (fun J4 =>
 ixsW t7 (.int .i64 0) fun t18 =>
 binW .eql t18 (.int .u8 48) fun t19 =>
 J4 [t19] w3)
 fun s4 _ w5 =>
 GdW (isB (s4.getD 0 undef) true) [undef] w5 (fun J6 =>
 binW .neq v0 (.string (ofL [48])) fun t22 =>
 J6 [t22] w5)
 fun s6 _ w7 =>
 GdW (isB t15 false) [undef] w7 (fun J8 =>
 pickW (s4.getD 0 undef) (s6.getD 0 undef) (.bool false) fun t23 =>
 J8 [t23] w7)
 fun s8 _ w9 =>
 pickW t15 (.bool true) (s8.getD 0 undef) fun t24 =>
 condW t24 (
 K (.bool false) w9) (
 semE Tryz.prog (convert 9 50 t7) w9 fun t26 w10 =>
 lenlW t26 fun t27 =>
 LoopW [(.int .i64 0)] w10 fun s11 _ w12 L11 =>
 binW .lss (s11.getD 0 undef) t27 fun t29 =>
 condW t29 (
 ixaW none 1 t26 (s11.getD 0 undef) fun t30 =>
 ldW false 1 t30 w12 fun t31 =>
 binW .lss t31 (.int .u8 48) fun t33 =>
 GdW (isB t33 false) [undef] w12 (fun J13 =>
 binW .gtr t31 (.int .u8 57) fun t36 =>
 J13 [t36] w12)
 fun s13 _ w14 =>
 pickW t33 (.bool true) (s13.getD 0 undef) fun t37 =>
 condW t37 (
 K (.bool false) w14) (
 binW .add (s11.getD 0 undef) (.int .i64 1) fun t38 =>
 L11 [t38] w14)) (
 K (.bool true) w12))
theorem W74_ok {v0 : Value} {w : World} {K : Value → World → Prop} (h : W74 v0 w K) : callF Tryz.prog 74 [v0] w K :=
 tie _ 74 Tryz.f74 plan74 _ w K 1 _ rfl mixed Tryz.func74 (by kernel_rfl) (by kernel_rfl) Tryz.call74 h
def plan97 : Plan := { js := [],ds := [] }
def W97 (v0 v1 : Value) (w : World) (K : Value → World → Prop) : Prop :=
 callF Tryz.prog 124 [v0,v1] w fun t7 w1 =>
 K t7 w1
theorem W97_ok {v0 v1 : Value} {w : World} {K : Value → World → Prop} (h : W97 v0 v1 w K) : callF Tryz.prog 97 [v0,v1] w K :=
 tie _ 97 Tryz.f97 plan97 _ w K 2 _ rfl mixed Tryz.func97 (by kernel_rfl) (by kernel_rfl) Tryz.call97 h
def plan124 : Plan := { js := [],ds := [] }
def W124 (v0 v1 : Value) (w : World) (K : Value → World → Prop) : Prop :=
 callF Tryz.prog 66 [v0,v1] w fun t7 w1 =>
 condW t7 (
 lensW v1 fun t10 =>
 slsW v0 (some t10) none fun t11 =>
 K t11 w1) (
 K v0 w1)
theorem W124_ok {v0 v1 : Value} {w : World} {K : Value → World → Prop} (h : W124 v0 v1 w K) : callF Tryz.prog 124 [v0,v1] w K :=
 tie _ 124 Tryz.f124 plan124 _ w K 2 _ rfl mixed Tryz.func124 (by kernel_rfl) (by kernel_rfl) Tryz.call124 h
end Go.Proofs.YtofhaneggcpdaaaGreatDoor
namespace Go.Proofs
open Go.Shelf
def Tryz.lays169_ren : Go.Shelf.Ren := ⟨fun | 169 => 34 | n => n,fun | 70 => 82 | 9 => 9 | 0 => 0 | 72 => 84 | 37 => 50 | 127 => 120 | 3 => 3 | 5 => 5 | n => n,fun | n => n⟩
theorem Tryz.lays169 : Go.Proofs.Lays.n169 Tryz.prog Tryz.lays169_ren := {
 mixed := by kernel_rfl
 f169 := Tryz.func34.trans (congrArg some (by kernel_rfl))
 t0 := Tryz.underlying0
 a0 := Tryz.isAgg0
 z0 := Tryz.sizeOf0
 v0 := Tryz.zeroValue0
 t3 := Tryz.underlying3
 a3 := Tryz.isAgg3
 z3 := Tryz.sizeOf3
 v3 := Tryz.zeroValue3
 t9 := Tryz.underlying9
 a9 := Tryz.isAgg9
 z9 := Tryz.sizeOf9
 v9 := Tryz.zeroValue9
 t37 := Tryz.underlying50
 a37 := Tryz.isAgg50
 z37 := Tryz.sizeOf50
 v37 := Tryz.zeroValue50
 t70 := Tryz.underlying82
 a70 := Tryz.isAgg82
 z70 := Tryz.sizeOf82
 v70 := Tryz.zeroValue82
 t72 := Tryz.underlying84
 a72 := Tryz.isAgg84
 z72 := Tryz.sizeOf84
 v72 := Tryz.zeroValue84
 t127 := Tryz.underlying120
 a127 := Tryz.isAgg120
 z127 := Tryz.sizeOf120
 v127 := Tryz.zeroValue120 }
theorem Tryz.Builder_Extra_169 : Builder.Extra Tryz.prog Tryz.lays169_ren := {
 sizeBuilder := by kernel_rfl
 liesBuilder := by kernel_rfl
 t5 := Tryz.underlying5
 a5 := Tryz.isAgg5
 z5 := Tryz.sizeOf5
 v5 := Tryz.zeroValue5
 infoByte := by kernel_rfl
 cellsByte := by kernel_rfl
 sizeByte := by kernel_rfl
 neB5 := by decide }
def Tryz.lays156_ren : Go.Shelf.Ren := ⟨fun | 156 => 61 | 165 => 91 | 166 => 65 | 169 => 34 | 240 => 94 | 241 => 116 | 276 => 119 | 277 => 136 | n => n,fun | 31 => 33 | 9 => 9 | 3 => 3 | 4 => 4 | 0 => 0 | 20 => 20 | 72 => 84 | 76 => 118 | 70 => 82 | 37 => 50 | 75 => 117 | 127 => 120 | 164 => 160 | 5 => 5 | 80 => 86 | n => n,fun | n => n⟩
theorem Tryz.lays156 : Go.Proofs.Lays.n156 Tryz.prog Tryz.lays156_ren := {
 mixed := by kernel_rfl
 f156 := Tryz.func61.trans (congrArg some (by kernel_rfl))
 f165 := Tryz.func91.trans (congrArg some (by kernel_rfl))
 f166 := Tryz.func65.trans (congrArg some (by kernel_rfl))
 f169 := Tryz.func34.trans (congrArg some (by kernel_rfl))
 f240 := Tryz.func94.trans (congrArg some (by kernel_rfl))
 f241 := Tryz.func116.trans (congrArg some (by kernel_rfl))
 f276 := Tryz.func119.trans (congrArg some (by kernel_rfl))
 f277 := Tryz.func136.trans (congrArg some (by kernel_rfl))
 t0 := Tryz.underlying0
 a0 := Tryz.isAgg0
 z0 := Tryz.sizeOf0
 v0 := Tryz.zeroValue0
 t3 := Tryz.underlying3
 a3 := Tryz.isAgg3
 z3 := Tryz.sizeOf3
 v3 := Tryz.zeroValue3
 t4 := Tryz.underlying4
 a4 := Tryz.isAgg4
 z4 := Tryz.sizeOf4
 v4 := Tryz.zeroValue4
 t9 := Tryz.underlying9
 a9 := Tryz.isAgg9
 z9 := Tryz.sizeOf9
 v9 := Tryz.zeroValue9
 t20 := Tryz.underlying20
 a20 := Tryz.isAgg20
 z20 := Tryz.sizeOf20
 v20 := Tryz.zeroValue20
 t31 := Tryz.underlying33
 a31 := Tryz.isAgg33
 z31 := Tryz.sizeOf33
 v31 := Tryz.zeroValue33
 t37 := Tryz.underlying50
 a37 := Tryz.isAgg50
 z37 := Tryz.sizeOf50
 v37 := Tryz.zeroValue50
 t70 := Tryz.underlying82
 a70 := Tryz.isAgg82
 z70 := Tryz.sizeOf82
 v70 := Tryz.zeroValue82
 t72 := Tryz.underlying84
 a72 := Tryz.isAgg84
 z72 := Tryz.sizeOf84
 v72 := Tryz.zeroValue84
 t75 := Tryz.underlying117
 a75 := Tryz.isAgg117
 z75 := Tryz.sizeOf117
 v75 := Tryz.zeroValue117
 t76 := Tryz.underlying118
 a76 := Tryz.isAgg118
 z76 := Tryz.sizeOf118
 v76 := Tryz.zeroValue118
 t127 := Tryz.underlying120
 a127 := Tryz.isAgg120
 z127 := Tryz.sizeOf120
 v127 := Tryz.zeroValue120
 t164 := Tryz.underlying160
 a164 := Tryz.isAgg160
 z164 := Tryz.sizeOf160
 v164 := Tryz.zeroValue160 }
theorem Tryz.Builder_Extra_156 : Builder.Extra Tryz.prog Tryz.lays156_ren := {
 sizeBuilder := by kernel_rfl
 liesBuilder := by kernel_rfl
 t5 := Tryz.underlying5
 a5 := Tryz.isAgg5
 z5 := Tryz.sizeOf5
 v5 := Tryz.zeroValue5
 infoByte := by kernel_rfl
 cellsByte := by kernel_rfl
 sizeByte := by kernel_rfl
 neB5 := by decide }
open Go.RowKit in
theorem Tryz.strings_Join_none (a : Option Addr) (c : Nat) (sep : ByteArray) (w : World) :
   Calls Tryz.prog 61 #[.slice a 0 c,.string sep] w fun e w' => e = .returned (.string ⟨#[]⟩) ∧ w' = w := Any.strings_Join_none Tryz.lays156 Tryz.Builder_Extra_156 a c sep w
open Go.RowKit in
theorem Tryz.strings_Join (bk o c : Nat) (xs : List ByteArray) (sep : ByteArray) (w : World) (hcells : ∀ (j : Nat) x,xs[j]? = some x → w.cell? ⟨bk,o + j,none⟩ = some (.string x)) (hbk : bk < w.heap.size) (hN : xs.length ≤ 140737488355328) (hcap : xs.length ≤ c) (hlen : (Lib.join (xs.map (·.data.toList)) sep.data.toList).length ≤ 140737488355328) :
   Calls Tryz.prog 61 #[.slice (some ⟨bk,o,none⟩) xs.length c,.string sep] w fun e w' => e = .returned (.string ⟨(Lib.join (xs.map (·.data.toList)) sep.data.toList).toArray⟩) ∧ Below w.heap.size w w' := Any.strings_Join Tryz.lays156 Tryz.Builder_Extra_156 bk o c xs sep w hcells hbk hN hcap hlen
def Tryz.lays161_ren : Go.Shelf.Ren := ⟨fun | 161 => 101 | 231 => 126 | 227 => 127 | 233 => 128 | 235 => 129 | 228 => 138 | 197 => 139 | 151 => 140 | 260 => 144 | 152 => 145 | 137 => 67 | 119 => 149 | 224 => 122 | 225 => 121 | 217 => 95 | 266 => 120 | n => n,fun | 9 => 9 | 4 => 4 | 3 => 3 | 5 => 5 | 117 => 165 | 116 => 164 | 0 => 0 | 124 => 168 | 105 => 173 | 21 => 21 | 119 => 178 | 46 => 140 | 139 => 181 | 138 => 180 | n => n,fun | 3 => 1 | 4 => 2 | n => n⟩
theorem Tryz.lays161 : Go.Proofs.Lays.n161 Tryz.prog Tryz.lays161_ren := {
 mixed := by kernel_rfl
 f119 := Tryz.func149.trans (congrArg some (by kernel_rfl))
 f137 := Tryz.func67.trans (congrArg some (by kernel_rfl))
 f151 := Tryz.func140.trans (congrArg some (by kernel_rfl))
 f152 := Tryz.func145.trans (congrArg some (by kernel_rfl))
 f161 := Tryz.func101.trans (congrArg some (by kernel_rfl))
 f197 := Tryz.func139.trans (congrArg some (by kernel_rfl))
 f217 := Tryz.func95.trans (congrArg some (by kernel_rfl))
 f224 := Tryz.func122.trans (congrArg some (by kernel_rfl))
 f225 := Tryz.func121.trans (congrArg some (by kernel_rfl))
 f227 := Tryz.func127.trans (congrArg some (by kernel_rfl))
 f228 := Tryz.func138.trans (congrArg some (by kernel_rfl))
 f231 := Tryz.func126.trans (congrArg some (by kernel_rfl))
 f233 := Tryz.func128.trans (congrArg some (by kernel_rfl))
 f235 := Tryz.func129.trans (congrArg some (by kernel_rfl))
 f260 := Tryz.func144.trans (congrArg some (by kernel_rfl))
 f266 := Tryz.func120.trans (congrArg some (by kernel_rfl))
 t0 := Tryz.underlying0
 a0 := Tryz.isAgg0
 z0 := Tryz.sizeOf0
 v0 := Tryz.zeroValue0
 t3 := Tryz.underlying3
 a3 := Tryz.isAgg3
 z3 := Tryz.sizeOf3
 v3 := Tryz.zeroValue3
 t4 := Tryz.underlying4
 a4 := Tryz.isAgg4
 z4 := Tryz.sizeOf4
 v4 := Tryz.zeroValue4
 t5 := Tryz.underlying5
 a5 := Tryz.isAgg5
 z5 := Tryz.sizeOf5
 v5 := Tryz.zeroValue5
 t9 := Tryz.underlying9
 a9 := Tryz.isAgg9
 z9 := Tryz.sizeOf9
 v9 := Tryz.zeroValue9
 t21 := Tryz.underlying21
 a21 := Tryz.isAgg21
 z21 := Tryz.sizeOf21
 v21 := Tryz.zeroValue21
 t46 := Tryz.underlying140
 a46 := Tryz.isAgg140
 z46 := Tryz.sizeOf140
 v46 := Tryz.zeroValue140
 t105 := Tryz.underlying173
 a105 := Tryz.isAgg173
 z105 := Tryz.sizeOf173
 v105 := Tryz.zeroValue173
 t116 := Tryz.underlying164
 a116 := Tryz.isAgg164
 z116 := Tryz.sizeOf164
 t117 := Tryz.underlying165
 a117 := Tryz.isAgg165
 z117 := Tryz.sizeOf165
 v117 := Tryz.zeroValue165
 t119 := Tryz.underlying178
 a119 := Tryz.isAgg178
 z119 := Tryz.sizeOf178
 t124 := Tryz.underlying168
 a124 := Tryz.isAgg168
 z124 := Tryz.sizeOf168
 v124 := Tryz.zeroValue168
 t138 := Tryz.underlying180
 a138 := Tryz.isAgg180
 z138 := Tryz.sizeOf180
 v138 := Tryz.zeroValue180
 t139 := Tryz.underlying181
 a139 := Tryz.isAgg181
 z139 := Tryz.sizeOf181
 v139 := Tryz.zeroValue181
 g3 := by kernel_rfl
 g4 := by kernel_rfl }
def Tryz.lays137_ren : Go.Shelf.Ren := ⟨fun | 137 => 67 | 217 => 95 | 266 => 120 | n => n,fun | 9 => 9 | 5 => 5 | 3 => 3 | n => n,fun | n => n⟩
theorem Tryz.lays137 : Go.Proofs.Lays.n137 Tryz.prog Tryz.lays137_ren := {
 mixed := by kernel_rfl
 f137 := Tryz.func67.trans (congrArg some (by kernel_rfl))
 f217 := Tryz.func95.trans (congrArg some (by kernel_rfl))
 f266 := Tryz.func120.trans (congrArg some (by kernel_rfl))
 t3 := Tryz.underlying3
 a3 := Tryz.isAgg3
 z3 := Tryz.sizeOf3
 v3 := Tryz.zeroValue3
 t5 := Tryz.underlying5
 a5 := Tryz.isAgg5
 z5 := Tryz.sizeOf5
 v5 := Tryz.zeroValue5
 t9 := Tryz.underlying9
 a9 := Tryz.isAgg9
 z9 := Tryz.sizeOf9
 v9 := Tryz.zeroValue9 }
open Go.RowKit in
theorem Tryz.strings_IndexByte (s : ByteArray) (c : Int) (w : World) :
   Calls Tryz.prog 67 #[.string s,.int .u8 c] w fun e w' => e = .returned (.int .i64 (Lib.indexByte s.data.toList c.toNat.toUInt8)) ∧ w' = w := Any.strings_IndexByte Tryz.lays137 s c w
open Go.RowKit in
theorem Tryz.Builder_String_any_k (B b : Nat) (l : List UInt8) (w : World) (h : Lib.IsBuilderF 84 5 B b (Lib.byteCells l) w) (hBw : B ≤ w.heap.size) :
   Calls Tryz.prog 34 #[.pointer (some ⟨b,0,none⟩)] w fun e w' => e = .returned (.string ⟨l.toArray⟩) ∧ (Lib.IsBuilderF 84 5 B b (Lib.byteCells l) w' ∧ Below B w w' ∧ Lib.OthersKept 5 (some b) w w') := Any.Builder_String_any_k Tryz.lays169 Tryz.Builder_Extra_169 B b l w h hBw
def Tryz.lays143_ren : Go.Shelf.Ren := ⟨fun | 143 => 70 | 219 => 96 | 217 => 95 | 225 => 121 | 224 => 122 | 267 => 123 | 266 => 120 | 314 => 137 | n => n,fun | 9 => 9 | 3 => 3 | 4 => 4 | 5 => 5 | 46 => 140 | 146 => 155 | 51 => 154 | n => n,fun | 1 => 0 | n => n⟩
theorem Tryz.lays143 : Go.Proofs.Lays.n143 Tryz.prog Tryz.lays143_ren := {
 mixed := by kernel_rfl
 f143 := Tryz.func70.trans (congrArg some (by kernel_rfl))
 f217 := Tryz.func95.trans (congrArg some (by kernel_rfl))
 f219 := Tryz.func96.trans (congrArg some (by kernel_rfl))
 f224 := Tryz.func122.trans (congrArg some (by kernel_rfl))
 f225 := Tryz.func121.trans (congrArg some (by kernel_rfl))
 f266 := Tryz.func120.trans (congrArg some (by kernel_rfl))
 f267 := Tryz.func123.trans (congrArg some (by kernel_rfl))
 f314 := Tryz.func137.trans (congrArg some (by kernel_rfl))
 t3 := Tryz.underlying3
 a3 := Tryz.isAgg3
 z3 := Tryz.sizeOf3
 v3 := Tryz.zeroValue3
 t4 := Tryz.underlying4
 a4 := Tryz.isAgg4
 z4 := Tryz.sizeOf4
 v4 := Tryz.zeroValue4
 t5 := Tryz.underlying5
 a5 := Tryz.isAgg5
 z5 := Tryz.sizeOf5
 v5 := Tryz.zeroValue5
 t9 := Tryz.underlying9
 a9 := Tryz.isAgg9
 z9 := Tryz.sizeOf9
 v9 := Tryz.zeroValue9
 t46 := Tryz.underlying140
 a46 := Tryz.isAgg140
 z46 := Tryz.sizeOf140
 v46 := Tryz.zeroValue140
 t51 := Tryz.underlying154
 a51 := Tryz.isAgg154
 z51 := Tryz.sizeOf154
 v51 := Tryz.zeroValue154
 t146 := Tryz.underlying155
 a146 := Tryz.isAgg155
 z146 := Tryz.sizeOf155
 v146 := Tryz.zeroValue155
 g1 := by kernel_rfl }
open Go.RowKit Go.Lib in
theorem Tryz.strings_Index (s sub : ByteArray) (m : Int) (w : World) (hs : s.size < 4294967281) (hm : w.cell? ⟨0,0,none⟩ = some (.int .i64 m)) :
   Calls Tryz.prog 70 #[.string s,.string sub] w fun e w' => e = .returned (.int .i64 (Lib.index s.data.toList sub.data.toList)) ∧ w' = w := Any.strings_Index Tryz.lays143 s sub m w hs hm
def Tryz.lays145_ren : Go.Shelf.Ren := ⟨fun | 145 => 100 | 220 => 125 | 219 => 96 | 217 => 95 | 225 => 121 | 224 => 122 | 267 => 123 | 266 => 120 | 314 => 137 | n => n,fun | 9 => 9 | 4 => 4 | 59 => 144 | 3 => 3 | 5 => 5 | 46 => 140 | 146 => 155 | 51 => 154 | n => n,fun | 1 => 0 | n => n⟩
theorem Tryz.lays145 : Go.Proofs.Lays.n145 Tryz.prog Tryz.lays145_ren := {
 mixed := by kernel_rfl
 f145 := Tryz.func100.trans (congrArg some (by kernel_rfl))
 f217 := Tryz.func95.trans (congrArg some (by kernel_rfl))
 f219 := Tryz.func96.trans (congrArg some (by kernel_rfl))
 f220 := Tryz.func125.trans (congrArg some (by kernel_rfl))
 f224 := Tryz.func122.trans (congrArg some (by kernel_rfl))
 f225 := Tryz.func121.trans (congrArg some (by kernel_rfl))
 f266 := Tryz.func120.trans (congrArg some (by kernel_rfl))
 f267 := Tryz.func123.trans (congrArg some (by kernel_rfl))
 f314 := Tryz.func137.trans (congrArg some (by kernel_rfl))
 t3 := Tryz.underlying3
 a3 := Tryz.isAgg3
 z3 := Tryz.sizeOf3
 v3 := Tryz.zeroValue3
 t4 := Tryz.underlying4
 a4 := Tryz.isAgg4
 z4 := Tryz.sizeOf4
 v4 := Tryz.zeroValue4
 t5 := Tryz.underlying5
 a5 := Tryz.isAgg5
 z5 := Tryz.sizeOf5
 v5 := Tryz.zeroValue5
 t9 := Tryz.underlying9
 a9 := Tryz.isAgg9
 z9 := Tryz.sizeOf9
 v9 := Tryz.zeroValue9
 t46 := Tryz.underlying140
 a46 := Tryz.isAgg140
 z46 := Tryz.sizeOf140
 v46 := Tryz.zeroValue140
 t51 := Tryz.underlying154
 a51 := Tryz.isAgg154
 z51 := Tryz.sizeOf154
 v51 := Tryz.zeroValue154
 t59 := Tryz.underlying144
 a59 := Tryz.isAgg144
 z59 := Tryz.sizeOf144
 v59 := Tryz.zeroValue144
 t146 := Tryz.underlying155
 a146 := Tryz.isAgg155
 z146 := Tryz.sizeOf155
 v146 := Tryz.zeroValue155
 g1 := by kernel_rfl }
open Go.RowKit Go.Lib in
theorem Tryz.strings_Cut (s sep : ByteArray) (m : Int) (w : World) (hs : s.size < 4294967281) (hm : w.cell? ⟨0,0,none⟩ = some (.int .i64 m)) :
   Calls Tryz.prog 100 #[.string s,.string sep] w fun e w' => e = .returned (.tuple #[.string ⟨(Lib.cut s.data.toList sep.data.toList).1.toArray⟩,.string ⟨(Lib.cut s.data.toList sep.data.toList).2.1.toArray⟩,.bool (Lib.cut s.data.toList sep.data.toList).2.2]) ∧ ∃ n,w' = w.drewN n := Any.strings_Cut Tryz.lays145 s sep m w hs hm
def Tryz.lays206_ren : Go.Shelf.Ren := ⟨fun | 206 => 66 | n => n,fun | 9 => 9 | 4 => 4 | 3 => 3 | n => n,fun | n => n⟩
theorem Tryz.lays206 : Go.Proofs.Lays.n206 Tryz.prog Tryz.lays206_ren := {
 mixed := by kernel_rfl
 f206 := Tryz.func66.trans (congrArg some (by kernel_rfl))
 t3 := Tryz.underlying3
 a3 := Tryz.isAgg3
 z3 := Tryz.sizeOf3
 v3 := Tryz.zeroValue3
 t4 := Tryz.underlying4
 a4 := Tryz.isAgg4
 z4 := Tryz.sizeOf4
 v4 := Tryz.zeroValue4
 t9 := Tryz.underlying9
 a9 := Tryz.isAgg9
 z9 := Tryz.sizeOf9
 v9 := Tryz.zeroValue9 }
open Go.RowKit Go.Lib in
theorem Tryz.stringslite_HasPrefix (s p : ByteArray) (w : World) :
   Calls Tryz.prog 66 #[.string s,.string p] w fun e w' => e = .returned (.bool (Lib.hasPrefix s.data.toList p.data.toList)) ∧ w' = w := Any.stringslite_HasPrefix Tryz.lays206 s p w
def Tryz.lays99_ren : Go.Shelf.Ren := ⟨fun | 99 => 36 | 206 => 66 | n => n,fun | 9 => 9 | 4 => 4 | 3 => 3 | n => n,fun | n => n⟩
theorem Tryz.lays99 : Go.Proofs.Lays.n99 Tryz.prog Tryz.lays99_ren := {
 mixed := by kernel_rfl
 f99 := Tryz.func36.trans (congrArg some (by kernel_rfl))
 f206 := Tryz.func66.trans (congrArg some (by kernel_rfl))
 t3 := Tryz.underlying3
 a3 := Tryz.isAgg3
 z3 := Tryz.sizeOf3
 v3 := Tryz.zeroValue3
 t4 := Tryz.underlying4
 a4 := Tryz.isAgg4
 z4 := Tryz.sizeOf4
 v4 := Tryz.zeroValue4
 t9 := Tryz.underlying9
 a9 := Tryz.isAgg9
 z9 := Tryz.sizeOf9
 v9 := Tryz.zeroValue9 }
open Go.RowKit Go.Lib in
theorem Tryz.strings_HasPrefix (s p : ByteArray) (w : World) :
   Calls Tryz.prog 36 #[.string s,.string p] w fun e w' => e = .returned (.bool (Lib.hasPrefix s.data.toList p.data.toList)) ∧ w' = w := Any.strings_HasPrefix Tryz.lays99 s p w
def Tryz.lays105_ren : Go.Shelf.Ren := ⟨fun | 105 => 64 | 212 => 92 | 99 => 36 | 165 => 91 | 166 => 65 | 170 => 93 | 169 => 34 | 263 => 117 | 264 => 118 | 206 => 66 | 240 => 94 | 241 => 116 | 276 => 119 | 277 => 136 | n => n,fun | 9 => 9 | 3 => 3 | 4 => 4 | 20 => 20 | 0 => 0 | 46 => 140 | 109 => 141 | 5 => 5 | 72 => 84 | 76 => 118 | 51 => 154 | 146 => 155 | 53 => 157 | 148 => 158 | 70 => 82 | 37 => 50 | 75 => 117 | 127 => 120 | 164 => 160 | 80 => 86 | n => n,fun | n => n⟩
theorem Tryz.lays105 : Go.Proofs.Lays.n105 Tryz.prog Tryz.lays105_ren := {
 mixed := by kernel_rfl
 f99 := Tryz.func36.trans (congrArg some (by kernel_rfl))
 f105 := Tryz.func64.trans (congrArg some (by kernel_rfl))
 f165 := Tryz.func91.trans (congrArg some (by kernel_rfl))
 f166 := Tryz.func65.trans (congrArg some (by kernel_rfl))
 f169 := Tryz.func34.trans (congrArg some (by kernel_rfl))
 f170 := Tryz.func93.trans (congrArg some (by kernel_rfl))
 f206 := Tryz.func66.trans (congrArg some (by kernel_rfl))
 f212 := Tryz.func92.trans (congrArg some (by kernel_rfl))
 f240 := Tryz.func94.trans (congrArg some (by kernel_rfl))
 f241 := Tryz.func116.trans (congrArg some (by kernel_rfl))
 f263 := Tryz.func117.trans (congrArg some (by kernel_rfl))
 f264 := Tryz.func118.trans (congrArg some (by kernel_rfl))
 f276 := Tryz.func119.trans (congrArg some (by kernel_rfl))
 f277 := Tryz.func136.trans (congrArg some (by kernel_rfl))
 t0 := Tryz.underlying0
 a0 := Tryz.isAgg0
 z0 := Tryz.sizeOf0
 v0 := Tryz.zeroValue0
 t3 := Tryz.underlying3
 a3 := Tryz.isAgg3
 z3 := Tryz.sizeOf3
 v3 := Tryz.zeroValue3
 t4 := Tryz.underlying4
 a4 := Tryz.isAgg4
 z4 := Tryz.sizeOf4
 v4 := Tryz.zeroValue4
 t5 := Tryz.underlying5
 a5 := Tryz.isAgg5
 z5 := Tryz.sizeOf5
 v5 := Tryz.zeroValue5
 t9 := Tryz.underlying9
 a9 := Tryz.isAgg9
 z9 := Tryz.sizeOf9
 v9 := Tryz.zeroValue9
 t20 := Tryz.underlying20
 a20 := Tryz.isAgg20
 z20 := Tryz.sizeOf20
 v20 := Tryz.zeroValue20
 t37 := Tryz.underlying50
 a37 := Tryz.isAgg50
 z37 := Tryz.sizeOf50
 v37 := Tryz.zeroValue50
 t46 := Tryz.underlying140
 a46 := Tryz.isAgg140
 z46 := Tryz.sizeOf140
 v46 := Tryz.zeroValue140
 t51 := Tryz.underlying154
 a51 := Tryz.isAgg154
 z51 := Tryz.sizeOf154
 v51 := Tryz.zeroValue154
 t53 := Tryz.underlying157
 a53 := Tryz.isAgg157
 z53 := Tryz.sizeOf157
 v53 := Tryz.zeroValue157
 t70 := Tryz.underlying82
 a70 := Tryz.isAgg82
 z70 := Tryz.sizeOf82
 v70 := Tryz.zeroValue82
 t72 := Tryz.underlying84
 a72 := Tryz.isAgg84
 z72 := Tryz.sizeOf84
 v72 := Tryz.zeroValue84
 t75 := Tryz.underlying117
 a75 := Tryz.isAgg117
 z75 := Tryz.sizeOf117
 v75 := Tryz.zeroValue117
 t76 := Tryz.underlying118
 a76 := Tryz.isAgg118
 z76 := Tryz.sizeOf118
 v76 := Tryz.zeroValue118
 t109 := Tryz.underlying141
 a109 := Tryz.isAgg141
 z109 := Tryz.sizeOf141
 v109 := Tryz.zeroValue141
 t127 := Tryz.underlying120
 a127 := Tryz.isAgg120
 z127 := Tryz.sizeOf120
 v127 := Tryz.zeroValue120
 t146 := Tryz.underlying155
 a146 := Tryz.isAgg155
 z146 := Tryz.sizeOf155
 v146 := Tryz.zeroValue155
 t148 := Tryz.underlying158
 a148 := Tryz.isAgg158
 z148 := Tryz.sizeOf158
 v148 := Tryz.zeroValue158
 t164 := Tryz.underlying160
 a164 := Tryz.isAgg160
 z164 := Tryz.sizeOf160
 v164 := Tryz.zeroValue160 }
theorem Tryz.Builder_Extra_105 : Builder.Extra Tryz.prog Tryz.lays105_ren := {
 sizeBuilder := by kernel_rfl
 liesBuilder := by kernel_rfl
 t5 := Tryz.underlying5
 a5 := Tryz.isAgg5
 z5 := Tryz.sizeOf5
 v5 := Tryz.zeroValue5
 infoByte := by kernel_rfl
 cellsByte := by kernel_rfl
 sizeByte := by kernel_rfl
 neB5 := by decide }
open Go.RowKit Go.Lib in
theorem Tryz.strings_Repeat (s : ByteArray) (c : Nat) (w : World) (hc : c ≤ 9223372036854775807) (hlen : s.size * c ≤ 140737488355328) :
   Calls Tryz.prog 64 #[.string s,.int .i64 c] w fun e w' => e = .returned (.string ⟨(Lib.repeatL s.data.toList c).toArray⟩) ∧ Below w.heap.size w w' := Any.strings_Repeat Tryz.lays105 Tryz.Builder_Extra_105 s c w hc hlen
open Go.RowKit Go.Lib in
theorem Tryz.strings_TrimLeft_laid (s cutset : ByteArray) (w : World) (hcs : cutset.size < 4294967281) (hascii : ∀ (j : Nat) b,cutset.data.toList[j]? = some b → b.toNat < 128) :
   Calls Tryz.prog 101 #[.string s,.string cutset] w fun e w' => e = .returned (.string ⟨(Lib.trimLeftS s.data.toList cutset.data.toList).toArray⟩) ∧ Below w.heap.size w w' := Any.strings_TrimLeft_laid Tryz.lays161 (by kernel_rfl) s cutset w hcs hascii
end Go.Proofs
namespace Go.Proofs.YtofhaneggcpdaaaGreatDoor
open Go Go.Eng Go.Num
set_option maxRecDepth 100000
abbrev u64 (n : Nat) : Value := .int .u64 (n : Int)
abbrev U8 : TypeId := 5
theorem bytes_ext (w : World) (e : TypeId) (s : ByteArray) : Ext w (Lib.bytesWorld w e s) :=
 ⟨rfl,rfl,rfl,by rw [Lib.bytesWorld_size]; omega,fun k hk _ => Lib.bytesWorld_at_old w e s k hk⟩
theorem to_bytes {l : Str} {w : World} {src dst : TypeId} {K : Value → World → Prop} (hs : Tryz.prog.underlying src = some .string) (hd : Tryz.prog.underlying dst = some (.slice U8)) (he : Tryz.prog.underlying U8 = some (.int .u8))
   (hK : ∀ v w',Byt w' U8 v l → Ext w w' → K v w') : semE Tryz.prog (convert src dst (str l)) w K := by
 unfold semE
 rw [Lib.run_convert_string_bytes w src dst U8 (ofL l) hs hd he]
 refine hK _ _ ?_ (bytes_ext _ _ _)
 have hle : (ofL l).size ≤ grownCap w (ofL l).size 0 U8 := by
   exact grownCap_ge w (ofL l).size 0 U8
 refine ⟨some ⟨w.heap.size,0,none⟩,grownCap w (ofL l).size 0 U8,by rw [ofL_size],by rw [← ofL_size]; exact hle,(fun e => by cases e),fun _ => ⟨w.heap.size,0,_,_,rfl,Lib.bytesWorld_at_new w U8 (ofL l),fun i hi => ?_⟩⟩
 have hi : i < (ofL l).size := by rw [ofL_size]; simpa [u8s_length] using hi
 have := Lib.bytesWorld_cell w U8 (ofL l) i hi
 rw [cell_eq,Lib.bytesWorld_at_new,cellO_some] at this
 rw [Nat.zero_add,this,u8s_get,ofL_data]
 have hi' : i < l.length := by rw [ofL_size] at hi; exact hi
 simp [List.getD_eq_getElem?_getD,List.getElem?_eq_getElem hi']
theorem of_calls [HX] {g : FuncId} {args : Array Value} {w : World} {K : Value → World → Prop} (hr : ∀ (ar : Array Value) (w : World),(callFunc g ar).run Tryz.prog w = .ok (.enter g ar) w)
   (h : Calls Tryz.prog g args w fun e w' => ∃ v,e = .returned v ∧ K v w') : callF Tryz.prog g args.toList w K := by
 unfold callF
 rw [show args.toList.toArray = args from by simp,hr]
 refine h.mono ?_
 rintro e w' ⟨v,rfl,hk⟩
 exact hk
section
variable [HX]
theorem pre_ref {s p : Str} {w : World} {K : Value → World → Prop} (hs : s.length ≤ 9223372036854775807) (hK : K (.bool (p.isPrefixOf s)) w) : callF Tryz.prog 66 [str s,str p] w K := by
 refine of_calls (args := #[str s,str p]) Tryz.call66 ((Tryz.stringslite_HasPrefix (ofL s) (ofL p) w).mono ?_)
 rintro e w' ⟨rfl,rfl⟩
 refine ⟨_,rfl,?_⟩
 rw [ofL_data,ofL_data]
 exact hK
theorem trimpre_ref {a : Str} {w : World} {K : Value → World → Prop} (hs : a.length ≤ 9223372036854775807) (hK : K (str (dig a)) w) : callF Tryz.prog 97 [str a,str [45]] w K := by
 refine W97_ok ?_
 unfold W97
 refine W124_ok ?_
 unfold W124
 refine pre_ref hs ?_
 cases a with
 | nil =>
   rw [show ([45] : Str).isPrefixOf [] = false from rfl]
   simp only [wsv,wsg,wsh,wsl,cond_true,cond_false,exists_eq_left',wsu,Nat.reduceAdd,Nat.reduceLT,Nat.lt_add_one,Nat.zero_lt_succ,decide_true,decide_false,ne_eq,reduceCtorEq]
   exact hK
 | cons c r =>
   by_cases hc : c = 45
   · subst hc
     have e : ([45] : Str).isPrefixOf (45 :: r) = true := by simp [List.isPrefixOf]
     have ed : dig (45 :: r) = r := by simp [dig]
     rw [ed] at hK
     rw [e]
     have e1 : ((0 + 1 : Nat) : Int).toNat = 1 := rfl
     simp only [wsv,wsg,wsh,wsl,cond_true,cond_false,exists_eq_left',wsu,Nat.reduceAdd,Nat.reduceLT,Nat.lt_add_one,Nat.zero_lt_succ,decide_true,decide_false,ne_eq,reduceCtorEq,e1]
     refine ⟨by omega,by omega,?_⟩
     rw [← List.length_cons (a := (45 : UInt8)),List.take_length]
     exact hK
   · have e : ([45] : Str).isPrefixOf (c :: r) = false := by simp [List.isPrefixOf,Ne.symm hc]
     have ed : dig (c :: r) = c :: r := by simp [dig,hc]
     rw [ed] at hK
     rw [e]
     simp only [wsv,wsg,wsh,wsl,cond_true,cond_false,exists_eq_left',wsu,Nat.reduceAdd,Nat.reduceLT,Nat.lt_add_one,Nat.zero_lt_succ,decide_true,decide_false,ne_eq,reduceCtorEq]
     exact hK
theorem numgood_ref {a : Str} {w : World} {K : Value → World → Prop} (ha : a.length ≤ 9223372036854775807) (hK : ∀ w',Ext w w' → K (.bool (goodN a)) w') : callF Tryz.prog 74 [str a] w K := by
 refine W74_ok ?_
 unfold W74
 refine trimpre_ref ha ?_
 have hg : goodN a = (!decide ((dig a).length < 1) && !decide (100 < (dig a).length) && !((dig a).head? == some 48 && !decide (a = [48])) && (dig a).all Num.isDig) := by
   unfold goodN
   have e1 : decide (1 ≤ (dig a).length) = !decide ((dig a).length < 1) := by rw [← decide_not]; exact decide_eq_decide.2 (by omega)
   have e2 : decide ((dig a).length ≤ 100) = !decide (100 < (dig a).length) := by rw [← decide_not]; exact decide_eq_decide.2 (by omega)
   rw [e1,e2]
   cases ((dig a).head? == some 48) <;> cases decide (a = [48]) <;> simp
 rw [hg] at hK
 have hdl : (dig a).length ≤ a.length := by
   cases a with
   | nil => simp [dig]
   | cons c r => simp only [dig]; split <;> simp
 cases hd : dig a with
 | nil =>
   rw [hd] at hK
   have hz : decide (((0 : Nat) : Int) < 1) = true := by decide
   simp only [wsv,wsg,wsh,wsl,cond_true,cond_false,exists_eq_left',wsu,Nat.reduceAdd,Nat.reduceLT,Nat.lt_add_one,Nat.zero_lt_succ,decide_true,decide_false,ne_eq,reduceCtorEq,hz]
   intros
   exact hK _ (Chg.refl _ _)
 | cons c r =>
   rw [hd] at hK hdl
   have hz : decide (((r.length + 1 : Nat) : Int) < 1) = false := decide_eq_false (by omega)
   simp only [wsv,wsg,wsh,wsl,cond_true,cond_false,exists_eq_left',wsu,Nat.reduceAdd,Nat.reduceLT,Nat.lt_add_one,Nat.zero_lt_succ,decide_true,decide_false,ne_eq,reduceCtorEq,Int.le_refl,Int.toNat_zero,u8_is c 48 48 rfl,hz]
   intros
   rw [condW_b]
   have e1 : decide ((100 : Int) < ((r.length + 1 : Nat) : Int)) = decide (100 < (c :: r).length) := decide_eq_decide.2 (by simp only [List.length_cons]; omega)
   have e4 : decide ((c :: r).length < 1) = false := decide_eq_false (by simp)
   have e5 : ((c :: r).head? == some 48) = (c == 48) := by simp
   rw [e1]
   rw [e4,e5] at hK
   simp only [decide_not]
   generalize decide (100 < (c :: r).length) = b1 at *
   generalize ((c == 48) && !decide (a = [48])) = b2 at *
   refine ⟨fun h => ?_,fun h => ?_⟩
   · have := hK _ (Chg.refl _ _)
     have e : (!false && !b1 && !b2 && (c :: r).all Num.isDig) = false := by
       cases b1 <;> cases b2 <;> simp at h ⊢
     rw [e] at this
     exact this
   · have hb : b1 = false ∧ b2 = false := by simpa using h
     rw [hb.1,hb.2] at hK
     refine to_bytes (l := c :: r) (by kernel_rfl) (by kernel_rfl) (by kernel_rfl) fun v w1 hv hx1 => ?_
     rw [lenl_at hv]
     generalize c :: r = D at *
     refine loop_up D.length (fun i w2 => Ext w1 w2 ∧ (D.take i).all Num.isDig = true) ⟨Chg.refl _ _,rfl⟩ ?_ ?_
     · rintro i w2 g L hi ⟨hx2,hall⟩ hL
       obtain ⟨e,he⟩ : ∃ e,D[i]? = some e := ⟨_,List.getElem?_eq_getElem hi⟩
       have hlt : ((i : Int) < ((D.length : Nat) : Int)) := by omega
       simp only [wsv,wsg,wsh,wsl,cond_true,cond_false,exists_eq_left',wsu,Nat.reduceAdd,Nat.reduceLT,Nat.lt_add_one,Nat.zero_lt_succ,decide_true,decide_false,ne_eq,reduceCtorEq,hlt]
       refine ixa_ld (hv.ext hx2) (by rw [u8s_length]) (by rw [u8s_get,he]; rfl) ?_
       simp only [wsv,wsg,wsh,wsl,cond_true,cond_false,exists_eq_left',wsu,Nat.reduceAdd,Nat.reduceLT,Nat.lt_add_one,Nat.zero_lt_succ,decide_true,decide_false,ne_eq,reduceCtorEq,isDig_out]
       intros
       rw [condW_b]
       refine ⟨fun hf => ?_,fun ht => ?_⟩
       · have hf : Num.isDig e = false := by simpa using hf
         have := hK _ (hx1.trans hx2)
         rw [all_no he hf] at this
         exact this
       · have ht : Num.isDig e = true := by simpa using ht
         rw [up1 (by omega)]
         exact hL _ ⟨hx2,by rw [all_take he,hall,ht]; rfl⟩
     · rintro w2 g L ⟨hx2,hall⟩
       simp only [wsv,wsg,wsh,wsl,cond_true,cond_false,exists_eq_left',wsu,Nat.reduceAdd,Nat.reduceLT,Nat.lt_add_one,Nat.zero_lt_succ,decide_true,decide_false,ne_eq,reduceCtorEq,Int.lt_irrefl]
       rw [List.take_length] at hall
       have := hK w2 (hx1.trans hx2)
       rw [hall] at this
       exact this
end
end Go.Proofs.YtofhaneggcpdaaaGreatDoor
namespace Go.Proofs
open Go.RowKit Go.Lib Go.Shelf
abbrev BdT : TypeId := 84
set_option maxHeartbeats 1000000 in
set_option maxRecDepth 100000 in
theorem Tryz.check_used (b : Nat) (w : World) (h0 : w.cell? ⟨b,0,none⟩ = some (.pointer (some ⟨b,0,none⟩))) :
   Calls Tryz.prog 94 #[.pointer (some ⟨b,0,none⟩)] w fun e w' => e = .returned (.tuple #[]) ∧ w' = w := by
 obtain ⟨j,hj,_⟩ := Option.map_eq_some_iff.1 (show (Tryz.prog.info? 84).map (·.size) = some 2 by kernel_rfl)
 go_enter Tryz.func94,Tryz.ntmps94
 go_wp2
 rw [Lib.run_neq_ptr_same w _ Tryz.underlying82 hj]
 go_wp2
 go_end0
 exact ⟨rfl,rfl⟩
set_option maxHeartbeats 1000000 in
set_option maxRecDepth 100000 in
theorem Tryz.check_fresh (b : Nat) (w : World) (h0 : w.cell? ⟨b,0,none⟩ = some (.pointer none)) (hsh : w.shape? b = some (84,2)) (hfz : w.frozen? ⟨b,0,none⟩ = false) :
   Calls Tryz.prog 94 #[.pointer (some ⟨b,0,none⟩)] w fun e w' => e = .returned (.tuple #[]) ∧ w' = w.setCell ⟨b,0,none⟩ (.pointer (some ⟨b,0,none⟩)) := by
 obtain ⟨j,hj,hjs⟩ := Option.map_eq_some_iff.1 (show (Tryz.prog.info? 84).map (·.size) = some 2 by kernel_rfl)
 go_enter Tryz.func94,Tryz.ntmps94
 go_wp2
 rw [Lib.run_to_unsafe w ⟨b,0,none⟩ Tryz.underlying82 Tryz.underlying160 hj (by rw [hjs]; decide) hsh (Nat.zero_lt_succ 1)]
 simp only [Result.andThen]
 rw [Oper.upon_value]
 go_wp2
 rw [run_callFunc_extern Tryz.func119 (by kernel_rfl) (by kernel_rfl) (by kernel_rfl) (e := Extern.AbiNoEscape.same) (by kernel_rfl)]
 rw [Lib.run_noEscape]
 simp only [Result.andThen]
 rw [Oper.upon_value]
 go_wp2
 rw [Lib.run_from_unsafe w ⟨b,0,none⟩ Tryz.underlying160 Tryz.underlying82 hj hsh (show liesAt Tryz.prog Tryz.prog.depth 84 (2 / Tryz.prog.cellsOf 84) 0 84 1 = true by kernel_rfl)]
 simp only [Result.andThen]
 rw [Oper.upon_value]
 go_wp2
 go_end0
 exact ⟨rfl,rfl⟩
end Go.Proofs

namespace Go.Proofs.YtofhaneggcpdaaaGreatDoor
open Go Go.Eng Go.RowKit
set_option maxRecDepth 100000
abbrev BdT : TypeId := 84
theorem elem_u8 : ElemT Tryz.prog 50 U8 1 1 := ⟨by kernel_rfl,by kernel_rfl,by decide⟩
def Bld (w : World) (B b : Nat) (l : Str) : Prop :=
 ∃ p v,w.heap[b]? = some (.cells [p,v].toArray BdT (0,0)) ∧ (p = .pointer none ∨ p = .pointer (some ⟨b,0,none⟩)) ∧ Own w B U8 1 v l.length (u8s l) ∧ B ≤ b
def BCh (w : World) (B b : Nat) (k : Nat) : Prop := k = b ∨ OwnS w B U8 k
theorem Bld.chg {S : Nat → Prop} {w w' : World} {B b : Nat} {l : Str} (h : Bld w B b l) (hc : Chg S w w') (hb : ¬ S b) (hS : ∀ k,OwnS w B U8 k → ¬ S k) : Bld w' B b l := by
 obtain ⟨p,v,h1,h2,h3,h4⟩ := h
 exact ⟨p,v,hc.at h1 hb,h2,h3.chg hc hS,h4⟩
theorem Bld.ext {w w' : World} {B b : Nat} {l : Str} (h : Bld w B b l) (hc : Ext w w') : Bld w' B b l := h.chg hc (fun e => e) fun _ _ e => e
theorem Bld.lt {w : World} {B b : Nat} {l : Str} (h : Bld w B b l) : b < w.heap.size := by
 obtain ⟨p,v,h1,_⟩ := h
 exact at_lt h1
theorem Bld.base {w : World} {B b : Nat} {l : Str} (h : Bld w B b l) : B ≤ b := by obtain ⟨p,v,_,_,_,h4⟩ := h; exact h4
theorem bd_ne {w : World} {B b : Nat} {p v : Value} (h1 : w.heap[b]? = some (.cells [p,v].toArray BdT (0,0))) : ¬ OwnS w B U8 b := by
 rintro ⟨_,c,hc⟩
 rw [h1] at hc
 simp only [Option.some.injEq,Obj.cells.injEq] at hc
 exact absurd hc.2.1 (by decide)
theorem BCh.trans {w w1 w2 : World} {B b : Nat} (h1 : Chg (BCh w B b) w w1) (h2 : Chg (BCh w1 B b) w1 w2) : Chg (BCh w B b) w w2 := by
 refine ⟨h2.os.trans h1.os,h2.tape.trans h1.tape,h2.output.trans h1.output,Nat.le_trans h1.size h2.size,fun k hk hn => ?_⟩
 have e1 := h1.heap k hk hn
 rw [← e1]
 refine h2.heap k (Nat.lt_of_lt_of_le hk h1.size) fun e => hn ?_
 rcases e with e | ⟨e2,c,e3⟩
 · exact .inl e
 · exact .inr ⟨e2,c,by rw [← e1]; exact e3⟩
theorem BCh.ext {w w1 w2 : World} {B b : Nat} (h1 : Chg (BCh w B b) w w1) (h2 : Ext w1 w2) : Chg (BCh w B b) w w2 := h1.then h2 fun _ _ e => e.elim
theorem BCh.from {w w1 w2 : World} {B b : Nat} (h1 : Ext w w1) (h2 : Chg (BCh w1 B b) w1 w2) : Chg (BCh w B b) w w2 := BCh.trans (Chg.of_ext h1) h2
theorem BCh.new {w0 w w' : World} {B b : Nat} (h0 : Ext w0 w) (hB : w0.heap.size ≤ B) (hb : B ≤ b) (h : Chg (BCh w B b) w w') : Ext w0 w' :=
 h0.then h fun k hk e => by
   rcases e with rfl | ⟨e,_⟩
   · omega
   · omega
theorem BCh.keep {w w' : World} {B b k : Nat} {c : Array Value} {T : TypeId} {fr : Nat × Nat} (h : Chg (BCh w B b) w w') (hk : w.heap[k]? = some (.cells c T fr)) (hb : k ≠ b) (hT : T ≠ U8) : w'.heap[k]? = some (.cells c T fr) :=
 h.at hk fun e => by
   rcases e with e | ⟨_,c',e⟩
   · exact hb e
   · rw [hk] at e
     simp only [Option.some.injEq,Obj.cells.injEq] at e
     exact hT e.2.1
theorem BCh.iter {w w' : World} {B b k p : Nat} {s : ByteArray} (h : Chg (BCh w B b) w w') (hk : w.heap[k]? = some (.stringIter s p)) (hb : k ≠ b) : w'.heap[k]? = some (.stringIter s p) :=
 h.at hk fun e => by
   rcases e with e | ⟨_,c',e⟩
   · exact hb e
   · rw [hk] at e; cases e
section
variable [HX]
theorem bnew {w : World} {B : Nat} {K : Value → World → Prop} (hB : B ≤ w.heap.size) (hK : ∀ b w',b = w.heap.size → Bld w' B b [] → Ext w w' → K (.pointer (some ⟨b,0,none⟩)) w') : allocW BdT [.pointer none,.slice none 0 0] w K :=
 alloc_new fun a w' ha hz hb hx => hK a w' ha ⟨_,_,hb,.inl rfl,⟨by simp [u8s],.inl ⟨rfl,rfl⟩⟩,by omega⟩ hx
theorem check_p {w : World} {B b : Nat} {l : Str} {K : Value → World → Prop} (h : Bld w B b l)
   (hK : ∀ v w',w'.heap[b]? = some (.cells [.pointer (some ⟨b,0,none⟩),v].toArray BdT (0,0)) → Own w' B U8 1 v l.length (u8s l) → w'.heap.size = w.heap.size → Chg (BCh w B b) w w' → K (.tuple #[]) w') :
   callF Tryz.prog 94 [.pointer (some ⟨b,0,none⟩)] w K := by
 obtain ⟨p,v,h1,h2,h3,h4⟩ := h
 have c0 : w.cell? ⟨b,0,none⟩ = some p := by rw [cell_eq,h1]; rfl
 rcases h2 with rfl | rfl
 · refine of_calls (args := #[.pointer (some ⟨b,0,none⟩)]) Tryz.call94 ((Tryz.check_fresh b w c0 (by simp [World.shape?,h1]) (by rw [frozen_eq,h1]; rfl)).mono ?_)
   rintro e w' ⟨rfl,rfl⟩
   refine ⟨_,rfl,hK v _ ?_ ?_ (size_set _ _ _) (Chg.set (Chg.refl _ _) (.inl (.inl rfl)) _)⟩
   · rw [heap_set_same,h1]; rfl
   · refine h3.chg (Chg.set (S := fun k => k = b) (Chg.refl _ _) (.inl rfl) _) fun k hk e => ?_
     subst e
     exact bd_ne h1 hk
 · refine of_calls (args := #[.pointer (some ⟨b,0,none⟩)]) Tryz.call94 ((Tryz.check_used b w c0).mono ?_)
   rintro e w' ⟨rfl,rfl⟩
   exact ⟨_,rfl,hK v _ h1 h3 rfl (Chg.refl _ _)⟩
theorem bstore {w w3 : World} {B b n : Nat} {l l' : Str} {v v' : Value} {K : World → Prop} (h1 : w.heap[b]? = some (.cells [.pointer (some ⟨b,0,none⟩),v].toArray BdT (0,0))) (hO : Own w B U8 1 v l.length (u8s l)) (hb : B ≤ b)
   (hc : Chg (fun k => v.ownBlock = some k) w w3) (hO' : Own w3 B U8 1 v' l'.length (u8s l')) (hK : ∀ w',Bld w' B b l' → Chg (BCh w B b) w w' → w'.heap.size = w3.heap.size → K w') :
   stW 1 (.pointer (some ⟨b,1,none⟩)) v' w3 K := by
 have hne : ¬ v.ownBlock = some b := fun e => bd_ne h1 (hO.block b e)
 have h3 := hc.at h1 hne
 have hsh : one1 v' = true := by obtain ⟨p,c,rfl,_⟩ := hO'.sl.shape; rfl
 refine st_at h3 hsh (by simp) fun w4 hz hb4 hc4 => ?_
 refine hK w4 ⟨.pointer (some ⟨b,0,none⟩),v',by rw [hb4]; simp,.inr rfl,hO'.chg hc4 fun k hk e => by subst e; exact bd_ne h3 hk,hb⟩ ?_ hz
 have s1 : Chg (BCh w B b) w w3 := hc.mono fun k _ e => .inr (hO.block k e)
 exact s1.then hc4 fun k _ e => .inl e
theorem wstr_p {w : World} {B b : Nat} {l s : Str} {K : Value → World → Prop} (h : Bld w B b l) (hB : B ≤ w.heap.size) (hl : l.length + s.length ≤ 140737488355328)
   (hK : ∀ v w',Bld w' B b (l ++ s) → Chg (BCh w B b) w w' → K v w') : callF Tryz.prog 65 [.pointer (some ⟨b,0,none⟩),str s] w K := by
 have hb := h.base
 refine W65_ok ?_
 unfold W65
 refine check_p h fun v w1 h1 hO hz hc => ?_
 rw [nil_ptr,fld_ptr,ld_one]
 refine ⟨v,by rw [add_mk,cell_eq,h1]; rfl,?_⟩
 obtain ⟨i,z,hi,hzr,h2,h3,h4⟩ := elem_u8.get
 have hz0 : i.zero = some (.int .u8 0) := by
   have : (Tryz.prog.info? U8).map (·.zero) = some (some (.int .u8 0)) := by kernel_rfl
   rw [hi] at this; simpa using this
 obtain ⟨v',w3,hr,hO',hg,_⟩ := Lib.run_append_own_string (P := Tryz.prog) w1 B 50 9 50 U8 i elem_u8.und (by kernel_rfl) hi hz0 h2 h3 v l.length (u8s l) hO (ofL s) (by rw [ofL_size]; unfold maxLen; omega) (by rw [ofL_size]; omega) (by omega)
 unfold semE
 rw [hr]
 dsimp only
 rw [nil_ptr,fld_ptr]
 have hO2 : Own w3 B U8 1 v' (l ++ s).length (u8s (l ++ s)) := by
   rw [u8s_app,List.length_append]
   have e1 : Lib.strCells (ofL s) = u8s s := by unfold Lib.strCells u8s; rw [ofL_data]
   rw [ofL_size,e1] at hO'
   exact hO'
 refine bstore (n := 0) h1 hO hb (Chg.of_grown hg fun k e => e) hO2 fun w4 hb4 hc4 _ => ?_
 rw [lens_str]
 exact hK _ w4 hb4 (BCh.trans hc hc4)
theorem row_u8 {w : World} {n : Nat} {K : Value → World → Prop} (hK : ∀ t w',SlAt w' U8 t 1 [.int .u8 (n : Int)] → Ext w w' → K t w') : bslW U8 1 [(.int .u8 0)] [(0,1,.int .u8 (n : Int))] w K := by
 rw [bslW]
 simp only [put_int,put_nil,List.length_cons,List.length_nil,List.set_cons_zero]
 refine ⟨by omega,?_⟩
 refine hK _ _ ⟨_,_,rfl,Nat.le_refl _,fun e => (by cases e),fun _ => ⟨_,_,_,_,rfl,heap_anew _ _ _ rfl,fun i _ => by rw [Nat.zero_add]; simp⟩⟩ (Chg.alloc (Chg.refl _ _) _)
theorem wbyte_p {w : World} {B b n : Nat} {l : Str} {K : Value → World → Prop} (h : Bld w B b l) (hB : B ≤ w.heap.size) (hl : l.length + 1 ≤ 140737488355328) (hn : n < 256)
   (hK : ∀ w',Bld w' B b (l ++ [UInt8.ofNat n]) → Chg (BCh w B b) w w' → K .nilIface w') : callF Tryz.prog 89 [.pointer (some ⟨b,0,none⟩),.int .u8 (n : Int)] w K := by
 have hb := h.base
 refine W89_ok ?_
 unfold W89
 refine check_p h fun v w1 h1 hO hz hc => ?_
 rw [nil_ptr,fld_ptr,ld_one]
 refine ⟨v,by rw [add_mk,cell_eq,h1]; rfl,?_⟩
 refine row_u8 fun t w2 ht hx2 => ?_
 refine append_own2 elem_u8 (hO.ext hx2) ht (m := 1) rfl (fun u hu => by simp only [List.mem_singleton] at hu; subst hu; rfl) (by omega) (by omega) (by have := hx2.size; omega) fun v' w3 hO3 hc3 _ => ?_
 rw [nil_ptr,fld_ptr]
 have hO2 : Own w3 B U8 1 v' (l ++ [UInt8.ofNat n]).length (u8s (l ++ [UInt8.ofNat n])) := by
   rw [u8s_app,List.length_append]
   have e1 : u8s [UInt8.ofNat n] = [.int .u8 (n : Int)] := by
     simp only [u8s,List.map_cons,List.map_nil,UInt8.toNat_ofNat']
     rw [Nat.mod_eq_of_lt (by omega)]
   rw [e1]
   exact hO3
 refine bstore (n := 0) (hx2.at h1 id) (hO.ext hx2) hb hc3 hO2 fun w4 hb4 hc4 _ => ?_
 exact hK w4 hb4 (BCh.trans hc (BCh.from hx2 hc4))
end
end Go.Proofs.YtofhaneggcpdaaaGreatDoor
