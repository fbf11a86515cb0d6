/- One plain sentence: weakest preconditions, contracts and plain laws that the claim rests on, text behind text. Conditions: those that each states. -/
import Derived.Test.YtofhaneggcpdaaaDoorPJ3
import Derived.Test.YtofhaneggcpdaaaDoorPJ1
set_option linter.all false
set_option linter.unusedSimpArgs false
set_option linter.unusedVariables false
set_option linter.unusedSectionVars false
namespace Go.Proofs.YtofhaneggcpdaaaDoor
open Go Go.Eng Go.RowKit Go.Syn Go.Lex
set_option maxRecDepth 100000
theorem as_diag (v : Value) (w : World) : (Instr.typeAssert (.iface DT v) 20 DT false).run Tryd.prog w = .ok v w := by kernel_rfl
theorem nil_idle (w : World) (K : Value → Prop) : eqQ Tryd.prog .neq 20 false true .nilIface .nilIface w K ↔ K (.bool false) := by
 have h : (do eqGuard .neq 20 (stand false) (stand true) .nilIface .nilIface; binOp .neq 20 .nilIface .nilIface : Sem Value).run Tryd.prog w = .ok (.bool false) w := by kernel_rfl
 unfold eqQ semQ
 rw [h]
 exact ⟨fun ⟨v,h1,h2⟩ => by cases h1; exact h2,fun h2 => ⟨_,rfl,h2⟩⟩
theorem nil_thrown (v : Value) (w : World) (K : Value → Prop) : eqQ Tryd.prog .neq 20 false true (.iface DT v) .nilIface w K ↔ K (.bool true) := by
 have h : (do eqGuard .neq 20 (stand false) (stand true) (.iface DT v) .nilIface; binOp .neq 20 (.iface DT v) .nilIface : Sem Value).run Tryd.prog w = .ok (.bool true) w := by kernel_rfl
 unfold eqQ semQ
 rw [h]
 exact ⟨fun ⟨v,h1,h2⟩ => by cases h1; exact h2,fun h2 => ⟨_,rfl,h2⟩⟩
theorem rec_idle {a b : Value} {w : World} {K : World → Prop} (hK : K w) : DefC Tryd.prog 16 [a,b] .returning w K := by
 letI := noX
 refine R16_ok .idle ?_
 unfold R16
 rw [nil_idle,condW_false]
 exact hK
theorem rec_thrown {a b d : Nat} {cs : List Value} {v : Value} {Ta Tb : TypeId} {w : World} {K : World → Prop} (ha : w.heap[a]? = some (.cells cs.toArray Ta (0,0))) (hl : cs.length = 3) (hb : w.heap[b]? = some (.cells [v].toArray Tb (0,0))) (hab : a ≠ b)
   (hK : ∀ w',Chg (fun k => k = a ∨ k = b) w w' → w'.heap[a]? = some (.cells [.slice none 0 0,.slice none 0 0,.slice none 0 0].toArray Ta (0,0)) → w'.heap[b]? = some (.cells [.pointer (some ⟨d,0,none⟩)].toArray Tb (0,0)) → K w') :
   DefC Tryd.prog 16 [.pointer (some ⟨a,0,none⟩),.pointer (some ⟨b,0,none⟩)] (.panicking [{ v := .iface DT (.pointer (some ⟨d,0,none⟩)),recovered := false }]) w K := by
 letI := noX
 refine R16_ok (.thrown _) ?_
 unfold R16
 rw [nil_thrown,condW_true,put_nil]
 refine ⟨_,as_diag _ _,?_⟩
 refine st_agg_at (l := [.slice none 0 0,.slice none 0 0,.slice none 0 0]) (w := w.drew) ha rfl hl rfl fun w2 hz2 ha2 hc2 => ?_
 refine ⟨⟨_,as_diag _ _,rfl⟩,?_⟩
 have hb2 := hc2.at (w := w.drew) hb (fun e => hab e.symm)
 refine st_at hb2 rfl (by simp) fun w3 hz3 hb3 hc3 => ?_
 refine hK w3 ?_ (hc3.at ha2 hab) (by rw [hb3]; simp)
 exact ((Chg.drew (Chg.refl _ w)).trans (hc2.mono fun k _ e => .inl e)).trans (hc3.mono fun k _ e => .inr e)
structure FO (w : World) (B : Nat) (M : Lay) (fl : Fl) : Prop where
 oE : Own w B ExT 5 M.vE fl.ex.length M.cE
 oB : Own w B BkT 5 M.vB fl.bl.length M.cB
 oT : Own w B IntT 1 M.vT fl.top.length (ints fl.top)
 ee : RowsR (ExR w B) 5 fl.ex M.cE
 bb : RowsR (BkR w B) 5 fl.bl M.cB
 nd : (ub ([M.vE,M.vB,M.vT] ++ (M.cE ++ M.cB))).Nodup
 lt : ∀ k ∈ ub ([M.vE,M.vB,M.vT] ++ (M.cE ++ M.cB)),k < w.heap.size
 lo : ∀ k ∈ ub ([M.vE,M.vB,M.vT] ++ (M.cE ++ M.cB)),B ≤ k
theorem FR.out {w : World} {B f : Nat} {M : Lay} {ex : List Ex} {bl : List Blk} {top : List Nat} (h : FR w B f M ex bl top) : FO w B M ⟨ex,bl,top⟩ := by
 have hn := h.nd
 unfold Lay.uses at hn
 rw [List.nodup_cons] at hn
 exact ⟨h.oE,h.oB,h.oT,h.ee,h.bb,hn.2,fun k hk => h.lt k (List.mem_cons_of_mem _ hk),fun k hk => (h.lo k (List.mem_cons_of_mem _ hk)).resolve_left fun e => hn.1 (e ▸ hk)⟩
theorem FO.keep {S : Nat → Prop} {w w' : World} {B : Nat} {M : Lay} {fl : Fl} (h : FO w B M fl) (hc : Chg S w w') (hS : ∀ k,B ≤ k → k < w.heap.size → k ∈ ub ([M.vE,M.vB,M.vT] ++ (M.cE ++ M.cB)) → ¬ S k) : FO w' B M fl := by
 have hu : ∀ v ∈ [M.vE,M.vB,M.vT] ++ (M.cE ++ M.cB),∀ k,v.ownBlock = some k → ¬ S k := fun v hv k hk => hS k (h.lo k (ub_mem hv hk)) (h.lt k (ub_mem hv hk)) (ub_mem hv hk)
 refine ⟨own_at h.oE hc (hu _ (by simp)),own_at h.oB hc (hu _ (by simp)),own_at h.oT hc (hu _ (by simp)),?_,?_,h.nd,fun k hk => Nat.lt_of_lt_of_le (h.lt k hk) hc.size,h.lo⟩
 · refine h.ee.imp fun x d hd hx => hx.at_ hc fun k hk => ?_
   obtain ⟨v,hv,hk⟩ := List.mem_filterMap.1 hk
   exact hu v (by simp [hd v hv]) k hk
 · refine h.bb.imp fun x d hd hx => hx.at_ hc fun k hk => ?_
   obtain ⟨v,hv,hk⟩ := List.mem_filterMap.1 hk
   exact hu v (by simp [hd v hv]) k hk
theorem ExR.low {w : World} {B B' : Nat} {e : Ex} {d : List Value} (h : ExR w B e d) (hb : B' ≤ B) : ExR w B' e d := by
 obtain ⟨va,vk,e1,h1,h2⟩ := h
 exact ⟨va,vk,e1,h1.base hb,h2.base hb⟩
theorem BkR.low {w : World} {B B' : Nat} {e : Blk} {d : List Value} (h : BkR w B e d) (hb : B' ≤ B) : BkR w B' e d := by
 obtain ⟨vl,va,vk,e1,h1,h2,h3⟩ := h
 exact ⟨vl,va,vk,e1,h1.base hb,h2.base hb,h3.base hb⟩
theorem FO.low {w : World} {B B' : Nat} {M : Lay} {fl : Fl} (h : FO w B M fl) (hb : B' ≤ B) : FO w B' M fl :=
 ⟨h.oE.base hb,h.oB.base hb,h.oT.base hb,h.ee.imp fun x d _ hx => hx.low hb,h.bb.imp fun x d _ hx => hx.low hb,h.nd,h.lt,fun k hk => Nat.le_trans hb (h.lo k hk)⟩
section
variable {w0 w w1 w2 : World} {p f : Nat} {M : Lay} {vt : Value} {s : PS} {top : List Nat}
theorem uses_T (M : Lay) (f : Nat) : (M.uses f).Perm (f :: (ub [M.vT] ++ ub ([M.vE,M.vB] ++ (M.cE ++ M.cB)))) := by
 rw [List.perm_iff_count]
 intro a
 unfold Lay.uses
 simp only [ub_app,List.count_append,List.count_cons]
 rw [ub_cons M.vE,ub_cons M.vB,ub_cons M.vE [M.vB]]
 simp only [List.count_append]
 omega
theorem PR.putT (h : PR w0 w p f M vt s top) {x : Nat} {v' : Value} (hO : Own w1 w0.heap.size IntT 1 v' (top.length + 1) (ints top ++ [i64 (x : Nat)])) (hc1 : Chg (fun k => M.vT.ownBlock = some k) w w1) (hv : ∀ k,v'.ownBlock = some k → M.vT.ownBlock = some k ∨ w.heap.size ≤ k)
   (hc2 : Chg (One f) w1 w2) (hf : w2.heap[f]? = some (.cells [M.vE,M.vB,v'].toArray FlT (0,0))) : PR w0 w2 p f { M with vT := v' } vt s (top ++ [x]) := by
 have hb := h.base
 have pT := uses_T M f
 have use : ∀ k,M.vT.ownBlock = some k → k ∈ M.uses f := fun k hk => List.mem_cons_of_mem _ (ub_mem (v := M.vT) (by simp) hk)
 have hnd0 := pT.nodup_iff.1 h.fr.nd
 have hnd := hnd0
 rw [List.nodup_cons,List.nodup_append] at hnd
 obtain ⟨nf,_,nb,nab⟩ := hnd
 have inU : ∀ k ∈ ub ([M.vE,M.vB] ++ (M.cE ++ M.cB)),k ∈ M.uses f := fun k hk => pT.mem_iff.2 (List.mem_cons_of_mem _ (List.mem_append_right _ hk))
 have rest : ∀ k ∈ ub ([M.vE,M.vB] ++ (M.cE ++ M.cB)),M.vT.ownBlock ≠ some k ∧ k ≠ f ∧ k < w.heap.size := fun k hk =>
   ⟨fun e => nab k (ub_one.2 e) k hk rfl,fun e => nf (e ▸ List.mem_append_right _ hk),h.fr.lt k (inU k hk)⟩
 have c12 : Chg (fun k => M.vT.ownBlock = some k ∨ k = f) w w2 := (hc1.mono fun k _ e => .inl e).trans (hc2.mono fun k _ e => .inr e)
 have sub : ∀ v ∈ [M.vE,M.vB] ++ (M.cE ++ M.cB),∀ k,v.ownBlock = some k → ¬ (M.vT.ownBlock = some k ∨ k = f) := fun v hv k hk e => by
   have := rest k (ub_mem hv hk)
   exact e.elim this.1 this.2.1
 have hOf : ∀ k,v'.ownBlock = some k → k ≠ f := fun k hk e => by
   subst e
   rcases hv k hk with e | e
   · exact nf (List.mem_append_left _ (ub_one.2 e))
   · have := at_lt h.fr.hf; omega
 have nE : M.vT.ownBlock ≠ some p := fun e => h.np (use p e)
 have pf : p ≠ f := fun e => h.np (e ▸ List.mem_cons_self)
 have perm := uses_T { M with vT := v' } f
 have hN : (f :: (ub [v'] ++ ([] ++ ub ([M.vE,M.vB] ++ (M.cE ++ M.cB))))).Nodup := nd_grow (n := w.heap.size) (a := ub [M.vT]) hnd0 (fun k hk => h.fr.lt k (pT.mem_iff.2 hk)) (ub_nodup1 _) (fun k hk => (hv k (ub_one.1 hk)).imp (fun e => ub_one.2 e) id) List.nodup_nil fun k hk => by cases hk
 have hz := c12.size
 have mem : ∀ k ∈ ({ M with vT := v' } : Lay).uses f,k = f ∨ v'.ownBlock = some k ∨ k ∈ ub ([M.vE,M.vB] ++ (M.cE ++ M.cB)) := fun k hk => by
   have hk := perm.mem_iff.1 hk
   rcases List.mem_cons.1 hk with e | e
   · exact .inl e
   rcases List.mem_append.1 e with e | e
   · exact .inr (.inl (ub_one.1 e))
   · exact .inr (.inr e)
 refine ⟨?_,⟨hf,?_,?_,?_,?_,?_,perm.nodup_iff.2 hN,fun k hk => ?_,fun k hk => ?_⟩,?_,?_,fun e => ?_,h.lo,fun k hk => ?_⟩
 · refine h.ch.then c12 fun k hk e => ?_
   rcases e with e | e
   · exact (h.fr.lo k (use k e)).resolve_right (by omega)
   · exact e
 · exact own_at h.fr.oE c12 (sub _ (by simp))
 · exact own_at h.fr.oB c12 (sub _ (by simp))
 · rw [List.length_append,List.length_cons,List.length_nil,ints_app]
   exact own_at hO hc2 fun k hk e => hOf k hk e
 · refine h.fr.ee.imp fun x d hd hx => hx.at_ c12 fun k hk => ?_
   obtain ⟨v,hv,hk⟩ := List.mem_filterMap.1 hk
   exact sub v (by simp [hd v hv]) k hk
 · refine h.fr.bb.imp fun x d hd hx => hx.at_ c12 fun k hk => ?_
   obtain ⟨v,hv,hk⟩ := List.mem_filterMap.1 hk
   exact sub v (by simp [hd v hv]) k hk
 · rcases mem k hk with e | e | e
   · rw [e]; exact at_lt hf
   · exact Nat.lt_of_lt_of_le (own_lt hO e).1 hc2.size
   · exact Nat.lt_of_lt_of_le (rest k e).2.2 hz
 · rcases mem k hk with e | e | e
   · exact .inl e
   · exact .inr (own_lt hO e).2
   · exact h.fr.lo k (inU k e)
 · exact c12.at h.ps fun e => e.elim nE pf
 · exact slat_at h.tk c12 fun k hk e => by
     have := (h.nt k hk).1
     rcases e with e | e
     · exact this (use k e)
     · exact this (e ▸ List.mem_cons_self)
 · rcases mem p e with e | e | e
   · exact pf e
   · exact (hv p e).elim nE fun e => by have := h.lt; omega
   · exact h.np (inU p e)
 · have ht := h.nt k hk
   refine ⟨fun e => ?_,ht.2.1,Nat.lt_of_lt_of_le ht.2.2 hz⟩
   rcases mem k e with e | e | e
   · exact ht.1 (e ▸ List.mem_cons_self)
   · exact (hv k e).elim (fun e => ht.1 (use k e)) fun e => by omega
   · exact ht.1 (inU k e)
end
def TabI (w : World) : Prop := ∃ m,w.cell? ⟨0,0,none⟩ = some (.int .i64 m)
section
variable [HX]
def ScanP : Prop := ∀ (w : World) (K : Value → World → Prop) (s : Str),TabI w → s.length ≤ 1000000 →
 (∀ l,scanM s = .ok l → ∀ v w',Ext w w' → SlAt w' TkT v l.length (toks l) → (∀ k,v.ownBlock = some k → w.heap.size ≤ k ∧ k < w'.heap.size) → K (.tuple #[v,.pointer none]) w') →
 (∀ c a,scanM s = .bad c a → ∀ d w',Ext w w' → w.heap.size ≤ d → w'.heap[d]? = some (.cells [i64 c,str [],i64 a].toArray 34 (0,0)) → K (.tuple #[.slice none 0 0,.pointer (some ⟨d,0,none⟩)]) w') →
 callF Tryd.prog 15 [str s] w K
end
theorem TabI.chg {w w' : World} {f : Nat} {cs : List Value} (h : TabI w) (hc : Chg (Of f) w w') (hf : w.heap[f]? = some (.cells cs.toArray FlT (0,0))) (h0 : ∀ m,cs[0]? ≠ some (.int .i64 m)) : TabI w' := by
 obtain ⟨m,h⟩ := h
 refine ⟨m,?_⟩
 rw [cell_eq] at h ⊢
 cases hx : w.heap[0]? with
 | none => rw [hx] at h; cases h
 | some o =>
   rw [hc.at hx ?_]
   · rw [hx] at h; exact h
   · intro e
     have e : 0 = f := e
     subst e
     rw [hf,cellO_some] at h
     exact h0 m (by simpa using h)
theorem parse_p [HX] (hS : ∀ [HX],ScanP) {t : Str} {w : World} {K : Value → World → Prop} (hT : TabI w) (hl : t.length ≤ 1000000)
   (hok : ∀ fl,parseM t = .ok fl → ∀ M w',Ext w w' → FO w' w.heap.size M fl → (fl.ex.length ≤ 100000 ∧ fl.bl.length ≤ 100000 ∧ fl.top.length ≤ 100000) → K (.tuple #[.agg [M.vE,M.vB,M.vT].toArray,.pointer none]) w')
   (hbad : ∀ c a,parseM t = .bad c a → ∀ d w',Ext w w' → w.heap.size ≤ d → w'.heap[d]? = some (.cells [i64 c,str [],i64 a].toArray 34 (0,0)) → K (.tuple #[.agg [.slice none 0 0,.slice none 0 0,.slice none 0 0].toArray,.pointer (some ⟨d,0,none⟩)]) w') :
   callF Tryd.prog 10 [str t] w K := by
 refine W10_ok ?_
 unfold W10
 refine alloc_new fun f w1 hf hz1 hbb1 hx1 => ?_
 refine alloc_new fun bd w2 hbd hz2 hbb2 hx2 => ?_
 have hx02 := hx1.trans hx2
 have hf2 := hx2.at hbb1 id
 have hT2 : TabI w2 := by
   obtain ⟨m,h⟩ := hT
   refine ⟨m,?_⟩
   rw [cell_eq] at h ⊢
   cases hx : w.heap[0]? with
   | none => rw [hx] at h; cases h
   | some o => rw [hx02.at hx id]; rw [hx] at h; exact h
 unfold parseM at hok hbad
 refine hS w2 _ t hT2 hl (fun l hsc v w3 hx3 hv hvn => ?_) (fun c a hsc d w3 hx3 hd hdb => ?_)
 · rw [ext_tuple]
   refine ⟨v,rfl,?_⟩
   rw [ext_tuple]
   refine ⟨.pointer none,rfl,?_⟩
   have hbd3 := hx3.at hbb2 id
   have hf3 := hx3.at hf2 id
   refine st_at hbd3 rfl (by simp) fun w4 hz4 hbb4 hc4 => ?_
   have hbb4 : w4.heap[bd]? = some (.cells [.pointer none].toArray 29 (0,0)) := by rw [hbb4]; simp
   have hf4 := hc4.at hf3 (by omega)
   refine ⟨.pointer none,by rw [cell_eq,hbb4]; rfl,?_⟩
   show condW (.bool false) _ _
   rw [condW_false]
   have hx4 : Ext w w4 := (hx02.trans hx3).new (hc4.mono fun k _ e => e) (by omega)
   have hlt4 := at_lt hf4
   -- behind the deferral
   have hT4 : TabI w4 := by
     obtain ⟨m,h⟩ := hT
     refine ⟨m,?_⟩
     rw [cell_eq] at h ⊢
     cases hx : w.heap[0]? with
     | none => rw [hx] at h; cases h
     | some o => rw [hx4.at hx id]; rw [hx] at h; exact h
   have hv4 : SlAt w4 TkT v l.length (toks l) := slat_at hv hc4 fun k hk e => by have := (hvn k hk).1; have e : k = bd := e; omega
   letI inst : HX := ⟨fun ch x10 => DefC Tryd.prog 16 [.pointer (some ⟨f,0,none⟩),.pointer (some ⟨bd,0,none⟩)] (.panicking ch) x10 fun w10 =>
       ldW true 3 (.pointer (some ⟨f,0,none⟩)) w10 fun r11 =>
       ldW false 1 (.pointer (some ⟨bd,0,none⟩)) w10 fun r12 =>
       K (.tuple #[r11,r12]) w10⟩
   have hSC : ScanC w4 f := fun w' KK s hc hsl h1 h2 => hS w' KK s (hT4.chg hc hf4 (by simp)) hsl h1 h2
   have hThr : ∀ c a,(∀ d w',Ext w w' → w.heap.size ≤ d → w'.heap[d]? = some (.cells [i64 c,str [],i64 a].toArray 34 (0,0)) → K (.tuple #[.agg [.slice none 0 0,.slice none 0 0,.slice none 0 0].toArray,.pointer (some ⟨d,0,none⟩)]) w') → Thr w4 f c a := by
     intro c a hb d w' cs hc hd hcs hcf hdb
     have hzc := hx4.size
     refine rec_thrown hcf hcs (hc.at hbb4 (by show ¬ bd = f; omega)) (by omega) fun w5 hc5 ha5 hb5 => ?_
     refine ld_all ha5 rfl ?_
     refine ⟨_,by rw [cell_eq,hb5]; rfl,?_⟩
     have hd' : w4.heap.size ≤ d := hd
     have hzx3 := hx3.size
     refine hb d w5 ?_ (by omega) (hc5.at hdb (by show ¬ (d = f ∨ d = bd); omega))
     refine (hx4.then hc fun k hk e => ?_).then hc5 fun k hk e => ?_
     · have e : k = f := e; omega
     · omega
   obtain ⟨q,cap,ev,_⟩ := hv.shape
   subst ev
   simp only [put_slice,put_int,put_ptr,put_nil,List.length_cons,List.length_nil,List.set_cons_zero,List.set_cons_succ,Nat.reduceAdd,Nat.reduceLT,true_and,Nat.zero_lt_succ]
   refine box_new (z := [.slice q l.length cap,i64 0,i64 0,.pointer (some ⟨f,0,none⟩),i64 0,.bool false]) fun p w5 hp hz5 hpb hx5 => ?_
   have hzx3 := hx3.size
   have hf5 := hx5.at hf4 id
   have hbd5 := hx5.at hbb4 id
   let M0 : Lay := ⟨.slice none 0 0,.slice none 0 0,.slice none 0 0,[],[]⟩
   have huse : M0.uses f = [f] := rfl
   have hPR : PR w4 w5 p f M0 (.slice q l.length cap) ⟨l,0,0,0,false,[],[]⟩ [] :=
     ⟨Chg.of_ext hx5,⟨hf5,⟨by simp [M0],.inl ⟨rfl,rfl⟩⟩,⟨by simp [M0],.inl ⟨rfl,rfl⟩⟩,⟨by simp [ints],.inl ⟨rfl,rfl⟩⟩,RowsR.nil _ _,RowsR.nil _ _,by rw [huse]; simp,by rw [huse]; intro k hk; simp only [List.mem_singleton] at hk; omega,by rw [huse]; intro k hk; simp only [List.mem_singleton] at hk; exact .inl hk⟩,
       hpb,hv4.ext hx5,by rw [huse]; simp only [List.mem_singleton]; omega,by omega,fun k hk => by
         have hb := hvn k hk
         rw [huse]
         simp only [List.mem_singleton]
         omega⟩
   have htg := scan_tg (N := (t.length : Nat)) (off := 0) hsc (Int.le_refl _) (by omega)
   have hfew := scan_few hsc
   have hwt := scan_wt hsc
   have hg0 : Gd (t.length : Nat) ⟨l,0,0,0,false,[],[]⟩ 24 := ⟨⟨htg,List.length_pos_iff.2 htg.ne,by omega⟩,by omega,hfew.1,scan_ts hsc,by unfold Syn.phi; simp only [List.length_nil,List.drop_zero]; omega,rfl⟩
   rw [hsc] at hok hbad
   simp only at hok hbad
   have hN := hg0.hN
   refine lines_p hPR hg0.ws hN hg0.l fun w6 h6 he6 => ?_
   have hg1 := hg0.lines
   have et1 := congrArg List.length (lines_go hg0.ws).1.toks
   generalize hR : topF (l.length + 1) (linesS ⟨l,0,0,0,false,[],[]⟩) [] = R0 at hok hbad
   have hbdk : ∀ {w' : World},Chg (Of f) w4 w' → w'.heap[bd]? = some (.cells [.pointer none].toArray 29 (0,0)) := fun hc => hc.at hbb4 (by show ¬ bd = f; omega)
   refine LoopW.go (fun st w' => st = [] ∧ ∃ s1 M1 top n,PR w4 w' p f M1 (.slice q l.length cap) s1 top ∧ Gd (t.length : Nat) s1 24 ∧ topF n s1 top = R0 ∧ s1.toks.length < n + s1.i ∧ top.length ≤ s1.i ∧ s1.toks.length = l.length) (fun _ w' => l.length - psAt w' p)
     ⟨rfl,_,M0,[],l.length + 1,h6,hg1,hR,by rw [et1]; show l.length < _; omega,by simp,by rw [et1]⟩ ?_
   rintro st g w7 ⟨rfl,s1,M1,top,n,h7,hg7,htop,hn,htl,htk⟩
   have hlt7 := hg7.ws.lt
   obtain ⟨n,rfl⟩ : ∃ m,n = m + 1 := ⟨n - 1,by omega⟩
   simp only [topF] at htop
   have hgn := hg7.now
   have ng := now_go hg7.ws
   have ngt := congrArg List.length ng.toks
   have ngi := ng.le
   refine now_p h7 hg7.ws hN hg7.l fun w8 h8 he8 => ?_
   refine ⟨i64 (cur s1).k,rfl,?_⟩
   dsimp only
   rw [bin_neq,condW_dec]
   refine ⟨fun hk0 => ?_,fun hk0 => ?_⟩
   · have hk0 : (cur s1).k ≠ 0 := hk0
     rw [if_neg hk0] at htop
     have h8 := h8.drew
     rw [fld_ptr,ld_one]
     refine ⟨M1.vT,by rw [add_mk,cell_eq,h8.fr.hf,cellO_some]; rfl,?_⟩
     refine blockD_p hSC 24 w8.drew p M1 _ _ top _ _ h8 hgn (fun x s2 ex M2 w9 h9 he9 => ?_) fun c a' ex => hThr c a' (hbad c a' (by rw [← htop,ex]; rfl))
     rw [ex] at htop
     simp only [R.bind] at htop
     obtain ⟨hg9,hi9,ht9⟩ := hgn.bk (fine_blockD 24) ex
     have ht9 := congrArg List.length ht9
     have eT := he9.hT
     have ldT : ∀ {w' : World},w'.heap[f]? = some (.cells [M2.vE,M2.vB,M2.vT].toArray FlT (0,0)) → ldW false 1 (.pointer (some ((⟨f,0,none⟩ : Addr).add 2))) w' fun x => x = M1.vT := fun h => by
       rw [ld_one]; exact ⟨M2.vT,by rw [add_mk,cell_eq,h,cellO_some]; rfl,eT⟩
     refine ⟨ldT h9.fr.hf,?_⟩
     refine bsl_int1 fun r w10 hr hz10 hrb hx10 => ?_
     have h10 := h9.ext hx10
     refine ⟨ldT h10.fr.hf,?_⟩
     have few := hg7.few
     have hzx := hx10.size
     have nF : ¬ M2.vT.ownBlock = some f := fun e => by
       have hnd := (uses_T M2 f).nodup_iff.1 h10.fr.nd
       rw [List.nodup_cons] at hnd
       exact hnd.1 (List.mem_append_left _ (ub_one.2 e))
     rw [← eT]
     refine append_own3 el_int h10.fr.oT (slat_new' (n := 1) (T := IntT) hrb) rfl (fun u hu => by simp only [List.mem_singleton] at hu; subst hu; rfl) (by omega) (by omega) h10.base fun v' w11 hO11 hc11 hv11 => ?_
     have hf11 := hc11.at h10.fr.hf nF
     rw [fld_ptr,add_mk,Nat.zero_add]
     obtain ⟨vp,vc,ev,_⟩ := hO11.sl.shape
     refine st_at hf11 (by rw [ev]; rfl) (by simp) fun w12 hz12 hf12 hc12 => ?_
     have h12 := h10.putT (w1 := w11) (w2 := w12) (x := x) hO11 hc11 hv11 hc12 (by rw [hf12]; simp)
     have hg10 := hg9.now
     have ng9 := now_go hg9.ws
     have ng9t := congrArg List.length ng9.toks
     have ng9i := ng9.le
     refine JoinW.cut (fun _ w' => PR w4 w' p f { M2 with vT := v' } (.slice q l.length cap) (nowS s2) (top ++ [x]) ∧ topF n (linesS (nowS s2)) (top ++ [x]) = R0) ?_ ?_
     · refine now_p h12 hg9.ws hN hg9.l fun w13 h13 he13 => ?_
       refine ⟨i64 (cur s2).k,rfl,?_⟩
       dsimp only
       rw [bin_neq]
       simp only [isB_t,bin_neq,GdW_pure]
       intro g2
       simp only [List.getD_cons_zero]
       rw [pick_gd_and,condW_b]
       refine ⟨fun hb => ?_,fun hb => ?_⟩
       · have hb : (cur s2).k ≠ 5 ∧ (cur s2).k ≠ 0 := by simpa using hb
         rw [if_pos hb] at htop
         refine now_p h13 hg10.ws hN hg10.l fun w14 h14 he14 => ?_
         refine ⟨i64 (cur (nowS s2)).a,rfl,?_⟩
         exact fail_p h14 (hThr 50 _ (hbad 50 _ (by rw [← htop])))
       · have hb : ¬ ((cur s2).k ≠ 5 ∧ (cur s2).k ≠ 0) := by simpa using hb
         rw [if_neg hb] at htop
         exact ⟨h13,htop⟩
     rintro _ g2 w13 ⟨h13,htop⟩
     refine lines_p h13 hg10.ws hN hg10.l fun w14 h14 he14 => ?_
     have lg := lines_go hg10.ws
     have lgt := congrArg List.length lg.1.toks
     have lgi := lg.1.le
     have hgl := hg10.lines
     have hltl := hgl.ws.lt
     refine ⟨⟨rfl,linesS (nowS s2),_,top ++ [x],n,h14,hgl,htop,by omega,by rw [List.length_append,List.length_cons,List.length_nil]; omega,by omega⟩,?_⟩
     rw [h14.at_,h7.at_]; omega
   · have hk0 : (cur s1).k = 0 := by
       by_cases h : (cur s1).k = 0
       · exact h
       · exact absurd h hk0
     rw [if_pos hk0] at htop
     refine ld_all h8.fr.hf rfl ?_
     obtain ⟨ep,ec,e1,_⟩ := h8.fr.oE.sl.shape
     obtain ⟨bp,bc,e2,_⟩ := h8.fr.oB.sl.shape
     obtain ⟨tp,tc,e3,_⟩ := h8.fr.oT.sl.shape
     refine st_agg_at (l := [M1.vE,M1.vB,M1.vT]) h8.fr.hf rfl rfl (by rw [e1,e2,e3]; rfl) fun w9 hz9 hf9 hc9 => ?_
     have hc49 : Chg (Of f) w4 w9 := h8.ch.trans (hc9.mono fun k _ e => e)
     refine st_at (hbdk hc49) rfl (by simp) fun w10 hz10 hbd10 hc10 => ?_
     have hf10 := hc10.at hf9 (by omega)
     refine rec_idle ?_
     refine ld_all hf10 rfl ?_
     refine ⟨.pointer none,by rw [cell_eq,hbd10]; rfl,?_⟩
     have hFO := h8.fr.out
     have hFO := hFO.keep hc9 fun k hk hlt hu e => by have e : k = f := e; omega
     have hFO := hFO.keep hc10 fun k hk hlt hu e => by have e : k = bd := e; omega
     have hzc := hx4.size
     rw [← htop] at hok
     have few := hg7.few
     refine hok _ rfl M1 w10 ?_ (hFO.low hzc) ⟨hgn.ex.1,hgn.ex.2,by show top.length ≤ _; omega⟩
     refine (hx4.then hc49 fun k hk e => ?_).then hc10 fun k hk e => ?_
     · have e : k = f := e; omega
     · have e : k = bd := e; omega
 · rw [ext_tuple]
   refine ⟨.slice none 0 0,rfl,?_⟩
   rw [ext_tuple]
   refine ⟨.pointer (some ⟨d,0,none⟩),rfl,?_⟩
   have hbd3 := hx3.at hbb2 id
   have hf3 := hx3.at hf2 id
   refine st_at hbd3 rfl (by simp) fun w4 hz4 hbb4 hc4 => ?_
   have hbb4 : w4.heap[bd]? = some (.cells [.pointer (some ⟨d,0,none⟩)].toArray 29 (0,0)) := by rw [hbb4]; simp
   have hf4 := hc4.at hf3 (by omega)
   refine ⟨.pointer (some ⟨d,0,none⟩),by rw [cell_eq,hbb4]; rfl,?_⟩
   show condW (.bool true) _ _
   rw [condW_true,put_nil]
   refine ⟨.pointer (some ⟨d,0,none⟩),by rw [cell_eq,heap_drew,hbb4]; rfl,?_⟩
   refine st_agg_at (w := w4.drew) (l := [.slice none 0 0,.slice none 0 0,.slice none 0 0]) hf4 rfl rfl rfl fun w5 hz5 hf5 hc5 => ?_
   have hbb5 := hc5.at (w := w4.drew) hbb4 (by omega)
   refine ⟨⟨.pointer (some ⟨d,0,none⟩),by rw [cell_eq,hbb5]; rfl,rfl⟩,?_⟩
   refine st_at hbb5 rfl (by simp) fun w6 hz6 hbb6 hc6 => ?_
   have hf6 := hc6.at hf5 (by omega)
   refine ld_all hf6 rfl ?_
   refine ⟨.pointer (some ⟨d,0,none⟩),by rw [cell_eq,hbb6]; rfl,?_⟩
   have hx3' := hx02.trans hx3
   have hd4 := hc4.at hdb (by omega)
   have hd5 := hc5.at (w := w4.drew) hd4 (by omega)
   refine hbad c a (by rw [hsc]) d w6 ?_ (by omega) (hc6.at hd5 (by omega))
   exact (((hx3'.new hc4 (by omega)).trans (ext_drew w4)).new hc5 (by omega)).new hc6 (by omega)
end Go.Proofs.YtofhaneggcpdaaaDoor
namespace Go.Proofs.YtofhaneggcpdaaaDoor
open Go Go.Eng Go.RowKit Go.Syn Go.Lex
set_option maxRecDepth 100000
abbrev cv (c : UInt8) : Value := .int .u8 (c.toNat : Nat)
theorem le_nat (a c : UInt8) : decide (((a.toNat : Nat) : Int) ≤ ((c.toNat : Nat) : Int)) = decide (a ≤ c) := by
 rw [decide_eq_decide,UInt8.le_iff_toNat_le]; omega
theorem eq_nat (a c : UInt8) : decide (((c.toNat : Nat) : Int) = ((a.toNat : Nat) : Int)) = (c == a) := by
 rw [Bool.eq_iff_iff,decide_eq_true_iff,beq_iff_eq,← UInt8.toNat_inj]; omega
section
variable [HX]
theorem letter_p {c : UInt8} {w : World} {K : Value → World → Prop} (hK : K (.bool (isLetter c)) w) : callF Tryd.prog 39 [cv c] w K := by
 refine W39_ok ?_
 unfold W39
 have e1 : decide ((97 : Int) ≤ ((c.toNat : Nat) : Int)) = decide (97 ≤ c) := le_nat 97 c
 have e2 : decide (((c.toNat : Nat) : Int) ≤ 122) = decide (c ≤ 122) := le_nat c 122
 have e3 : decide ((65 : Int) ≤ ((c.toNat : Nat) : Int)) = decide (65 ≤ c) := le_nat 65 c
 have e4 : decide (((c.toNat : Nat) : Int) ≤ 90) = decide (c ≤ 90) := le_nat c 90
 have e5 : decide (((c.toNat : Nat) : Int) = 95) = (c == 95) := eq_nat 95 c
 simp only [bin_geq,bin_leq,bin_eql,e1,e2,e3,e4,e5]
 unfold isLetter at hK
 generalize decide (97 ≤ c) = a at *
 generalize decide (c ≤ 122) = b at *
 generalize decide (65 ≤ c) = d at *
 generalize decide (c ≤ 90) = e at *
 generalize (c == 95) = g at *
 cases a <;> cases b <;> cases d <;> cases e <;> cases g <;>
   (simp only [isB_t,isB_f,isB_u,GdW_f,GdW_pure,cond_true,cond_false,pick_t,pick_f,List.getD_cons_zero,Bool.not_true,Bool.not_false]; intros; exact hK)
theorem digit_p {c : UInt8} {w : World} {K : Value → World → Prop} (hK : K (.bool (isDigit c)) w) : callF Tryd.prog 41 [cv c] w K := by
 refine W41_ok ?_
 unfold W41
 have e1 : decide ((48 : Int) ≤ ((c.toNat : Nat) : Int)) = decide (48 ≤ c) := le_nat 48 c
 have e2 : decide (((c.toNat : Nat) : Int) ≤ 57) = decide (c ≤ 57) := le_nat c 57
 simp only [bin_geq,bin_leq,e1,e2]
 unfold isDigit at hK
 generalize decide (48 ≤ c) = a at *
 generalize decide (c ≤ 57) = b at *
 cases a <;> cases b <;>
   (simp only [isB_t,isB_f,isB_u,GdW_f,GdW_pure,cond_true,cond_false,pick_t,pick_f,List.getD_cons_zero,Bool.not_true,Bool.not_false]; intros; exact hK)
theorem callV_fn' {P : Program} {g : FuncId} {args : List Value} {w : World} {K : Value → World → Prop} (h : callF P g args w K) : callV P (.func (.func g) #[] #[]) args w K := callV_cap' (caps := []) (by rw [List.append_nil]; exact h)
theorem name1_p {c : UInt8} {w : World} {K : Value → World → Prop} (hK : K (.bool (isName c)) w) : callF Tryd.prog 40 [cv c] w K := by
 refine W40_ok ?_
 unfold W40
 refine letter_p ?_
 have e5 : decide (((c.toNat : Nat) : Int) = 45) = (c == 45) := eq_nat 45 c
 unfold isName at hK
 simp only [isB_f,bin_eql,e5]
 refine GdW.look (isDigit c) (fun _ J hJ => digit_p hJ) fun g => ?_
 simp only [List.getD_cons_zero]
 rw [pick_gd_or]
 simp only [isB_f,GdW_pure,List.getD_cons_zero]
 intro g2
 rw [pick_gd_or]
 exact hK
theorem name2_p {c : UInt8} {w : World} {K : Value → World → Prop} (hK : K (.bool (isName c)) w) : callF Tryd.prog 54 [cv c] w K := by
 refine W54_ok ?_
 unfold W54
 refine letter_p ?_
 have e5 : decide (((c.toNat : Nat) : Int) = 45) = (c == 45) := eq_nat 45 c
 unfold isName at hK
 simp only [isB_f,bin_eql,e5]
 refine GdW.look (isDigit c) (fun _ J hJ => digit_p hJ) fun g => ?_
 simp only [List.getD_cons_zero]
 rw [pick_gd_or]
 simp only [isB_f,GdW_pure,List.getD_cons_zero]
 intro g2
 rw [pick_gd_or]
 exact hK
theorem line1_p {c : UInt8} {w : World} {K : Value → World → Prop} (hK : K (.bool (c != 10)) w) : callF Tryd.prog 37 [cv c] w K := by
 refine W37_ok ?_
 unfold W37
 rw [bin_neq]
 have e : decide (((c.toNat : Nat) : Int) ≠ 10) = (c != 10) := by
   have e5 : decide (((c.toNat : Nat) : Int) = 10) = (c == 10) := eq_nat 10 c
   rw [bne,← e5,decide_not]
 rw [e]
 exact hK
theorem run_p {q : UInt8 → Bool} {fv : Value} {s : Str} {w : World} {K : Value → World → Prop} (hl : s.length ≤ 1000000) (hq : ∀ c {w : World} {K : Value → World → Prop},K (.bool (q c)) w → callV Tryd.prog fv [cv c] w K) (hK : K (i64 (runM q s : Nat)) w) : callF Tryd.prog 36 [str s,fv] w K := by
 refine W36_ok ?_
 unfold W36
 rw [lens_str]
 refine LoopW.go (fun st w' => ∃ i : Nat,st = [i64 (i : Nat)] ∧ i ≤ s.length ∧ w' = w ∧ i + runM q (s.drop i) = runM q s) (fun st _ => match st with | [.int _ i] => s.length - i.toNat | _ => 0) ⟨0,rfl,by omega,rfl,by simp⟩ ?_
 rintro st g w' ⟨i,rfl,hi,rfl,hr⟩
 simp only [List.getD_cons_zero]
 rw [bin_lss,condW_dec]
 refine ⟨fun hlt => ?_,fun hge => ?_⟩
 · have hlt : i < s.length := by omega
   rw [drop_len hlt] at hr
   simp only [runM] at hr
   refine ixs_i hlt ?_
   refine hq _ ?_
   rw [un_not,condW_b]
   refine ⟨fun hn => ?_,fun hy => ?_⟩
   · rw [if_neg (by simpa using hn),Nat.add_zero] at hr
     rw [hr]; exact hK
   · rw [if_pos (by simpa using hy)] at hr
     rw [bin_add,upi (by omega)]
     refine ⟨⟨i + 1,rfl,by omega,rfl,by omega⟩,?_⟩
     simp only [Int.toNat_natCast]; omega
 · obtain rfl : i = s.length := by omega
   rw [List.drop_length] at hr
   simp only [runM,Nat.add_zero] at hr
   rw [lens_str,hr]; exact hK
theorem indexb_p {l : Str} {c : UInt8} {w : World} {K : Value → World → Prop} (hK : K (i64 (Lib.indexByte l c)) w) : callF Tryd.prog 35 [str l,cv c] w K := by
 refine of_calls (args := #[str l,cv c]) Tryd.call35 ((Tryd.strings_IndexByte (ofL l) (c.toNat : Nat) w).mono ?_)
 rintro e w' ⟨rfl,rfl⟩
 refine ⟨_,rfl,?_⟩
 rw [ofL_data]
 simpa using hK
theorem index2_p {s : Str} {w : World} {K : Value → World → Prop} (hT : TabI w) (hl : s.length ≤ 1000000) (hK : K (i64 (Lib.index s [42,47])) w) : callF Tryd.prog 38 [str s,str [42,47]] w K := by
 obtain ⟨m,hm⟩ := hT
 refine of_calls (args := #[str s,str [42,47]]) Tryd.call38 ((Tryd.strings_Index (ofL s) (ofL [42,47]) m w (by rw [ofL_size]; omega) hm).mono ?_)
 rintro e w' ⟨rfl,rfl⟩
 rw [ofL_data,ofL_data]
 exact ⟨_,rfl,hK⟩
end
end Go.Proofs.YtofhaneggcpdaaaDoor
namespace Go.Proofs.YtofhaneggcpdaaaDoor
open Go Go.Eng Go.RowKit Go.Syn Go.Lex
set_option maxRecDepth 100000
theorem blank3 (c : UInt8) : decide (0 ≤ Lib.indexByte [32,9,13] c) = (c == 32 || c == 9 || c == 13) := by
 have : ∀ m : Fin 256,decide (0 ≤ Lib.indexByte [32,9,13] (UInt8.ofNat m.val)) = (UInt8.ofNat m.val == 32 || UInt8.ofNat m.val == 9 || UInt8.ofNat m.val == 13) := by decide +kernel
 have h := this ⟨c.toNat,UInt8.toNat_lt c⟩
 rwa [UInt8.ofNat_toNat] at h
theorem esc6 (c : UInt8) : decide (Lib.indexByte [34,92,110,116,114,36] c < 0) = !Lex.escOk c := by
 have : ∀ m : Fin 256,decide (Lib.indexByte [34,92,110,116,114,36] (UInt8.ofNat m.val) < 0) = !Lex.escOk (UInt8.ofNat m.val) := by decide +kernel
 have h := this ⟨c.toNat,UInt8.toNat_lt c⟩
 rwa [UInt8.ofNat_toNat] at h
theorem sign19 (c : UInt8) : decide (0 ≤ Lib.indexByte [123,125,91,93,40,41,61,43,45,42,47,37,60,62,33,63,58,44,46] c) = signs1.contains c := by
 have : ∀ m : Fin 256,decide (0 ≤ Lib.indexByte [123,125,91,93,40,41,61,43,45,42,47,37,60,62,33,63,58,44,46] (UInt8.ofNat m.val)) = signs1.contains (UInt8.ofNat m.val) := by decide +kernel
 have h := this ⟨c.toNat,UInt8.toNat_lt c⟩
 rwa [UInt8.ofNat_toNat] at h
theorem skip_step (n : Nat) (c : UInt8) (r : Str) : skipF (n + 1) (c :: r) = (if (c == 32 || c == 9 || c == 13) = true then ((skipF n r).1 + 1,(skipF n r).2) else if (c == 35 || Lib.hasPrefix (c :: r) [47,47]) = true then ((skipF n ((c :: r).drop (runM (fun b => b != 10) (c :: r)))).1 + runM (fun b => b != 10) (c :: r),(skipF n ((c :: r).drop (runM (fun b => b != 10) (c :: r)))).2)
   else if Lib.hasPrefix (c :: r) [47,42] = true then (if Lib.index (r.drop 1) [42,47] < 0 then (0,40) else ((skipF n ((c :: r).drop ((Lib.index (r.drop 1) [42,47]).toNat + 4))).1 + ((Lib.index (r.drop 1) [42,47]).toNat + 4),(skipF n ((c :: r).drop ((Lib.index (r.drop 1) [42,47]).toNat + 4))).2)) else (0,0)) := by
 simp only [skipF,Bool.or_eq_true,beq_iff_eq]
 rfl
theorem runM_pos {q : UInt8 → Bool} {c : UInt8} {r : Str} (h : q c = true) : 1 ≤ runM q (c :: r) := by simp only [runM]; rw [if_pos h]; omega
theorem add_add (i j : Nat) (x : Nat × Int) : addM i (addM j x) = addM (i + j) x := by
 unfold addM
 by_cases h : x.2 = 0
 · simp only [h,if_true]; rw [show x.1 + j + i = x.1 + (i + j) by omega]
 · simp only [if_neg h]
section
variable [HX]
theorem skip_p {s : Str} {w : World} {K : Value → World → Prop} (hT : TabI w) (hl : s.length ≤ 1000000) (hK : K (.tuple #[i64 ((skipF (s.length + 1) s).1 : Nat),i64 (skipF (s.length + 1) s).2]) w) : callF Tryd.prog 24 [str s] w K := by
 refine W24_ok ?_
 unfold W24
 generalize hR : skipF (s.length + 1) s = R0 at hK
 refine LoopW.go (fun st w' => ∃ i n : Nat,st = [i64 (i : Nat)] ∧ i ≤ s.length ∧ w' = w ∧ ((skipF n (s.drop i)).1 + i,(skipF n (s.drop i)).2) = R0 ∧ s.length < n + i) (fun st _ => match st with | [.int _ i] => s.length - i.toNat | _ => 0) ⟨0,s.length + 1,rfl,by omega,rfl,by rw [List.drop_zero,hR]; rfl,by omega⟩ ?_
 rintro st g w' ⟨i,n,rfl,hi,rfl,hr,hn⟩
 obtain ⟨n,rfl⟩ : ∃ m,n = m + 1 := ⟨n - 1,by omega⟩
 simp only [List.getD_cons_zero]
 rw [lens_str,bin_lss,condW_dec]
 refine ⟨fun hlt => ?_,fun hge => ?_⟩
 · have hlt : i < s.length := by omega
   have hd := drop_len hlt
   rw [hd,skip_step] at hr
   rw [sls_str,bd_none,bd_some]
   refine ⟨by omega,by omega,?_⟩
   rw [List.take_length,Int.toNat_natCast]
   refine ixs_i hlt ?_
   refine indexb_p ?_
   rw [bin_geq,blank3,condW_b]
   refine ⟨fun hb => ?_,fun hb => ?_⟩
   · rw [if_pos hb] at hr
     rw [bin_add,upi (by omega)]
     refine ⟨⟨i + 1,n,rfl,by omega,rfl,?_,by omega⟩,?_⟩
     · rw [← hr]; simp only [Prod.mk.injEq,and_true]; omega
     · simp only [Int.toNat_natCast]; omega
   rw [if_neg (by rw [hb]; decide)] at hr
   have hd' := hd
   rw [hd]
   generalize hc : s[i] = c at *
   generalize hrr : s.drop (i + 1) = r at *
   have hrl : (c :: r).length = s.length - i := by rw [← hd,List.length_drop]
   simp only [List.length_cons] at hrl
   refine JoinW.cut (fun st w2 => st = [.bool (c == 35 || Lib.hasPrefix (c :: r) [47,47])] ∧ w2 = w') ?_ ?_
   · refine ixs_i hlt ?_
     rw [hc]
     have e5 : decide (((c.toNat : Nat) : Int) = 35) = (c == 35) := eq_nat 35 c
     rw [bin_eql,e5,condW_b]
     refine ⟨fun h => ⟨by rw [h]; rfl,rfl⟩,fun h => ?_⟩
     refine hasp_p ?_
     exact ⟨by rw [h,Bool.false_or],rfl⟩
   rintro st g2 w2 ⟨rfl,rfl⟩
   simp only [List.getD_cons_zero]
   rw [condW_b]
   refine ⟨fun hcm => ?_,fun hcm => ?_⟩
   · rw [if_pos hcm] at hr
     refine run_p (q := fun b => b != 10) (by simp only [List.length_cons]; omega) (fun c {w K} h => callV_fn' (line1_p h)) ?_
     have hle := run_le (fun b => b != 10) (c :: r)
     have hpos : 1 ≤ runM (fun b => b != 10) (c :: r) := runM_pos (by
       rw [Bool.or_eq_true] at hcm
       rcases hcm with h | h
       · rw [beq_iff_eq] at h; subst h; rfl
       · simp only [Lib.hasPrefix,List.isPrefixOf,Bool.and_eq_true,beq_iff_eq] at h
         rw [← h.1]; rfl)
     simp only [List.length_cons] at hle
     rw [bin_add,wrap_id (by omega) (by omega)]
     generalize runM (fun b => b != 10) (c :: r) = k at *
     refine ⟨⟨i + k,n,by simp only [List.cons.injEq,Value.int.injEq,true_and,and_true]; omega,by omega,rfl,?_,by omega⟩,?_⟩
     · rw [← hr,← drop_drop',hd']; simp only [Prod.mk.injEq,and_true]; omega
     · simp only [Int.toNat_natCast]; omega
   rw [if_neg (by rw [hcm]; decide)] at hr
   refine hasp_p ?_
   rw [condW_b]
   refine ⟨fun hcm2 => ?_,fun hcm2 => ?_⟩
   · rw [if_pos hcm2] at hr
     rw [sls_str,bd_none,bd_some]
     have h2 : 2 ≤ (c :: r).length := pre_len (p := [47,42]) (s := c :: r) hcm2
     simp only [List.length_cons] at h2
     refine ⟨by omega,by simp only [List.length_cons]; omega,?_⟩
     rw [List.take_length]
     show callF Tryd.prog 38 [str (r.drop 1),str [42,47]] w2 _
     refine index2_p hT (by rw [List.length_drop]; omega) ?_
     rw [bin_lss,condW_dec]
     refine ⟨fun hneg => ?_,fun hpos => ?_⟩
     · rw [if_pos hneg] at hr
       rw [← hr,Nat.zero_add] at hK
       exact hK
     · rw [if_neg hpos] at hr
       obtain ⟨j,hj⟩ := Int.eq_ofNat_of_zero_le (show 0 ≤ Lib.index (r.drop 1) [42,47] by omega)
       have hjl := idx_len _ _ hj
       rw [List.length_drop] at hjl
       rw [hj] at hr ⊢
       rw [bin_add,wrap_id (by omega) (by omega),bin_add,wrap_id (by omega) (by omega)]
       rw [Int.toNat_natCast] at hr
       refine ⟨⟨i + (j + 4),n,by simp only [List.cons.injEq,Value.int.injEq,true_and,and_true]; omega,by omega,rfl,?_,by omega⟩,?_⟩
       · rw [← hr,← drop_drop',hd']; simp only [Prod.mk.injEq,and_true]; omega
       · simp only [Int.toNat_natCast]; omega
   · rw [if_neg (by rw [hcm2]; decide),Nat.zero_add] at hr
     rw [← hr] at hK
     exact hK
 · obtain rfl : i = s.length := by omega
   rw [List.drop_length] at hr
   simp only [skipF,Nat.zero_add] at hr
   rw [← hr] at hK
   exact hK
def outV (x : Nat × Int) : List Value := if x.2 = 0 then [i64 ((x.1 + 1 : Nat) : Int),i64 0] else [i64 0,i64 x.2]
def TxC (n : Nat) : Prop := ∀ (c : UInt8) (r : Str) (d : Nat) (w : World) (K : Value → World → Prop),r.length < n → r.length ≤ 1000000 → d ≤ 24 → K (.tuple (outV (textX r d)).toArray) w → callF Tryd.prog 43 [str (c :: r),i64 (d : Nat)] w K
def InC (n : Nat) : Prop := ∀ (c : UInt8) (r : Str) (d : Nat) (w : World) (K : Value → World → Prop),r.length < n → r.length ≤ 1000000 → d ≤ 25 → K (.tuple (outV (if 24 < d then (0,7) else insX r d)).toArray) w → callF Tryd.prog 53 [str (c :: r),i64 (d : Nat)] w K
theorem out_add {i : Nat} {x : Nat × Int} : outV (addM i x) = if x.2 = 0 then [i64 ((i + x.1 + 1 : Nat) : Int),i64 0] else [i64 0,i64 x.2] := by
 unfold outV addM
 by_cases h : x.2 = 0
 · simp only [h,if_true]; rw [show x.1 + i + 1 = i + x.1 + 1 by omega]
 · simp only [if_neg h]
theorem tx_step {n : Nat} (hi : InC n) : TxC (n + 1) := by
 intro c r d w K hn hl hd24 hK
 refine W43_ok ?_
 unfold W43
 have hlen : (c :: r).length = r.length + 1 := rfl
 generalize hR : outV (textX r d) = R0 at hK
 have cond : ∀ {c : UInt8} (k : Nat),k < 256 → (((c.toNat : Nat) : Int) = (k : Int) ↔ c = UInt8.ofNat k) := fun {c} k hk => by
   have := u8_eq c k hk
   rwa [decide_eq_decide] at this
 refine LoopW.go (fun st w' => ∃ i : Nat,st = [i64 ((i + 1 : Nat) : Int)] ∧ w' = w ∧ i ≤ r.length ∧ outV (addM i (textX (r.drop i) d)) = R0) (fun st _ => match st with | [.int _ i] => r.length + 1 - i.toNat | _ => 0) ⟨0,rfl,rfl,by omega,by rw [List.drop_zero,out_add,← hR]; unfold outV; rw [Nat.zero_add]⟩ ?_
 rintro st g w2 ⟨i,rfl,rfl,hi',hr⟩
 simp only [List.getD_cons_zero]
 rw [lens_str,bin_lss,condW_dec,hlen]
 refine ⟨fun hlt => ?_,fun hge => ?_⟩
 · have hlt : i < r.length := by omega
   have hd := drop_len hlt
   rw [hd,textX_cons] at hr
   simp only [beq_iff_eq] at hr
   have ix : ∀ {KK : Value → Prop},KK (cv r[i]) → ixsW (str (c :: r)) (i64 ((i + 1 : Nat) : Int)) KK := fun h => ixs_i (s := c :: r) (i := i + 1) (by rw [hlen]; omega) h
   refine ix ?_
   rw [bin_eql,condW_dec]
   refine ⟨fun e => ?_,fun e => ?_⟩
   · have e : r[i] = 34 := (cond 34 (by omega)).1 e
     rw [if_pos e,out_add,if_pos rfl] at hr
     rw [bin_add,upi (by omega)]
     rw [← hr] at hK
     exact hK
   have e : ¬ r[i] = 34 := fun h => e ((cond 34 (by omega)).2 h)
   rw [if_neg e] at hr
   refine ix ?_
   rw [bin_eql,condW_dec]
   refine ⟨fun e => ?_,fun e => ?_⟩
   · have e : r[i] = 10 := (cond 10 (by omega)).1 e
     rw [if_pos e,out_add,if_neg (by simp)] at hr
     rw [← hr] at hK
     exact hK
   have e : ¬ r[i] = 10 := fun h => e ((cond 10 (by omega)).2 h)
   rw [if_neg e] at hr
   refine ix ?_
   rw [bin_eql,condW_dec]
   refine ⟨fun e => ?_,fun e => ?_⟩
   · have e : r[i] = 92 := (cond 92 (by omega)).1 e
     rw [if_pos e] at hr
     rw [bin_add,upi (by omega),lens_str,bin_geq,hlen]
     simp only [isB_f]
     by_cases hend : r.length ≤ i + 1
     · have e0 : r.drop (i + 1) = [] := List.drop_of_length_le hend
       rw [e0] at hr
       simp only at hr
       rw [out_add,if_neg (by simp)] at hr
       rw [decide_eq_true (by omega),Bool.not_true,GdW_f]
       intro g2
       rw [pick_t,condW_true]
       rw [← hr] at hK
       exact hK
     · have hlt2 : i + 1 < r.length := by omega
       have hd2 := drop_len hlt2
       rw [hd2] at hr
       simp only at hr
       rw [decide_eq_false (by omega),Bool.not_false]
       refine GdW.look (!Lex.escOk r[i + 1]) (fun _ J hJ => ?_) fun g2 => ?_
       · rw [bin_add,upi (by omega)]
         refine ixs_i (s := c :: r) (i := i + 2) (by rw [hlen]; omega) ?_
         refine indexb_p ?_
         rw [bin_lss]
         have := esc6 r[i + 1]
         rw [show (c :: r)[i + 2] = r[i + 1] from rfl,this]
         exact hJ
       simp only [List.getD_cons_zero,cond_true,pick_f]
       rw [condW_b]
       refine ⟨fun hb => ?_,fun hg => ?_⟩
       · have hb : ¬ Lex.escOk r[i + 1] = true := by simpa using hb
         rw [if_neg hb,out_add,if_neg (by simp)] at hr
         rw [← hr] at hK
         exact hK
       · have hg : Lex.escOk r[i + 1] = true := by simpa using hg
         rw [if_pos hg,add_add] at hr
         rw [bin_add,wrap_id (by omega) (by omega)]
         refine ⟨⟨i + 2,by simp only [List.cons.injEq,Value.int.injEq,true_and,and_true]; omega,trivial,by omega,hr⟩,?_⟩
         simp only [Int.toNat_natCast]; omega
   have e : ¬ r[i] = 92 := fun h => e ((cond 92 (by omega)).2 h)
   rw [if_neg e] at hr
   rw [sls_str,bd_none,bd_some]
   refine ⟨by omega,by rw [hlen]; omega,?_⟩
   rw [List.take_length,Int.toNat_natCast,List.drop_succ_cons,hd]
   refine hasp_p ?_
   rw [pre_eq,condW_b]
   refine ⟨fun e => ?_,fun e => ?_⟩
   · rw [if_pos e] at hr
     have h2 := pre_len e
     have hlt2 : i + 1 < r.length := by
       simp only [List.length_cons,List.length_nil,List.length_drop] at h2; omega
     have hd2 := drop_len hlt2
     rw [bin_add,upi (by omega),sls_str,bd_none,bd_some]
     refine ⟨by omega,by rw [hlen]; omega,?_⟩
     rw [List.take_length,Int.toNat_natCast,List.drop_succ_cons,hd2,bin_add,upi (by omega)]
     have hdd : (r.drop (i + 1)).drop 1 = r.drop (i + 2) := by rw [drop_drop']
     rw [hdd] at hr
     have hll : (r.drop (i + 2)).length = r.length - (i + 2) := List.length_drop ..
     refine hi _ _ (d + 1) _ _ (by show (r.drop (i + 2)).length < n; omega) (by show (r.drop (i + 2)).length ≤ _; omega) (by omega) ?_
     have hx' : ∃ x : Nat × Int,x = (if 24 < d + 1 then ((0 : Nat),(7 : Int)) else insX (r.drop (i + 2)) (d + 1)) ∧ outV (addM i (if x.2 = 0 then addM (x.1 + 2) (textX ((r.drop (i + 2)).drop x.1) d) else (0,x.2))) = R0 ∧ (x.2 = 0 → x.1 ≤ (r.drop (i + 2)).length) := by
       refine ⟨_,rfl,?_,?_⟩
       · by_cases h : 24 < d + 1
         · rw [if_pos h] at hr ⊢
           exact hr
         · rw [if_neg h] at hr ⊢
           exact hr
       · by_cases h : 24 < d + 1
         · rw [if_pos h]; intro h; exact absurd h (by simp)
         · rw [if_neg h]
           intro h0
           exact ((ins_bra _ (r.drop (i + 2)) (Nat.le_refl _)).2 (d + 1) _ (Prod.ext rfl h0)).1.2
     obtain ⟨x,ex,hr,hxl⟩ := hx'
     rw [show r.drop (i + 1 + 1) = r.drop (i + 2) from rfl,← ex]
     by_cases h0 : x.2 = 0
     · have eo : outV x = [i64 ((x.1 + 1 : Nat) : Int),i64 0] := by unfold outV; rw [if_pos h0]
       have hxl := hxl h0
       rw [if_pos h0,add_add,drop_drop'] at hr
       rw [eo,ext_tuple]
       refine ⟨i64 ((x.1 + 1 : Nat) : Int),rfl,?_⟩
       rw [ext_tuple]
       refine ⟨i64 0,rfl,?_⟩
       rw [bin_neq,condW_dec]
       refine ⟨fun h => absurd rfl h,fun _ => ?_⟩
       rw [bin_add,wrap_id (by omega) (by omega),bin_add,wrap_id (by omega) (by omega)]
       refine ⟨⟨i + (x.1 + 2),by simp only [List.cons.injEq,Value.int.injEq,true_and,and_true]; omega,rfl,by omega,by rw [show i + (x.1 + 2) = i + 2 + x.1 by omega] at hr ⊢; exact hr⟩,?_⟩
       simp only [Int.toNat_natCast]; omega
     · have eo : outV x = [i64 0,i64 x.2] := by unfold outV; rw [if_neg h0]
       rw [if_neg h0,out_add,if_neg h0] at hr
       rw [eo,ext_tuple]
       refine ⟨i64 0,rfl,?_⟩
       rw [ext_tuple]
       refine ⟨i64 x.2,rfl,?_⟩
       rw [bin_neq,condW_dec]
       refine ⟨fun _ => by rw [← hr] at hK; exact hK,fun h => absurd h0 h⟩
   · rw [if_neg (by rw [e]; decide),add_add] at hr
     rw [bin_add,upi (by omega)]
     refine ⟨⟨i + 1,rfl,rfl,by omega,hr⟩,?_⟩
     simp only [Int.toNat_natCast]; omega
 · obtain rfl : i = r.length := by omega
   rw [List.drop_length,textX_nil,out_add,if_neg (by simp)] at hr
   rw [← hr] at hK
   exact hK
theorem in_step {n : Nat} (hi : InC n) (htx : TxC n) : InC (n + 1) := by
 intro c r d w K hn hl hd25 hK
 refine W53_ok ?_
 unfold W53
 rw [bin_gtr,condW_dec]
 refine ⟨fun h => ?_,fun h => ?_⟩
 · rw [if_pos (by omega)] at hK
   exact hK
 have hd24 : d ≤ 24 := by omega
 rw [if_neg (by omega)] at hK
 have hlen : (c :: r).length = r.length + 1 := rfl
 generalize hR : outV (insX r d) = R0 at hK
 have cond : ∀ {c : UInt8} (k : Nat),k < 256 → (((c.toNat : Nat) : Int) = (k : Int) ↔ c = UInt8.ofNat k) := fun {c} k hk => by
   have := u8_eq c k hk
   rwa [decide_eq_decide] at this
 refine LoopW.go (fun st w' => ∃ i : Nat,st = [i64 ((i + 1 : Nat) : Int)] ∧ w' = w ∧ i ≤ r.length ∧ outV (addM i (insX (r.drop i) d)) = R0) (fun st _ => match st with | [.int _ i] => r.length + 1 - i.toNat | _ => 0) ⟨0,rfl,rfl,by omega,by rw [List.drop_zero,out_add,← hR]; unfold outV; rw [Nat.zero_add]⟩ ?_
 rintro st g w2 ⟨i,rfl,rfl,hi',hr⟩
 simp only [List.getD_cons_zero]
 rw [lens_str,bin_lss,condW_dec,hlen]
 refine ⟨fun hlt => ?_,fun hge => ?_⟩
 · have hlt : i < r.length := by omega
   have hd := drop_len hlt
   rw [hd,insX_cons] at hr
   simp only [beq_iff_eq] at hr
   have hll : (r.drop (i + 1)).length = r.length - (i + 1) := List.length_drop ..
   refine JoinW.cut (fun st w' => w' = w2 ∧ ∃ (k : Nat) (e : Int),st = [i64 (if e = 0 then ((k + 1 : Nat) : Int) else 0),i64 e] ∧ (e = 0 → i + (k + 1) ≤ r.length ∧ outV (addM (i + (k + 1)) (insX (r.drop (i + (k + 1))) d)) = R0) ∧ (e ≠ 0 → [i64 0,i64 e] = R0)) ?_ ?_
   · refine ixs_i (s := c :: r) (i := i + 1) (by rw [hlen]; omega) ?_
     show binW .eql (cv r[i]) _ _
     rw [bin_eql,condW_dec]
     refine ⟨fun e => ?_,fun e => ?_⟩
     · have e : r[i] = 125 := (cond 125 (by omega)).1 e
       rw [if_pos e,out_add,if_pos rfl] at hr
       rw [bin_add,upi (by omega)]
       rw [← hr] at hK
       exact hK
     have e : ¬ r[i] = 125 := fun h => e ((cond 125 (by omega)).2 h)
     rw [if_neg e] at hr
     rw [bin_eql,condW_dec]
     refine ⟨fun e => ?_,fun e => ?_⟩
     · have e : r[i] = 10 := (cond 10 (by omega)).1 e
       rw [if_pos e,out_add,if_neg (by simp)] at hr
       rw [← hr] at hK
       exact hK
     have e : ¬ r[i] = 10 := fun h => e ((cond 10 (by omega)).2 h)
     rw [if_neg e] at hr
     -- one that goes over k bytes behind this one
     have sub : ∀ (x : Nat × Int),outV (addM i (if x.2 = 0 then addM (x.1 + 1) (insX ((r.drop (i + 1)).drop x.1) d) else (0,x.2))) = R0 → (x.2 = 0 → x.1 ≤ (r.drop (i + 1)).length) → extW 0 (.tuple (outV x).toArray) fun t33 => extW 1 (.tuple (outV x).toArray) fun t34 => (fun (st : List Value) (w' : World) => w' = w2 ∧ ∃ (k : Nat) (e : Int),st = [i64 (if e = 0 then ((k + 1 : Nat) : Int) else 0),i64 e] ∧ (e = 0 → i + (k + 1) ≤ r.length ∧ outV (addM (i + (k + 1)) (insX (r.drop (i + (k + 1))) d)) = R0) ∧ (e ≠ 0 → [i64 0,i64 e] = R0)) [t33,t34] w2 := fun x hx hxl => by
       by_cases h0 : x.2 = 0
       · have eo : outV x = [i64 ((x.1 + 1 : Nat) : Int),i64 0] := by unfold outV; rw [if_pos h0]
         have hxl := hxl h0
         rw [if_pos h0,add_add,drop_drop'] at hx
         rw [eo,ext_tuple]
         refine ⟨i64 ((x.1 + 1 : Nat) : Int),rfl,?_⟩
         rw [ext_tuple]
         refine ⟨i64 0,rfl,rfl,x.1,0,by rw [if_pos rfl],fun _ => ⟨by omega,by rw [show i + (x.1 + 1) = i + 1 + x.1 by omega] at hx ⊢; exact hx⟩,fun h => absurd rfl h⟩
       · have eo : outV x = [i64 0,i64 x.2] := by unfold outV; rw [if_neg h0]
         rw [if_neg h0,out_add,if_neg h0] at hx
         rw [eo,ext_tuple]
         refine ⟨i64 0,rfl,?_⟩
         rw [ext_tuple]
         exact ⟨i64 x.2,rfl,rfl,0,x.2,by rw [if_neg h0],fun h => absurd h h0,fun _ => hx⟩
     rw [bin_eql,condW_dec]
     refine ⟨fun e => ?_,fun e => ?_⟩
     · have e : r[i] = 123 := (cond 123 (by omega)).1 e
       rw [if_pos e] at hr
       rw [sls_str,bd_none,bd_some]
       refine ⟨by omega,by rw [hlen]; omega,?_⟩
       rw [List.take_length,Int.toNat_natCast,List.drop_succ_cons,hd,bin_add,upi (by omega)]
       refine hi _ _ (d + 1) _ _ (by omega) (by omega) (by omega) ?_
       refine sub _ ?_ ?_
       · by_cases h : 24 < d + 1
         · rw [if_pos h] at hr ⊢
           exact hr
         · rw [if_neg h] at hr ⊢
           exact hr
       · by_cases h : 24 < d + 1
         · rw [if_pos h]; intro h; exact absurd h (by simp)
         · rw [if_neg h]
           intro h0
           exact ((ins_bra _ (r.drop (i + 1)) (Nat.le_refl _)).2 (d + 1) _ (Prod.ext rfl h0)).1.2
     have e : ¬ r[i] = 123 := fun h => e ((cond 123 (by omega)).2 h)
     rw [if_neg e] at hr
     rw [bin_eql,condW_dec]
     refine ⟨fun e => ?_,fun e => ?_⟩
     · have e : r[i] = 34 := (cond 34 (by omega)).1 e
       rw [if_pos e] at hr
       rw [sls_str,bd_none,bd_some]
       refine ⟨by omega,by rw [hlen]; omega,?_⟩
       rw [List.take_length,Int.toNat_natCast,List.drop_succ_cons,hd]
       refine htx _ _ d _ _ (by omega) (by omega) hd24 ?_
       refine sub _ hr fun h0 => ?_
       exact ((ins_bra _ (r.drop (i + 1)) (Nat.le_refl _)).1 d _ (Prod.ext rfl h0)).2.2
     · have e : ¬ r[i] = 34 := fun h => e ((cond 34 (by omega)).2 h)
       rw [if_neg e,add_add] at hr
       exact ⟨rfl,0,0,rfl,fun _ => ⟨by omega,hr⟩,fun h => absurd rfl h⟩
   rintro st g2 w3 ⟨rfl,k,e,rfl,h1,h2⟩
   simp only [List.getD_cons_zero,List.getD_cons_succ]
   rw [bin_neq,condW_dec]
   refine ⟨fun he => by rw [← h2 he] at hK; exact hK,fun he => ?_⟩
   have he : e = 0 := by
     by_cases h : e = 0
     · exact h
     · exact absurd h he
   obtain ⟨g1,g2⟩ := h1 he
   rw [if_pos he,bin_add,wrap_id (by omega) (by omega)]
   refine ⟨⟨i + (k + 1),by simp only [List.cons.injEq,Value.int.injEq,true_and,and_true]; omega,trivial,g1,g2⟩,?_⟩
   simp only [Int.toNat_natCast]; omega
 · obtain rfl : i = r.length := by omega
   rw [List.drop_length,insX_nil,out_add,if_neg (by simp)] at hr
   rw [← hr] at hK
   exact hK
theorem tx_in : ∀ n,TxC n ∧ InC n
 | 0 => ⟨fun _ _ _ _ _ h => by omega,fun _ _ _ _ _ h => by omega⟩
 | n + 1 => ⟨tx_step (tx_in n).2,in_step (tx_in n).2 (tx_in n).1⟩
theorem ltext_p {c : UInt8} {r : Str} {d : Nat} {w : World} {K : Value → World → Prop} (hl : r.length ≤ 1000000) (hd : d ≤ 24) (hK : K (.tuple (outV (textX r d)).toArray) w) : callF Tryd.prog 43 [str (c :: r),i64 (d : Nat)] w K := (tx_in (r.length + 1)).1 c r d w K (by omega) hl hd hK
end
end Go.Proofs.YtofhaneggcpdaaaDoor
namespace Go.Eng
open Go
theorem byte_at {s r : Str} {i : Nat} {c : UInt8} (h : s.drop i = c :: r) : byteM s i = c.toNat := by
 unfold byteM
 have : s[i]? = some c := by
   have := List.getElem?_drop (xs := s) (i := i) (j := 0)
   rw [h] at this
   simpa using this.symm
 rw [this]
theorem drop_app {s l r : Str} {i : Nat} (h : s.drop i = l ++ r) : s.drop (i + l.length) = r := by
 rw [← List.drop_drop,h,List.drop_left]
theorem drop_lt {s r : Str} {i : Nat} {c : UInt8} (h : s.drop i = c :: r) : i < s.length := by
 apply Nat.lt_of_not_le
 intro hle
 rw [List.drop_eq_nil_iff.2 hle] at h
 cases h
end Go.Eng
namespace Go.Eng
open Go
theorem byte_pref {s u r : Str} {i j : Nat} (h : s.drop i = u ++ r) (hj : j < u.length) : byteM s (i + j) = u[j].toNat := by
 have : s.drop (i + j) = u[j] :: (u.drop (j + 1) ++ r) := by
   rw [← List.drop_drop,h,List.drop_append_of_le_length (by omega),List.drop_eq_getElem_cons hj]; rfl
 exact byte_at this
theorem rune_same {s t : Str} {i k m : Nat} (hm : 0 < m) (h : runeM s i = m) (hb : ∀ j,j < m → byteM t (k + j) = byteM s (i + j)) : runeM t k = m := by
 have e0 : byteM t k = byteM s i := hb 0 hm
 unfold runeM at h ⊢
 dsimp only at h
 simp only [e0]
 by_cases h1 : m = 1
 · subst h1
   split at h
   · omega
   rename_i a
   split at h
   · rename_i b; rw [if_neg a,if_pos b]
   split at h
   · omega
   split at h
   · omega
   split at h <;> omega
 by_cases h2 : m = 2
 · subst h2
   have e1 := hb 1 (by omega)
   have m1 : moreM t (k + 1) = moreM s (i + 1) := by unfold moreM; rw [e1]
   simp only [m1]
   split at h
   · omega
   rename_i a
   split at h
   · omega
   rename_i b
   split at h
   · rename_i c; rw [if_neg a,if_neg b,if_pos c]
   split at h
   · omega
   split at h <;> omega
 by_cases h3 : m = 3
 · subst h3
   have e1 := hb 1 (by omega)
   have e2 := hb 2 (by omega)
   have m1 : moreM t (k + 1) = moreM s (i + 1) := by unfold moreM; rw [e1]
   have m2 : moreM t (k + 2) = moreM s (i + 2) := by unfold moreM; rw [e2]
   simp only [m1,m2,e1,e2]
   split at h
   · omega
   rename_i a
   split at h
   · omega
   rename_i b
   split at h
   · omega
   rename_i c
   split at h
   · rename_i d; rw [if_neg a,if_neg b,if_neg c,if_pos d]
   split at h <;> omega
 by_cases h4 : m = 4
 · subst h4
   have e1 := hb 1 (by omega)
   have e2 := hb 2 (by omega)
   have e3 := hb 3 (by omega)
   simp only [moreM,e1,e2,e3] at h ⊢
   exact h
 · exfalso
   split at h
   · omega
   split at h
   · omega
   split at h
   · omega
   split at h
   · omega
   split at h <;> omega
theorem rune_lt {s : Str} {i : Nat} (h : runeM s i ≠ 0) : i < s.length := by
 apply Nat.lt_of_not_le
 intro hle
 exact h (rune_end hle)
theorem rune_fits {s : Str} {i : Nat} (h : runeM s i ≠ 0) : i + runeM s i ≤ s.length := by
 obtain ⟨c,hc⟩ := rune_good (rune_lt h) h
 exact hc.fits
def Rn (u : Str) : Prop := u ≠ [] ∧ runeM u 0 = u.length
theorem Rn.pos {u : Str} (h : Rn u) : 0 < u.length := List.length_pos_iff.2 h.1
theorem Rn.at {u s r : Str} {i : Nat} (h : Rn u) (hs : s.drop i = u ++ r) : runeM s i = u.length := by
 refine rune_same (s := u) (i := 0) h.pos h.2 fun j hj => ?_
 rw [byte_pref hs hj,byte_pref (s := u) (i := 0) (u := u) (r := []) (by simp) hj]
theorem Rn.of {s : Str} {i : Nat} (h : runeM s i ≠ 0) : Rn ((s.drop i).take (runeM s i)) := by
 have hf := rune_fits h
 have hl : ((s.drop i).take (runeM s i)).length = runeM s i := by rw [List.length_take,List.length_drop]; omega
 refine ⟨fun e => by rw [e] at hl; simp at hl; omega,?_⟩
 rw [hl]
 refine rune_same (s := s) (i := i) (by omega) rfl fun j hj => ?_
 rw [byte_pref (s := s) (i := i) (u := (s.drop i).take (runeM s i)) (r := (s.drop i).drop (runeM s i)) (List.take_append_drop _ _).symm (by omega),byte_pref (s := (s.drop i).take (runeM s i)) (i := 0) (u := (s.drop i).take (runeM s i)) (r := []) (by simp) (by omega)]
inductive Utf : Str → Prop where
 | nil : Utf []
 | cons {u r : Str} : Rn u → Utf r → Utf (u ++ r)
theorem Utf.app {a b : Str} (h : Utf a) (h' : Utf b) : Utf (a ++ b) := by
 induction h with
 | nil => exact h'
 | cons hu _ ih => rw [List.append_assoc]; exact .cons hu ih
theorem Rn.cases {u : Str} (h : Rn u) : (∃ c : UInt8,u = [c] ∧ c.toNat < 128) ∨ (∀ c ∈ u,128 ≤ c.toNat) := by
 have hr := h.2
 have hp := h.pos
 have hb : ∀ j,(hj : j < u.length) → byteM u j = u[j].toNat := fun j hj => by
   have := byte_pref (s := u) (i := 0) (u := u) (r := []) (by simp) hj
   rwa [Nat.zero_add] at this
 have hm : ∀ j,(hj : j < u.length) → moreM u j = true → 128 ≤ u[j].toNat := fun j hj hm => by
   unfold moreM at hm
   rw [hb j hj,Bool.and_eq_true,decide_eq_true_iff,decide_eq_true_iff] at hm
   omega
 unfold runeM at hr
 rw [hb 0 hp] at hr
 simp only [Nat.zero_add] at hr
 have hall : (∀ j,(hj : j < u.length) → 128 ≤ u[j].toNat) → ∀ c ∈ u,128 ≤ c.toNat := fun hj c hc => by
   obtain ⟨j,h1,rfl⟩ := List.getElem_of_mem hc
   exact hj j h1
 split at hr
 · omega
 split at hr
 · rename_i hlt
   left
   obtain ⟨c,rfl⟩ := List.length_eq_one_iff.1 hr.symm
   refine ⟨c,rfl,?_⟩
   have e : ([c] : Str)[0].toNat = c.toNat := rfl
   omega
 right
 refine hall fun j hj => ?_
 split at hr
 · rename_i c
   obtain ⟨c1,_,c2⟩ := c
   obtain rfl | rfl : j = 0 ∨ j = 1 := by omega
   · omega
   · exact hm 1 hj c2
 split at hr
 · rename_i c
   obtain ⟨c1,_,c2,c3,_⟩ := c
   obtain rfl | rfl | rfl : j = 0 ∨ j = 1 ∨ j = 2 := by omega
   · omega
   · exact hm 1 hj c2
   · exact hm 2 hj c3
 split at hr
 · rename_i c
   obtain ⟨c1,_,c2,c3,c4,_⟩ := c
   obtain rfl | rfl | rfl | rfl : j = 0 ∨ j = 1 ∨ j = 2 ∨ j = 3 := by omega
   · omega
   · exact hm 1 hj c2
   · exact hm 2 hj c3
   · exact hm 3 hj c4
 · omega
def escOk (c : UInt8) : Bool :=
 match escB c with
 | [d] => decide (d = c) && decide (c ≠ 34) && decide (c ≠ 92) && decide (32 ≤ c.toNat)
 | [a,b] => decide (a = 92) && decide (escM [a,b] 0 = some ([c],2))
 | [a,b,d,e,f,g] => decide (a = 92) && decide (b = 117) && decide (hexM [a,b,d,e,f,g] 0 = c.toNat)
 | _ => false
end Go.Eng
namespace Go.Proofs.YtofhaneggcpdaaaDoor
open Go Go.Eng Go.RowKit Go.Syn Go.Lex
set_option maxRecDepth 100000
theorem pre_one (c d : UInt8) (r : Str) : [d].isPrefixOf (c :: r) = (d == c) := by simp [List.isPrefixOf]
theorem index_run (s : Str) : Lib.index s [10] = if runM (fun b => b != 10) s < s.length then ((runM (fun b => b != 10) s : Nat) : Int) else -1 := by
 induction s with
 | nil => rfl
 | cons c r ih =>
   simp only [Lib.index,pre_one]
   by_cases h : c = 10
   · subst h
     rfl
   · have h1 : ((10 : UInt8) == c) = false := by rw [beq_eq_false_iff_ne]; exact fun e => h e.symm
     have h2 : (c != 10) = true := by simp [h]
     have e2 : runM (fun b => b != 10) (c :: r) = runM (fun b => b != 10) r + 1 := by simp only [runM]; rw [if_pos h2]
     obtain ⟨k,hk0⟩ : ∃ k,k = runM (fun b => b != 10) r := ⟨_,rfl⟩
     have ih' : Lib.index r [10] = if k < r.length then (k : Int) else -1 := by rw [hk0]; exact ih
     rw [h1,if_neg (by decide),ih',e2,← hk0]
     simp only [List.length_cons]
     by_cases hk : k < r.length
     · have e3 : (if k < r.length then (k : Int) else -1) = k := if_pos hk
       have e4 : (if k + 1 < r.length + 1 then ((k + 1 : Nat) : Int) else -1) = ((k + 1 : Nat) : Int) := if_pos (by omega)
       rw [e3,e4,if_neg (by simp only [beq_iff_eq]; omega)]
       rfl
     · have e3 : (if k < r.length then (k : Int) else -1) = -1 := if_neg hk
       have e4 : (if k + 1 < r.length + 1 then ((k + 1 : Nat) : Int) else -1) = -1 := if_neg (by omega)
       rw [e3,e4]
       rfl
theorem cut_run (s : Str) : (Lib.cut s [10]).1 = s.take (runM (fun b => b != 10) s) ∧ (Lib.cut s [10]).2.2 = decide (runM (fun b => b != 10) s < s.length) := by
 have hle := run_le (fun b => b != 10) s
 unfold Lib.cut
 rw [index_run]
 by_cases h : runM (fun b => b != 10) s < s.length
 · rw [if_pos h,if_pos (by omega),Int.toNat_natCast]
   exact ⟨rfl,by simp [h]⟩
 · rw [if_neg h,if_neg (by omega)]
   exact ⟨by rw [List.take_of_length_le (by omega)],by simp [h]⟩
theorem trim_run (l : Str) : Lib.trimLeftS l [32,9] = l.drop (runM (fun b => b == 32 || b == 9) l) := by
 unfold Lib.trimLeftS
 induction l with
 | nil => rfl
 | cons c r ih =>
   simp only [List.dropWhile_cons,runM]
   have e : ([32,9] : Str).contains c = (c == 32 || c == 9) := by simp [List.contains,List.elem]; cases (c == 32) <;> cases (c == 9) <;> rfl
   rw [e]
   by_cases hb : (c == 32 || c == 9) = true
   · rw [if_pos hb,if_pos hb]; exact ih
   · rw [if_neg hb,if_neg hb]; rfl
theorem hereL_app (a b : Str) : hereL (a ++ b) = hereL a ++ hereL b := by
 induction a with
 | nil => rfl
 | cons c r ih =>
   simp only [List.cons_append,hereL]
   (repeat' split) <;> simp only [List.cons_append,ih]
theorem hereL_high {u : Str} (h : ∀ c ∈ u,128 ≤ c.toNat) : hereL u = u := by
 induction u with
 | nil => rfl
 | cons c r ih =>
   have hc := h c List.mem_cons_self
   have n : ∀ k : UInt8,k.toNat < 128 → (c == k) = false := fun k hk => by
     rw [beq_eq_false_iff_ne]
     intro e
     subst e
     omega
   simp only [hereL,n 92 (by decide),n 34 (by decide),n 36 (by decide),n 9 (by decide),n 13 (by decide),Bool.or_self,Bool.false_eq_true,if_false,ih fun x hx => h x (List.mem_cons_of_mem _ hx)]
theorem utf_cons {c : UInt8} {r : Str} (h : Utf (c :: r)) (hc : c.toNat < 128) : Utf r := by
 generalize he : c :: r = z at h
 cases h with
 | nil => cases he
 | @cons u r' hu hr =>
   rcases hu.cases with ⟨x,rfl,_⟩ | hh
   · simp only [List.cons_append,List.nil_append,List.cons.injEq] at he
     rw [he.2]; exact hr
   · cases u with
     | nil => exact absurd rfl hu.1
     | cons y u' =>
       simp only [List.cons_append,List.cons.injEq] at he
       have := hh y List.mem_cons_self
       rw [← he.1] at this
       omega
theorem utf_split {t : Str} (h : Utf t) : ∀ {a b : Str} {c : UInt8},t = a ++ c :: b → c.toNat < 128 → Utf a ∧ Utf (c :: b) := by
 induction h with
 | nil => intro a b c e; simp at e
 | @cons u r hu hr ih =>
   intro a b c e hc
   by_cases hle : u.length ≤ a.length
   · have h1 : a = u ++ a.drop u.length := by
       have := congrArg (List.take u.length) e
       rw [List.take_left,List.take_append_of_le_length hle] at this
       have h2 := List.take_append_drop u.length a
       rw [← this] at h2
       exact h2.symm
     rw [h1,List.append_assoc] at e
     have e := List.append_cancel_left e
     obtain ⟨i1,i2⟩ := ih e hc
     rw [h1]
     exact ⟨.cons hu i1,i2⟩
   · have hmem : c ∈ u := by
       have : (u ++ r)[a.length]? = some c := by rw [e]; simp
       rw [List.getElem?_append_left (by omega)] at this
       exact List.mem_of_getElem? this
     rcases hu.cases with ⟨x,rfl,_⟩ | hh
     · have ha : a = [] := List.eq_nil_of_length_eq_zero (by simp only [List.length_cons,List.length_nil] at hle; omega)
       subst ha
       simp only [List.nil_append] at e
       rw [← e]
       exact ⟨.nil,.cons hu hr⟩
     · have := hh c hmem; omega
theorem utf_drop {t : Str} (h : Utf t) {i : Nat} {c : UInt8} {b : Str} (hd : t.drop i = c :: b) (hc : c.toNat < 128) : Utf (t.take i) ∧ Utf (c :: b) :=
 utf_split h (by rw [← hd,List.take_append_drop]) hc
theorem utf_line {s : Str} (h : Utf s) : Utf (s.take (runM (fun b => b != 10) s)) ∧ (runM (fun b => b != 10) s < s.length → Utf (s.drop (runM (fun b => b != 10) s + 1))) := by
 have stop : ∀ s : Str,∀ b,(s.drop (runM (fun b => b != 10) s)).head? = some b → b = 10 := by
   intro s
   induction s with
   | nil => intro b hb; simp [runM] at hb
   | cons c r ih =>
     intro b hb
     simp only [runM] at hb
     by_cases hc : (c != 10) = true
     · rw [if_pos hc,List.drop_succ_cons] at hb; exact ih b hb
     · rw [if_neg hc] at hb
       simp only [List.drop_zero,List.head?_cons,Option.some.injEq] at hb
       rw [← hb]; simpa using hc
 by_cases hk : runM (fun b => b != 10) s < s.length
 · have hd := drop_len hk
   have h10 := stop s s[runM (fun b => b != 10) s] (by rw [hd]; rfl)
   obtain ⟨h1,h2⟩ := utf_drop h hd (by rw [h10]; decide)
   exact ⟨h1,fun _ => utf_cons h2 (by rw [h10]; decide)⟩
 · exact ⟨by rw [List.take_of_length_le (by omega)]; exact h,fun e => absurd e hk⟩
theorem TabI.ext {w w' : World} (h : TabI w) (hx : Ext w w') : TabI w' := by
 obtain ⟨m,h⟩ := h
 refine ⟨m,?_⟩
 rw [cell_eq] at h ⊢
 cases hh : w.heap[0]? with
 | none => rw [hh] at h; cases h
 | some o => rw [hx.at hh id]; rw [hh] at h; exact h
section
variable [HX]
theorem lrange_str {l : Str} {w : World} {K : Value → World → Prop} (hK : K (.pointer (some ⟨w.heap.size,0,none⟩)) (w.alloc (.stringIter (ofL l) 0))) : semE Tryd.prog (Instr.range 9 (str l)) w K := by
 have hT : Tryd.prog.underlying 9 = some .string := by kernel_rfl
 have hr : (Instr.range 9 (str l)).run Tryd.prog w = .ok (.pointer (some ⟨w.heap.size,0,none⟩)) (w.alloc (.stringIter (ofL l) 0)) := by
   simp [Instr.range,run_bind,run_underlying' hT,run_pure,newObj,Sem.run]
 unfold semE
 rw [hr]
 exact hK
theorem lset_chg {w : World} {r : Nat} {o : Obj} (h : r < w.heap.size) : Chg (· = r) w { w with heap := w.heap.setIfInBounds r o } :=
 ⟨rfl,rfl,rfl,by simp,fun k _ hk => by
   show (w.heap.setIfInBounds r o)[k]? = _
   rw [Array.getElem?_setIfInBounds_ne (by omega)]⟩
theorem lnext_str {r pos : Nat} {l : Str} {T : TypeId} {w : World} {K : Value → World → Prop} (hw : w.heap[r]? = some (.stringIter (ofL l) pos))
   (h0 : l.length ≤ pos → K (.tuple #[.bool false]) w)
   (h1 : pos < l.length → ∀ w',w'.heap[r]? = some (.stringIter (ofL l) (pos + (Utf8.decode (ofL l) pos).2)) → Chg (· = r) w w' → w'.heap.size = w.heap.size → K (.tuple #[.bool true,i64 pos,.int .i32 (Utf8.decode (ofL l) pos).1]) w') :
   semE Tryd.prog (Instr.next (.pointer (some ⟨r,0,none⟩)) true T) w K := by
 have hg : (getObj r).run Tryd.prog w = .ok (.stringIter (ofL l) pos) w := by simp [getObj,Sem.run,hw]
 have hlt : r < w.heap.size := (Array.getElem?_eq_some_iff.1 hw).1
 unfold semE
 simp only [Instr.next,run_bind,hg,ofL_size]
 by_cases hp : pos < l.length
 · have hset : (setObj r (.stringIter (ofL l) (pos + (Utf8.decode (ofL l) pos).2))).run Tryd.prog w = .ok () { w with heap := w.heap.setIfInBounds r (.stringIter (ofL l) (pos + (Utf8.decode (ofL l) pos).2)) } := by simp [setObj,Sem.run,hw]
   rw [if_pos hp]
   simp only [run_bind,hset,run_pure]
   exact h1 hp _ (by simp [hlt]) (lset_chg hlt) (by simp)
 · rw [if_neg hp]
   simp only [run_pure]
   exact h0 (by omega)
theorem sign_ref {c : UInt8} {r : Str} {w : World} {K : Value → World → Prop} (hl : r.length ≤ 1000000) (hK : K (str (signM (c :: r))) w) : callF Tryd.prog 45 [str (c :: r)] w K := by
 refine W45_ok ?_
 unfold W45
 unfold signM at hK
 refine JoinW.cut (fun _ w' => w' = w ∧ signs2.contains ((c :: r).take 2) = false) ?_ ?_
 · rw [lens_str,bin_gtr,condW_dec]
   refine ⟨fun hlen => ?_,fun hlen => ⟨rfl,?_⟩⟩
   · rw [sls_str,bd_some]
     refine ⟨by omega,by omega,?_⟩
     rw [bd_none,List.drop_zero]
     rw [show (c :: r).take (Int.toNat 2) = (c :: r).take 2 from rfl]
     generalize hx : (c :: r).take 2 = x at hK ⊢
     refine JoinW.cut (fun st w' => st = [.bool (signs2.contains x)] ∧ w' = w) ?_ ?_
     · unfold signs2
       simp only [List.contains_cons,List.contains_nil,Bool.or_false]
       have eqd : ∀ y : Str,decide (x = y) = (x == y) := fun y => by rw [Bool.eq_iff_iff]; simp
       simp only [bin_seq,eqd]
       generalize (x == [61,61]) = a1
       generalize (x == [33,61]) = a2
       generalize (x == [60,61]) = a3
       generalize (x == [62,61]) = a4
       generalize (x == [38,38]) = a5
       generalize (x == [124,124]) = a6
       cases a1 <;> simp only [condW_true,condW_false,Bool.true_or,Bool.false_or,and_self]
       cases a2 <;> simp only [condW_true,condW_false,Bool.true_or,Bool.false_or,and_self]
       cases a3 <;> simp only [condW_true,condW_false,Bool.true_or,Bool.false_or,and_self]
       cases a4 <;> simp only [condW_true,condW_false,Bool.true_or,Bool.false_or,and_self]
       cases a5 <;> simp only [condW_true,condW_false,Bool.true_or,Bool.false_or,and_self]
     rintro st g w' ⟨rfl,rfl⟩
     simp only [List.getD_cons_zero]
     rw [condW_b]
     refine ⟨fun hy => ?_,fun hn => ⟨trivial,hn⟩⟩
     rw [if_pos hy] at hK
     rw [sls_str,bd_some]
     refine ⟨by omega,by omega,?_⟩
     rw [bd_none,List.drop_zero]
     show K (str ((c :: r).take 2)) w'
     rw [hx]
     exact hK
   · have : r = [] := List.eq_nil_of_length_eq_zero (by simp only [List.length_cons] at hlen; omega)
     subst this
     simp [signs2]
 rintro _ g w' ⟨rfl,hn⟩
 rw [if_neg (by rw [hn]; decide)] at hK
 refine ixs_i (s := c :: r) (i := 0) (by simp) ?_
 show callF Tryd.prog 35 [_,cv c] w' _
 refine indexb_p ?_
 rw [bin_geq,sign19,condW_b]
 have hK : K (str (if signs1.contains c = true then (c :: r).take 1 else [])) w' := hK
 refine ⟨fun hy => ?_,fun hy => ?_⟩
 · rw [if_pos hy] at hK
   rw [sls_str,bd_some]
   refine ⟨by omega,by simp only [List.length_cons]; omega,?_⟩
   rw [bd_none,List.drop_zero]
   exact hK
 · rw [if_neg (by rw [hy]; decide)] at hK
   exact hK
theorem cutl_p {t : Str} {w : World} {K : Value → World → Prop} (hT : TabI w) (hl : t.length ≤ 1000000) (hK : ∀ x w',Ext w w' → K (.tuple #[str (t.take (runM (fun b => b != 10) t)),x,.bool (decide (runM (fun b => b != 10) t < t.length))]) w') : callF Tryd.prog 55 [str t,str [10]] w K := by
 obtain ⟨m,hm⟩ := hT
 refine of_calls (args := #[str t,str [10]]) Tryd.call55 ((Tryd.strings_Cut (ofL t) (ofL [10]) m w (by rw [ofL_size]; omega) hm).mono ?_)
 rintro e w' ⟨rfl,n,rfl⟩
 obtain ⟨h1,h2⟩ := cut_run t
 rw [ofL_data,ofL_data]
 refine ⟨_,rfl,?_⟩
 rw [show (⟨(Lib.cut t [10]).1.toArray⟩ : ByteArray) = ofL (t.take (runM (fun b => b != 10) t)) from by rw [h1]; rfl,h2]
 refine hK _ _ ?_
 exact ⟨rfl,rfl,rfl,Nat.le_refl _,fun _ _ _ => rfl⟩
theorem triml_p {t : Str} {w : World} {K : Value → World → Prop} (hl : t.length ≤ 1000000) (hK : ∀ w',Ext w w' → K (str (t.drop (runM (fun b => b == 32 || b == 9) t))) w') : callF Tryd.prog 56 [str t,str [32,9]] w K := by
 refine of_calls (args := #[str t,str [32,9]]) Tryd.call56 ((Tryd.strings_TrimLeft_laid (ofL t) (ofL [32,9]) w (by rw [ofL_size]; decide) (fun j b hb => ?_)).mono ?_)
 · rw [ofL_data] at hb
   have := List.mem_of_getElem? hb
   simp only [List.mem_cons,List.not_mem_nil,or_false] at this
   rcases this with rfl | rfl <;> decide
 rintro e w' ⟨rfl,hb⟩
 rw [ofL_data,ofL_data,trim_run]
 exact ⟨_,rfl,hK w' (Chg.of_below hb)⟩
end
end Go.Proofs.YtofhaneggcpdaaaDoor
namespace Go.Proofs.YtofhaneggcpdaaaDoor
open Go Go.Eng Go.RowKit Go.Syn Go.Lex
set_option maxRecDepth 100000
theorem hereL_len (s : Str) : (hereL s).length ≤ 2 * s.length := by
 induction s with
 | nil => simp [hereL]
 | cons c r ih => simp only [hereL]; (repeat' split) <;> simp only [List.length_cons] <;> omega
def hereR (c : Nat) : Str × Nat := if c = 92 ∨ c = 34 ∨ c = 36 then ([92],c) else if c = 9 then ([92],116) else if c = 13 then ([92],114) else ([],c)
theorem hereR_one (x : UInt8) (h : wrM x.toNat = [x]) : hereL [x] = (hereR x.toNat).1 ++ wrM (hereR x.toNat).2 := by
 have e : ∀ k : UInt8,(x == k) = decide (x.toNat = k.toNat) := fun k => by
   rw [Bool.eq_iff_iff,beq_iff_eq,decide_eq_true_iff,UInt8.toNat_inj]
 simp only [hereL,e]
 unfold hereR
 by_cases h1 : x.toNat = 92 ∨ x.toNat = 34 ∨ x.toNat = 36
 · rw [if_pos (by simp only [Bool.or_eq_true,decide_eq_true_iff]; rcases h1 with h | h | h; exact .inl (.inl h); exact .inl (.inr h); exact .inr h),if_pos h1]
   show _ = [92] ++ wrM x.toNat
   rw [h]; rfl
 rw [if_neg (by simp only [Bool.or_eq_true,decide_eq_true_iff]; rintro ((h | h) | h); exact h1 (.inl h); exact h1 (.inr (.inl h)); exact h1 (.inr (.inr h))),if_neg h1]
 by_cases h2 : x.toNat = 9
 · rw [if_pos (by simpa using h2),if_pos h2]; rfl
 rw [if_neg (by simpa using h2),if_neg h2]
 by_cases h3 : x.toNat = 13
 · rw [if_pos (by simpa using h3),if_pos h3]; rfl
 rw [if_neg (by simpa using h3),if_neg h3]
 exact h.symm
theorem hereR_high {c : Nat} (h : 128 ≤ c) : hereR c = ([],c) := by
 unfold hereR
 rw [if_neg (by omega),if_neg (by omega),if_neg (by omega)]
theorem hereR_ok {c : Nat} (h : c < 55296 ∨ 57343 < c ∧ c ≤ 1114111) : (hereR c).2 < 55296 ∨ 57343 < (hereR c).2 ∧ (hereR c).2 ≤ 1114111 := by
 unfold hereR
 (repeat' split) <;> (dsimp only; omega)
theorem hereR_len (c : Nat) : (hereR c).1.length ≤ 1 := by unfold hereR; (repeat' split) <;> simp
def hfin (l : Str) (at_ : Nat) (x : Str × Nat × Int) : Str × Nat × Int := if x.2.2 = 0 then (l ++ x.1,x.2.1 + at_,0) else ([],0,x.2.2)
theorem hfin_hfin (l m : Str) (a b : Nat) (x : Str × Nat × Int) : hfin l a (if x.2.2 = 0 then (m ++ x.1,x.2.1 + b,0) else ([],0,x.2.2)) = hfin (l ++ m) (a + b) x := by
 unfold hfin
 by_cases h : x.2.2 = 0
 · simp only [h,if_true,List.append_assoc]; rw [show x.2.1 + b + a = x.2.1 + (a + b) by omega]
 · simp only [if_neg h]
theorem here_step (n : Nat) (name s : Str) : hereF (n + 1) name s = (if (s.take (runM (fun b => b != 10) s)).drop (runM (fun b => b == 32 || b == 9) (s.take (runM (fun b => b != 10) s))) = name then ([],runM (fun b => b != 10) s,0) else if s.length ≤ runM (fun b => b != 10) s then ([],0,40) else
 (if (hereF n name (s.drop (runM (fun b => b != 10) s + 1))).2.2 = 0 then (hereL (s.take (runM (fun b => b != 10) s)) ++ [92,110] ++ (hereF n name (s.drop (runM (fun b => b != 10) s + 1))).1,(hereF n name (s.drop (runM (fun b => b != 10) s + 1))).2.1 + (runM (fun b => b != 10) s + 1),0) else ([],0,(hereF n name (s.drop (runM (fun b => b != 10) s + 1))).2.2))) := rfl
section
variable [HX]
theorem heredoc_p {s : Str} {w : World} {K : Value → World → Prop} (hT : TabI w) (hU : Utf s) (hl : s.length ≤ 1000000) (h2 : 2 ≤ s.length)
   (hK : ∀ w',Ext w w' → K (.tuple #[str (heredocM s).1,i64 ((heredocM s).2.1 : Nat),i64 (heredocM s).2.2]) w') : callF Tryd.prog 44 [str s] w K := by
 refine W44_ok ?_
 unfold W44
 unfold heredocM at hK
 dsimp only at hK
 generalize hn : (if isLetter ((s.drop 2).headD 0) then runM isName (s.drop 2) else 0) = n at hK
 have hnl : n + 2 ≤ s.length := by
   have := run_le isName (s.drop 2)
   rw [List.length_drop] at this
   rw [← hn]; split <;> omega
 refine JoinW.cut (fun st w' => st = [i64 (n : Nat)] ∧ w' = w) ?_ ?_
 · rw [lens_str,bin_gtr]
   refine GdW.look (isLetter ((s.drop 2).headD 0)) (fun hg J hJ => ?_) fun g => ?_
   · rw [isB_t,decide_eq_true_iff] at hg
     have hlt : 2 < s.length := by omega
     refine ixs_i (i := 2) hlt ?_
     refine letter_p ?_
     rw [drop_len hlt] at hJ
     exact hJ
   · simp only [List.getD_cons_zero,isB_t]
     rw [pick_gd_and,condW_b]
     refine ⟨fun hy => ?_,fun hno => ?_⟩
     · rw [Bool.and_eq_true] at hy
       rw [if_pos hy.2] at hn
       rw [sls_str,bd_none,bd_some]
       refine ⟨by omega,by omega,?_⟩
       rw [List.take_length]
       show callF Tryd.prog 36 [str (s.drop 2),_] w _
       refine run_p (q := isName) (by rw [List.length_drop]; omega) (fun c {w K} h => callV_fn' (name2_p h)) ?_
       rw [hn]
       exact ⟨rfl,rfl⟩
     · have : n = 0 := by
         rw [← hn]
         by_cases hlet : isLetter ((s.drop 2).headD 0) = true
         · rw [hlet,Bool.and_true,decide_eq_false_iff_not] at hno
           rw [if_pos hlet,List.drop_eq_nil_of_le (by omega)]; rfl
         · rw [if_neg hlet]
       rw [this]
       exact ⟨rfl,trivial⟩
 rintro st g w' ⟨rfl,rfl⟩
 simp only [List.getD_cons_zero]
 rw [bin_add,wrap_id (by omega) (by omega)]
 rw [sls_str,bd_some,bd_some]
 refine ⟨by omega,by omega,by omega,by omega,?_⟩
 have hnm : (s.take (Int.toNat (2 + (n : Nat)))).drop (Int.toNat 2) = (s.drop 2).take n := by
   rw [show Int.toNat (2 + (n : Nat)) = 2 + n by omega,show Int.toNat 2 = 2 from rfl,List.drop_take]
   rw [show 2 + n - 2 = n by omega]
 rw [hnm,bin_add,wrap_id (by omega) (by omega),show (2 + (n : Nat) : Int) = ((2 + n : Nat) : Int) by omega]
 generalize (s.drop 2).take n = nm at *
 rw [bin_eql]
 simp only [isB_f]
 refine GdW.look (decide (s.length ≤ 2 + n)) (fun _ J hJ => ?_) fun g1 => ?_
 · rw [lens_str,bin_geq,show decide (((s.length : Nat) : Int) ≤ ((2 + n : Nat) : Int)) = decide (s.length ≤ 2 + n) by rw [decide_eq_decide]; omega]
   exact hJ
 simp only [List.getD_cons_zero]
 rw [pick_gd_or]
 simp only [isB_f]
 refine GdW.look (decide ((s.drop (2 + n)).head? ≠ some 10)) (fun hg J hJ => ?_) fun g2 => ?_
 · have hlt : 2 + n < s.length := by
     simp only [Bool.not_eq_true',Bool.or_eq_false_iff,decide_eq_false_iff_not] at hg
     omega
   refine ixs_i hlt ?_
   have e5 : decide (((s[2 + n].toNat : Nat) : Int) = 10) = (s[2 + n] == 10) := eq_nat 10 _
   rw [bin_neq]
   rw [drop_len hlt] at hJ
   have : decide (((s[2 + n].toNat : Nat) : Int) ≠ 10) = decide ((s[2 + n] :: s.drop (2 + n + 1)).head? ≠ some 10) := by
     have e6 : ∀ (c : UInt8) (r : Str),(c == 10) = decide ((c :: r).head? = some 10) := fun c r => by rw [Bool.eq_iff_iff]; simp
     rw [decide_not,e5,decide_not,e6 _ (s.drop (2 + n + 1))]
   rw [this]
   exact hJ
 simp only [List.getD_cons_zero]
 rw [pick_gd_or,condW_b]
 refine ⟨fun hbad => ?_,fun hok => ?_⟩
 · have hb : n = 0 ∨ ¬ (s.drop (2 + n)).head? = some 10 := by
     simp only [Bool.or_eq_true,decide_eq_true_iff] at hbad
     rcases hbad with (h | h) | h
     · exact .inl (by omega)
     · right; rw [List.drop_eq_nil_of_le (by omega)]; simp
     · exact .inr h
   have hK := hK w' (Chg.refl _ _)
   rcases hb with h | h
   · rw [if_pos h] at hK; exact hK
   · rw [if_neg h] at hK
     split at hK <;> exact hK
 simp only [Bool.or_eq_false_iff,decide_eq_false_iff_not,ne_eq,Decidable.not_not] at hok
 obtain ⟨⟨hn0,hlt⟩,h10⟩ := hok
 have hlt : 2 + n < s.length := by omega
 rw [if_neg (by omega),if_pos h10] at hK
 rw [bin_add,upi (by omega)]
 have hUs : Utf (s.drop (2 + n + 1)) := by
   have hd := drop_len hlt
   rw [hd] at h10
   simp only [List.head?_cons,Option.some.injEq] at h10
   exact utf_cons (utf_drop hU hd (by rw [h10]; decide)).2 (by rw [h10]; decide)
 generalize hR : hereF (s.length + 1) nm (s.drop (2 + n + 1)) = X at hK
 have hR2 : hfin [] (2 + n + 1) X = if X.2.2 = 0 then (X.1,X.2.1 + (2 + n + 1),0) else ([],0,X.2.2) := by unfold hfin; rw [List.nil_append]
 rw [← hR2] at hK
 refine bnew (B := w'.heap.size) (Nat.le_refl _) fun b w1 hb h1 hx1 => ?_
 generalize hR0 : hfin [] (2 + n + 1) X = R0 at hK
 refine LoopW.go (fun st w2 => ∃ (i m : Nat) (l : Str),st = [i64 (i : Nat)] ∧ i ≤ s.length ∧ Utf (s.drop i) ∧ Bld w2 w'.heap.size b l ∧ Ext w' w2 ∧ l.length ≤ 2 * i ∧ hfin l i (hereF m nm (s.drop i)) = R0 ∧ s.length < m + i) (fun st _ => match st with | [.int _ i] => s.length + 1 - i.toNat | _ => 0) ⟨2 + n + 1,s.length + 1,[],rfl,by omega,hUs,h1,hx1,by simp,by rw [hR,hR0],by omega⟩ ?_
 rintro st g3 w2 ⟨i,m,l,rfl,hi,hu,hB,hx,hll,hr,hm⟩
 obtain ⟨m,rfl⟩ : ∃ k,m = k + 1 := ⟨m - 1,by omega⟩
 rw [here_step] at hr
 simp only [List.getD_cons_zero]
 rw [sls_str,bd_none,bd_some]
 refine ⟨by omega,by omega,?_⟩
 rw [List.take_length,Int.toNat_natCast]
 have hsl : (s.drop i).length = s.length - i := List.length_drop
 refine cutl_p (hT.ext hx) (by omega) fun x w3 hx3 => ?_
 rw [ext_tuple]; refine ⟨_,rfl,?_⟩
 rw [ext_tuple]; refine ⟨_,rfl,?_⟩
 rw [ext_tuple]; refine ⟨_,rfl,?_⟩
 obtain ⟨ul,ur⟩ := utf_line hu
 have hkl := run_le (fun b => b != 10) (s.drop i)
 have htk : ((s.drop i).take (runM (fun b => b != 10) (s.drop i))).length = runM (fun b => b != 10) (s.drop i) := by rw [List.length_take]; omega
 generalize runM (fun b => b != 10) (s.drop i) = k at *
 generalize hln : (s.drop i).take k = ln at *
 refine triml_p (by omega) fun w4 hx4 => ?_
 have hx' : Ext w' w4 := (hx.trans hx3).trans hx4
 have hB4 : Bld w4 w'.heap.size b l := (hB.ext hx3).ext hx4
 rw [bin_seq,condW_dec]
 refine ⟨fun hy => ?_,fun hno => ?_⟩
 · rw [if_pos hy] at hr
   refine bstring_p hB4 hx'.size fun w5 hc5 => ?_
   rw [lens_str,bin_add,wrap_id (by omega) (by omega)]
   have hfx : Ext w' w5 := hx'.then hc5 fun k hk e => by omega
   have hK := hK w5 hfx
   rw [← hr] at hK
   simp only [hfin,if_true,List.append_nil] at hK
   rw [show (i : Int) + (ln.length : Nat) = ((k + i : Nat) : Int) by omega]
   exact hK
 rw [if_neg hno] at hr
 rw [un_not,condW_b]
 refine ⟨fun hend => ?_,fun hmore => ?_⟩
 · rw [if_pos (by simpa using hend)] at hr
   have hK := hK w4 hx'
   rw [← hr] at hK
   exact hK
 have hk : k < (s.drop i).length := by simpa using hmore
 rw [if_neg (by omega)] at hr
 rw [hfin_hfin] at hr
 have hun := ur hk
 clear ur
 have hlk : (s.drop i).length = s.length - i := List.length_drop
 refine lrange_str ?_
 have hz4 := hx'.size
 have hbb := hB4.lt
 refine LoopW.go (fun st w5 => ∃ p,p ≤ ln.length ∧ st = [] ∧ Utf (ln.drop p) ∧ w5.heap[w4.heap.size]? = some (.stringIter (ofL ln) p) ∧ Bld w5 w'.heap.size b (l ++ hereL (ln.take p)) ∧ Ext w' w5)
   (fun _ w5 => match w5.heap[w4.heap.size]? with | some (.stringIter _ p) => ln.length - p | _ => 0)
   ⟨0,Nat.zero_le _,rfl,by rw [List.drop_zero]; exact ul,heap_anew _ _ _ rfl,by rw [List.take_zero]; show Bld _ _ _ (l ++ []); rw [List.append_nil]; exact hB4.ext (Chg.alloc (Chg.refl _ _) _),hx'.trans (Chg.alloc (Chg.refl _ _) _)⟩ ?_
 rintro st g4 w5 ⟨p,hp,rfl,hup,hit,hB5,hx5⟩
 have hz5 := hx5.size
 have hl5 : (l ++ hereL (ln.take p)).length ≤ 2 * i + 2 * k := by
   have := hereL_len (ln.take p)
   have : (ln.take p).length ≤ k := by rw [List.length_take]; omega
   rw [List.length_append]; omega
 refine lnext_str hit (fun hpe => ?_) (fun hpl w6 hit6 hc6 hz6 => ?_)
 · rw [ext_tuple]
   refine ⟨.bool false,rfl,?_⟩
   rw [condW_false]
   obtain rfl : p = ln.length := by omega
   rw [List.take_length] at hB5 hl5
   refine wstr_p hB5 hz5 (by simp only [List.length_cons,List.length_nil]; omega) fun v w6 h6 hc6 => ?_
   have hx6 : Ext w' w6 := BCh.new hx5 (Nat.le_refl _) (by omega) hc6
   rw [lens_str,bin_add,wrap_id (by omega) (by omega),bin_add,wrap_id (by omega) (by omega)]
   have hgl := hereL_len ln
   refine ⟨⟨i + (k + 1),m,l ++ hereL ln ++ [92,110],by simp only [List.cons.injEq,Value.int.injEq,true_and,and_true]; omega,by omega,?_,h6,hx6,?_,?_,by omega⟩,?_⟩
   · rw [← drop_drop']; exact hun
   · simp only [List.length_append,List.length_cons,List.length_nil]; omega
   · rw [← hr,drop_drop',List.append_assoc]
   · simp only [Int.toNat_natCast]; omega
 · have hne : ln.drop p ≠ [] := fun e => by have := List.drop_eq_nil_iff.1 e; omega
   obtain ⟨u,r,hru,hur,hdr⟩ : ∃ u r,Rn u ∧ Utf r ∧ ln.drop p = u ++ r := by
     cases hd : ln.drop p with
     | nil => exact absurd hd hne
     | cons x y =>
       rw [hd] at hup
       generalize he : x :: y = z at hup
       cases hup with
       | nil => cases he
       | cons h1 h2 => exact ⟨_,_,h1,h2,rfl⟩
   have hrm : runeM ln p = u.length := hru.at hdr
   have huz := hru.pos
   obtain ⟨c,hc⟩ := rune_good hpl (by omega)
   rw [hrm] at hc
   have htk2 : (ln.drop p).take u.length = u := by rw [hdr,List.take_left]
   have hnext : ln.take (p + u.length) = ln.take p ++ u := by rw [List.take_add,htk2]
   have hdr2 : ln.drop (p + u.length) = r := drop_app hdr
   have hdec := hc.dec
   have hct := hc.top
   have hcv := hc.val
   have hcu : wrM c = u := by rw [← wr_enc (by omega),hc.bytes,htk2]
   rw [hdec] at hit6
   have hfit := hc.fits
   have hB6 : Bld w6 w'.heap.size b (l ++ hereL (ln.take p)) := hB5.chg hc6 (fun e => by have := e; omega) fun k hk e => by
     obtain ⟨_,c',hc'⟩ := hk
     have e : k = w4.heap.size := e
     rw [e,hit] at hc'; cases hc'
   have hx6 : Ext w' w6 := hx5.then hc6 fun k hk e => by omega
   have hu2 : hereL u = (hereR c).1 ++ wrM (hereR c).2 := by
     rcases hru.cases with ⟨x,hx,hxl⟩ | hh
     · subst hx
       have hcx : c = x.toNat := by
         have := (hc.low rfl).1
         rw [this]
         have e := byteM_in hpl
         rw [Go.Eng.byte_at (show ln.drop p = x :: r from hdr)] at e
         omega
       subst hcx
       exact hereR_one x hcu
     · have hc128 : 128 ≤ c := by
         have hb0 := byte_pref (j := 0) hdr huz
         have h128 := hh u[0] (List.getElem_mem ..)
         rw [Nat.add_zero,byteM_in hpl] at hb0
         by_cases h1 : u.length = 1
         · have := hc.low h1; omega
         · exact (hc.high (by omega)).1
       rw [hereR_high hc128,hereL_high hh,hcu]; rfl
   have hok := hereR_ok (c := c) (by omega)
   have hl1 := hereR_len c
   rw [ext_tuple]
   refine ⟨.bool true,rfl,?_⟩
   rw [condW_true,ext_tuple]
   refine ⟨.int .i32 (c : Int),by rw [hdec]; rfl,?_⟩
   refine JoinW.cut (fun st w7 => st = [.int .i32 ((hereR c).2 : Nat)] ∧ Bld w7 w'.heap.size b (l ++ hereL (ln.take p) ++ (hereR c).1) ∧ w7.heap[w4.heap.size]? = some (.stringIter (ofL ln) (p + u.length)) ∧ Ext w' w7) ?_ ?_
   · have wr : ∀ (x : Nat) (w7 : World),hereR c = ([92],x) → Bld w7 w'.heap.size b (l ++ hereL (ln.take p) ++ [92]) → Chg (BCh w6 w'.heap.size b) w6 w7 → [Value.int .i32 (x : Int)] = [.int .i32 ((hereR c).2 : Nat)] ∧ Bld w7 w'.heap.size b (l ++ hereL (ln.take p) ++ (hereR c).1) ∧ w7.heap[w4.heap.size]? = some (.stringIter (ofL ln) (p + u.length)) ∧ Ext w' w7 := by
       intro x w7 e h7 hc7
       rw [e]
       exact ⟨rfl,h7,BCh.iter hc7 hit6 (by omega),BCh.new hx6 (Nat.le_refl _) (by omega) hc7⟩
     refine JoinW.cut (fun st w7 => st = [.bool (decide (c = 92 ∨ c = 34 ∨ c = 36))] ∧ w7 = w6) ?_ ?_
     · rw [bin_eql,condW_dec]
       refine ⟨fun h => ?_,fun h => ?_⟩
       · rw [decide_eq_true h,decide_eq_true (.inl (by omega))]; exact ⟨rfl,rfl⟩
       rw [bin_eql,condW_dec]
       refine ⟨fun h' => ?_,fun h' => ?_⟩
       · rw [decide_eq_true h',decide_eq_true (.inr (.inl (by omega)))]; exact ⟨rfl,rfl⟩
       rw [bin_eql]
       rw [show decide (((c : Nat) : Int) = 36) = decide (c = 92 ∨ c = 34 ∨ c = 36) by rw [decide_eq_decide]; omega]
       exact ⟨rfl,rfl⟩
     rintro st g5 w7 ⟨rfl,rfl⟩
     simp only [List.getD_cons_zero]
     rw [condW_dec]
     refine ⟨fun h => ?_,fun h => ?_⟩
     · refine wbyte_p (n := 92) hB6 (by omega) (by omega) (by omega) fun w8 h8 hc8 => ?_
       exact wr c w8 (by unfold hereR; rw [if_pos h]) h8 hc8
     rw [bin_eql,condW_dec]
     refine ⟨fun h' => ?_,fun h' => ?_⟩
     · refine wbyte_p (n := 92) hB6 (by omega) (by omega) (by omega) fun w8 h8 hc8 => ?_
       exact wr 116 w8 (by unfold hereR; rw [if_neg h,if_pos (by omega)]) h8 hc8
     rw [bin_eql,condW_dec]
     refine ⟨fun h'' => ?_,fun h'' => ?_⟩
     · refine wbyte_p (n := 92) hB6 (by omega) (by omega) (by omega) fun w8 h8 hc8 => ?_
       exact wr 114 w8 (by unfold hereR; rw [if_neg h,if_neg (by omega),if_pos (by omega)]) h8 hc8
     have e : hereR c = ([],c) := by unfold hereR; rw [if_neg h,if_neg (by omega),if_neg (by omega)]
     rw [e,List.append_nil]
     exact ⟨rfl,hB6,hit6,hx6⟩
   rintro st g5 w7 ⟨rfl,hB7,hit7,hx7⟩
   simp only [List.getD_cons_zero]
   have hz7 := hx7.size
   refine wrune_p hB7 hz7 (by rw [List.length_append]; omega) hok fun v w8 h8 hc8 => ?_
   have hit8 := BCh.iter hc8 hit7 (by omega)
   refine ⟨⟨p + u.length,hfit,trivial,by rw [hdr2]; exact hur,hit8,?_,BCh.new hx7 (Nat.le_refl _) (by omega) hc8⟩,?_⟩
   · rw [hnext,hereL_app,hu2,← List.append_assoc,← List.append_assoc]; exact h8
   · rw [hit8,hit]
     show ln.length - (p + u.length) < ln.length - p
     omega
end
end Go.Proofs.YtofhaneggcpdaaaDoor
namespace Go.Proofs.YtofhaneggcpdaaaDoor
open Go Go.Eng Go.RowKit Go.Syn Go.Lex
set_option maxRecDepth 100000
theorem textX_fits {r : Str} {d : Nat} (h : (textX r d).2 = 0) : 1 ≤ (textX r d).1 ∧ (textX r d).1 ≤ r.length := by
 exact ((ins_bra _ r (Nat.le_refl _)).1 d _ (Prod.ext rfl h)).2
theorem one_cons (c : UInt8) (r : Str) : oneM (c :: r) =
 (if (c == 10) = true then (⟨5,[10],0⟩,1,0)
 else if isLetter c = true then (⟨1,(c :: r).take (runM isName (c :: r)),0⟩,runM isName (c :: r),if 32 < runM isName (c :: r) then 3 else 0)
 else if isDigit c = true then
   (⟨2,(c :: r).take (runM isDigit (c :: r)),0⟩,runM isDigit (c :: r),if ((runM isDigit (c :: r) < (c :: r).length && isLetter (((c :: r).drop (runM isDigit (c :: r))).headD 0)) || (c == 48 && 1 < runM isDigit (c :: r))) = true then 40 else if Num.goodN ((c :: r).take (runM isDigit (c :: r))) = true then 0 else 3)
 else if (c == 34) = true then
   (if (textF ((c :: r).length + 1) r 0).2 = 0 then (⟨3,r.take ((textF ((c :: r).length + 1) r 0).1 - 1),0⟩,(textF ((c :: r).length + 1) r 0).1 + 1,0) else (⟨0,[],0⟩,0,(textF ((c :: r).length + 1) r 0).2))
 else if preM [60,60] (c :: r) = true then (⟨3,(heredocM (c :: r)).1,0⟩,(heredocM (c :: r)).2.1,(heredocM (c :: r)).2.2)
 else (⟨4,signM (c :: r),0⟩,(signM (c :: r)).length,if (signM (c :: r)).length = 0 then 40 else 0)) := rfl
section
variable [HX]
theorem one_p {c : UInt8} {r : Str} {w : World} {K : Value → World → Prop} (hT : TabI w) (hU : Utf (c :: r)) (hl : r.length ≤ 100000)
   (hK : ∀ w',Ext w w' → K (.tuple #[.agg (tokc (oneM (c :: r)).1).toArray,i64 ((oneM (c :: r)).2.1 : Nat),i64 (oneM (c :: r)).2.2]) w') : callF Tryd.prog 25 [str (c :: r)] w K := by
 refine W25_ok ?_
 unfold W25
 have hlen : (c :: r).length = r.length + 1 := rfl
 refine alloc_new fun a w1 ha hz1 hab1 hx1 => ?_
 refine alloc_new fun b w2 hb hz2 hbb2 hx2 => ?_
 have hx02 := hx1.trans hx2
 have hab2 := hx2.at hab1 id
 have cond : ∀ (k : Nat),k < 256 → (((c.toNat : Nat) : Int) = (k : Int) ↔ c = UInt8.ofNat k) := fun k hk => by
   have := u8_eq c k hk
   rwa [decide_eq_decide] at this
 generalize ho : oneM (c :: r) = o at hK
 rw [one_cons] at ho
 refine JoinW.cut (fun st w' => st = [i64 o.2.2,i64 (o.2.1 : Nat)] ∧ Ext w w' ∧ w'.heap[a]? = some (.cells [i64 0,str [],i64 0].toArray TkT (0,0)) ∧ w'.heap[b]? = some (.cells (tokc o.1).toArray TkT (0,0))) ?_ ?_
 · -- a token laid in b at a later world
   have put : ∀ {w3 : World} {t : Tok} {old : List Value} {K' : World → Prop},Ext w w3 → w3.heap[a]? = some (.cells [i64 0,str [],i64 0].toArray TkT (0,0)) → w3.heap[b]? = some (.cells old.toArray TkT (0,0)) → old.length = 3 →
       (∀ w4,Ext w w4 → w4.heap[a]? = some (.cells [i64 0,str [],i64 0].toArray TkT (0,0)) → w4.heap[b]? = some (.cells (tokc t).toArray TkT (0,0)) → K' w4) → stW 3 (.pointer (some ⟨b,0,none⟩)) (.agg (tokc t).toArray) w3 K' := by
     intro w3 t old K' hx ha3 hb3 ho3 h
     refine st_agg_at hb3 rfl ho3 rfl fun w4 hz4 hb4 hc4 => ?_
     exact h w4 (hx.new hc4 (by omega)) (hc4.at ha3 (by omega)) hb4
   refine ixs_i (i := 0) (by rw [hlen]; omega) ?_
   simp only [List.getElem_cons_zero]
   rw [bin_eql,condW_dec]
   refine ⟨fun e => ?_,fun e => ?_⟩
   · have e : c = 10 := (cond 10 (by omega)).1 e
     subst e
     simp only [beq_self_eq_true,if_true] at ho
     subst ho
     simp only [put_int,put_str,List.length_cons,List.length_nil,List.set_cons_zero,List.set_cons_succ,Nat.reduceAdd,Nat.reduceLT,true_and,Nat.zero_lt_succ]
     refine st_agg_at (l := [i64 5,str [10],i64 0]) hab2 rfl rfl rfl fun w3 hz3 hab3 hc3 => ?_
     refine ld_all hab3 rfl ?_
     exact hK w3 (hx02.new hc3 (by omega))
   have e : ¬ (c == 10) = true := fun h => e ((cond 10 (by omega)).2 (by simpa using h))
   rw [if_neg e] at ho
   refine letter_p ?_
   rw [condW_b]
   refine ⟨fun hy => ?_,fun hno => ?_⟩
   · rw [if_pos hy] at ho
     refine run_p (q := isName) (by rw [hlen]; omega) (fun c {w K} h => callV_fn' (name1_p h)) ?_
     have hle := run_le isName (c :: r)
     rw [hlen] at hle
     generalize runM isName (c :: r) = n at *
     rw [sls_str,bd_some]
     refine ⟨by omega,by rw [hlen]; omega,?_⟩
     rw [bd_none,List.drop_zero,Int.toNat_natCast]
     simp only [put_int,put_str,List.length_cons,List.length_nil,List.set_cons_zero,List.set_cons_succ,Nat.reduceAdd,Nat.reduceLT,true_and,Nat.zero_lt_succ]
     refine put (t := ⟨1,(c :: r).take n,0⟩) hx02 hab2 hbb2 rfl fun w4 hx4 ha4 hb4 => ?_
     rw [bin_gtr,condW_dec]
     subst ho
     refine ⟨fun h => ?_,fun h => ?_⟩
     · exact ⟨by rw [if_pos (by omega)],hx4,ha4,hb4⟩
     · exact ⟨by rw [if_neg (by omega)],hx4,ha4,hb4⟩
   rw [if_neg (by rw [hno]; decide)] at ho
   refine digit_p ?_
   rw [condW_b]
   refine ⟨fun hy => ?_,fun hno => ?_⟩
   · rw [if_pos hy] at ho
     refine run_p (q := isDigit) (by rw [hlen]; omega) (fun c {w K} h => callV_fn' (digit_p h)) ?_
     have hle := run_le isDigit (c :: r)
     rw [hlen] at hle
     generalize runM isDigit (c :: r) = n at *
     rw [sls_str,bd_some]
     refine ⟨by omega,by rw [hlen]; omega,?_⟩
     rw [bd_none,List.drop_zero,Int.toNat_natCast]
     simp only [put_int,put_str,List.length_cons,List.length_nil,List.set_cons_zero,List.set_cons_succ,Nat.reduceAdd,Nat.reduceLT,true_and,Nat.zero_lt_succ]
     refine put (t := ⟨2,(c :: r).take n,0⟩) hx02 hab2 hbb2 rfl fun w4 hx4 ha4 hb4 => ?_
     refine JoinW.cut (fun st w' => st = [.bool ((n < (c :: r).length && isLetter (((c :: r).drop n).headD 0)) || (c == 48 && 1 < n))] ∧ w' = w4) ?_ ?_
     · rw [lens_str,bin_lss,show decide (((n : Nat) : Int) < (((c :: r).length : Nat) : Int)) = decide (n < (c :: r).length) by rw [decide_eq_decide]; omega]
       simp only [isB_t]
       refine GdW.look (isLetter (((c :: r).drop n).headD 0)) (fun hg J hJ => ?_) fun g => ?_
       · have hlt : n < (c :: r).length := by simpa using hg
         refine ixs_i hlt ?_
         refine letter_p ?_
         rw [drop_len hlt] at hJ
         exact hJ
       simp only [List.getD_cons_zero]
       rw [pick_gd_and,condW_b]
       refine ⟨fun h => by rw [h,Bool.true_or]; exact ⟨rfl,trivial⟩,fun h => ?_⟩
       have e5 : decide (((c.toNat : Nat) : Int) = 48) = (c == 48) := eq_nat 48 c
       rw [bin_eql,e5]
       simp only [isB_t,bin_gtr,GdW_pure,List.getD_cons_zero]
       intro g2
       rw [pick_gd_and,h,Bool.false_or]
       refine ⟨?_,trivial⟩
       rw [show decide ((1 : Int) < ((n : Nat) : Int)) = decide (1 < n) by rw [decide_eq_decide]; omega]
     rintro st g w5 ⟨rfl,rfl⟩
     simp only [List.getD_cons_zero]
     rw [condW_b]
     refine ⟨fun h => ?_,fun h => ?_⟩
     · rw [if_pos h] at ho
       subst ho
       exact ⟨rfl,hx4,ha4,hb4⟩
     rw [if_neg (by rw [h]; decide)] at ho
     rw [fld_ptr,ld_one]
     refine ⟨str ((c :: r).take n),by rw [add_mk,cell_eq,hb4]; rfl,?_⟩
     refine numgood_ref (by have : ((c :: r).take n).length ≤ n := (by rw [List.length_take]; omega); omega) fun w6 hx6 => ?_
     rw [un_not,condW_b]
     subst ho
     refine ⟨fun h => ?_,fun h => ?_⟩
     · exact ⟨by rw [if_neg (by simpa using h)],hx4.trans hx6,hx6.at ha4 id,hx6.at hb4 id⟩
     · exact ⟨by rw [if_pos (by simpa using h)],hx4.trans hx6,hx6.at ha4 id,hx6.at hb4 id⟩
   rw [if_neg (by rw [hno]; decide)] at ho
   rw [bin_eql,condW_dec]
   refine ⟨fun e => ?_,fun e => ?_⟩
   · have e : c = 34 := (cond 34 (by omega)).1 e
     rw [if_pos (by rw [e]; rfl),textF_x (by omega)] at ho
     refine ltext_p (d := 0) (by omega) (by omega) ?_
     by_cases h0 : (textX r 0).2 = 0
     · rw [if_pos h0] at ho
       have hf := textX_fits h0
       unfold outV
       rw [if_pos h0,ext_tuple]
       refine ⟨_,rfl,?_⟩
       rw [ext_tuple]
       refine ⟨_,rfl,?_⟩
       rw [bin_eql,condW_dec]
       refine ⟨fun _ => ?_,fun h => absurd rfl h⟩
       rw [bin_sub,wrap_id (by omega) (by omega),sls_str,bd_some,bd_some]
       refine ⟨by omega,by rw [hlen]; omega,by omega,by omega,?_⟩
       have et : ((c :: r).take (Int.toNat (((textX r 0).1 + 1 : Nat) - 1))).drop (Int.toNat 1) = r.take ((textX r 0).1 - 1) := by
         rw [show Int.toNat ((((textX r 0).1 + 1 : Nat) : Int) - 1) = ((textX r 0).1 - 1) + 1 by omega]
         rfl
       rw [et]
       simp only [put_int,put_str,List.length_cons,List.length_nil,List.set_cons_zero,List.set_cons_succ,Nat.reduceAdd,Nat.reduceLT,true_and,Nat.zero_lt_succ]
       refine put (t := ⟨3,r.take ((textX r 0).1 - 1),0⟩) hx02 hab2 hbb2 rfl fun w4 hx4 ha4 hb4 => ?_
       subst ho
       exact ⟨rfl,hx4,ha4,hb4⟩
     · rw [if_neg h0] at ho
       unfold outV
       rw [if_neg h0,ext_tuple]
       refine ⟨_,rfl,?_⟩
       rw [ext_tuple]
       refine ⟨_,rfl,?_⟩
       rw [bin_eql,condW_dec]
       refine ⟨fun h => absurd h h0,fun h => ?_⟩
       subst ho
       exact ⟨rfl,hx02,hab2,hbb2⟩
   have e : ¬ (c == 34) = true := fun h => e ((cond 34 (by omega)).2 (by simpa using h))
   rw [if_neg e] at ho
   refine hasp_p ?_
   rw [condW_b]
   refine ⟨fun hy => ?_,fun hno => ?_⟩
   · rw [if_pos (show preM [60,60] (c :: r) = true from hy)] at ho
     have h2 : 2 ≤ (c :: r).length := pre_len (p := [60,60]) (s := c :: r) hy
     rw [fld_ptr,add_mk,Nat.zero_add]
     refine st_at hbb2 rfl (by simp) fun w3 hz3 hb3 hc3 => ?_
     have hx3 := hx02.new hc3 (by omega)
     have ha3 := hc3.at hab2 (by omega)
     refine heredoc_p (hT.ext hx3) hU (by rw [hlen]; omega) h2 fun w4 hx4 => ?_
     rw [ext_tuple]; refine ⟨_,rfl,?_⟩
     rw [ext_tuple]; refine ⟨_,rfl,?_⟩
     rw [ext_tuple]; refine ⟨_,rfl,?_⟩
     have hb4 := hx4.at hb3 id
     rw [fld_ptr,add_mk,Nat.zero_add]
     refine st_at hb4 rfl (by simp) fun w5 hz5 hb5 hc5 => ?_
     subst ho
     exact ⟨rfl,(hx3.trans hx4).new hc5 (by omega),hc5.at (hx4.at ha3 id) (by omega),by rw [hb5]; simp [tokc]⟩
   · rw [if_neg (show ¬ preM [60,60] (c :: r) = true from by rw [show preM [60,60] (c :: r) = false from hno]; decide)] at ho
     refine sign_ref (by omega) ?_
     simp only [put_int,put_str,List.length_cons,List.length_nil,List.set_cons_zero,List.set_cons_succ,Nat.reduceAdd,Nat.reduceLT,true_and,Nat.zero_lt_succ]
     refine put (t := ⟨4,signM (c :: r),0⟩) hx02 hab2 hbb2 rfl fun w4 hx4 ha4 hb4 => ?_
     rw [fld_ptr,ld_one]
     refine ⟨str (signM (c :: r)),by rw [add_mk,cell_eq,hb4]; rfl,?_⟩
     rw [lens_str,bin_eql,condW_dec]
     subst ho
     refine ⟨fun h => ?_,fun h => ?_⟩
     · exact ⟨by rw [if_pos (by omega)],hx4,ha4,hb4⟩
     · exact ⟨by rw [if_neg (by omega)],hx4,ha4,hb4⟩
 rintro st g w3 ⟨rfl,hx3,ha3,hb3⟩
 refine ld_all hb3 rfl ?_
 refine st_agg_at (l := tokc o.1) ha3 rfl rfl rfl fun w4 hz4 ha4 hc4 => ?_
 refine ld_all ha4 rfl ?_
 exact hK w4 (hx3.new hc4 (by omega))
end
end Go.Proofs.YtofhaneggcpdaaaDoor
namespace Go.Proofs.YtofhaneggcpdaaaDoor
open Go Go.Eng Go.RowKit Go.Syn Go.Lex
set_option maxRecDepth 100000
theorem utf_at {s : Str} {k : Nat} (h : Utf s) (hc : ∀ c,(s.drop k).head? = some c → c.toNat < 128) : Utf (s.drop k) := by
 cases hd : s.drop k with
 | nil => exact .nil
 | cons c b => exact (utf_drop h hd (hc c (by rw [hd]; rfl))).2
theorem utf_past {s : Str} {k : Nat} {c : UInt8} (h : Utf s) (hk : s[k]? = some c) (hc : c.toNat < 128) : Utf (s.drop (k + 1)) := by
 obtain ⟨hlt,e⟩ := List.getElem?_eq_some_iff.1 hk
 have hd := drop_len hlt
 rw [e] at hd
 exact utf_cons (utf_drop h hd hc).2 hc
theorem run_stop (q : UInt8 → Bool) : ∀ (s : Str) (b : UInt8),(s.drop (runM q s)).head? = some b → q b = false
 | [],b,h => by simp [runM] at h
 | c :: r,b,h => by
   simp only [runM] at h
   by_cases hc : q c = true
   · rw [if_pos hc,List.drop_succ_cons] at h; exact run_stop q r b h
   · rw [if_neg hc] at h
     simp only [List.drop_zero,List.head?_cons,Option.some.injEq] at h
     rw [← h]; simpa using hc
theorem run_last (q : UInt8 → Bool) : ∀ (s : Str) (k : Nat),runM q s = k + 1 → ∃ c,s[k]? = some c ∧ q c = true
 | [],k,h => by simp [runM] at h
 | c :: r,k,h => by
   simp only [runM] at h
   by_cases hc : q c = true
   · rw [if_pos hc] at h
     cases k with
     | zero => exact ⟨c,rfl,hc⟩
     | succ k =>
       obtain ⟨x,h1,h2⟩ := run_last q r k (by omega)
       exact ⟨x,by simpa using h1,h2⟩
   · rw [if_neg hc] at h; omega
theorem idx_end : ∀ (s : Str) (i : Nat),Lib.index s [42,47] = (i : Int) → s[i + 1]? = some 47
 | [],i,h => by
   unfold Lib.index at h
   simp at h
 | b :: l,i,h => by
   unfold Lib.index at h
   split at h
   · rename_i hp
     have hi : i = 0 := by omega
     subst hi
     cases l with
     | nil => simp [List.isPrefixOf] at hp
     | cons c l =>
       simp only [List.isPrefixOf,Bool.and_eq_true,beq_iff_eq,Bool.and_true] at hp
       simp [hp.2]
   · split at h
     · omega
     · rename_i hq
       have h1 : Lib.index l [42,47] ≠ -1 := by simpa using hq
       have hg := Lib.index_ge l [42,47]
       have := idx_end l (i - 1) (by omega)
       have hi : 1 ≤ i := by omega
       rw [show i - 1 + 1 = i by omega] at this
       simpa using this
theorem utf_line2 {s : Str} (h : Utf s) : Utf (s.drop (runM (fun b => b != 10) s)) :=
 utf_at h fun c hc => by
   have := run_stop _ _ _ hc
   have : c = 10 := by simpa using this
   subst this; decide
theorem skip_utf : ∀ (n : Nat) (s : Str),Utf s → Utf (s.drop (skipF n s).1)
 | 0,s,h => by simpa [skipF] using h
 | n + 1,[],h => by simpa [skipF] using h
 | n + 1,c :: r,h => by
   rw [skip_step]
   split
   · rename_i hb
     have hc : c.toNat < 128 := by
       simp only [Bool.or_eq_true,beq_iff_eq] at hb
       rcases hb with (rfl | rfl) | rfl <;> decide
     rw [List.drop_succ_cons]
     exact skip_utf n r (utf_cons h hc)
   split
   · have := skip_utf n _ (utf_line2 h)
     rw [drop_drop'] at this
     rw [Nat.add_comm]; exact this
   split
   · rename_i hp
     split
     · simpa using h
     · rename_i hn
       obtain ⟨j,hj⟩ := Int.eq_ofNat_of_zero_le (show 0 ≤ Lib.index (r.drop 1) [42,47] by omega)
       have he := idx_end _ _ hj
       have hu : Utf ((c :: r).drop ((Lib.index (r.drop 1) [42,47]).toNat + 4)) := by
         rw [hj,Int.toNat_natCast]
         refine utf_past (k := j + 3) (c := 47) h ?_ (by decide)
         rw [List.getElem?_drop] at he
         rw [List.getElem?_cons_succ,← he]
         congr 1; omega
       have := skip_utf n _ hu
       rw [drop_drop'] at this
       rw [Nat.add_comm]; exact this
   · simpa using h
theorem hereF_stop : ∀ (n : Nat) (name s : Str) (c : UInt8),(hereF n name s).2.2 = 0 → (s.drop (hereF n name s).2.1).head? = some c → c = 10
 | 0,_,_,_,h,_ => by simp [hereF] at h
 | n + 1,name,s,c,h,hc => by
   rw [here_step] at h hc
   split at h
   · rename_i h1
     rw [if_pos h1] at hc
     have := run_stop _ _ _ hc
     simpa using this
   rename_i h1
   rw [if_neg h1] at hc
   split at h
   · cases h
   rename_i h2
   rw [if_neg h2] at hc
   split at h
   · rename_i h3
     rw [if_pos h3] at hc
     refine hereF_stop n name _ c h3 ?_
     rw [drop_drop']
     rw [show runM (fun b => b != 10) s + 1 + (hereF n name (s.drop (runM (fun b => b != 10) s + 1))).2.1 = (hereF n name (s.drop (runM (fun b => b != 10) s + 1))).2.1 + (runM (fun b => b != 10) s + 1) by omega]
     exact hc
   · rename_i h3; exact absurd h h3
theorem heredoc_stop {s : Str} {c : UInt8} (h : (heredocM s).2.2 = 0) (hc : (s.drop (heredocM s).2.1).head? = some c) : c = 10 := by
 unfold heredocM at h hc
 simp only at h hc
 generalize (if isLetter ((s.drop 2).headD 0) = true then runM isName (s.drop 2) else 0) = n at h hc
 split at h
 · cases h
 rename_i h1
 rw [if_neg h1] at hc
 split at h
 · rename_i h2
   rw [if_pos h2] at hc
   split at h
   · rename_i h3
     rw [if_pos h3] at hc
     refine hereF_stop _ _ _ c h3 ?_
     rw [drop_drop',Nat.add_comm]
     exact hc
   · rename_i h3; exact absurd h h3
 · cases h
theorem name_low {c : UInt8} (h : isName c = true) : c.toNat < 128 := by
 have : ∀ m : Fin 256,isName (UInt8.ofNat m.val) = true → (UInt8.ofNat m.val).toNat < 128 := by decide +kernel
 have h' := this ⟨c.toNat,UInt8.toNat_lt c⟩
 rw [UInt8.ofNat_toNat] at h'
 exact h' h
theorem digit_low {c : UInt8} (h : isDigit c = true) : c.toNat < 128 := name_low (by unfold isName; rw [h]; simp)
theorem sign_low {c : UInt8} (h : signs1.contains c = true) : c.toNat < 128 := by
 have : ∀ m : Fin 256,signs1.contains (UInt8.ofNat m.val) = true → (UInt8.ofNat m.val).toNat < 128 := by decide +kernel
 have h' := this ⟨c.toNat,UInt8.toNat_lt c⟩
 rw [UInt8.ofNat_toNat] at h'
 exact h' h
theorem sign2_low {x : Str} (h : signs2.contains x = true) : x.length = 2 ∧ ∃ c,x[1]? = some c ∧ c.toNat < 128 := by
 have : x ∈ signs2 := by simpa using h
 simp only [signs2,List.mem_cons,List.not_mem_nil,or_false] at this
 rcases this with rfl | rfl | rfl | rfl | rfl | rfl <;> exact ⟨rfl,_,rfl,by decide⟩
theorem one_utf {c : UInt8} {r : Str} (h : Utf (c :: r)) (h0 : (oneM (c :: r)).2.2 = 0) : Utf ((c :: r).drop (oneM (c :: r)).2.1) := by
 have run : ∀ q : UInt8 → Bool,(∀ c,q c = true → c.toNat < 128) → Utf ((c :: r).drop (runM q (c :: r))) := fun q hq => by
   cases hk : runM q (c :: r) with
   | zero => exact h
   | succ k =>
     obtain ⟨x,h1,h2⟩ := run_last q _ _ hk
     exact utf_past h h1 (hq x h2)
 rw [one_cons] at h0 ⊢
 split
 · rename_i e
   have e : c = 10 := by simpa using e
   exact utf_cons h (by rw [e]; decide)
 rename_i n1
 rw [if_neg n1] at h0
 split
 · exact run _ fun c => name_low
 rename_i n2
 rw [if_neg n2] at h0
 split
 · exact run _ fun c => digit_low
 rename_i n3
 rw [if_neg n3] at h0
 split
 · rename_i e
   rw [if_pos e] at h0
   split
   · rename_i h1
     rw [textF_x (by simp only [List.length_cons]; omega)] at h1 ⊢
     have hf := textX_fits h1
     have he := text_end _ r 0 _ (Nat.le_refl _) (Prod.ext rfl h1 : textX r 0 = ((textX r 0).1,0))
     refine utf_past (c := 34) h ?_ (by decide)
     rw [show (textX r 0).1 = (textX r 0).1 - 1 + 1 by omega,List.getElem?_cons_succ]
     exact he
   · rename_i h1
     rw [if_neg h1] at h0
     exact absurd h0 h1
 rename_i n4
 rw [if_neg n4] at h0
 split
 · rename_i h1
   rw [if_pos h1] at h0
   exact utf_at h fun x hx => by rw [heredoc_stop h0 hx]; decide
 rename_i n5
 rw [if_neg n5] at h0
 show Utf ((c :: r).drop (signM (c :: r)).length)
 unfold signM
 split
 · rename_i h1
   obtain ⟨e1,x,e2,e3⟩ := sign2_low h1
   rw [e1]
   refine utf_past (k := 1) (c := x) h ?_ e3
   rw [← e2,List.getElem?_take_of_lt (by omega)]
 split
 · rename_i h1
   exact utf_cons h (sign_low h1)
 · exact h
theorem badF_utf {s : Str} : ∀ (n i : Nat),s.length < n + i → badF n s i = none → Utf (s.drop i)
 | 0,i,hl,_ => by rw [List.drop_of_length_le (by omega)]; exact .nil
 | n + 1,i,hl,h => by
   rw [badF] at h
   split at h
   · rename_i hi; rw [List.drop_of_length_le hi]; exact .nil
   split at h
   · cases h
   · rename_i hi h0
     have hs : stepM s i = runeM s i := by unfold stepM; omega
     rw [hs] at h
     have := Utf.cons (Rn.of h0) (badF_utf n (i + runeM s i) (by omega) h)
     rwa [← List.drop_drop,List.take_append_drop] at this
theorem bad_pref {s : Str} {i : Nat} (h : runeM s i = 0) : Lib.hasPrefix (s.drop i) [239,191,189] = false := by
 rw [Bool.eq_false_iff]
 intro hp
 obtain ⟨r,hr⟩ := List.isPrefixOf_iff_prefix.1 hp
 have hn : Rn [239,191,189] := ⟨by decide,by decide⟩
 have := hn.at hr.symm
 rw [h] at this
 cases this
theorem good_pref {s : Str} {i n : Nat} (h : RuneAt s i n 65533) : Lib.hasPrefix (s.drop i) [239,191,189] = true := by
 have hb := h.bytes
 refine List.isPrefixOf_iff_prefix.2 ?_
 have e : Lib.encodeRune ((65533 : Nat) : Int) = [239,191,189] := by decide
 rw [e] at hb
 rw [hb]
 exact List.take_prefix _ _
end Go.Proofs.YtofhaneggcpdaaaDoor
namespace Go.Proofs.YtofhaneggcpdaaaDoor
open Go Go.Eng Go.RowKit Go.Syn Go.Lex
set_option maxRecDepth 100000
def sfin (acc : List Tok) : RS → RS
 | .ok l => .ok (acc ++ l)
 | .bad c a => .bad c a
theorem sfin_sfin (acc : List Tok) (t : Tok) (x : RS) : sfin acc (match x with | .ok l => .ok (t :: l) | x => x) = sfin (acc ++ [t]) x := by
 cases x <;> simp [sfin]
theorem toks_app (a : List Tok) (t : Tok) : toks (a ++ [t]) = toks a ++ tokc t := by simp [toks,tokc]
section
variable [HX]
theorem scan_p : ScanP := by
 intro w K s hT hl hok hbad
 refine W15_ok ?_
 unfold W15
 rw [lens_str,bin_gtr,condW_dec]
 unfold scanM at hok hbad
 -- what is wrong is handed back in a block of its own
 have bad : ∀ {w1 : World} (c : Int) (i : Nat) {K' : Value → World → Prop},(∀ d w',Ext w w' → w.heap.size ≤ d → w'.heap[d]? = some (.cells [i64 c,str [],i64 (i : Nat)].toArray 34 (0,0)) → K (.tuple #[.slice none 0 0,.pointer (some ⟨d,0,none⟩)]) w') → Ext w w1 →
     boxW 34 (.agg [i64 c,str [],i64 (i : Nat)].toArray) w1 fun t16 w2 => K (.tuple #[.slice none 0 0,t16]) w2 := by
   intro w1 c i _ h hx
   refine box_new (z := [i64 c,str [],i64 (i : Nat)]) fun d w2 hd hz hdb hx2 => ?_
   have := hx.size
   exact h d w2 (hx.trans hx2) (by omega) hdb
 refine ⟨fun h => ?_,fun h => ?_⟩
 · rw [if_pos (by omega)] at hbad
   simp only [put_int,put_str,List.length_cons,List.length_nil,List.set_cons_zero,List.set_cons_succ,Nat.reduceAdd,Nat.reduceLT,true_and,Nat.zero_lt_succ]
   exact bad (K' := K) 3 0 (fun d w' => hbad 3 0 rfl d w') (Chg.refl _ _)
 have hls : s.length ≤ 16384 := by omega
 rw [if_neg (by omega)] at hok hbad
 generalize hB : badF (s.length + 1) s 0 = Bd at hok hbad
 refine lrange_str ?_
 refine LoopW.go (fun st w5 => ∃ p m,p ≤ s.length ∧ st = [] ∧ w5.heap[w.heap.size]? = some (.stringIter (ofL s) p) ∧ Ext w w5 ∧ badF m s p = Bd ∧ s.length < m + p)
   (fun _ w5 => match w5.heap[w.heap.size]? with | some (.stringIter _ p) => s.length - p | _ => 0)
   ⟨0,s.length + 1,Nat.zero_le _,rfl,heap_anew _ _ _ rfl,Chg.alloc (Chg.refl _ _) _,hB,by omega⟩ ?_
 rintro st g w5 ⟨p,m,hp,rfl,hit,hx5,hbf,hm⟩
 obtain ⟨m,rfl⟩ : ∃ k,m = k + 1 := ⟨m - 1,by omega⟩
 rw [badF] at hbf
 have hz5 := hx5.size
 refine lnext_str hit (fun hpe => ?_) (fun hpl w6 hit6 hc6 hz6 => ?_)
 · -- it is UTF-8
   rw [ext_tuple]
   refine ⟨.bool false,rfl,?_⟩
   rw [condW_false]
   rw [if_pos hpe] at hbf
   subst hbf
   simp only at hok hbad
   have hU : Utf s := by
     have := badF_utf (s := s) (s.length + 1) 0 (by omega) hB
     rwa [List.drop_zero] at this
   generalize hR : scanF (s.length + 1) s 0 0 = R0 at hok hbad
   refine LoopW.go (fun st w7 => ∃ (i m : Nat) (acc : List Tok) (v : Value),st = [v,i64 (i : Nat)] ∧ i ≤ s.length ∧ Utf (s.drop i) ∧ Ext w w7 ∧ Own w7 w.heap.size TkT 3 v acc.length (toks acc) ∧ sfin acc (scanF m (s.drop i) i acc.length) = R0 ∧ s.length < m + i ∧ acc.length ≤ 4096)
     (fun st _ => match st with | [_,.int _ i] => s.length - i.toNat | _ => 0)
     ⟨0,s.length + 1,[],_,rfl,Nat.zero_le _,by rw [List.drop_zero]; exact hU,hx5,⟨by simp [toks],.inl ⟨rfl,rfl⟩⟩,by rw [List.drop_zero,List.length_nil,hR]; cases R0 <;> rfl,by omega,by simp⟩ ?_
   rintro st g2 w7 ⟨i,m2,acc,v,rfl,hi,hu,hx7,hO,hr,hm2,hcnt⟩
   obtain ⟨m2,rfl⟩ : ∃ k,m2 = k + 1 := ⟨m2 - 1,by omega⟩
   simp only [scanF] at hr
   simp only [List.getD_cons_zero,List.getD_cons_succ]
   have hz7 := hx7.size
   have hsl : (s.drop i).length = s.length - i := List.length_drop
   rw [sls_str,bd_none,bd_some]
   refine ⟨by omega,by omega,?_⟩
   rw [List.take_length,Int.toNat_natCast]
   refine skip_p (hT.ext hx7) (by omega) ?_
   have hku := skip_utf ((s.drop i).length + 1) _ hu
   have hkl := skip_le ((s.drop i).length + 1) (s.drop i)
   rw [drop_drop'] at hku hr
   generalize skipF ((s.drop i).length + 1) (s.drop i) = k at *
   obtain ⟨k,kc⟩ := k
   simp only at hku hkl hr ⊢
   rw [ext_tuple]; refine ⟨_,rfl,?_⟩
   rw [ext_tuple]; refine ⟨_,rfl,?_⟩
   rw [bin_add,wrap_id (by omega) (by omega),show (i : Int) + (k : Nat) = ((i + k : Nat) : Int) by omega,bin_eql]
   simp only [isB_t]
   refine GdW.look (decide (i + k = s.length)) (fun _ J hJ => ?_) fun g3 => ?_
   · rw [lens_str,bin_eql,show decide (((i + k : Nat) : Int) = ((s.length : Nat) : Int)) = decide (i + k = s.length) by rw [decide_eq_decide]; omega]
     exact hJ
   simp only [List.getD_cons_zero]
   rw [pick_gd_and,condW_b]
   refine ⟨fun hend => ?_,fun hgo => ?_⟩
   · simp only [Bool.and_eq_true,decide_eq_true_iff] at hend
     rw [if_neg (by rw [hend.1]; simp),if_pos (List.drop_eq_nil_of_le (by omega))] at hr
     simp only [put_int,put_str,List.length_cons,List.length_nil,List.set_cons_zero,List.set_cons_succ,Nat.reduceAdd,Nat.reduceLT,true_and,Nat.zero_lt_succ]
     rw [put_nil]
     refine bsl_agg (d := tokc ⟨0,[],((i + k : Nat) : Int)⟩) rfl rfl fun b w8 hb hz8 hbb hx8 => ?_
     refine append_own3 el_tk (hO.ext hx8) (slat_new' (n := 1) hbb) rfl (fun u hu => by simp only [tokc,List.mem_cons,List.not_mem_nil,or_false] at hu; rcases hu with rfl | rfl | rfl <;> rfl) (by omega) (by omega) (by have := hx8.size; omega) fun v' w9 hO9 hc9 hv9 => ?_
     have e : toks acc ++ tokc ⟨0,[],((i + k : Nat) : Int)⟩ = toks (acc ++ [⟨0,[],((i + k : Nat) : Int)⟩]) := (toks_app _ _).symm
     rw [e] at hO9
     have hx9 : Ext w w9 := (hx7.trans hx8).then hc9 fun q hq e => by have := (own_lt hO e).2; omega
     refine hok (acc ++ [⟨0,[],((i + k : Nat) : Int)⟩]) (by rw [← hr]; rfl) v' w9 hx9 (by rw [List.length_append]; exact hO9.sl) fun q hq => ⟨(own_lt hO9 hq).2,(own_lt hO9 hq).1⟩
   · have hgo : ¬ (kc = 0 ∧ i + k = s.length) := by
       rintro ⟨h1,h2⟩
       rw [h1,h2] at hgo
       simp at hgo
     refine alloc_new fun a w8 ha hz8 hab8 hx8 => ?_
     have hx78 := hx7.trans hx8
     -- the token
     refine JoinW.cut (fun st w9 => Ext w w9 ∧ Own w9 w.heap.size TkT 3 v acc.length (toks acc) ∧ w8.heap.size ≤ w9.heap.size ∧ v.ownBlock ≠ some a ∧ ∃ (t : Tok) (n : Nat) (e : Int),st = [i64 e,i64 (n : Nat)] ∧ w9.heap[a]? = some (.cells (tokc t).toArray TkT (0,0)) ∧
       ((e ≠ 0 ∧ R0 = .bad e ((i + k : Nat) : Int)) ∨ (e = 0 ∧ 1 ≤ n ∧ i + k + n ≤ s.length ∧ Utf (s.drop (i + k + n)) ∧ sfin acc (if acc.length = 4096 then .bad 3 ((i + k : Nat) : Int) else match scanF m2 (s.drop (i + k + n)) (i + k + n) (acc.length + 1) with | .ok l => .ok (⟨t.k,t.t,((i + k : Nat) : Int)⟩ :: l) | x => x) = R0))) ?_ ?_
     · have hva : v.ownBlock ≠ some a := fun e => by have := (own_lt hO e).1; omega
       rw [bin_eql,condW_dec]
       refine ⟨fun h0 => ?_,fun h0 => ?_⟩
       · rw [if_neg (by rw [h0]; simp)] at hr
         have hlt : i + k < s.length := by
           rcases Nat.lt_or_ge (i + k) s.length with h | h
           · exact h
           · exact absurd ⟨h0,by omega⟩ hgo
         have hd := drop_len hlt
         rw [if_neg (fun e => by rw [hd] at e; cases e)] at hr
         rw [sls_str,bd_none,bd_some]
         refine ⟨by omega,by omega,?_⟩
         rw [List.take_length,Int.toNat_natCast]
         have hrl : (s.drop (i + k + 1)).length = s.length - (i + k + 1) := List.length_drop
         rw [hd] at hr hku ⊢
         generalize s[i + k] = c at *
         generalize hrr : s.drop (i + k + 1) = r at *
         refine one_p (hT.ext hx78) hku (by omega) fun w9 hx9 => ?_
         rw [ext_tuple]; refine ⟨_,rfl,?_⟩
         rw [ext_tuple]; refine ⟨_,rfl,?_⟩
         rw [ext_tuple]; refine ⟨_,rfl,?_⟩
         have hou := one_utf hku
         have hok1 := @one_ok (c :: r)
         generalize oneM (c :: r) = o at *
         obtain ⟨t,n,e⟩ := o
         simp only at hou hr ⊢
         refine st_agg_at (l := tokc t) (hx9.at hab8 id) rfl rfl rfl fun w10 hz10 ha10 hc10 => ?_
         have hO9 := (hO.ext hx8).ext hx9
         refine ⟨(hx78.trans hx9).new hc10 (by omega),own_at hO9 hc10 fun q hq e => hva (e ▸ hq),by have := hx9.size; omega,hva,?_⟩
         by_cases he : e = 0
         · subst he
           rw [if_neg (by simp)] at hr
           obtain ⟨n1,n2,_⟩ := hok1 (t := t) (k := n) (by simp) rfl
           simp only [List.length_cons] at n2
           refine ⟨t,n,0,rfl,ha10,.inr ⟨rfl,n1,by omega,?_,?_⟩⟩
           · rw [← drop_drop',hd]; exact hou rfl
           · rw [← drop_drop',hd]; exact hr
         · rw [if_pos he] at hr
           exact ⟨t,n,e,rfl,ha10,.inl ⟨he,hr.symm⟩⟩
       · rw [if_pos h0] at hr
         exact ⟨hx78,hO.ext hx8,Nat.le_refl _,hva,⟨0,[],0⟩,0,kc,rfl,hab8,.inl ⟨h0,hr.symm⟩⟩
     rintro st g4 w9 ⟨hx9,hO9,hz9,hva,t,n,e,rfl,ha9,hcase⟩
     simp only [List.getD_cons_zero,List.getD_cons_succ]
     refine JoinW.cut (fun st w' => w' = w9 ∧ ∃ e' : Int,st = [i64 e'] ∧ ((e' ≠ 0 ∧ R0 = .bad e' ((i + k : Nat) : Int)) ∨ (e' = 0 ∧ 1 ≤ n ∧ i + k + n ≤ s.length ∧ Utf (s.drop (i + k + n)) ∧ acc.length < 4096 ∧ sfin acc (match scanF m2 (s.drop (i + k + n)) (i + k + n) (acc.length + 1) with | .ok l => .ok (⟨t.k,t.t,((i + k : Nat) : Int)⟩ :: l) | x => x) = R0))) ?_ ?_
     · rw [bin_eql]
       simp only [isB_t]
       refine GdW.look (decide (acc.length = 4096)) (fun _ J hJ => ?_) fun g5 => ?_
       · obtain ⟨q,cap,ev,_⟩ := hO9.sl.shape
         rw [ev,lenl_sl,bin_eql,show decide (((acc.length : Nat) : Int) = 4096) = decide (acc.length = 4096) by rw [decide_eq_decide]; omega]
         exact hJ
       simp only [List.getD_cons_zero]
       rw [pick_gd_and,condW_b]
       refine ⟨fun hb => ?_,fun hb => ?_⟩
       · simp only [Bool.and_eq_true,decide_eq_true_iff] at hb
         refine ⟨trivial,3,rfl,.inl ⟨by decide,?_⟩⟩
         rcases hcase with ⟨h1,h2⟩ | ⟨h1,h2,h3,h4,h5⟩
         · exact absurd hb.1 h1
         · rw [if_pos hb.2] at h5; exact h5.symm
       · refine ⟨trivial,e,rfl,?_⟩
         rcases hcase with h | ⟨h1,h2,h3,h4,h5⟩
         · exact .inl h
         · have : acc.length ≠ 4096 := fun h => by rw [h1,h] at hb; simp at hb
           rw [if_neg this] at h5
           exact .inr ⟨h1,h2,h3,h4,by omega,h5⟩
     rintro st g5 w10 ⟨rfl,e',rfl,hcase⟩
     simp only [List.getD_cons_zero]
     rw [bin_neq,condW_dec]
     refine ⟨fun hne => ?_,fun heq => ?_⟩
     · rcases hcase with ⟨h1,h2⟩ | ⟨h1,_⟩
       · simp only [put_int,put_str,List.length_cons,List.length_nil,List.set_cons_zero,List.set_cons_succ,Nat.reduceAdd,Nat.reduceLT,true_and,Nat.zero_lt_succ]
         exact bad (K' := K) e' (i + k) (fun d w' => hbad e' _ h2 d w') hx9
       · exact absurd h1 hne
     · rcases hcase with ⟨h1,_⟩ | ⟨h1,n1,n2,hu2,hc4,hr⟩
       · exact absurd (by simpa using heq) h1
       rw [fld_ptr,add_mk,Nat.zero_add]
       refine st_at ha9 rfl (by simp [tokc]) fun w11 hz11 ha11 hc11 => ?_
       have ha11 : w11.heap[a]? = some (.cells (tokc ⟨t.k,t.t,((i + k : Nat) : Int)⟩).toArray TkT (0,0)) := by rw [ha11]; simp [tokc]
       have hO11 := own_at hO9 hc11 fun q hq e => hva (e ▸ hq)
       have hx11 := hx9.new hc11 (by omega)
       refine ld_all ha11 rfl ?_
       refine bsl_agg (d := tokc ⟨t.k,t.t,((i + k : Nat) : Int)⟩) rfl rfl fun b w12 hb hz12 hbb hx12 => ?_
       refine append_own3 el_tk (hO11.ext hx12) (slat_new' (n := 1) hbb) rfl (fun u hu => by simp only [tokc,List.mem_cons,List.not_mem_nil,or_false] at hu; rcases hu with rfl | rfl | rfl <;> rfl) (by omega) (by omega) (by have := hx11.size; have := hx12.size; omega) fun v' w13 hO13 hc13 hv13 => ?_
       rw [← toks_app] at hO13
       rw [bin_add,wrap_id (by omega) (by omega)]
       refine ⟨⟨i + k + n,m2,acc ++ [⟨t.k,t.t,((i + k : Nat) : Int)⟩],v',by simp only [List.cons.injEq,Value.int.injEq,true_and,and_true]; omega,by omega,hu2,(hx11.trans hx12).then hc13 fun q hq e => ?_,by rw [List.length_append]; exact hO13,?_,by omega,by rw [List.length_append,List.length_cons,List.length_nil]; omega⟩,?_⟩
       · have := (own_lt hO11 e).2; omega
       · rw [List.length_append,← sfin_sfin]; exact hr
       · simp only [Int.toNat_natCast]; omega
 · -- the next rune
   have hge : ¬ s.length ≤ p := by omega
   rw [if_neg hge] at hbf
   have hx6 : Ext w w6 := hx5.then hc6 fun q hq e => by have e : q = w.heap.size := e; omega
   rw [ext_tuple]
   refine ⟨.bool true,rfl,?_⟩
   rw [condW_true,ext_tuple]
   refine ⟨i64 (p : Nat),rfl,?_⟩
   rw [ext_tuple]
   refine ⟨_,rfl,?_⟩
   have hdc : (Utf8.decode (ofL s) p).1 = 65533 ∧ Lib.hasPrefix (s.drop p) [239,191,189] = false ↔ runeM s p = 0 := by
     constructor
     · rintro ⟨h1,h2⟩
       by_cases h0 : runeM s p = 0
       · exact h0
       · obtain ⟨c,hc⟩ := rune_good hpl h0
         have hd := hc.dec
         rw [hd] at h1
         have h1 : c = 65533 := h1
         subst h1
         rw [good_pref hc] at h2
         cases h2
     · intro h0
       rw [rune_bad hpl h0]
       exact ⟨rfl,bad_pref h0⟩
   rw [dec_step hpl] at hit6
   generalize (Utf8.decode (ofL s) p).1 = c at *
   rw [bin_eql,show decide (((c : Nat) : Int) = 65533) = decide (c = 65533) by rw [decide_eq_decide]; omega]
   simp only [isB_t]
   refine GdW.look (!Lib.hasPrefix (s.drop p) [239,191,189]) (fun _ J hJ => ?_) fun g3 => ?_
   · rw [sls_str,bd_none,bd_some]
     refine ⟨by omega,by omega,?_⟩
     rw [List.take_length,Int.toNat_natCast]
     refine hasp_p ?_
     rw [un_not]
     exact hJ
   simp only [List.getD_cons_zero]
   rw [pick_gd_and,condW_b]
   refine ⟨fun hb => ?_,fun hb => ?_⟩
   · have h0 : runeM s p = 0 := hdc.1 (by simpa using hb)
     rw [if_pos h0] at hbf
     subst hbf
     simp only [put_int,put_str,List.length_cons,List.length_nil,List.set_cons_zero,List.set_cons_succ,Nat.reduceAdd,Nat.reduceLT,true_and,Nat.zero_lt_succ]
     exact bad (K' := K) 31 p (fun d w' => hbad 31 _ rfl d w') hx6
   · have h0 : runeM s p ≠ 0 := fun h => by
       have := hdc.2 h
       rw [decide_eq_true this.1,this.2] at hb
       cases hb
     rw [if_neg h0] at hbf
     have hfit := step_fits hpl
     have hpos := step_pos s p
     refine ⟨⟨p + stepM s p,m,hfit,trivial,hit6,hx6,hbf,by omega⟩,?_⟩
     rw [hit6,hit]
     show s.length - (p + stepM s p) < s.length - p
     omega
end
end Go.Proofs.YtofhaneggcpdaaaDoor
namespace Go.Proofs.YtofhaneggcpdaaaDoor
open Go Go.Eng Go.RowKit Go.Syn Go.Lex
set_option maxRecDepth 100000
abbrev DgT : TypeId := 34
def flOf : Syn.PR → Fl
 | .ok f => f
 | .bad _ _ => ⟨[],[],[]⟩
def okP : Syn.PR → Bool
 | .ok _ => true
 | .bad _ _ => false
def PRep (w : World) (d : Value) : Syn.PR → Prop
 | .ok _ => d = .pointer none
 | .bad c a => ∃ b,d = .pointer (some ⟨b,0,none⟩) ∧ w.heap[b]? = some (.cells [i64 c,str [],i64 a].toArray DgT (0,0))
theorem PRep.ext {w w' : World} {d : Value} {r : Syn.PR} (h : PRep w d r) (hx : Ext w w') : PRep w' d r := by
 cases r with
 | ok f => exact h
 | bad c a => obtain ⟨b,h1,h2⟩ := h; exact ⟨b,h1,hx.at h2 id⟩
theorem PRep.eq {w : World} {d : Value} {r : Syn.PR} (h : PRep w d r) (n : Bool) (K : Value → Prop) : eqW .ptr n d (.pointer none) K ↔ K (.bool (n ^^ okP r)) := by
 cases r with
 | ok f => have h : d = .pointer none := h; rw [h]; cases n <;> exact Iff.rfl
 | bad c a => obtain ⟨b,rfl,_⟩ := h; cases n <;> exact Iff.rfl
theorem FO.ext {w w' : World} {B : Nat} {M : Lay} {fl : Fl} (h : FO w B M fl) (hx : Ext w w') : FO w' B M fl := h.keep hx fun _ _ _ _ e => e
theorem fo_nil (w : World) (B : Nat) : FO w B ⟨.slice none 0 0,.slice none 0 0,.slice none 0 0,[],[]⟩ ⟨[],[],[]⟩ :=
 ⟨⟨by simp,.inl ⟨rfl,rfl⟩⟩,⟨by simp,.inl ⟨rfl,rfl⟩⟩,⟨by simp [ints],.inl ⟨rfl,rfl⟩⟩,RowsR.nil _ _,RowsR.nil _ _,List.nodup_nil,fun k hk => by simp [ub,Value.ownBlock] at hk,fun k hk => by simp [ub,Value.ownBlock] at hk⟩
def isP (r : Syn.PR) (code a : Int) : Bool := match r with
 | .ok _ => decide (code = 0)
 | .bad c i => decide (code ≠ 0) && decide (c = code) && decide (i = a)
section
variable [HX]
theorem parse_r {t : Str} {w : World} {K : Value → World → Prop} (hT : TabI w) (hl : t.length ≤ 1000000)
   (hK : ∀ M d w',Ext w w' → FO w' w.heap.size M (flOf (parseM t)) → PRep w' d (parseM t) → ((flOf (parseM t)).ex.length ≤ 100000 ∧ (flOf (parseM t)).bl.length ≤ 100000 ∧ (flOf (parseM t)).top.length ≤ 100000) → K (.tuple #[.agg [M.vE,M.vB,M.vT].toArray,d]) w') : callF Tryd.prog 10 [str t] w K := by
 refine parse_p (fun {_} => scan_p) hT hl (fun fl h M w' hx hF hfew => ?_) (fun c a h d w' hx hd hdb => ?_)
 · rw [h] at hK
   exact hK M _ w' hx hF rfl hfew
 · rw [h] at hK
   exact hK ⟨.slice none 0 0,.slice none 0 0,.slice none 0 0,[],[]⟩ _ w' hx (fo_nil _ _) ⟨d,rfl,hdb⟩ (by simp [flOf])
theorem is5_p {w : World} {d : Value} {r : Syn.PR} {code a : Int} {K : Value → World → Prop} (h : PRep w d r) (hK : K (.bool (isP r code a)) w) : callF Tryd.prog 14 [d,i64 code,i64 a] w K := by
 refine W14_ok ?_
 unfold W14
 rw [bin_eql,condW_dec]
 refine ⟨fun e => ?_,fun e => ?_⟩
 · rw [h.eq]
   cases r with
   | ok f => simp only [isP,e,decide_true,okP] at hK ⊢; exact hK
   | bad e1 i => simp only [isP,e,ne_eq,not_true,decide_false,Bool.false_and,okP] at hK ⊢; exact hK
 · rw [h.eq]
   cases r with
   | ok f =>
     simp only [isP,decide_eq_false e,okP,Bool.xor_self] at hK ⊢
     simp only [isB_t,isB_f,GdW_f,List.getD_cons_zero,pick_f]
     intros
     exact hK
   | bad e1 i =>
     obtain ⟨b,rfl,hb⟩ := h
     simp only [isP,decide_eq_true e,okP,Bool.xor_false,Bool.true_and,ne_eq] at hK ⊢
     have ld : ∀ {off : Nat} {v : Value} {K : Value → Prop},[i64 e1,str [],i64 i][off]? = some v → K v → nilW (.pointer (some ⟨b,0,none⟩)) fun t => fldW off t fun t => ldW false 1 t w K := fun hv hk => by
       rw [nil_ptr,fld_ptr,ld_one]
       refine ⟨_,?_,hk⟩
       rw [add_mk,cell_eq,hb,cellO_some,Nat.zero_add]
       simpa using hv
     refine GdW.act (decide (e1 = code)) (fun w' => w' = w) (fun e => by cases e) ?_ ?_
     · intro _ J hJ
       refine ld rfl ?_
       rw [bin_eql]
       exact hJ _ rfl
     rintro g w2 rfl
     simp only [cond_true,List.getD_cons_zero,pick_t,isB_t]
     refine GdW.act (decide (i = a)) (fun w' => w' = w2) (fun _ => rfl) ?_ ?_
     · intro _ J hJ
       refine ld rfl ?_
       rw [bin_eql]
       exact hJ _ rfl
     rintro g2 w3 rfl
     simp only [List.getD_cons_zero]
     rw [pick_gd_and]
     simp only [isB_t]
     refine GdW.act true (fun w' => w' = w3) (fun _ => rfl) ?_ ?_
     · intro _ J hJ
       refine ld rfl ?_
       rw [bin_seq]
       exact hJ _ rfl
     rintro g3 w4 rfl
     simp only [List.getD_cons_zero]
     rw [pick_gd_and,Bool.and_true]
     simpa using hK
end
def ex1 : Str := [114,32,34,116,34,32,34,110,34,32,123,32,120,32,61,32,49,32,43,32,121,46,122,32,125]
def ex2 : Str := [97,32,123,32,120,32,61,32,49,32,121,32,61,32,50,32,125]
theorem ex1_ok : okP (parseM ex1) = true ∧ (flOf (parseM ex1)).bl.length = 1 ∧ (flOf (parseM ex1)).ex.length = 4 ∧ ((flOf (parseM ex1)).ex.getD 3 ⟨0,[],[],[],0⟩).k = 15 ∧ ((flOf (parseM ex1)).bl.getD 0 ⟨[],[],[],[],0⟩).labels.length = 2 := by decide +kernel
theorem ex2_bad : isP (parseM ex2) 50 10 = true := by decide +kernel
section
variable [HX]
theorem awake5_p {w : World} {K : Value → World → Prop} (hT : TabI w) (hK : ∀ w',Ext w w' → K (.bool true) w') : callF Tryd.prog 8 [] w K := by
 refine W8_ok ?_
 unfold W8
 obtain ⟨x1,x2,x3,x4,x5⟩ := ex1_ok
 refine parse_r (t := ex1) hT (by decide) fun M d w1 hx1 hF1 hd1 _ => ?_
 generalize hr1 : parseM ex1 = r1 at *
 rw [ext_tuple]; refine ⟨_,rfl,?_⟩
 rw [ext_tuple]; refine ⟨_,rfl,?_⟩
 refine alloc_new fun a w2 ha hz2 hab2 hx2 => ?_
 obtain ⟨p1,c1,e1,_⟩ := hF1.oE.sl.shape
 obtain ⟨p2,c2,e2,_⟩ := hF1.oB.sl.shape
 obtain ⟨p3,c3,e3,_⟩ := hF1.oT.sl.shape
 refine st_agg_at (l := [M.vE,M.vB,M.vT]) hab2 rfl rfl (by rw [e1,e2,e3]; rfl) fun w3 hz3 ha3 hc3 => ?_
 have hx13 : Ext w1 w3 := hx2.new hc3 (by omega)
 have hx3 := hx1.trans hx13
 refine parse_r (t := ex2) (hT.ext hx3) (by decide) fun M2 d2 w4 hx4 hF4 hd4 _ => ?_
 have hb2 := ex2_bad
 generalize parseM ex2 = r2 at *
 rw [ext_tuple]; refine ⟨_,rfl,?_⟩
 rw [ext_tuple]; refine ⟨_,rfl,?_⟩
 refine alloc_new fun b w5 hb hz5 hab5 hx5 => ?_
 obtain ⟨q1,k1,f1,_⟩ := hF4.oE.sl.shape
 obtain ⟨q2,k2,f2,_⟩ := hF4.oB.sl.shape
 obtain ⟨q3,k3,f3,_⟩ := hF4.oT.sl.shape
 refine st_agg_at (l := [M2.vE,M2.vB,M2.vT]) hab5 rfl rfl (by rw [f1,f2,f3]; rfl) fun w6 hz6 ha6 hc6 => ?_
 have hx46 : Ext w4 w6 := hx5.new hc6 (by omega)
 have hx36 := hx4.trans hx46
 have hF := (hF1.ext hx13).ext hx36
 have ha := hx36.at ha3 id
 have hd6 := hd4.ext hx46
 have hK := hK w6 (hx3.trans hx36)
 clear hF1 hF4 hd4
 have ld : ∀ {off : Nat} {v : Value} {K : Value → Prop},[M.vE,M.vB,M.vT][off]? = some v → K v → fldW off (.pointer (some ⟨a,0,none⟩)) fun t => ldW false 1 t w6 K := fun hv hk => by
   rw [fld_ptr,ld_one]
   refine ⟨_,?_,hk⟩
   rw [add_mk,cell_eq,ha,cellO_some,Nat.zero_add]
   simpa using hv
 rw [hd1.eq,x1]
 simp only [isB_t,Bool.xor_true,Bool.not_false]
 refine GdW.look true (fun _ J hJ => ?_) fun g => ?_
 · refine ld (off := 1) rfl ?_
   rw [lenl_at hF.oB.sl,bin_eql,x2]
   exact hJ
 simp only [List.getD_cons_zero,cond_true,pick_t,isB_t]
 refine GdW.look true (fun _ J hJ => ?_) fun g => ?_
 · refine ld (off := 0) rfl ?_
   rw [lenl_at hF.oE.sl,bin_eql,x3]
   exact hJ
 simp only [List.getD_cons_zero,cond_true,pick_t,isB_t]
 refine GdW.look true (fun _ J hJ => ?_) fun g => ?_
 · refine ld (off := 0) rfl ?_
   refine ixa_at (i := 3) hF.oE.sl (by rw [hF.ee.1]) (by omega) (by omega) fun bb o c fr hbb hcs => ?_
   have hlt : 3 < (flOf r1).ex.length := by omega
   obtain ⟨va,vk,ec,_,_⟩ := hF.ee.2 3 _ (List.getElem?_eq_getElem hlt)
   rw [fld_ptr,ld_one]
   have h0 := hcs 0 (by omega)
   have h1 := congrArg (fun l => l[0]?) ec
   simp only [List.getElem?_take_of_lt (show 0 < 5 by omega),List.getElem?_drop,List.getElem?_cons_zero] at h1
   refine ⟨_,by rw [add_mk,cell_eq,hbb,cellO_some,h0]; exact h1,?_⟩
   rw [List.getD_eq_getElem?_getD,List.getElem?_eq_getElem hlt] at x4
   rw [bin_eql]
   have x4 : (flOf r1).ex[3].k = 15 := x4
   rw [x4]
   exact hJ
 simp only [List.getD_cons_zero,cond_true,pick_t,isB_t]
 refine GdW.look true (fun _ J hJ => ?_) fun g => ?_
 · refine ld (off := 1) rfl ?_
   refine ixa_at (i := 0) hF.oB.sl (by rw [hF.bb.1]) (by omega) (by omega) fun bb o c fr hbb hcs => ?_
   have hlt : 0 < (flOf r1).bl.length := by omega
   obtain ⟨vl,va,vb,ec,hL,_,_⟩ := hF.bb.2 0 _ (List.getElem?_eq_getElem hlt)
   rw [fld_ptr,ld_one]
   have h0 := hcs 1 (by omega)
   have h1 := congrArg (fun l => l[1]?) ec
   simp only [List.getElem?_take_of_lt (show 1 < 5 by omega),List.getElem?_drop,List.getElem?_cons_zero,List.getElem?_cons_succ] at h1
   refine ⟨vl,by rw [add_mk,cell_eq,hbb,cellO_some,h0]; exact h1,?_⟩
   rw [List.getD_eq_getElem?_getD,List.getElem?_eq_getElem hlt] at x5
   have x5 : (flOf r1).bl[0].labels.length = 2 := x5
   rw [lenl_at hL.sl,bin_eql,x5]
   exact hJ
 simp only [List.getD_cons_zero,cond_true,pick_t,isB_t]
 refine GdW.look true (fun _ J hJ => ?_) fun g => ?_
 · refine is5_p hd6 ?_
   rw [hb2]
   exact hJ
 simp only [List.getD_cons_zero,cond_true,pick_t]
 exact hK
end
end Go.Proofs.YtofhaneggcpdaaaDoor
namespace Go.Proofs.YtofhaneggcpdaaaDoor
open Go Go.Eng Go.RowKit Go.Syn Go.Lex
set_option maxRecDepth 100000
def cnt (n : Nat) (l : List Nat) : List Nat := (List.range n).map fun j => l.count j
structure Once (n : Nat) (l : List Nat) : Prop where
 one : ∀ j,j < n → l.count j = 1
 lt : ∀ x ∈ l,x < n
theorem once_of {L : List (List Nat)} {r : List Nat} (h : Forest L r) : Once L.length (L.flatten ++ r) :=
 ⟨fun j hj => by rw [List.count_append]; exact h.once j hj,fun x hx => (List.mem_append.1 hx).elim (h.flat_lt x) (h.low x)⟩
section
variable [HX]
end
variable {w0 w w' : World} {B a ea eb : Nat} {M : Lay} {fl : Fl} {lE lB : List Nat}
end Go.Proofs.YtofhaneggcpdaaaDoor
namespace Go.Proofs.YtofhaneggcpdaaaDoor
open Go Go.Eng Go.RowKit Go.Syn Go.Lex
set_option maxRecDepth 100000
theorem cells_row {w : World} {b o : Nat} {c : Array Value} {T : TypeId} {fr : Nat × Nat} {d : List Value} (hb : w.heap[b]? = some (.cells c T fr)) (hd : ∀ j,j < d.length → c[o + j]? = d[j]?) : ∀ (n i : Nat),i + n = d.length → cellsAt w ⟨b,o,none⟩ i n = some (d.drop i)
 | 0,i,h => by simp only [cellsAt]; rw [List.drop_of_length_le (by omega)]
 | n + 1,i,h => by
   have hi : i < d.length := by omega
   simp only [cellsAt,add_mk,cell_eq,hb,cellO_some,hd i hi,List.getElem?_eq_getElem hi]
   rw [cells_row hb hd n (i + 1) (by omega)]
   simp
theorem ixa_row {w : World} {T : TypeId} {v : Value} {n size : Nat} {cs d : List Value} {k : IntKind} {i : Nat} {K : Value → Prop} (h : SlAt w T v n cs) (hl : cs.length = n * size) (hs : 0 < size) (hi : i < n) (hd : (cs.drop (i * size)).take size = d) (hK : K (.agg d.toArray)) :
   ixaW none size v (.int k i) fun t => ldW true size t w K := by
 have hlt : i * size + size ≤ n * size := by rw [← Nat.succ_mul]; exact Nat.mul_le_mul_right _ hi
 have hdl : d.length = size := by rw [← hd,List.length_take,List.length_drop]; omega
 refine ixa_at h hl hs hi fun b o c fr hb hc => ?_
 rw [ld_agg]
 refine ⟨d,?_,hK⟩
 have := cells_row (d := d) hb (fun j hj => by rw [hc j (by omega),← hd,List.getElem?_take_of_lt (by omega),List.getElem?_drop]) size 0 (by omega)
 simpa using this
theorem int_get {l : List Nat} {i x : Nat} (h : l[i]? = some x) : (ints l)[i]? = some (i64 (x : Nat)) := by simp [ints,h]
variable [HX]
end Go.Proofs.YtofhaneggcpdaaaDoor
namespace Go.Proofs.YtofhaneggcpdaaaDoor
open Go Go.Eng Go.RowKit Go.Syn Go.Lex
set_option maxRecDepth 100000
theorem strs_get {l : List Str} {k : Nat} (h : k < l.length) : (strs l)[k]? = some (str (l.getD k [])) := by
 rw [strs,List.getElem?_map,List.getElem?_eq_getElem h,List.getD_eq_getElem?_getD,List.getElem?_eq_getElem h]; rfl
theorem gq_fld (off : Nat) (ad : Addr) (B : Value → Prop) : GqW true (fun k => fldW off (.pointer (some ad)) k) B ↔ B (.pointer (some (ad.add off))) := by
 rw [GqW_t]
 constructor
 · rintro ⟨v,h,hb⟩
   have h : Value.pointer (some (ad.add off)) = v := h
   rw [h]; exact hb
 · intro h; exact ⟨_,rfl,h⟩
theorem gq_of {A : (Value → Prop) → Prop} {B : Value → Prop} {v : Value} (h1 : A (fun x => x = v)) (h2 : B v) : GqW true A B := (GqW_t A B).2 ⟨v,h1,h2⟩
theorem GeW_tt {w : World} {A : (Value → World → Prop) → Prop} {B : Value → World → Prop} (h : A B) : GeW true w A B := ⟨fun _ => h,(fun e => by cases e)⟩
theorem ixa_split {s : Nat} {v i : Value} {F : Value → Prop} (h : ixaW none s v i F) : ∃ p,ixaW none s v i (fun x => x = p) ∧ F p := by
 unfold ixaW at h ⊢
 split at h
 all_goals first
   | exact h.elim
   | exact ⟨_,⟨h.1,h.2.1,rfl⟩,h.2.2⟩
section
variable [HX]
end
end Go.Proofs.YtofhaneggcpdaaaDoor
namespace Go.Proofs.YtofhaneggcpdaaaDoor
open Go Go.Eng Go.RowKit Go.Syn Go.Lex
set_option maxRecDepth 100000
def ExV (w : World) (e : Ex) (c : List Value) : Prop :=
 ∃ va vk,c = [i64 e.k,str e.t,va,vk,i64 e.a] ∧ SlAt w IntT va e.args.length (ints e.args) ∧ SlAt w StT vk e.keys.length (strs e.keys)
def BkV (w : World) (b : Blk) (c : List Value) : Prop :=
 ∃ vl va vb,c = [str b.typ,vl,va,vb,i64 b.a] ∧ SlAt w StT vl b.labels.length (strs b.labels) ∧ SlAt w AtT va b.attrs.length (atrs b.attrs) ∧ SlAt w IntT vb b.blocks.length (ints b.blocks)
structure FV (w : World) (M : Lay) (fl : Fl) : Prop where
 oE : SlAt w ExT M.vE fl.ex.length M.cE
 oB : SlAt w BkT M.vB fl.bl.length M.cB
 oT : SlAt w IntT M.vT fl.top.length (ints fl.top)
 ee : RowsR (ExV w) 5 fl.ex M.cE
 bb : RowsR (BkV w) 5 fl.bl M.cB
theorem FO.fv {w : World} {B : Nat} {M : Lay} {fl : Fl} (h : FO w B M fl) : FV w M fl :=
 ⟨h.oE.sl,h.oB.sl,h.oT.sl,h.ee.imp fun _ _ _ ⟨va,vk,e,h1,h2⟩ => ⟨va,vk,e,h1.sl,h2.sl⟩,h.bb.imp fun _ _ _ ⟨vl,va,vb,e,h0,h1,h2⟩ => ⟨vl,va,vb,e,h0.sl,h1.sl,h2.sl⟩⟩
theorem FV.ext {w w' : World} {M : Lay} {fl : Fl} (h : FV w M fl) (hx : Ext w w') : FV w' M fl :=
 ⟨h.oE.ext hx,h.oB.ext hx,h.oT.ext hx,h.ee.imp fun _ _ _ ⟨va,vk,e,h1,h2⟩ => ⟨va,vk,e,h1.ext hx,h2.ext hx⟩,h.bb.imp fun _ _ _ ⟨vl,va,vb,e,h0,h1,h2⟩ => ⟨vl,va,vb,e,h0.ext hx,h1.ext hx,h2.ext hx⟩⟩
theorem FV.exI {w : World} {M : Lay} {fl : Fl} {i : Nat} {e : Ex} {k : IntKind} (h : FV w M fl) (hi : fl.ex[i]? = some e) : ∃ va vk,SlAt w IntT va e.args.length (ints e.args) ∧ SlAt w StT vk e.keys.length (strs e.keys) ∧ ∃ p,ixaW none 5 M.vE (.int k i) (fun x => x = p) ∧ ldW true 5 p w fun x => x = .agg [i64 e.k,str e.t,va,vk,i64 e.a].toArray := by
 obtain ⟨va,vk,ec,h1,h2⟩ := h.ee.2 i e hi
 exact ⟨va,vk,h1,h2,ixa_split (ixa_row (K := fun x => x = _) h.oE h.ee.1 (by omega) (List.getElem?_eq_some_iff.1 hi).1 ec rfl)⟩
theorem FV.bkI {w : World} {M : Lay} {fl : Fl} {i : Nat} {e : Blk} {k : IntKind} (h : FV w M fl) (hi : fl.bl[i]? = some e) : ∃ vl va vb,SlAt w StT vl e.labels.length (strs e.labels) ∧ SlAt w AtT va e.attrs.length (atrs e.attrs) ∧ SlAt w IntT vb e.blocks.length (ints e.blocks) ∧ ∃ p,ixaW none 5 M.vB (.int k i) (fun x => x = p) ∧ ldW true 5 p w fun x => x = .agg [str e.typ,vl,va,vb,i64 e.a].toArray := by
 obtain ⟨vl,va,vb,ec,h1,h2,h3⟩ := h.bb.2 i e hi
 exact ⟨vl,va,vb,h1,h2,h3,ixa_split (ixa_row (K := fun x => x = _) h.oB h.bb.1 (by omega) (List.getElem?_eq_some_iff.1 hi).1 ec rfl)⟩
def exA (q : Bool) (e e' : Ex) : Prop := e.k = e'.k ∧ e.t = e'.t ∧ e.args = e'.args ∧ e.keys = e'.keys ∧ (q = true → e.a = e'.a)
def atA (q : Bool) (e e' : Atr) : Prop := e.n = e'.n ∧ e.e = e'.e ∧ (q = true → e.a = e'.a)
def Alike {α : Type} (R : α → α → Prop) (a b : List α) : Prop := a.length = b.length ∧ ∀ (i : Nat) (x y : α),a[i]? = some x → b[i]? = some y → R x y
def bkA (q : Bool) (e e' : Blk) : Prop := e.typ = e'.typ ∧ e.labels = e'.labels ∧ e.blocks = e'.blocks ∧ Alike (atA q) e.attrs e'.attrs ∧ (q = true → e.a = e'.a)
def flA (q : Bool) (f g : Fl) : Prop := Alike (exA q) f.ex g.ex ∧ Alike (bkA q) f.bl g.bl ∧ f.top = g.top
theorem ld_to {n : Nat} {agg : Bool} {p v : Value} {w : World} {K : Value → Prop} (h : ldW agg n p w fun x => x = v) (hK : K v) : ldW agg n p w K := by
 unfold ldW at h ⊢
 split at h
 · cases agg with
   | true => obtain ⟨l,h1,rfl⟩ := h; exact ⟨l,h1,hK⟩
   | false => obtain ⟨x,h1,rfl⟩ := h; exact ⟨x,h1,hK⟩
 · exact h.elim
theorem ixa_to {s : Nat} {v i p : Value} {K : Value → Prop} (h : ixaW none s v i fun x => x = p) (hK : K p) : ixaW none s v i K := by
 unfold ixaW at h ⊢
 split at h
 all_goals first
   | exact h.elim
   | exact ⟨h.1,h.2.1,by have e := h.2.2; rw [e]; exact hK⟩
theorem upj {i : Nat} (h : i < 9223372036854775807) : IntKind.i64.wrap ((i : Int) + 1) = ((i + 1 : Nat) : Int) := by rw [wrap_id (by omega) (by omega)]; rfl
theorem own_few {w : World} {B n m : Nat} {T : TypeId} {v : Value} {xs : List Value} (h : Own w B T m v n xs) : n ≤ 9223372036854775807 := by
 obtain ⟨_,⟨_,rfl⟩ | ⟨g,cap,cur,_,_,_,h2,h3,_⟩⟩ := h
 · omega
 · unfold maxLen at h3; omega
theorem FO.few {w : World} {B : Nat} {M : Lay} {fl : Fl} (h : FO w B M fl) : (fl.ex.length ≤ 9223372036854775807 ∧ fl.bl.length ≤ 9223372036854775807 ∧ fl.top.length ≤ 9223372036854775807) ∧ (∀ e ∈ fl.ex,e.args.length ≤ 9223372036854775807 ∧ e.keys.length ≤ 9223372036854775807) ∧ ∀ b ∈ fl.bl,b.labels.length ≤ 9223372036854775807 ∧ b.attrs.length ≤ 9223372036854775807 ∧ b.blocks.length ≤ 9223372036854775807 := by
 refine ⟨⟨own_few h.oE,own_few h.oB,own_few h.oT⟩,fun e he => ?_,fun b hb => ?_⟩
 · obtain ⟨i,hi⟩ := List.mem_iff_getElem?.1 he
   obtain ⟨va,vk,_,h1,h2⟩ := h.ee.2 i e hi
   exact ⟨own_few h1,own_few h2⟩
 · obtain ⟨i,hi⟩ := List.mem_iff_getElem?.1 hb
   obtain ⟨vl,va,vb,_,h1,h2,h3⟩ := h.bb.2 i b hi
   exact ⟨own_few h1,own_few h2,own_few h3⟩
section
variable [HX]
theorem ints_t {u v : Value} {T1 T2 : TypeId} {m : List Nat} {w : World} {K : Value → World → Prop} (h1 : SlAt w T1 u m.length (ints m)) (h2 : SlAt w T2 v m.length (ints m)) (hl : m.length ≤ 9223372036854775807) (hK : ∀ w',Ext w w' → K (.bool true) w') : callF Tryd.prog 21 [u,v] w K := by
 refine W21_ok ?_
 unfold W21
 rw [lenl_at h1,lenl_at h2,bin_neq,decide_eq_false (by simp),condW_false,lenl_at h1]
 refine LoopW.go (fun st w' => ∃ i : Nat,st = [i64 (i : Nat)] ∧ i ≤ m.length ∧ Ext w w') (fun st _ => match st with | [.int _ i] => m.length - i.toNat | _ => 0) ⟨0,rfl,by omega,Chg.refl _ _⟩ ?_
 rintro st g w1 ⟨i,rfl,hi,hx⟩
 simp only [List.getD_cons_zero]
 rw [bin_lss,condW_dec]
 refine ⟨fun hlt => ?_,fun hge => hK w1 hx⟩
 have hlt : i < m.length := by omega
 have hg := int_get (List.getElem?_eq_getElem hlt)
 have hxd := hx.trans (ext_drew w1)
 refine ixa_ld (h1.ext hxd) (by simp [ints]) hg ?_
 refine ixa_ld (h2.ext hxd) (by simp [ints]) hg ?_
 rw [bin_neq,decide_eq_false (by simp),condW_false,bin_add,upj (by omega)]
 refine ⟨⟨i + 1,rfl,by omega,hxd⟩,?_⟩
 simp only [Int.toNat_natCast]; omega
theorem texts_t {u v : Value} {T1 T2 : TypeId} {m : List Str} {w : World} {K : Value → World → Prop} (h1 : SlAt w T1 u m.length (strs m)) (h2 : SlAt w T2 v m.length (strs m)) (hl : m.length ≤ 9223372036854775807) (hK : ∀ w',Ext w w' → K (.bool true) w') : callF Tryd.prog 22 [u,v] w K := by
 refine W22_ok ?_
 unfold W22
 rw [lenl_at h1,lenl_at h2,bin_neq,decide_eq_false (by simp),condW_false,lenl_at h1]
 refine LoopW.go (fun st w' => ∃ i : Nat,st = [i64 (i : Nat)] ∧ i ≤ m.length ∧ Ext w w') (fun st _ => match st with | [.int _ i] => m.length - i.toNat | _ => 0) ⟨0,rfl,by omega,Chg.refl _ _⟩ ?_
 rintro st g w1 ⟨i,rfl,hi,hx⟩
 simp only [List.getD_cons_zero]
 rw [bin_lss,condW_dec]
 refine ⟨fun hlt => ?_,fun hge => hK w1 hx⟩
 have hlt : i < m.length := by omega
 have hg := strs_get hlt
 have hxd := hx.trans (ext_drew w1)
 refine ixa_ld (h1.ext hxd) (by simp [strs]) hg ?_
 refine ixa_ld (h2.ext hxd) (by simp [strs]) hg ?_
 rw [bin_sne,decide_eq_false (by simp),condW_false,bin_add,upj (by omega)]
 refine ⟨⟨i + 1,rfl,by omega,hxd⟩,?_⟩
 simp only [Int.toNat_natCast]; omega
end
end Go.Proofs.YtofhaneggcpdaaaDoor
namespace Go.Proofs.YtofhaneggcpdaaaDoor
open Go Go.Eng Go.RowKit Go.Syn Go.Lex
set_option maxRecDepth 100000
theorem cell_ext {w w' : World} {ad : Addr} {v : Value} (hx : Ext w w') (h : w.cell? ad = some v) : w'.cell? ad = some v := by
 unfold World.cell? at h ⊢
 cases ho : w.heap[ad.block]? with
 | none => rw [ho] at h; cases h
 | some o => rw [hx.at ho id]; rw [ho] at h; exact h
theorem cells_ext {w w' : World} {ad : Addr} (hx : Ext w w') : ∀ (n i : Nat) (l : List Value),cellsAt w ad i n = some l → cellsAt w' ad i n = some l
 | 0,_,_,h => h
 | n + 1,i,l,h => by
   simp only [cellsAt] at h ⊢
   cases hc : w.cell? (ad.add i) with
   | none => rw [hc] at h; cases h
   | some v =>
     rw [hc] at h
     rw [cell_ext hx hc]
     cases hr : cellsAt w ad (i + 1) n with
     | none => simp only [hr] at h; cases h
     | some m =>
       simp only [hr] at h
       simp only [cells_ext hx n (i + 1) m hr]
       exact h
theorem ld_ext {n : Nat} {agg : Bool} {p v : Value} {w w' : World} (hx : Ext w w') (h : ldW agg n p w fun x => x = v) : ldW agg n p w' fun x => x = v := by
 unfold ldW at h ⊢
 split at h
 · cases agg with
   | true => obtain ⟨l,h1,h2⟩ := h; exact ⟨l,cells_ext hx _ _ _ h1,h2⟩
   | false => obtain ⟨x,h1,h2⟩ := h; exact ⟨x,cell_ext hx h1,h2⟩
 · exact h.elim
theorem fld5 {b : Nat} {T : TypeId} {c : List Value} {off : Nat} {v : Value} {w : World} {K : Value → Prop} (hw : w.heap[b]? = some (.cells c.toArray T (0,0))) (hv : c[off]? = some v) (hk : K v) : fldW off (.pointer (some ⟨b,0,none⟩)) fun t => ldW false 1 t w K := by
 rw [fld_ptr,ld_one]
 refine ⟨v,?_,hk⟩
 rw [add_mk,cell_eq,hw,cellO_some,Nat.zero_add,List.getElem?_toArray]
 exact hv
theorem ld5 {b : Nat} {T : TypeId} {c : List Value} {off : Nat} {v : Value} {w : World} (hw : w.heap[b]? = some (.cells c.toArray T (0,0))) (hv : c[off]? = some v) : ldW false 1 (.pointer (some ((⟨b,0,none⟩ : Addr).add off))) w fun x => x = v := by
 have := fld5 (K := fun x => x = v) hw hv rfl
 rwa [fld_ptr] at this
theorem two_new {T : TypeId} {z c c' : List Value} {n : Nat} {p1 p2 p3 p4 x1 x3 : Value} {w : World} {J : List Value → World → Prop} (hz : z.length = n) (hc : c.length = n) (hc' : c'.length = n) (o1 : c.all one1 = true) (o2 : c'.all one1 = true)
   (h1 : ldW false 1 p1 w fun x => x = x1) (h2 : ldW true n p2 w fun x => x = .agg c.toArray) (h3 : ldW false 1 p3 w fun x => x = x3) (h4 : ldW true n p4 w fun x => x = .agg c'.toArray)
   (hJ : ∀ a b w',Ext w w' → a ≠ b → w'.heap[a]? = some (.cells c.toArray T (0,0)) → w'.heap[b]? = some (.cells c'.toArray T (0,0)) → J [.pointer (some ⟨a,0,none⟩),.pointer (some ⟨b,0,none⟩)] w') :
   (allocW T z w fun t8 w11 => (ldW true n p4 w11 fun x => x = .agg c'.toArray) ∧ (ldW false 1 p3 w11 fun x => x = x3) ∧ (ldW true n p2 w11 fun x => x = .agg c.toArray) ∧ (ldW false 1 p1 w11 fun x => x = x1) ∧
     allocW T z w11 fun t9 w12 => (ldW true n p4 w12 fun x => x = .agg c'.toArray) ∧ (ldW false 1 p3 w12 fun x => x = x3) ∧ (ldW true n p2 w12 fun x => x = .agg c.toArray) ∧ (ldW false 1 p1 w12 fun x => x = x1) ∧
     stW n t8 (.agg c.toArray) w12 fun w13 => (ldW true n p4 w13 fun x => x = .agg c'.toArray) ∧ (ldW false 1 p3 w13 fun x => x = x3) ∧ stW n t9 (.agg c'.toArray) w13 fun w14 => J [t8,t9] w14) ∧
   (allocW T z w fun t9 w11 => (ldW true n p4 w11 fun x => x = .agg c'.toArray) ∧ (ldW false 1 p3 w11 fun x => x = x3) ∧ (ldW true n p2 w11 fun x => x = .agg c.toArray) ∧ (ldW false 1 p1 w11 fun x => x = x1) ∧
     allocW T z w11 fun t8 w12 => (ldW true n p4 w12 fun x => x = .agg c'.toArray) ∧ (ldW false 1 p3 w12 fun x => x = x3) ∧ (ldW true n p2 w12 fun x => x = .agg c.toArray) ∧ (ldW false 1 p1 w12 fun x => x = x1) ∧
     stW n t8 (.agg c.toArray) w12 fun w13 => (ldW true n p4 w13 fun x => x = .agg c'.toArray) ∧ (ldW false 1 p3 w13 fun x => x = x3) ∧ stW n t9 (.agg c'.toArray) w13 fun w14 => J [t8,t9] w14) := by
 constructor
 · refine alloc_new fun a w1 ha hz1 hb1 hx1 => ?_
   refine ⟨ld_ext hx1 h4,ld_ext hx1 h3,ld_ext hx1 h2,ld_ext hx1 h1,?_⟩
   refine alloc_new fun b w2 hb hz2 hb2 hx2 => ?_
   have hx12 := hx1.trans hx2
   refine ⟨ld_ext hx12 h4,ld_ext hx12 h3,ld_ext hx12 h2,ld_ext hx12 h1,?_⟩
   refine st_agg_at (hx2.at hb1 id) hc hz o1 fun w3 hz3 hb3 hc3 => ?_
   have hx3 : Ext w w3 := hx12.new hc3 (by omega)
   refine ⟨ld_ext hx3 h4,ld_ext hx3 h3,?_⟩
   refine st_agg_at (hc3.at hb2 (by omega)) hc' hz o2 fun w4 hz4 hb4 hc4 => ?_
   exact hJ a b w4 (hx3.new hc4 (by omega)) (by omega) (hc4.at hb3 (by omega)) hb4
 · refine alloc_new fun b w1 ha hz1 hb1 hx1 => ?_
   refine ⟨ld_ext hx1 h4,ld_ext hx1 h3,ld_ext hx1 h2,ld_ext hx1 h1,?_⟩
   refine alloc_new fun a w2 hb hz2 hb2 hx2 => ?_
   have hx12 := hx1.trans hx2
   refine ⟨ld_ext hx12 h4,ld_ext hx12 h3,ld_ext hx12 h2,ld_ext hx12 h1,?_⟩
   refine st_agg_at hb2 hc hz o1 fun w3 hz3 hb3 hc3 => ?_
   have hx3 : Ext w w3 := hx12.new hc3 (by omega)
   refine ⟨ld_ext hx3 h4,ld_ext hx3 h3,?_⟩
   refine st_agg_at (hc3.at (hx2.at hb1 id) (by omega)) hc' hz o2 fun w4 hz4 hb4 hc4 => ?_
   exact hJ a b w4 (hx3.new hc4 (by omega)) (by omega) (hc4.at hb3 (by omega)) hb4
theorem atr_at {w : World} {T : TypeId} {v : Value} {l : List Atr} {j : Nat} {x : Atr} (h : SlAt w T v l.length (atrs l)) (hi : l[j]? = some x) : ∃ ad : Addr,ixaW none 3 v (i64 (j : Nat)) (fun y => y = .pointer (some ad)) ∧ (ldW false 1 (.pointer (some (ad.add 0))) w fun y => y = str x.n) ∧ (ldW false 1 (.pointer (some (ad.add 1))) w fun y => y = i64 (x.e : Nat)) ∧ (ldW false 1 (.pointer (some (ad.add 2))) w fun y => y = i64 x.a) := by
 have hlt := (List.getElem?_eq_some_iff.1 hi).1
 have g : ∀ j',j' < 3 → (atrs l)[j * 3 + j']? = [str x.n,i64 (x.e : Nat),i64 x.a][j']? := fun j' hj => flat3_get _ (fun _ => rfl) l j j' x hi hj
 have := ixa_split (ixa_at (k := .i64) (K := fun p => ∃ ad : Addr,p = .pointer (some ad) ∧ (ldW false 1 (.pointer (some (ad.add 0))) w fun y => y = str x.n) ∧ (ldW false 1 (.pointer (some (ad.add 1))) w fun y => y = i64 (x.e : Nat)) ∧ (ldW false 1 (.pointer (some (ad.add 2))) w fun y => y = i64 x.a)) h (by rw [atrs_len]) (by omega) hlt fun b o c fr hb hc => by
   refine ⟨⟨b,o,none⟩,rfl,?_,?_,?_⟩
   · rw [ld_one]; exact ⟨_,by rw [add_mk,cell_eq,hb,cellO_some,hc 0 (by omega),g 0 (by omega)]; rfl,rfl⟩
   · rw [ld_one]; exact ⟨_,by rw [add_mk,cell_eq,hb,cellO_some,hc 1 (by omega),g 1 (by omega)]; rfl,rfl⟩
   · rw [ld_one]; exact ⟨_,by rw [add_mk,cell_eq,hb,cellO_some,hc 2 (by omega),g 2 (by omega)]; rfl,rfl⟩)
 obtain ⟨p,h1,ad,rfl,h2⟩ := this
 exact ⟨ad,h1,h2⟩
def PJ (w0 : World) (T : TypeId) (c c' : List Value) (st : List Value) (w' : World) : Prop := ∃ a b,st = [.pointer (some ⟨a,0,none⟩),.pointer (some ⟨b,0,none⟩)] ∧ Ext w0 w' ∧ w'.heap[a]? = some (.cells c.toArray T (0,0)) ∧ w'.heap[b]? = some (.cells c'.toArray T (0,0))
section
variable [HX]
theorem same_t {f g : Fl} {M N : Lay} {q : Bool} {w : World} {K : Value → World → Prop} (hf : FV w M f) (hg : FV w N g) (hA : flA q f g) (few : f.ex.length ≤ 9223372036854775807 ∧ f.bl.length ≤ 9223372036854775807 ∧ f.top.length ≤ 9223372036854775807)
   (fewE : ∀ e ∈ f.ex,e.args.length ≤ 9223372036854775807 ∧ e.keys.length ≤ 9223372036854775807) (fewB : ∀ b ∈ f.bl,b.labels.length ≤ 9223372036854775807 ∧ b.attrs.length ≤ 9223372036854775807 ∧ b.blocks.length ≤ 9223372036854775807)
   (hK : ∀ w',Ext w w' → K (.bool true) w') : callF Tryd.prog 11 [.agg [M.vE,M.vB,M.vT].toArray,.agg [N.vE,N.vB,N.vT].toArray,.bool q] w K := by
 refine W11_ok ?_
 unfold W11
 obtain ⟨⟨leE,alE⟩,⟨leB,alB⟩,eT⟩ := hA
 refine box_new (z := [M.vE,M.vB,M.vT]) fun p w1 hp hz1 hb1 hx1 => ?_
 refine box_new (z := [N.vE,N.vB,N.vT]) fun p' w2 hp' hz2 hb2 hx2 => ?_
 have hx12 := hx1.trans hx2
 have hb1 := hx2.at hb1 id
 have hf2 := hf.ext hx12
 have hg2 := hg.ext hx12
 refine fld5 (off := 0) hb1 rfl ?_
 rw [lenl_at hf2.oE]
 refine fld5 (off := 0) hb2 rfl ?_
 rw [lenl_at hg2.oE,bin_neq,decide_eq_false (by omega)]
 simp only [isB_f,Bool.not_false]
 refine GdW.look false (fun _ J hJ => ?_) fun _ => ?_
 · refine fld5 (off := 1) hb1 rfl ?_
   rw [lenl_at hf2.oB]
   refine fld5 (off := 1) hb2 rfl ?_
   rw [lenl_at hg2.oB,bin_neq,decide_eq_false (by omega)]
   exact hJ
 simp only [List.getD_cons_zero,cond_true]
 rw [pick_f]
 simp only [isB_f,Bool.not_false]
 refine GdW.act false (fun w' => Ext w2 w') (fun e => by cases e) ?_ ?_
 · intro _ J hJ
   refine fld5 (off := 2) hb1 rfl ?_
   refine fld5 (off := 2) hb2 rfl ?_
   have hoT := hg2.oT
   rw [← eT] at hoT
   refine ints_t hf2.oT hoT few.2.2 fun w3 hx3 => ?_
   rw [un_not]
   exact hJ _ hx3
 rintro g1 w3 hx3
 simp only [List.getD_cons_zero,cond_true]
 rw [pick_f,condW_false]
 refine fld5 (off := 0) (hx3.at hb1 id) rfl ?_
 rw [lenl_at (hf2.ext hx3).oE]
 refine LoopW.go (fun st w' => ∃ i : Nat,st = [i64 (i : Nat)] ∧ i ≤ f.ex.length ∧ Ext w2 w') (fun st _ => match st with | [.int _ i] => f.ex.length - i.toNat | _ => 0) ⟨0,rfl,by omega,hx3⟩ ?_
 rintro st g2 w4 ⟨i,rfl,hi,hx4⟩
 simp only [List.getD_cons_zero]
 rw [bin_lss,condW_dec]
 refine ⟨fun hlt => ?_,fun hge => ?_⟩
 · have hlt : i < f.ex.length := by omega
   have hxd := hx4.trans (ext_drew w4)
   have ge := List.getElem?_eq_getElem hlt
   have ge' := List.getElem?_eq_getElem (show i < g.ex.length by omega)
   generalize f.ex[i] = e at ge
   generalize g.ex[i] = e' at ge'
   obtain ⟨r1,r2,r3,r4,r5⟩ := alE i e e' ge ge'
   have fe := fewE e (List.mem_of_getElem? ge)
   have hfd := hf2.ext hxd
   have hgd := hg2.ext hxd
   have hb1d := hxd.at hb1 id
   have hb2d := hxd.at hb2 id
   obtain ⟨va,vk,o1,o2,pp,a1,a2⟩ := hfd.exI (k := .i64) ge
   obtain ⟨va',vk',o1',o2',pp',a1',a2'⟩ := hgd.exI (k := .i64) ge'
   have l1 : ∃ c1 c2,va = .slice c1 e.args.length c2 := by obtain ⟨x,y,z,_⟩ := o1.shape; exact ⟨x,y,z⟩
   have l2 : ∃ c1 c2,vk = .slice c1 e.keys.length c2 := by obtain ⟨x,y,z,_⟩ := o2.shape; exact ⟨x,y,z⟩
   have l1' : ∃ c1 c2,va' = .slice c1 e'.args.length c2 := by obtain ⟨x,y,z,_⟩ := o1'.shape; exact ⟨x,y,z⟩
   have l2' : ∃ c1 c2,vk' = .slice c1 e'.keys.length c2 := by obtain ⟨x,y,z,_⟩ := o2'.shape; exact ⟨x,y,z⟩
   refine JoinW.cut (PJ w4.drew ExT [i64 e.k,str e.t,va,vk,i64 e.a] [i64 e'.k,str e'.t,va',vk',i64 e'.a]) ?_ ?_
   · rw [fld_ptr]
     refine ld_to (ld5 (off := 0) hb1d rfl) ?_
     refine ixa_to a1 ?_
     refine ld_to a2 ?_
     rw [fld_ptr]
     refine ld_to (ld5 (off := 0) hb2d rfl) ?_
     refine ixa_to a1' ?_
     refine ld_to a2' ?_
     refine two_new (J := PJ w4.drew ExT [i64 e.k,str e.t,va,vk,i64 e.a] [i64 e'.k,str e'.t,va',vk',i64 e'.a]) (T := ExT) (n := 5) (z := [.int .i64 0,.string (ofL []),.slice none 0 0,.slice none 0 0,.int .i64 0]) (c := [i64 e.k,str e.t,va,vk,i64 e.a]) (c' := [i64 e'.k,str e'.t,va',vk',i64 e'.a]) rfl rfl rfl ?_ ?_ (ld5 (off := 0) hb1d rfl) a2 (ld5 (off := 0) hb2d rfl) a2' fun a b w5 hx5 _ ha hb => ⟨a,b,rfl,hx5,ha,hb⟩
     · obtain ⟨_,_,rfl⟩ := l1; obtain ⟨_,_,rfl⟩ := l2; rfl
     · obtain ⟨_,_,rfl⟩ := l1'; obtain ⟨_,_,rfl⟩ := l2'; rfl
   rintro st g3 w5 ⟨a,b,rfl,hx5,ha,hb⟩
   simp only [List.getD_cons_zero,List.getD_cons_succ]
   refine fld5 (off := 0) ha rfl ?_
   refine fld5 (off := 0) hb rfl ?_
   rw [bin_neq,decide_eq_false (by rw [r1]; simp)]
   simp only [isB_f,Bool.not_false]
   refine GdW.look false (fun _ J hJ => ?_) fun _ => ?_
   · refine fld5 (off := 1) ha rfl ?_
     refine fld5 (off := 1) hb rfl ?_
     rw [bin_sne,decide_eq_false (by rw [r2]; simp)]
     exact hJ
   simp only [List.getD_cons_zero,cond_true]
   rw [pick_f]
   simp only [isB_f,Bool.not_false]
   refine GdW.act false (fun w' => Ext w5 w') (fun e => by cases e) ?_ ?_
   · intro _ J hJ
     refine fld5 (off := 2) ha rfl ?_
     refine fld5 (off := 2) hb rfl ?_
     rw [← r3] at o1'
     refine ints_t (o1.ext hx5) (o1'.ext hx5) fe.1 fun w6 hx6 => ?_
     rw [un_not]
     exact hJ _ hx6
   rintro g4 w6 hx6
   simp only [List.getD_cons_zero,cond_true]
   rw [pick_f]
   simp only [isB_f,Bool.not_false]
   refine GdW.act false (fun w' => Ext w5 w') (fun e => by cases e) ?_ ?_
   · intro _ J hJ
     refine fld5 (off := 3) (hx6.at ha id) rfl ?_
     refine fld5 (off := 3) (hx6.at hb id) rfl ?_
     rw [← r4] at o2'
     have hx56 := hx5.trans hx6
     refine texts_t (o2.ext hx56) (o2'.ext hx56) fe.2 fun w7 hx7 => ?_
     rw [un_not]
     exact hJ _ (hx6.trans hx7)
   rintro g5 w7 hx7
   have ha7 := hx7.at ha id
   have hb7 := hx7.at hb id
   have hx47 := (hxd.trans hx5).trans hx7
   simp only [List.getD_cons_zero,cond_true]
   rw [pick_f]
   simp only [isB_f,Bool.not_false,GdW_pure]
   intro g6
   simp only [List.getD_cons_zero,cond_true]
   refine GdW.look false (fun hq J hJ => ?_) fun _ => ?_
   · have hq : q = true := by simpa [isB_t] using hq
     refine fld5 (off := 4) ha7 rfl ?_
     refine fld5 (off := 4) hb7 rfl ?_
     rw [bin_neq,decide_eq_false (by rw [r5 hq]; simp)]
     exact hJ
   refine GdW.look false (fun _ J hJ => ?_) fun _ => ?_
   · simp only [List.getD_cons_zero,isB_t]
     rw [pick_gd_and,Bool.and_false]
     exact hJ
   simp only [List.getD_cons_zero,cond_true]
   rw [pick_f,condW_false,bin_add,upj (by omega)]
   refine ⟨⟨i + 1,rfl,by omega,hx47⟩,?_⟩
   simp only [Int.toNat_natCast]; omega
 · have hb14 := hx4.at hb1 id
   have hb24 := hx4.at hb2 id
   refine fld5 (off := 1) hb14 rfl ?_
   rw [lenl_at (hf2.ext hx4).oB]
   refine LoopW.go (fun st w' => ∃ i : Nat,st = [i64 (i : Nat)] ∧ i ≤ f.bl.length ∧ Ext w2 w') (fun st _ => match st with | [.int _ i] => f.bl.length - i.toNat | _ => 0) ⟨0,rfl,by omega,hx4⟩ ?_
   clear hge hi hb14 hb24 hx4 hx3
   rintro st g2 w4 ⟨i,rfl,hi,hx4⟩
   simp only [List.getD_cons_zero]
   rw [bin_lss,condW_dec]
   refine ⟨fun hlt => ?_,fun hge => hK w4 (hx12.trans hx4)⟩
   have hlt : i < f.bl.length := by omega
   have hxd := hx4.trans (ext_drew w4)
   have ge := List.getElem?_eq_getElem hlt
   have ge' := List.getElem?_eq_getElem (show i < g.bl.length by omega)
   generalize f.bl[i] = e at ge
   generalize g.bl[i] = e' at ge'
   obtain ⟨r1,r2,r3,⟨r4,r6⟩,r5⟩ := alB i e e' ge ge'
   have fe := fewB e (List.mem_of_getElem? ge)
   have hfd := hf2.ext hxd
   have hgd := hg2.ext hxd
   have hb1d := hxd.at hb1 id
   have hb2d := hxd.at hb2 id
   obtain ⟨vl,va,vb,o1,o2,o3,pp,a1,a2⟩ := hfd.bkI (k := .i64) ge
   obtain ⟨vl',va',vb',o1',o2',o3',pp',a1',a2'⟩ := hgd.bkI (k := .i64) ge'
   refine JoinW.cut (PJ w4.drew BkT [str e.typ,vl,va,vb,i64 e.a] [str e'.typ,vl',va',vb',i64 e'.a]) ?_ ?_
   · rw [fld_ptr]
     refine ld_to (ld5 (off := 1) hb1d rfl) ?_
     refine ixa_to a1 ?_
     refine ld_to a2 ?_
     rw [fld_ptr]
     refine ld_to (ld5 (off := 1) hb2d rfl) ?_
     refine ixa_to a1' ?_
     refine ld_to a2' ?_
     refine two_new (J := PJ w4.drew BkT [str e.typ,vl,va,vb,i64 e.a] [str e'.typ,vl',va',vb',i64 e'.a]) (T := BkT) (n := 5) (z := [.string (ofL []),.slice none 0 0,.slice none 0 0,.slice none 0 0,.int .i64 0]) (c := [str e.typ,vl,va,vb,i64 e.a]) (c' := [str e'.typ,vl',va',vb',i64 e'.a]) rfl rfl rfl ?_ ?_ (ld5 (off := 1) hb1d rfl) a2 (ld5 (off := 1) hb2d rfl) a2' fun a b w5 hx5 _ ha hb => ⟨a,b,rfl,hx5,ha,hb⟩
     · obtain ⟨_,_,rfl,_⟩ := o1.shape; obtain ⟨_,_,rfl,_⟩ := o2.shape; obtain ⟨_,_,rfl,_⟩ := o3.shape; rfl
     · obtain ⟨_,_,rfl,_⟩ := o1'.shape; obtain ⟨_,_,rfl,_⟩ := o2'.shape; obtain ⟨_,_,rfl,_⟩ := o3'.shape; rfl
   rintro st g3 w5 ⟨a,b,rfl,hx5,ha,hb⟩
   simp only [List.getD_cons_zero,List.getD_cons_succ]
   refine fld5 (off := 0) ha rfl ?_
   refine fld5 (off := 0) hb rfl ?_
   rw [bin_sne,decide_eq_false (by rw [r1]; simp)]
   simp only [isB_f,Bool.not_false]
   refine GdW.act false (fun w' => Ext w5 w') (fun e => by cases e) ?_ ?_
   · intro _ J hJ
     refine fld5 (off := 1) ha rfl ?_
     refine fld5 (off := 1) hb rfl ?_
     rw [← r2] at o1'
     refine texts_t (o1.ext hx5) (o1'.ext hx5) fe.1 fun w6 hx6 => ?_
     rw [un_not]
     exact hJ _ hx6
   rintro g4 w6 hx6
   simp only [List.getD_cons_zero,cond_true]
   rw [pick_f]
   simp only [isB_f,Bool.not_false]
   refine GdW.act false (fun w' => Ext w5 w') (fun e => by cases e) ?_ ?_
   · intro _ J hJ
     refine fld5 (off := 3) (hx6.at ha id) rfl ?_
     refine fld5 (off := 3) (hx6.at hb id) rfl ?_
     rw [← r3] at o3'
     have hx56 := hx5.trans hx6
     refine ints_t (o3.ext hx56) (o3'.ext hx56) fe.2.2 fun w7 hx7 => ?_
     rw [un_not]
     exact hJ _ (hx6.trans hx7)
   rintro g5 w7 hx7
   have ha7 := hx7.at ha id
   have hb7 := hx7.at hb id
   have hx57 := hx5.trans hx7
   have hx47 := hxd.trans hx57
   simp only [List.getD_cons_zero,cond_true]
   rw [pick_f]
   simp only [isB_f,Bool.not_false]
   refine GdW.look false (fun _ J hJ => ?_) fun _ => ?_
   · refine fld5 (off := 2) ha7 rfl ?_
     rw [lenl_at (o2.ext hx57)]
     refine fld5 (off := 2) hb7 rfl ?_
     rw [lenl_at (o2'.ext hx57),bin_neq,decide_eq_false (by omega)]
     exact hJ
   simp only [List.getD_cons_zero,cond_true]
   rw [pick_f]
   simp only [isB_f,Bool.not_false,GdW_pure]
   intro g6
   simp only [List.getD_cons_zero,cond_true]
   refine GdW.look false (fun hq J hJ => ?_) fun _ => ?_
   · have hq : q = true := by simpa [isB_t] using hq
     refine fld5 (off := 4) ha7 rfl ?_
     refine fld5 (off := 4) hb7 rfl ?_
     rw [bin_neq,decide_eq_false (by rw [r5 hq]; simp)]
     exact hJ
   refine GdW.look false (fun _ J hJ => ?_) fun _ => ?_
   · simp only [List.getD_cons_zero,isB_t]
     rw [pick_gd_and,Bool.and_false]
     exact hJ
   simp only [List.getD_cons_zero,cond_true]
   rw [pick_f,condW_false]
   refine fld5 (off := 2) ha7 rfl ?_
   rw [lenl_at (o2.ext hx57)]
   refine LoopW.go (fun st w' => ∃ j : Nat,st = [i64 (j : Nat)] ∧ j ≤ e.attrs.length ∧ Ext w7 w') (fun st _ => match st with | [.int _ j] => e.attrs.length - j.toNat | _ => 0) ⟨0,rfl,by omega,Chg.refl _ _⟩ ?_
   rintro st g7 w8 ⟨j,rfl,hj,hx8⟩
   simp only [List.getD_cons_zero]
   rw [bin_lss,condW_dec]
   refine ⟨fun hlt2 => ?_,fun hge2 => ?_⟩
   · have hlt2 : j < e.attrs.length := by omega
     have hx8d := hx8.trans (ext_drew w8)
     have ha8 := hx8d.at ha7 id
     have hb8 := hx8d.at hb7 id
     have gx := List.getElem?_eq_getElem hlt2
     have gx' := List.getElem?_eq_getElem (show j < e'.attrs.length by omega)
     generalize e.attrs[j] = x at gx
     generalize e'.attrs[j] = x' at gx'
     obtain ⟨s1,s2,s3⟩ := r6 j x x' gx gx'
     obtain ⟨ad,i1,i2,i3,i4⟩ := atr_at (o2.ext (hx57.trans hx8d)) gx
     obtain ⟨ad',i1',i2',i3',i4'⟩ := atr_at (o2'.ext (hx57.trans hx8d)) gx'
     refine fld5 (off := 2) ha8 rfl ?_
     refine ixa_to i1 ?_
     rw [fld_ptr]
     refine ld_to i2 ?_
     refine fld5 (off := 2) hb8 rfl ?_
     refine ixa_to i1' ?_
     rw [fld_ptr]
     refine ld_to i2' ?_
     rw [bin_sne,decide_eq_false (by rw [s1]; simp)]
     simp only [isB_f,Bool.not_false]
     rw [gq_fld]
     refine gq_of (ld5 (off := 2) ha8 rfl) ?_
     refine gq_of rfl ?_
     refine gq_of i1 ?_
     rw [gq_fld]
     refine gq_of i3 ?_
     rw [gq_fld]
     refine gq_of (ld5 (off := 2) hb8 rfl) ?_
     refine gq_of rfl ?_
     refine gq_of i1' ?_
     rw [gq_fld]
     refine gq_of i3' ?_
     refine gq_of (v := .bool false) (by rw [bin_neq,decide_eq_false (by rw [s2]; simp)]) ?_
     rw [pick_f]
     simp only [isB_f,Bool.not_false]
     refine gq_of rfl ?_
     refine gq_of rfl ?_
     have fin : (fun (st : List Value) w' => ∃ j : Nat,st = [i64 (j : Nat)] ∧ j ≤ e.attrs.length ∧ Ext w7 w') [i64 ((j + 1 : Nat) : Int)] w8.drew ∧ (fun (st : List Value) (_ : World) => match st with | [.int _ j] => e.attrs.length - j.toNat | _ => 0) [i64 ((j + 1 : Nat) : Int)] w8.drew < e.attrs.length - ((j : Nat) : Int).toNat := ⟨⟨j + 1,rfl,by omega,hx8d⟩,by simp only [Int.toNat_natCast]; omega⟩
     cases q with
     | false =>
       simp only [isB_t,GqW_f]
       refine gq_of (v := .bool false) (by rw [pick_f]) ?_
       rw [pick_f,condW_false,bin_add,upj (by omega)]
       exact fin
     | true =>
       simp only [isB_t]
       rw [gq_fld]
       refine gq_of (ld5 (off := 2) ha8 rfl) ?_
       refine gq_of rfl ?_
       refine gq_of i1 ?_
       rw [gq_fld]
       refine gq_of i4 ?_
       rw [gq_fld]
       refine gq_of (ld5 (off := 2) hb8 rfl) ?_
       refine gq_of rfl ?_
       refine gq_of i1' ?_
       rw [gq_fld]
       refine gq_of i4' ?_
       refine gq_of (v := .bool false) (by rw [bin_neq,decide_eq_false (by rw [s3 rfl]; simp)]) ?_
       refine gq_of (v := .bool false) (by rw [pick_t]) ?_
       rw [pick_f,condW_false,bin_add,upj (by omega)]
       exact fin
   · rw [bin_add,upj (by omega)]
     refine ⟨⟨i + 1,rfl,by omega,hx47.trans hx8⟩,?_⟩
     simp only [Int.toNat_natCast]; omega
end
end Go.Proofs.YtofhaneggcpdaaaDoor
namespace Go.Proofs.YtofhaneggcpdaaaDoor
open Go Go.Eng Go.RowKit Go.Syn Go.Lex
set_option maxRecDepth 100000
theorem nd_inj {L : List Value} (h : (ub L).Nodup) {i j k : Nat} {x y : Value} (hi : L[i]? = some x) (hj : L[j]? = some y) (hx : x.ownBlock = some k) (hy : y.ownBlock = some k) : i = j := by
 unfold ub List.Nodup at h
 rw [List.pairwise_filterMap,List.pairwise_iff_getElem] at h
 obtain ⟨hi1,hi2⟩ := List.getElem?_eq_some_iff.1 hi
 obtain ⟨hj1,hj2⟩ := List.getElem?_eq_some_iff.1 hj
 rcases Nat.lt_trichotomy i j with e | e | e
 · exact absurd rfl (h i j hi1 hj1 e k (by rw [hi2]; exact hx) k (by rw [hj2]; exact hy))
 · exact e
 · exact absurd rfl (h j i hj1 hi1 e k (by rw [hj2]; exact hy) k (by rw [hi2]; exact hx))
theorem row_slot {c : List Value} {r n : Nat} {u : Value} (h : u ∈ (c.drop (r * n)).take n) : ∃ p,p < n ∧ c[r * n + p]? = some u := by
 obtain ⟨p,hp⟩ := List.mem_iff_getElem?.1 h
 have hl := (List.getElem?_eq_some_iff.1 hp).1
 rw [List.length_take] at hl
 rw [List.getElem?_take_of_lt (by omega),List.getElem?_drop] at hp
 exact ⟨p,by omega,hp⟩
theorem slotE {M : Lay} {i : Nat} {v : Value} (h : M.cE[i]? = some v) : ([M.vE,M.vB,M.vT] ++ (M.cE ++ M.cB))[3 + i]? = some v := by
 rw [List.getElem?_append_right (by simp),show 3 + i - [M.vE,M.vB,M.vT].length = i by simp,List.getElem?_append_left (List.getElem?_eq_some_iff.1 h).1]; exact h
theorem slotB {M : Lay} {i : Nat} {v : Value} (h : M.cB[i]? = some v) : ([M.vE,M.vB,M.vT] ++ (M.cE ++ M.cB))[3 + (M.cE.length + i)]? = some v := by
 rw [List.getElem?_append_right (by simp),show 3 + (M.cE.length + i) - [M.vE,M.vB,M.vT].length = M.cE.length + i by simp,List.getElem?_append_right (by omega),show M.cE.length + i - M.cE.length = i by omega]; exact h
section
variable {w w' : World} {B g r p : Nat} {M : Lay} {fl : Fl} {v : Value}
theorem FO.setE {e' : Ex} (h : FO w B M fl) (hp : M.cE[r * 5 + p]? = some v) (hp5 : p < 5) (hv : v.ownBlock = some g) (hc : Chg (One g) w w') (hr : ExR w' B e' ((M.cE.drop (r * 5)).take 5)) : FO w' B M { fl with ex := fl.ex.set r e' } := by
 have oth : ∀ (q : Nat) (x : Value),([M.vE,M.vB,M.vT] ++ (M.cE ++ M.cB))[q]? = some x → q ≠ 3 + (r * 5 + p) → ∀ k,x.ownBlock = some k → ¬ One g k := fun q x hq hne k hk e => by
   have e : k = g := e
   subst e
   exact hne (nd_inj h.nd hq (slotE hp) hk hv)
 have hpl := (List.getElem?_eq_some_iff.1 hp).1
 refine ⟨?_,own_at h.oB hc (oth 1 _ rfl (by omega)),own_at h.oT hc (oth 2 _ rfl (by omega)),⟨?_,fun i x hi => ?_⟩,?_,h.nd,fun k hk => Nat.lt_of_lt_of_le (h.lt k hk) hc.size,h.lo⟩
 · show Own w' B ExT 5 M.vE (fl.ex.set r e').length M.cE
   rw [List.length_set]; exact own_at h.oE hc (oth 0 _ rfl (by omega))
 · rw [List.length_set]; exact h.ee.1
 · rw [List.getElem?_set] at hi
   split at hi
   · rename_i hir
     subst hir
     split at hi
     · injection hi with hi; rw [← hi]; exact hr
     · cases hi
   · rename_i hne
     refine (h.ee.2 i x hi).at_ hc fun k hk => ?_
     obtain ⟨u,hu,huk⟩ := List.mem_filterMap.1 hk
     obtain ⟨c,hc5,hcu⟩ := row_slot hu
     exact oth (3 + (i * 5 + c)) u (slotE hcu) (by omega) k huk
 · refine h.bb.imp fun x d hd hx => hx.at_ hc fun k hk => ?_
   obtain ⟨u,hu,huk⟩ := List.mem_filterMap.1 hk
   obtain ⟨c,hcu⟩ := List.mem_iff_getElem?.1 (hd u hu)
   exact oth (3 + (M.cE.length + c)) u (slotB hcu) (by omega) k huk
theorem FO.setB {e' : Blk} (h : FO w B M fl) (hp : M.cB[r * 5 + p]? = some v) (hp5 : p < 5) (hv : v.ownBlock = some g) (hc : Chg (One g) w w') (hr : BkR w' B e' ((M.cB.drop (r * 5)).take 5)) : FO w' B M { fl with bl := fl.bl.set r e' } := by
 have oth : ∀ (q : Nat) (x : Value),([M.vE,M.vB,M.vT] ++ (M.cE ++ M.cB))[q]? = some x → q ≠ 3 + (M.cE.length + (r * 5 + p)) → ∀ k,x.ownBlock = some k → ¬ One g k := fun q x hq hne k hk e => by
   have e : k = g := e
   subst e
   exact hne (nd_inj h.nd hq (slotB hp) hk hv)
 refine ⟨own_at h.oE hc (oth 0 _ rfl (by omega)),?_,own_at h.oT hc (oth 2 _ rfl (by omega)),?_,⟨?_,fun i x hi => ?_⟩,h.nd,fun k hk => Nat.lt_of_lt_of_le (h.lt k hk) hc.size,h.lo⟩
 · show Own w' B BkT 5 M.vB (fl.bl.set r e').length M.cB
   rw [List.length_set]; exact own_at h.oB hc (oth 1 _ rfl (by omega))
 · refine h.ee.imp fun x d hd hx => hx.at_ hc fun k hk => ?_
   obtain ⟨u,hu,huk⟩ := List.mem_filterMap.1 hk
   obtain ⟨c,hcu⟩ := List.mem_iff_getElem?.1 (hd u hu)
   have := (List.getElem?_eq_some_iff.1 hcu).1
   exact oth (3 + c) u (slotE hcu) (by omega) k huk
 · rw [List.length_set]; exact h.bb.1
 · rw [List.getElem?_set] at hi
   split at hi
   · rename_i hir
     subst hir
     split at hi
     · injection hi with hi; rw [← hi]; exact hr
     · cases hi
   · rename_i hne
     refine (h.bb.2 i x hi).at_ hc fun k hk => ?_
     obtain ⟨u,hu,huk⟩ := List.mem_filterMap.1 hk
     obtain ⟨c,hc5,hcu⟩ := row_slot hu
     exact oth (3 + (M.cE.length + (i * 5 + c))) u (slotB hcu) (by omega) k huk
theorem own_st {T : TypeId} {m n o : Nat} {cs : List Value} {x : Value} {K : World → Prop} (h : Own w B T m v n cs) (ho : o < cs.length) (h1 : one1 x = true)
   (hK : ∀ g w',v.ownBlock = some g → Chg (One g) w w' → w'.heap.size = w.heap.size → Own w' B T m v n (cs.set o x) → K w') : ∃ g cap,v = .slice (some ⟨g,0,none⟩) n cap ∧ w.cell? ⟨g,o,none⟩ = cs[o]? ∧ stW 1 (.pointer (some ⟨g,o,none⟩)) x w K := by
 obtain ⟨hl,⟨rfl,rfl⟩ | ⟨g,cap,cur,rfl,hb,hg,h2,h3,h4,h5⟩⟩ := h
 · rw [hl] at ho; omega
 refine ⟨g,cap,rfl,by rw [cell_eq,hg,cellO_some,← h5,List.getElem?_take_of_lt (by rw [← hl]; exact ho)]; simp,?_⟩
 have hcl : cs.length ≤ cur.size := by
   have := congrArg List.length h5
   rw [List.length_take] at this
   have e : cur.toList.length = cur.size := rfl
   omega
 refine st_at hg h1 (by omega) fun w' hz hb' hc => hK g w' rfl hc hz ?_
 refine ⟨by rw [List.length_set]; exact hl,.inr ⟨g,cap,_,rfl,hb,hb',h2,h3,?_,?_⟩⟩
 · rw [Array.size_setIfInBounds]; exact h4
 · rw [Array.toList_setIfInBounds,← h5,List.take_set]
theorem own_sub {n k a d : Nat} {A : List Nat} {K : World → Prop} (h : Own w B IntT 1 v n (ints A)) (ha : A[k]? = some (a + d)) (hn : n = A.length) (hd : a + d ≤ 9223372036854775807)
   (hK : ∀ g w',v.ownBlock = some g → Chg (One g) w w' → Own w' B IntT 1 v n (ints (A.set k a)) → K w') :
   ixaW none 1 v (i64 (k : Nat)) fun t => ldW false 1 t w fun x => binW .sub x (i64 (d : Nat)) fun x' => ixaW none 1 v (i64 (k : Nat)) fun t' => stW 1 t' x' w K := by
 have hk := (List.getElem?_eq_some_iff.1 ha).1
 obtain ⟨g,cap,rfl,hc,hs⟩ := own_st (o := k) (x := i64 (a : Nat)) h (by simpa [ints] using hk) rfl fun g w' hg hc _ ho => hK g w' hg hc (by
   have e : (ints A).set k (i64 (a : Nat)) = ints (A.set k a) := by simp [ints,List.map_set]
   rw [← e]; exact ho)
 rw [ixa_slice]
 refine ⟨by omega,by omega,?_⟩
 rw [add_mk,Int.toNat_natCast,Nat.mul_one,Nat.zero_add,ld_one]
 refine ⟨i64 ((a + d : Nat) : Int),by rw [hc,int_get ha],?_⟩
 rw [bin_sub,wrap_id (by omega) (by omega),ixa_slice]
 refine ⟨by omega,by omega,?_⟩
 rw [add_mk,Int.toNat_natCast,Nat.mul_one,Nat.zero_add,show ((a + d : Nat) : Int) - (d : Nat) = (a : Nat) by omega]
 exact hs
theorem atrs_cell {U : List Atr} {k : Nat} {x : Atr} (h : U[k]? = some x) {j : Nat} (hj : j < 3) : (atrs U)[k * 3 + j]? = [str x.n,i64 (x.e : Nat),i64 x.a][j]? := flat3_get _ (fun _ => rfl) U k j x h hj
theorem atrs_set : ∀ {U : List Atr} {k : Nat} {nm : Str} {e e' : Nat} {a : Int},U[k]? = some ⟨nm,e,a⟩ → (atrs U).set (k * 3 + 1) (i64 (e' : Nat)) = atrs (U.set k ⟨nm,e',a⟩)
 | [],k,_,_,_,_,h => by simp at h
 | x :: U,0,nm,e,e',a,h => by
   simp only [List.getElem?_cons_zero,Option.some.injEq] at h
   subst h
   rfl
 | x :: U,k + 1,nm,e,e',a,h => by
   rw [List.getElem?_cons_succ] at h
   have ih := atrs_set (e' := e') h
   show ([str x.n,i64 (x.e : Nat),i64 x.a] ++ atrs U).set ((k + 1) * 3 + 1) _ = [str x.n,i64 (x.e : Nat),i64 x.a] ++ atrs (U.set k _)
   rw [List.set_append_right _ _ (by simp; omega),← ih]
   congr 2
   simp; omega
theorem own_sub3 {n k e d : Nat} {nm : Str} {a : Int} {U : List Atr} {K : World → Prop} (h : Own w B AtT 3 v n (atrs U)) (ha : U[k]? = some ⟨nm,e + d,a⟩) (hn : n = U.length) (hd : e + d ≤ 9223372036854775807)
   (hK : ∀ g w',v.ownBlock = some g → Chg (One g) w w' → Own w' B AtT 3 v n (atrs (U.set k ⟨nm,e,a⟩)) → K w') :
   ixaW none 3 v (i64 (k : Nat)) fun t => fldW 1 t fun t => ldW false 1 t w fun x => binW .sub x (i64 (d : Nat)) fun x' => ixaW none 3 v (i64 (k : Nat)) fun t' => fldW 1 t' fun t' => stW 1 t' x' w K := by
 have hk := (List.getElem?_eq_some_iff.1 ha).1
 obtain ⟨g,cap,rfl,hc,hs⟩ := own_st (o := k * 3 + 1) (x := i64 (e : Nat)) h (by rw [atrs_len]; omega) rfl fun g w' hg hc _ ho => hK g w' hg hc (by rw [← atrs_set ha]; exact ho)
 rw [ixa_slice]
 refine ⟨by omega,by omega,?_⟩
 rw [add_mk,Int.toNat_natCast,Nat.zero_add,fld_ptr,add_mk,ld_one]
 refine ⟨i64 ((e + d : Nat) : Int),by rw [hc,atrs_cell ha (by omega)]; rfl,?_⟩
 rw [bin_sub,wrap_id (by omega) (by omega),ixa_slice]
 refine ⟨by omega,by omega,?_⟩
 rw [add_mk,Int.toNat_natCast,Nat.zero_add,fld_ptr,add_mk,show ((e + d : Nat) : Int) - (d : Nat) = (e : Nat) by omega]
 exact hs
theorem ld_row {a n : Nat} {T : TypeId} {d : List Value} {K : Value → Prop} (h : w.heap[a]? = some (.cells d.toArray T (0,0))) (hn : d.length = n) (hK : K (.agg d.toArray)) : ldW true n (.pointer (some ⟨a,0,none⟩)) w K := by
 rw [ld_agg]
 refine ⟨d,?_,hK⟩
 have := cells_row (o := 0) (d := d) h (fun j hj => by rw [Nat.zero_add]; simp) n 0 (by omega)
 simpa using this
theorem sl_from {T : TypeId} {n l size : Nat} {cs : List Value} {K : Value → Prop} (h : SlAt w T v n cs) (hlen : cs.length = n * size) (hl : l ≤ n) (hK : ∀ u,(∀ w',SlAt w' T v n cs → SlAt w' T u (n - l) (cs.drop (l * size))) → K u) : sllW size v (some (i64 (l : Nat))) none none K := by
 obtain ⟨q,cap,rfl,h1,h2,_⟩ := h
 rw [sll_sl,bd_none,bd_none,bd_some]
 refine ⟨by omega,by omega,hK _ fun w' h => ?_⟩
 obtain ⟨q',cap',e,_,_,h3⟩ := h
 injection e with e1 _ e2
 subst e1 e2
 rw [Int.toNat_natCast]
 refine ⟨_,_,rfl,by omega,fun hn => ?_,fun hne => ?_⟩
 · split at hn
   · have := h2 hn; omega
   · cases q with
     | none => have := h2 rfl; omega
     | some a => cases hn
 · have hn0 : cs ≠ [] := fun e => hne (by rw [e]; simp)
   obtain ⟨b,off,c,fr,rfl,hb,hcs⟩ := h3 hn0
   have hlt : l < n := by
     by_cases e : l < n
     · exact e
     · exact absurd (List.drop_eq_nil_of_le (by rw [hlen]; exact Nat.mul_le_mul_right _ (by omega))) hne
   rw [if_neg (by omega)]
   refine ⟨b,off + l * size,c,fr,by rw [Option.map_some,add_mk],hb,fun i hi => ?_⟩
   rw [List.length_drop] at hi
   rw [List.getElem?_drop,Nat.add_assoc,hcs _ (by omega)]
theorem sl_to {T : TypeId} {n l size : Nat} {cs : List Value} {K : Value → Prop} (h : SlAt w T v n cs) (hlen : cs.length = n * size) (hl : l ≤ n) (hK : ∀ u,SlAt w T u l (cs.take (l * size)) → K u) : sllW size v none (some (i64 (l : Nat))) none K := by
 obtain ⟨q,cap,rfl,h1,h2,h3⟩ := h
 rw [sll_sl,bd_none,bd_some,bd_none]
 refine ⟨by omega,by omega,hK _ ?_⟩
 rw [Int.toNat_natCast]
 refine ⟨_,_,rfl,by omega,fun hn => ?_,fun hne => ?_⟩
 · split at hn
   · have := h2 hn; omega
   · cases q with
     | none => have := h2 rfl; omega
     | some a => cases hn
 · have hn0 : cs ≠ [] := fun e => hne (by rw [e]; simp)
   obtain ⟨b,off,c,fr,rfl,hb,hcs⟩ := h3 hn0
   refine ⟨b,off,c,fr,?_,hb,fun i hi => ?_⟩
   · split
     · rfl
     · rw [Option.map_some,add_mk,Nat.zero_mul,Nat.add_zero]
   · rw [List.length_take] at hi
     rw [List.getElem?_take_of_lt (by omega),hcs _ (by omega)]
end
end Go.Proofs.YtofhaneggcpdaaaDoor
namespace Go.Syn
open Go Go.Eng Go.Lex
structure TR (b : Bool) (o E : Nat) (d : Int) (A A2 : List Tok) : Prop where
 len : A.length = E + 1
 len2 : E + o < A2.length
 tok : ∀ (j : Nat) (t : Tok),j < E → A[j]? = some t → t.k ≠ 0 ∧ ∃ t2,A2[j + o]? = some t2 ∧ t2.k = t.k ∧ t2.t = t.t ∧ t2.a = t.a + d
 eof : ∀ t,A[E]? = some t → t.k = 0
 eof2 : b = true → ∀ t,A[E]? = some t → ∃ t2,A2[E + o]? = some t2 ∧ t2.k = t.k ∧ t2.t = t.t ∧ t2.a = t.a + d
 nl : b = false → ∀ t2,A2[E + o]? = some t2 → t2.k = 5
def mvE (n : Nat) (c : Int) (e : Ex) : Ex := ⟨e.k,e.t,e.args.map (· + n),e.keys,e.a + c⟩
def mvA (n : Nat) (c : Int) (x : Atr) : Atr := ⟨x.n,x.e + n,x.a + c⟩
def mvB (n m : Nat) (c : Int) (b : Blk) : Blk := ⟨b.typ,b.labels,b.attrs.map (mvA n c),b.blocks.map (· + m),b.a + c⟩
structure JR (io : Nat) (b : Bool) (c : Int) (pe : List Ex) (pb : List Blk) (s s2 : PS) : Prop where
 tr : ∃ o E d,TR b o E d s.toks s2.toks ∧ s2.i = s.i + o ∧ s.i ≤ E ∧ d + s2.off = c + s.off
 deep : s2.deep = s.deep
 quiet : s2.quiet = s.quiet
 ex : s2.ex = pe ++ s.ex.map (mvE pe.length c)
 bl : s2.bl = pb ++ s.bl.map (mvB pe.length pb.length c)
 len : s.toks.length ≤ s2.toks.length
 io : s2.i = s.i + io
theorem drop_tok {A : List Tok} {i : Nat} (h : i < A.length) : A.drop i = A[i] :: A.drop (i + 1) := List.drop_eq_getElem_cons h
theorem TR.run {b : Bool} {o E : Nat} {d : Int} {A A2 : List Tok} (h : TR b o E d A A2) : ∀ (n i : Nat),i + n = E → i + lineRun (A.drop i) ≤ E ∧ (b = true ∨ i + lineRun (A.drop i) < E → lineRun (A2.drop (i + o)) = lineRun (A.drop i))
 | 0,i,hi => by
   have hlt : i < A.length := by rw [h.len]; omega
   have he := h.eof A[i] (by rw [show E = i by omega]; exact List.getElem?_eq_getElem hlt)
   have e0 : lineRun (A.drop i) = 0 := by
     rw [drop_tok hlt]
     simp only [lineRun,he]
     rw [if_neg (by decide)]
   rw [e0]
   refine ⟨by omega,fun hh => ?_⟩
   rcases hh with hb | hh
   · obtain ⟨t2,g1,g2,_⟩ := h.eof2 hb A[i] (by rw [show E = i by omega]; exact List.getElem?_eq_getElem hlt)
     obtain ⟨hlt2,g1⟩ := List.getElem?_eq_some_iff.1 g1
     rw [show i + o = E + o by omega,drop_tok hlt2]
     simp only [lineRun,g1,g2,he]
     rw [if_neg (by decide)]
   · omega
 | n + 1,i,hi => by
   have hlt : i < A.length := by rw [h.len]; omega
   obtain ⟨_,t2,e1,e2,_,_⟩ := h.tok i A[i] (by omega) (List.getElem?_eq_getElem hlt)
   obtain ⟨hlt2,e1⟩ := List.getElem?_eq_some_iff.1 e1
   have ih := TR.run h n (i + 1) (by omega)
   rw [drop_tok hlt,drop_tok hlt2]
   simp only [lineRun,e1,e2]
   by_cases hk : A[i].k = 5
   · rw [if_pos hk,if_pos hk]
     rw [show i + 1 + o = i + o + 1 by omega] at ih
     exact ⟨by have := ih.1; omega,fun hh => by rw [ih.2 (hh.imp id fun hh => by omega)]⟩
   · rw [if_neg hk,if_neg hk]
     exact ⟨by omega,fun _ => rfl⟩
section
variable {io : Nat} {b : Bool} {c : Int} {pe : List Ex} {pb : List Blk} {s s2 : PS}
theorem nowS_f (s : PS) : (nowS s).toks = s.toks ∧ (nowS s).off = s.off ∧ (nowS s).deep = s.deep ∧ (nowS s).quiet = s.quiet ∧ (nowS s).ex = s.ex ∧ (nowS s).bl = s.bl := by
 unfold nowS; split <;> exact ⟨rfl,rfl,rfl,rfl,rfl,rfl⟩
theorem JR.at_ (h : JR io b c pe pb s s2) {i i2 : Nat} (hi : ∀ o E d,TR b o E d s.toks s2.toks → s2.i = s.i + o → s.i ≤ E → i2 = i + o ∧ i ≤ E) : JR io b c pe pb { s with i := i } { s2 with i := i2 } := by
 obtain ⟨o,E,d,h1,h2,h3,h4⟩ := h.tr
 exact ⟨⟨o,E,d,h1,(hi o E d h1 h2 h3).1,(hi o E d h1 h2 h3).2,h4⟩,h.deep,h.quiet,h.ex,h.bl,h.len,by have := (hi o E d h1 h2 h3).1; have := h.io; show i2 = i + io; omega⟩
theorem nowS_with (s : PS) : nowS s = { s with i := (nowS s).i } := by unfold nowS; split <;> rfl
theorem JR.now (h : JR io b c pe pb s s2) : (b = false ∧ (cur s).k = 0 ∧ (s.quiet = false → JR io b c pe pb (nowS s) (nowS s2))) ∨ (JR io b c pe pb (nowS s) (nowS s2) ∧ (cur s2).k = (cur s).k ∧ (cur s2).t = (cur s).t ∧ (cur s2).a = (cur s).a + c ∧ ((cur s).k ≠ 0 → ∀ o E d,TR b o E d s.toks s2.toks → s2.i = s.i + o → s.i ≤ E → (nowS s).i < E)) := by
 obtain ⟨o,E,d,h1,h2,h3,h4⟩ := h.tr
 have hr := h1.run (E - s.i) s.i (by omega)
 have hnq : s.quiet = false → JR io b c pe pb (nowS s) (nowS s2) := fun hq => by
   unfold nowS
   rw [hq,h.quiet,hq,if_neg (by decide),if_neg (by decide)]
   exact h
 have hE : ∀ o' E' d',TR b o' E' d' s.toks s2.toks → E' = E := fun o' E' d' h' => by have := h'.len; have := h1.len; omega
 have hni : (nowS s).i ≤ E := by unfold nowS; split; exact hr.1; exact h3
 have hl : (nowS s).i < s.toks.length := by rw [h1.len]; omega
 have c1 : tokI (nowS s) = s.toks[(nowS s).i] := by
   unfold tokI; rw [(nowS_f s).1,List.getD_eq_getElem?_getD,List.getElem?_eq_getElem hl]; rfl
 have hend : ¬ (nowS s).i < E → (cur s).k = 0 := fun hlt => by
   have hi : (nowS s).i = E := by omega
   have hlE : E < s.toks.length := by rw [h1.len]; omega
   have he := h1.eof _ (List.getElem?_eq_getElem hlE)
   unfold cur tokI
   rw [(nowS_f s).1,hi,List.getD_eq_getElem?_getD,List.getElem?_eq_getElem hlE]
   exact he
 by_cases hlt : b = true ∨ (nowS s).i < E
 · have hn2 : (nowS s2).i = (nowS s).i + o := by
     unfold nowS at hlt ⊢
     rw [h.quiet]
     by_cases hq : s.quiet = true
     · rw [if_pos hq] at hlt
       rw [if_pos hq,if_pos hq]
       simp only at hlt ⊢
       rw [h2,hr.2 hlt]; omega
     · rw [if_neg hq,if_neg hq]; exact h2
   have hJ : JR io b c pe pb (nowS s) (nowS s2) := by
     rw [nowS_with s,nowS_with s2]
     refine h.at_ fun o' E' d' h' g2 g3 => ⟨?_,by have := hE o' E' d' h'; omega⟩
     rw [hn2]; omega
   obtain ⟨t2,k2,k3,k4,k5⟩ : ∃ t2,s2.toks[(nowS s).i + o]? = some t2 ∧ t2.k = s.toks[(nowS s).i].k ∧ t2.t = s.toks[(nowS s).i].t ∧ t2.a = s.toks[(nowS s).i].a + d := by
     by_cases hl2 : (nowS s).i < E
     · exact (h1.tok (nowS s).i s.toks[(nowS s).i] hl2 (List.getElem?_eq_getElem hl)).2
     · have hi : (nowS s).i = E := by omega
       have := h1.eof2 (hlt.resolve_right hl2) s.toks[(nowS s).i] (by rw [← hi]; exact List.getElem?_eq_getElem hl)
       rw [← hi] at this
       exact this
   have c2 : tokI (nowS s2) = t2 := by
     unfold tokI; rw [(nowS_f s2).1,hn2,List.getD_eq_getElem?_getD,k2]; rfl
   refine .inr ⟨hJ,?_,?_,?_,fun hk o' E' d' h' _ _ => ?_⟩
   · unfold cur; rw [c1,c2]; exact k3
   · unfold cur; rw [c1,c2]; exact k4
   · unfold cur; rw [c1,c2]
     show t2.a + s2.off = s.toks[(nowS s).i].a + s.off + c
     omega
   · have := hE o' E' d' h'
     by_cases hl2 : (nowS s).i < E
     · omega
     · exact absurd (hend hl2) hk
 · have hb : b = false := by
     cases b with
     | false => rfl
     | true => exact absurd (.inl rfl) hlt
   exact .inl ⟨hb,hend fun hh => hlt (.inr hh),hnq⟩
theorem JR.step (h : JR io b c pe pb s s2) (hk : (cur s).k ≠ 0) : JR io b c pe pb (step1 (nowS s)) (step1 (nowS s2)) := by
 rcases h.now with ⟨_,h0,_⟩ | ⟨hJ,_,_,_,hlt⟩
 · exact absurd h0 hk
 · refine hJ.at_ fun o E d h1 h2 h3 => ?_
   obtain ⟨o',E',d',g1,g2,g3,_⟩ := h.tr
   have hl := hlt hk o' E' d' g1 g2 g3
   have e1 : E = E' := by have := h1.len; rw [(nowS_f s).1] at this; have := g1.len; omega
   exact ⟨by omega,by omega⟩
theorem JR.cur (h : JR io b c pe pb s s2) (hk : b = true ∨ (cur s).k ≠ 0) : JR io b c pe pb (nowS s) (nowS s2) ∧ (Syn.cur s2).k = (cur s).k ∧ (Syn.cur s2).t = (cur s).t ∧ (Syn.cur s2).a = (cur s).a + c := by
 rcases h.now with ⟨h0,h1,_⟩ | ⟨hJ,e1,e2,e3,_⟩
 · rcases hk with hk | hk
   · rw [h0] at hk; cases hk
   · exact absurd h1 hk
 · exact ⟨hJ,e1,e2,e3⟩
theorem JR.isS (h : JR io b c pe pb s s2) (w : Str) (hk : b = true ∨ (Syn.cur s).k ≠ 0) : isS s2 w = isS s w := by
 obtain ⟨_,e1,e2,_⟩ := h.cur hk
 unfold Syn.isS; rw [e1,e2]
theorem isS_k {w : Str} (h : isS s w = true) : (cur s).k ≠ 0 := by
 unfold isS at h
 simp only [Bool.and_eq_true,decide_eq_true_iff] at h
 omega
theorem JR.take (h : JR io b c pe pb s s2) (w : Str) : (b = false ∧ (Syn.cur s).k = 0 ∧ (takeS s w).1 = false) ∨ ((takeS s2 w).1 = (takeS s w).1 ∧ JR io b c pe pb (takeS s w).2 (takeS s2 w).2) := by
 by_cases hk : b = true ∨ (Syn.cur s).k ≠ 0
 · have e := h.isS w hk
   refine .inr ?_
   unfold takeS
   rw [e]
   by_cases hi : Syn.isS s w = true
   · rw [if_pos hi,if_pos hi]; exact ⟨rfl,h.step (isS_k hi)⟩
   · rw [if_neg hi,if_neg hi]
     exact ⟨rfl,(h.cur hk).1⟩
 · have h1 : b = false := by
     cases b with
     | false => rfl
     | true => exact absurd (.inl rfl) hk
   have h2 : (Syn.cur s).k = 0 := by
     by_cases h0 : (Syn.cur s).k = 0
     · exact h0
     · exact absurd (.inr h0) hk
   refine .inl ⟨h1,h2,?_⟩
   unfold takeS
   rw [if_neg fun hh => isS_k hh h2]
theorem JR.want (h : JR io b c pe pb s s2) {w : Str} {s' : PS} (e : wantR s w = .ok () s') : ∃ s2',wantR s2 w = .ok () s2' ∧ JR io b c pe pb s' s2' := by
 unfold wantR at e ⊢
 split at e
 · rename_i hi
   injection e with _ e
   have hk := isS_k hi
   rw [h.isS w (.inr hk),if_pos hi]
   exact ⟨_,rfl,e ▸ h.step hk⟩
 · cases e
theorem JR.kind (h : JR io b c pe pb s s2) {k : Int} (hk : b = true ∨ k ≠ 0) {t : Tok} {s' : PS} (e : kindR s k = .ok t s') : ∃ s2',kindR s2 k = .ok ⟨t.k,t.t,t.a + c⟩ s2' ∧ JR io b c pe pb s' s2' := by
 unfold kindR at e ⊢
 split at e
 · rename_i hi
   injection e with e1 e2
   have hk0 : b = true ∨ (Syn.cur s).k ≠ 0 := hk.imp id fun hk => by omega
   obtain ⟨hJ,g1,g2,g3⟩ := h.cur hk0
   rw [if_pos (by rw [g1]; exact hi)]
   refine ⟨nextS s2,?_,?_⟩
   · rw [← e1,← g1,← g2,← g3]
   · rw [← e2]
     unfold nextS
     by_cases h0 : (Syn.cur s).k ≠ 0
     · rw [if_pos h0,if_pos (by rw [g1]; exact h0)]; exact h.step h0
     · rw [if_neg h0,if_neg (by rw [g1]; exact h0)]; exact hJ
 · cases e
theorem JR.put (h : JR io b c pe pb s s2) (e : Ex) : JR io b c pe pb { s with ex := s.ex ++ [e] } { s2 with ex := s2.ex ++ [mvE pe.length c e] } ∧ s2.ex.length = s.ex.length + pe.length :=
 ⟨⟨h.tr,h.deep,h.quiet,by rw [h.ex]; simp,h.bl,h.len,h.io⟩,by rw [h.ex]; simp; omega⟩
end
end Go.Syn
namespace Go.Proofs.YtofhaneggcpdaaaDoor
open Go Go.Eng Go.RowKit Go.Syn Go.Lex
set_option maxRecDepth 100000
structure EAt (C : Int) (x y ex : List Ex) (i : Nat) : Prop where
 len : ex.length = x.length + y.length
 lo : ∀ j,j < x.length → ex[j]? = x[j]?
 hi : ∀ j e,y[j]? = some e → ex[x.length + j]? = some (if j < i then mvE 0 C e else mvE x.length C e)
theorem EAt.start (C : Int) (x y : List Ex) : EAt C x y (x ++ y.map (mvE x.length C)) 0 :=
 ⟨by simp,fun j hj => List.getElem?_append_left hj,fun j e h => by rw [List.getElem?_append_right (by omega),Nat.add_sub_cancel_left,List.getElem?_map,h,if_neg (by omega)]; rfl⟩
structure EIn (C : Int) (x y ex : List Ex) (i k : Nat) (e : Ex) (A : List Nat) : Prop where
 len : ex.length = x.length + y.length
 lo : ∀ j,j < x.length → ex[j]? = x[j]?
 oth : ∀ j e,y[j]? = some e → j ≠ i → ex[x.length + j]? = some (if j < i then mvE 0 C e else mvE x.length C e)
 here : ex[x.length + i]? = some ⟨e.k,e.t,A,e.keys,e.a + C⟩
 lenA : A.length = e.args.length
 done : ∀ p a,e.args[p]? = some a → A[p]? = some (if p < k then a else a + x.length)
theorem EAt.opened {C : Int} {x y ex : List Ex} {i : Nat} {e : Ex} (h : EAt C x y ex i) (hi : y[i]? = some e) : EIn C x y ex i 0 e (e.args.map (· + x.length)) :=
 ⟨h.len,h.lo,fun j e hj _ => h.hi j e hj,by rw [h.hi i e hi,if_neg (by omega)]; rfl,by simp,fun p a hp => by rw [List.getElem?_map,hp,if_neg (by omega)]; rfl⟩
theorem EIn.step {C : Int} {x y ex : List Ex} {i k a : Nat} {e : Ex} {A : List Nat} (h : EIn C x y ex i k e A) (hi : i < y.length) (hk : e.args[k]? = some a) : EIn C x y (ex.set (x.length + i) ⟨e.k,e.t,A.set k a,e.keys,e.a + C⟩) i (k + 1) e (A.set k a) := by
 have hk1 := (List.getElem?_eq_some_iff.1 hk).1
 refine ⟨by rw [List.length_set]; exact h.len,fun j hj => ?_,fun j e' hj hne => ?_,?_,by rw [List.length_set]; exact h.lenA,fun p b hp => ?_⟩
 · rw [List.getElem?_set_ne (by omega)]; exact h.lo j hj
 · rw [List.getElem?_set_ne (by omega)]; exact h.oth j e' hj hne
 · rw [List.getElem?_set_self (by rw [h.len]; omega)]
 · rw [List.getElem?_set]
   by_cases e1 : k = p
   · subst e1
     rw [hk] at hp
     injection hp with hp
     rw [if_pos rfl,if_pos (by rw [h.lenA]; exact hk1),if_pos (by omega),hp]
   · rw [if_neg e1,h.done p b hp]
     by_cases h1 : p < k
     · rw [if_pos h1,if_pos (by omega)]
     · rw [if_neg h1,if_neg (by omega)]
theorem EIn.close {C : Int} {x y ex : List Ex} {i k : Nat} {e : Ex} {A : List Nat} (h : EIn C x y ex i k e A) (hi : y[i]? = some e) (hk : e.args.length ≤ k) : A = e.args ∧ EAt C x y ex (i + 1) := by
 have hA : A = e.args := by
   apply List.ext_getElem?
   intro p
   by_cases hp : p < e.args.length
   · rw [h.done p _ (List.getElem?_eq_getElem hp),if_pos (by omega),List.getElem?_eq_getElem hp]
   · rw [List.getElem?_eq_none (by rw [h.lenA]; omega),List.getElem?_eq_none (by omega)]
 refine ⟨hA,h.len,h.lo,fun j e' hj => ?_⟩
 by_cases hji : j = i
 · subst hji
   rw [hi] at hj
   injection hj with hj
   subst hj
   rw [h.here,if_pos (by omega),hA]
   show some (⟨e.k,e.t,e.args,e.keys,e.a + C⟩ : Ex) = some ⟨e.k,e.t,e.args.map (· + 0),e.keys,e.a + C⟩
   rw [show e.args.map (· + 0) = e.args from List.map_id' _]
 · rw [h.oth j e' hj hji]
   by_cases h1 : j < i
   · rw [if_pos h1,if_pos (by omega)]
   · rw [if_neg h1,if_neg (by omega)]
structure BAt (C : Int) (n : Nat) (x y bl : List Blk) (i : Nat) : Prop where
 len : bl.length = x.length + y.length
 lo : ∀ j,j < x.length → bl[j]? = x[j]?
 hi : ∀ j b,y[j]? = some b → bl[x.length + j]? = some (if j < i then mvB 0 0 C b else mvB n x.length C b)
theorem BAt.start (C : Int) (n : Nat) (x y : List Blk) : BAt C n x y (x ++ y.map (mvB n x.length C)) 0 :=
 ⟨by simp,fun j hj => List.getElem?_append_left hj,fun j e h => by rw [List.getElem?_append_right (by omega),Nat.add_sub_cancel_left,List.getElem?_map,h,if_neg (by omega)]; rfl⟩
structure BIn (C : Int) (n : Nat) (x y bl : List Blk) (i k q : Nat) (b : Blk) (U : List Atr) (V : List Nat) : Prop where
 len : bl.length = x.length + y.length
 lo : ∀ j,j < x.length → bl[j]? = x[j]?
 oth : ∀ j b,y[j]? = some b → j ≠ i → bl[x.length + j]? = some (if j < i then mvB 0 0 C b else mvB n x.length C b)
 here : bl[x.length + i]? = some ⟨b.typ,b.labels,U,V,b.a + C⟩
 lenU : U.length = b.attrs.length
 doneU : ∀ p a,b.attrs[p]? = some a → U[p]? = some (if p < k then mvA 0 C a else mvA n C a)
 lenV : V.length = b.blocks.length
 doneV : ∀ p a,b.blocks[p]? = some a → V[p]? = some (if p < q then a else a + x.length)
theorem BAt.opened {C : Int} {n : Nat} {x y bl : List Blk} {i : Nat} {b : Blk} (h : BAt C n x y bl i) (hi : y[i]? = some b) : BIn C n x y bl i 0 0 b (b.attrs.map (mvA n C)) (b.blocks.map (· + x.length)) :=
 ⟨h.len,h.lo,fun j e hj _ => h.hi j e hj,by rw [h.hi i b hi,if_neg (by omega)]; rfl,by simp,fun p a hp => by rw [List.getElem?_map,hp,if_neg (by omega)]; rfl,by simp,fun p a hp => by rw [List.getElem?_map,hp,if_neg (by omega)]; rfl⟩
theorem BIn.stepU {C : Int} {n : Nat} {x y bl : List Blk} {i k q : Nat} {b : Blk} {U : List Atr} {V : List Nat} {a : Atr} (h : BIn C n x y bl i k q b U V) (hi : i < y.length) (hk : b.attrs[k]? = some a) : BIn C n x y (bl.set (x.length + i) ⟨b.typ,b.labels,U.set k (mvA 0 C a),V,b.a + C⟩) i (k + 1) q b (U.set k (mvA 0 C a)) V := by
 have hk1 := (List.getElem?_eq_some_iff.1 hk).1
 refine ⟨by rw [List.length_set]; exact h.len,fun j hj => ?_,fun j e' hj hne => ?_,?_,by rw [List.length_set]; exact h.lenU,fun p b hp => ?_,h.lenV,h.doneV⟩
 · rw [List.getElem?_set_ne (by omega)]; exact h.lo j hj
 · rw [List.getElem?_set_ne (by omega)]; exact h.oth j e' hj hne
 · rw [List.getElem?_set_self (by rw [h.len]; omega)]
 · rw [List.getElem?_set]
   by_cases e1 : k = p
   · subst e1
     rw [hk] at hp
     injection hp with hp
     rw [if_pos rfl,if_pos (by rw [h.lenU]; exact hk1),if_pos (by omega),hp]
   · rw [if_neg e1,h.doneU p b hp]
     by_cases h1 : p < k
     · rw [if_pos h1,if_pos (by omega)]
     · rw [if_neg h1,if_neg (by omega)]
theorem BIn.stepV {C : Int} {n : Nat} {x y bl : List Blk} {i k q : Nat} {b : Blk} {U : List Atr} {V : List Nat} {a : Nat} (h : BIn C n x y bl i k q b U V) (hi : i < y.length) (hk : b.blocks[q]? = some a) : BIn C n x y (bl.set (x.length + i) ⟨b.typ,b.labels,U,V.set q a,b.a + C⟩) i k (q + 1) b U (V.set q a) := by
 have hk1 := (List.getElem?_eq_some_iff.1 hk).1
 refine ⟨by rw [List.length_set]; exact h.len,fun j hj => ?_,fun j e' hj hne => ?_,?_,h.lenU,h.doneU,by rw [List.length_set]; exact h.lenV,fun p b hp => ?_⟩
 · rw [List.getElem?_set_ne (by omega)]; exact h.lo j hj
 · rw [List.getElem?_set_ne (by omega)]; exact h.oth j e' hj hne
 · rw [List.getElem?_set_self (by rw [h.len]; omega)]
 · rw [List.getElem?_set]
   by_cases e1 : q = p
   · subst e1
     rw [hk] at hp
     injection hp with hp
     rw [if_pos rfl,if_pos (by rw [h.lenV]; exact hk1),if_pos (by omega),hp]
   · rw [if_neg e1,h.doneV p b hp]
     by_cases h1 : p < q
     · rw [if_pos h1,if_pos (by omega)]
     · rw [if_neg h1,if_neg (by omega)]
theorem BIn.close {C : Int} {n : Nat} {x y bl : List Blk} {i k q : Nat} {b : Blk} {U : List Atr} {V : List Nat} (h : BIn C n x y bl i k q b U V) (hi : y[i]? = some b) (hk : b.attrs.length ≤ k) (hq : b.blocks.length ≤ q) : BAt C n x y bl (i + 1) := by
 have hU : U = b.attrs.map (mvA 0 C) := by
   apply List.ext_getElem?
   intro p
   by_cases hp : p < b.attrs.length
   · rw [h.doneU p _ (List.getElem?_eq_getElem hp),if_pos (by omega),List.getElem?_map,List.getElem?_eq_getElem hp]; rfl
   · rw [List.getElem?_eq_none (by rw [h.lenU]; omega),List.getElem?_eq_none (by rw [List.length_map]; omega)]
 have hV : V = b.blocks := by
   apply List.ext_getElem?
   intro p
   by_cases hp : p < b.blocks.length
   · rw [h.doneV p _ (List.getElem?_eq_getElem hp),if_pos (by omega),List.getElem?_eq_getElem hp]
   · rw [List.getElem?_eq_none (by rw [h.lenV]; omega),List.getElem?_eq_none (by omega)]
 refine ⟨h.len,h.lo,fun j e' hj => ?_⟩
 by_cases hji : j = i
 · subst hji
   rw [hi] at hj
   injection hj with hj
   subst hj
   rw [h.here,if_pos (by omega),hU,hV]
   show some (⟨b.typ,b.labels,b.attrs.map (mvA 0 C),b.blocks,b.a + C⟩ : Blk) = some ⟨b.typ,b.labels,b.attrs.map (mvA 0 C),b.blocks.map (· + 0),b.a + C⟩
   rw [show b.blocks.map (· + 0) = b.blocks from List.map_id' _]
 · rw [h.oth j e' hj hji]
   by_cases h1 : j < i
   · rw [if_pos h1,if_pos (by omega)]
   · rw [if_neg h1,if_neg (by omega)]
theorem take_row {cs d : List Value} {i n : Nat} (h : (cs.drop (i * n)).take n = d) : cs.take (i * n) ++ d = cs.take ((i + 1) * n) := by
 rw [Nat.succ_mul,List.take_add,h]
structure JV (w0 w : World) (B a9 a12 n m : Nat) (M : Lay) (fl : Fl) (vE vB vT : Value) (i j : Nat) (t : List Nat) : Prop where
 F : FO w B M fl
 h9 : w.heap[a9]? = some (.cells [M.vE,M.vB,M.vT].toArray FlT (0,0))
 h12 : w.heap[a12]? = some (.cells [vE,vB,vT].toArray FlT (0,0))
 oE : Own w (a12 + 1) ExT 5 vE i ((M.cE.drop (n * 5)).take (i * 5))
 oB : Own w (a12 + 1) BkT 5 vB j ((M.cB.drop (m * 5)).take (j * 5))
 oT : Own w (a12 + 1) IntT 1 vT t.length (ints t)
 ch : Ext w0 w
 lo : w0.heap.size ≤ B ∧ B ≤ a9 ∧ a9 < a12
 lt : ∀ k ∈ ub ([M.vE,M.vB,M.vT] ++ (M.cE ++ M.cB)),k < a9
 dEB : ∀ k,vE.ownBlock = some k → vB.ownBlock ≠ some k
 dET : ∀ k,vE.ownBlock = some k → vT.ownBlock ≠ some k
 dBT : ∀ k,vB.ownBlock = some k → vT.ownBlock ≠ some k
section
variable {w0 w w' w1 w2 : World} {B a9 a12 n m g : Nat} {M : Lay} {fl fl' : Fl} {vE vB vT v' : Value} {i j : Nat} {t : List Nat}
theorem JV.ext (h : JV w0 w B a9 a12 n m M fl vE vB vT i j t) (hx : Ext w w') : JV w0 w' B a9 a12 n m M fl vE vB vT i j t :=
 ⟨h.F.ext hx,hx.at h.h9 id,hx.at h.h12 id,h.oE.ext hx,h.oB.ext hx,h.oT.ext hx,h.ch.trans hx,h.lo,h.lt,h.dEB,h.dET,h.dBT⟩
theorem JV.one (h : JV w0 w B a9 a12 n m M fl vE vB vT i j t) (hc : Chg (One g) w w') (hg : B ≤ g ∧ g < a9) (hF : FO w' B M fl') : JV w0 w' B a9 a12 n m M fl' vE vB vT i j t := by
 have hl := h.lo
 have far : ∀ k,One g k → k = g := fun _ e => e
 refine ⟨hF,hc.at h.h9 fun e => ?_,hc.at h.h12 fun e => ?_,own_at h.oE hc fun k hk e => ?_,own_at h.oB hc fun k hk e => ?_,own_at h.oT hc fun k hk e => ?_,h.ch.new hc (by omega),h.lo,h.lt,h.dEB,h.dET,h.dBT⟩
 · have := far _ e; omega
 · have := far _ e; omega
 · have := far _ e; have := (own_lt h.oE hk).2; omega
 · have := far _ e; have := (own_lt h.oB hk).2; omega
 · have := far _ e; have := (own_lt h.oT hk).2; omega
theorem JV.base (h : JV w0 w B a9 a12 n m M fl vE vB vT i j t) : a12 + 1 ≤ w.heap.size := at_lt h.h12
theorem JV.grow (h : JV w0 w B a9 a12 n m M fl vE vB vT i j t) {S : Nat → Prop} (hc1 : Chg S w w1) (hS : ∀ k,S k → a12 < k) (hc2 : Chg (One a12) w1 w2) : FO w2 B M fl ∧ w2.heap[a9]? = some (.cells [M.vE,M.vB,M.vT].toArray FlT (0,0)) ∧ Ext w0 w2 := by
 have hl := h.lo
 have hs := h.ch.size
 refine ⟨(h.F.keep hc1 fun k _ _ hk e => ?_).keep hc2 fun k _ _ hk e => ?_,hc2.at (hc1.at h.h9 fun e => ?_) fun e => ?_,(h.ch.then hc1 fun k hk e => ?_).new hc2 (by omega)⟩
 · have := hS k e; have := h.lt k hk; omega
 · have e : k = a12 := e; have := h.lt k hk; omega
 · have := hS _ e; omega
 · have e : a9 = a12 := e; omega
 · have := hS k e; omega
theorem JV.rowE (h : JV w0 w B a9 a12 n m M fl vE vB vT i j t) (hO : Own w1 (a12 + 1) ExT 5 v' (i + 1) ((M.cE.drop (n * 5)).take ((i + 1) * 5))) (hc1 : Chg (fun k => vE.ownBlock = some k) w w1) (hv : ∀ k,v'.ownBlock = some k → vE.ownBlock = some k ∨ w.heap.size ≤ k)
   (hc2 : Chg (One a12) w1 w2) (hb : w2.heap[a12]? = some (.cells [v',vB,vT].toArray FlT (0,0))) : JV w0 w2 B a9 a12 n m M fl v' vB vT (i + 1) j t := by
 obtain ⟨g1,g2,g3⟩ := h.grow hc1 (fun k hk => (own_lt h.oE hk).2) hc2
 have up : ∀ {T : TypeId} {s c : Nat} {u : Value} {xs : List Value},Own w1 (a12 + 1) T s u c xs → Own w2 (a12 + 1) T s u c xs := fun ho => own_at ho hc2 fun k hk e => by have e : k = a12 := e; have := (own_lt ho hk).2; omega
 exact ⟨g1,g2,hb,up hO,up (own_at h.oB hc1 fun k hk e => h.dEB k e hk),up (own_at h.oT hc1 fun k hk e => h.dET k e hk),g3,h.lo,h.lt,
   fun k hk e => (hv k hk).elim (fun e1 => h.dEB k e1 e) fun e1 => by have := (own_lt h.oB e).1; omega,fun k hk e => (hv k hk).elim (fun e1 => h.dET k e1 e) fun e1 => by have := (own_lt h.oT e).1; omega,h.dBT⟩
theorem JV.rowB (h : JV w0 w B a9 a12 n m M fl vE vB vT i j t) (hO : Own w1 (a12 + 1) BkT 5 v' (j + 1) ((M.cB.drop (m * 5)).take ((j + 1) * 5))) (hc1 : Chg (fun k => vB.ownBlock = some k) w w1) (hv : ∀ k,v'.ownBlock = some k → vB.ownBlock = some k ∨ w.heap.size ≤ k)
   (hc2 : Chg (One a12) w1 w2) (hb : w2.heap[a12]? = some (.cells [vE,v',vT].toArray FlT (0,0))) : JV w0 w2 B a9 a12 n m M fl vE v' vT i (j + 1) t := by
 obtain ⟨g1,g2,g3⟩ := h.grow hc1 (fun k hk => (own_lt h.oB hk).2) hc2
 have up : ∀ {T : TypeId} {s c : Nat} {u : Value} {xs : List Value},Own w1 (a12 + 1) T s u c xs → Own w2 (a12 + 1) T s u c xs := fun ho => own_at ho hc2 fun k hk e => by have e : k = a12 := e; have := (own_lt ho hk).2; omega
 exact ⟨g1,g2,hb,up (own_at h.oE hc1 fun k hk e => h.dEB k hk e),up hO,up (own_at h.oT hc1 fun k hk e => h.dBT k e hk),g3,h.lo,h.lt,
   fun k hk e => (hv k e).elim (fun e1 => h.dEB k hk e1) fun e1 => by have := (own_lt h.oE hk).1; omega,h.dET,fun k hk e => (hv k hk).elim (fun e1 => h.dBT k e1 e) fun e1 => by have := (own_lt h.oT e).1; omega⟩
theorem JV.rowT {u : Nat} (h : JV w0 w B a9 a12 n m M fl vE vB vT i j t) (hO : Own w1 (a12 + 1) IntT 1 v' (t.length + 1) (ints (t ++ [u]))) (hc1 : Chg (fun k => vT.ownBlock = some k) w w1) (hv : ∀ k,v'.ownBlock = some k → vT.ownBlock = some k ∨ w.heap.size ≤ k)
   (hc2 : Chg (One a12) w1 w2) (hb : w2.heap[a12]? = some (.cells [vE,vB,v'].toArray FlT (0,0))) : JV w0 w2 B a9 a12 n m M fl vE vB v' i j (t ++ [u]) := by
 obtain ⟨g1,g2,g3⟩ := h.grow hc1 (fun k hk => (own_lt h.oT hk).2) hc2
 have up : ∀ {T : TypeId} {s c : Nat} {u : Value} {xs : List Value},Own w1 (a12 + 1) T s u c xs → Own w2 (a12 + 1) T s u c xs := fun ho => own_at ho hc2 fun k hk e => by have e : k = a12 := e; have := (own_lt ho hk).2; omega
 exact ⟨g1,g2,hb,up (own_at h.oE hc1 fun k hk e => h.dET k hk e),up (own_at h.oB hc1 fun k hk e => h.dBT k hk e),by rw [List.length_append]; exact up hO,g3,h.lo,h.lt,h.dEB,
   fun k hk e => (hv k e).elim (fun e1 => h.dET k hk e1) fun e1 => by have := (own_lt h.oE hk).1; omega,fun k hk e => (hv k e).elim (fun e1 => h.dBT k hk e1) fun e1 => by have := (own_lt h.oB hk).1; omega⟩
end
end Go.Proofs.YtofhaneggcpdaaaDoor
namespace Go.Syn
open Go Go.Eng Go.Lex
def atEnd (s : PS) : Prop := (cur { s with quiet := true }).k = 0
theorem cur_q {s : PS} (h : s.quiet = true) : { s with quiet := true } = s := by rw [← h]
theorem atEnd_of {s : PS} (h : (cur s).k = 0) : atEnd s := by
 unfold atEnd
 by_cases hq : s.quiet = true
 · rw [cur_q hq]; exact h
 · have h1 : nowS s = s := by unfold nowS; rw [if_neg hq]
   have h0 : (tokI s).k = 0 := by unfold cur at h; rw [h1] at h; exact h
   have hr : lineRun (s.toks.drop s.i) = 0 := by
     by_cases hl : s.i < s.toks.length
     · rw [drop_tok hl]
       have e : tokI s = s.toks[s.i] := by unfold tokI; rw [List.getD_eq_getElem?_getD,List.getElem?_eq_getElem hl]; rfl
       rw [e] at h0
       simp only [lineRun,h0]
       rw [if_neg (by decide)]
     · rw [List.drop_of_length_le (by omega)]; rfl
   unfold cur nowS
   simp only [if_true]
   unfold tokI
   simp only [hr,Nat.add_zero]
   exact h0
theorem atEnd_k {s : PS} (h : atEnd s) : (cur s).k = 0 ∨ (cur s).k = 5 := by
 unfold atEnd at h
 by_cases hq : s.quiet = true
 · rw [cur_q hq] at h; exact .inl h
 · by_cases h5 : (cur s).k = 5
   · exact .inr h5
   · left
     have h1 : nowS s = s := by unfold nowS; rw [if_neg hq]
     have hc : (cur s).k = (tokI s).k := by unfold cur; rw [h1]
     rw [hc] at h5 ⊢
     have hr : lineRun (s.toks.drop s.i) = 0 := by
       by_cases hl : s.i < s.toks.length
       · rw [drop_tok hl]
         have e : tokI s = s.toks[s.i] := by unfold tokI; rw [List.getD_eq_getElem?_getD,List.getElem?_eq_getElem hl]; rfl
         rw [e] at h5
         simp only [lineRun]
         rw [if_neg h5]
       · rw [List.drop_of_length_le (by omega)]; rfl
     unfold cur nowS at h
     simp only [if_true] at h
     unfold tokI at h
     simp only [hr,Nat.add_zero] at h
     exact h
theorem atEnd_sign {s : PS} (h : atEnd s) (w : Str) : isS s w = false := by
 rw [Bool.eq_false_iff]
 intro hh
 unfold isS at hh
 simp only [Bool.and_eq_true,decide_eq_true_iff] at hh
 rcases atEnd_k h with e | e <;> omega
theorem atEnd_now {s : PS} (h : atEnd s) : atEnd (nowS s) := by
 unfold atEnd at h ⊢
 by_cases hq : s.quiet = true
 · rw [cur_q hq] at h
   rw [cur_q ((nowS_f s).2.2.2.1.trans hq),cur_now]
   exact h
 · have h1 : nowS s = s := by unfold nowS; rw [if_neg hq]
   rw [h1]; exact h
theorem atEnd_take {s : PS} (h : atEnd s) (w : Str) : (takeS s w).1 = false ∧ atEnd (takeS s w).2 := by
 unfold takeS
 rw [atEnd_sign h w,if_neg (by decide)]
 exact ⟨rfl,atEnd_now h⟩
theorem atEnd_want {s : PS} (h : atEnd s) (w : Str) (s' : PS) : wantR s w ≠ .ok () s' := by
 unfold wantR
 rw [atEnd_sign h w,if_neg (by decide)]
 intro e; cases e
theorem atEnd_kind {s : PS} (h : atEnd s) {k : Int} (hk : k ≠ 0) (h5 : k ≠ 5) (t : Tok) (s' : PS) : kindR s k ≠ .ok t s' := by
 unfold kindR
 rw [if_neg (by rcases atEnd_k h with e | e <;> omega)]
 intro e; cases e
variable {α β : Type} {io : Nat} {b : Bool} {c : Int} {pe : List Ex} {pb : List Blk}
def Sm (io : Nat) (b : Bool) (c : Int) (pe : List Ex) (pb : List Blk) (mv : α → α) (r r2 : R α) : Prop := ∀ x s',r = .ok x s' → (∃ s2',r2 = .ok (mv x) s2' ∧ JR io b c pe pb s' s2') ∨ (b = false ∧ atEnd s')
def Sc (io : Nat) (b : Bool) (c : Int) (pe : List Ex) (pb : List Blk) (mv : α → α) (r r2 : R α) : Prop := ∀ x s',r = .ok x s' → ∃ s2',r2 = .ok (mv x) s2' ∧ JR io b c pe pb s' s2'
theorem Sc.sm {mv : α → α} {r r2 : R α} (h : Sc io b c pe pb mv r r2) : Sm io b c pe pb mv r r2 := fun x s' e => .inl (h x s' e)
theorem bind_ok {r : R α} {f : α → PS → R β} {y : β} {s' : PS} (h : r.bind f = .ok y s') : ∃ x s1,r = .ok x s1 ∧ f x s1 = .ok y s' := by
 cases r with
 | ok x s1 => exact ⟨x,s1,rfl,h⟩
 | err a e => cases h
theorem Sm.bind {mv : α → α} {mv' : β → β} {r r2 : R α} {f f2 : α → PS → R β} (h : Sm io b c pe pb mv r r2) (hf : ∀ x s s2,r = .ok x s → JR io b c pe pb s s2 → Sm io b c pe pb mv' (f x s) (f2 (mv x) s2))
   (hst : b = false → ∀ x s,atEnd s → ∀ y s',f x s = .ok y s' → atEnd s') : Sm io b c pe pb mv' (r.bind f) (r2.bind f2) := by
 intro y s' e
 obtain ⟨x,s1,e1,e2⟩ := bind_ok e
 rcases h x s1 e1 with ⟨s2,g1,g2⟩ | ⟨hb,ha⟩
 · rw [g1]
   exact hf x s1 s2 e1 g2 y s' e2
 · exact .inr ⟨hb,hst hb x s1 ha y s' e2⟩
theorem Sc.bind {mv : α → α} {mv' : β → β} {r r2 : R α} {f f2 : α → PS → R β} (h : Sc io b c pe pb mv r r2) (hf : ∀ x s s2,r = .ok x s → JR io b c pe pb s s2 → Sm io b c pe pb mv' (f x s) (f2 (mv x) s2)) : Sm io b c pe pb mv' (r.bind f) (r2.bind f2) := by
 intro y s' e
 obtain ⟨x,s1,e1,e2⟩ := bind_ok e
 obtain ⟨s2,g1,g2⟩ := h x s1 e1
 rw [g1]
 exact hf x s1 s2 e1 g2 y s' e2
theorem Sc.bindc {mv : α → α} {mv' : β → β} {r r2 : R α} {f f2 : α → PS → R β} (h : Sc io b c pe pb mv r r2) (hf : ∀ x s s2,r = .ok x s → JR io b c pe pb s s2 → Sc io b c pe pb mv' (f x s) (f2 (mv x) s2)) : Sc io b c pe pb mv' (r.bind f) (r2.bind f2) := by
 intro y s' e
 obtain ⟨x,s1,e1,e2⟩ := bind_ok e
 obtain ⟨s2,g1,g2⟩ := h x s1 e1
 rw [g1]
 exact hf x s1 s2 e1 g2 y s' e2
theorem Sm.bindc {mv : α → α} {mv' : β → β} {r r2 : R α} {f f2 : α → PS → R β} (h : Sm io b c pe pb mv r r2) (hf : ∀ x s s2,r = .ok x s → JR io b c pe pb s s2 → Sc io b c pe pb mv' (f x s) (f2 (mv x) s2))
   (hno : b = false → ∀ x s,atEnd s → ∀ y s',f x s ≠ .ok y s') : Sc io b c pe pb mv' (r.bind f) (r2.bind f2) := by
 intro y s' e
 obtain ⟨x,s1,e1,e2⟩ := bind_ok e
 rcases h x s1 e1 with ⟨s2,g1,g2⟩ | ⟨hb,ha⟩
 · rw [g1]
   exact hf x s1 s2 e1 g2 y s' e2
 · exact absurd e2 (hno hb x s1 ha y s')
structure SimE (F : PS → R Nat) : Prop where
 go : ∀ io b c pe pb s s2,JR io b c pe pb s s2 → Sm io b c pe pb (· + pe.length) (F s) (F s2)
 no : ∀ s,atEnd s → ∀ x s',F s ≠ .ok x s'
theorem dead_sim : SimE dead := ⟨fun _ _ _ _ _ _ _ _ x s' e => (by cases e),fun _ _ x s' e => (by cases e)⟩
variable {s s2 : PS}
theorem JR.frame (h : JR io b c pe pb s s2) (d : Nat) (q : Bool) : JR io b c pe pb { s with deep := d,quiet := q } { s2 with deep := d,quiet := q } := ⟨h.tr,rfl,rfl,h.ex,h.bl,h.len,h.io⟩
theorem JR.want_sc (h : JR io b c pe pb s s2) (w : Str) : Sc io b c pe pb id (wantR s w) (wantR s2 w) := fun _ _ e => h.want e
theorem JR.kind_sc (h : JR io b c pe pb s s2) {k : Int} (hk : b = true ∨ k ≠ 0) : Sc io b c pe pb (fun t => ⟨t.k,t.t,t.a + c⟩) (kindR s k) (kindR s2 k) := fun _ _ e => h.kind hk e
theorem JR.put_sc (h : JR io b c pe pb s s2) (e : Ex) : Sc io b c pe pb (· + pe.length) (putR s e) (putR s2 (mvE pe.length c e)) := fun x s' g => by
 injection g with g1 g2
 obtain ⟨p1,p2⟩ := h.put e
 exact ⟨_,by unfold putR; rw [p2,← g1],g2 ▸ p1⟩
theorem within_sc {mv : α → α} {f f2 : PS → R α} {a a2 : Int} {q : Bool} (h : JR io b c pe pb s s2) (hf : ∀ s s2,JR io b c pe pb s s2 → Sc io b c pe pb mv (f s) (f2 s2)) : Sc io b c pe pb mv (within s a q f) (within s2 a2 q f2) := by
 unfold within
 rw [h.deep,h.quiet]
 split
 · intro x s' e; cases e
 · refine (hf _ _ (h.frame _ _)).bindc fun x s1 s3 _ g => ?_
   intro y s' e
   injection e with e1 e2
   exact ⟨_,by rw [← e1],e2 ▸ g.frame _ _⟩
end Go.Syn
namespace Go.Syn
open Go Go.Eng Go.Lex
theorem scan_kinds : ∀ (n : Nat) (s : Str) (a cnt : Nat) (l : List Tok),scanF n s a cnt = .ok l → ∃ ini p,l = ini ++ [⟨0,[],p⟩] ∧ ∀ t ∈ ini,t.k ≠ 0
 | 0,_,_,_,_,h => by simp [scanF] at h
 | n + 1,s,a,cnt,l,h => by
   simp only [scanF] at h
   generalize skipF (s.length + 1) s = k at *
   split at h
   · cases h
   split at h
   · injection h with h
     subst h
     exact ⟨[],_,rfl,fun t ht => by cases ht⟩
   rename_i h2
   have hok := @one_ok (s.drop k.1)
   generalize oneM (s.drop k.1) = o at *
   split at h
   · cases h
   rename_i h3
   have h3 : o.2.2 = 0 := by simpa using h3
   obtain ⟨_,_,hk,_⟩ := hok (t := o.1) (k := o.2.1) h2 (by rw [← h3])
   split at h
   · cases h
   cases hr : scanF n ((s.drop k.1).drop o.2.1) (a + k.1 + o.2.1) (cnt + 1) with
   | bad x y => rw [hr] at h; cases h
   | ok l2 =>
     rw [hr] at h
     injection h with h
     obtain ⟨ini,p,e,hi⟩ := scan_kinds n _ _ _ _ hr
     refine ⟨⟨o.1.k,o.1.t,((a + k.1 : Nat) : Int)⟩ :: ini,p,by rw [← h,e]; rfl,fun t ht => ?_⟩
     rcases List.mem_cons.1 ht with rfl | ht
     · exact hk
     · exact hi t ht
theorem scanM_kinds {t : Str} {l : List Tok} (h : scanM t = .ok l) : ∃ ini p,l = ini ++ [⟨0,[],p⟩] ∧ ∀ t ∈ ini,t.k ≠ 0 := by
 unfold scanM at h
 split at h
 · cases h
 split at h
 · cases h
 · exact scan_kinds _ _ _ _ _ h
theorem TR.self {l : List Tok} (h : ∃ ini p,l = ini ++ [⟨0,[],p⟩] ∧ ∀ t ∈ ini,t.k ≠ 0) : TR true 0 (l.length - 1) 0 l l := by
 obtain ⟨ini,p,e,hk⟩ := h
 have hl : l.length = ini.length + 1 := by rw [e]; simp
 have he : ∀ t,l[l.length - 1]? = some t → t.k = 0 := fun t ht => by
   rw [hl,Nat.add_sub_cancel,e,List.getElem?_append_right (Nat.le_refl _)] at ht
   simp only [Nat.sub_self,List.getElem?_cons_zero,Option.some.injEq] at ht
   rw [← ht]
 refine ⟨by omega,by omega,fun j t hj ht => ⟨?_,t,ht,rfl,rfl,by omega⟩,he,fun _ t ht => ⟨t,ht,rfl,rfl,by omega⟩,fun hb => by cases hb⟩
 rw [e,List.getElem?_append_left (by omega)] at ht
 exact hk t (List.mem_of_getElem? ht)
variable {io : Nat} {b : Bool} {c : Int} {pe : List Ex} {pb : List Blk} {s s2 : PS} {E S : PS → R Nat}
theorem inner_sim (hE : SimE E) (h : JR io b c pe pb s s2) (t : Str) (a : Int) : Sc io b c pe pb (· + pe.length) (innerR E s t a) (innerR E s2 t (a + c)) := by
 intro x s' e
 unfold innerR at e ⊢
 cases hs : scanM t with
 | bad k p => rw [hs] at e; cases e
 | ok l =>
   rw [hs] at e
   simp only at e ⊢
   have hj : JR 0 true c pe pb ⟨l,0,a,s.deep,false,s.ex,s.bl⟩ ⟨l,0,a + c,s2.deep,false,s2.ex,s2.bl⟩ :=
     ⟨⟨0,l.length - 1,0,TR.self (scanM_kinds hs),rfl,Nat.zero_le _,by show (0 : Int) + (a + c) = c + a; omega⟩,h.deep,rfl,h.ex,h.bl,Nat.le_refl _,rfl⟩
   obtain ⟨y,q,e1,e2⟩ := bind_ok e
   obtain ⟨t',q',e3,e4⟩ := bind_ok e2
   rcases hE.go _ _ _ _ _ _ _ hj y q e1 with ⟨q2,g1,g2⟩ | ⟨hb,_⟩
   · obtain ⟨q2',g3,g4⟩ := g2.kind (.inl rfl) e3
     injection e4 with e5 e6
     rw [g1]
     refine ⟨{ s2 with ex := q2'.ex,bl := q2'.bl },?_,?_⟩
     · show ((kindR q2 0).bind fun _ q' => R.ok (y + pe.length) { s2 with ex := q'.ex,bl := q'.bl }) = _
       rw [g3,← e5]; rfl
     · rw [← e6]; exact ⟨h.tr,h.deep,h.quiet,g4.ex,g4.bl,h.len,h.io⟩
   · cases hb
theorem parts_sim (hE : SimE E) : ∀ (n : Nat) (s s2 : PS) (rest : Str) (a : Int) (us : List Nat) (ks : List Str),JR io b c pe pb s s2 →
   Sc io b c pe pb (fun x => (x.1.map (· + pe.length),x.2)) (partsF E n s rest a us ks) (partsF E n s2 rest (a + c) (us.map (· + pe.length)) ks)
 | 0,_,_,_,_,_,_,_ => fun x s' e => by cases e
 | n + 1,s,s2,rest,a,us,ks,h => by
   simp only [partsF]
   by_cases hr : rest = []
   · rw [if_pos hr,if_pos hr]
     intro x s' e
     injection e with e1 e2
     exact ⟨s2,by rw [← e1],e2 ▸ h⟩
   rw [if_neg hr,if_neg hr]
   cases hi : insP rest with
   | none =>
     simp only
     intro x s' e
     injection e with e1 e2
     obtain ⟨p1,p2⟩ := h.put ⟨5,saysM rest,[],[],a⟩
     refine ⟨_,?_,e2 ▸ p1⟩
     rw [p2,← e1]
     simp [mvE]
   | some z =>
     obtain ⟨i,e⟩ := z
     simp only
     -- what is ahead of the insertion
     have hs1 : ∃ t1 t2 u k,(if 0 < i then { s with ex := s.ex ++ [⟨5,saysM (rest.take i),[],[],a⟩] } else s) = t1 ∧ (if 0 < i then { s2 with ex := s2.ex ++ [⟨5,saysM (rest.take i),[],[],a + c⟩] } else s2) = t2 ∧ JR io b c pe pb t1 t2 ∧
         (if 0 < i then us ++ [s.ex.length] else us) = u ∧ (if 0 < i then us.map (· + pe.length) ++ [s2.ex.length] else us.map (· + pe.length)) = u.map (· + pe.length) ∧ (if 0 < i then ks ++ [[116]] else ks) = k := by
       by_cases h0 : 0 < i
       · obtain ⟨p1,p2⟩ := h.put ⟨5,saysM (rest.take i),[],[],a⟩
         simp only [if_pos h0]
         exact ⟨_,_,_,_,rfl,rfl,p1,rfl,by rw [p2]; simp,rfl⟩
       · simp only [if_neg h0]
         exact ⟨_,_,_,_,rfl,rfl,h,rfl,rfl,rfl⟩
     obtain ⟨t1,t2,u,k,g1,g2,g3,g4,g5,g6⟩ := hs1
     rw [g1,g2,g4,g5,g6]
     by_cases hie : i < e
     · rw [if_pos hie,if_pos hie]
       refine Sc.bindc (mv := (· + pe.length)) (within_sc g3 fun q q2 hq => ?_) fun x q q2 _ hq => ?_
       · have := inner_sim hE hq ((rest.drop (i + 2)).take (e - 1 - (i + 2))) (a + i + 2)
         rw [show a + (i : Int) + 2 + c = a + c + i + 2 by omega] at this
         exact this
       · have := parts_sim hE n q q2 (rest.drop e) (a + e) (u ++ [x]) (k ++ [[101]]) hq
         rw [show a + (e : Int) + c = a + c + e by omega,List.map_append] at this
         exact this
     · rw [if_neg hie,if_neg hie]
       have := parts_sim hE n t1 t2 (rest.drop e) (a + e) u k g3
       rw [show a + (e : Int) + c = a + c + e by omega] at this
       exact this
theorem text_sim (hE : SimE E) (h : JR io b c pe pb s s2) (t : Tok) : Sc io b c pe pb (· + pe.length) (textR E s t) (textR E s2 ⟨t.k,t.t,t.a + c⟩) := by
 unfold textR
 by_cases hi : (insP t.t).isSome = true
 · rw [if_pos hi,if_pos hi]
   have := parts_sim hE (t.t.length + 1) s s2 t.t (t.a + 1) [] [] h
   rw [show t.a + 1 + c = t.a + c + 1 by omega] at this
   refine this.bindc fun x q q2 _ hq => ?_
   exact hq.put_sc ⟨6,[],x.1,x.2,t.a⟩
 · rw [if_neg hi,if_neg hi]
   exact h.put_sc ⟨5,saysM t.t,[],[],t.a⟩
theorem plain_sim (h : JR io b c pe pb s s2) (t : Tok) : Sc io b c pe pb id (plainR s t) (plainR s2 ⟨t.k,t.t,t.a + c⟩) := by
 unfold plainR
 by_cases hi : (insP t.t).isSome = true
 · rw [if_pos hi]; intro x s' e; cases e
 · rw [if_neg hi,if_neg hi]
   intro x s' e
   injection e with e1 e2
   exact ⟨s2,by rw [← e1]; rfl,e2 ▸ h⟩
theorem args_sim (hE : SimE E) (w : Str) : ∀ (n m : Nat) (s s2 : PS) (out : List Nat),n ≤ m → JR io b c pe pb s s2 →
   Sc io b c pe pb (List.map (· + pe.length)) (argsF E w n s out) (argsF E w m s2 (out.map (· + pe.length)))
 | 0,_,_,_,_,_,_ => fun x s' e => by cases e
 | n + 1,m,s,s2,out,hm,h => by
   obtain ⟨m,rfl⟩ : ∃ j,m = j + 1 := ⟨m - 1,by omega⟩
   simp only [argsF]
   have hno : b = false → (takeS s w).1 = false → atEnd s → ∀ y s',(if out = [] then (E (takeS s w).2).bind fun x s' => argsF E w n s' (out ++ [x])
     else (wantR (takeS s w).2 [44]).bind fun _ s1 => if (takeS s1 w).1 = true then .ok out (takeS s1 w).2 else (E (takeS s1 w).2).bind fun x s' => argsF E w n s' (out ++ [x])) ≠ .ok y s' := by
     intro _ _ ha y s' e
     have ht := (atEnd_take ha w).2
     split at e
     · obtain ⟨x,q,e1,_⟩ := bind_ok e; exact hE.no _ ht x q e1
     · obtain ⟨x,q,e1,_⟩ := bind_ok e; exact atEnd_want ht _ q e1
   rcases h.take w with ⟨hb,h0,hf⟩ | ⟨ht,hJ⟩
   · intro y s' e
     rw [if_neg (by rw [hf]; decide)] at e
     exact absurd e (hno hb hf (atEnd_of h0) y s')
   rw [ht]
   by_cases hy : (takeS s w).1 = true
   · rw [if_pos hy,if_pos hy]
     intro x s' e
     injection e with e1 e2
     exact ⟨_,by rw [← e1],e2 ▸ hJ⟩
   rw [if_neg hy,if_neg hy]
   have next : ∀ {q q2 : PS},JR io b c pe pb q q2 → Sc io b c pe pb (List.map (· + pe.length)) ((E q).bind fun x s' => argsF E w n s' (out ++ [x])) ((E q2).bind fun x s' => argsF E w m s' (out.map (· + pe.length) ++ [x])) := fun {q q2} hq => by
     refine (hE.go _ _ _ _ _ _ _ hq).bindc (fun x q q2 _ hq => ?_) fun hb x q ha y s' e => ?_
     · have := args_sim hE w n m q q2 (out ++ [x]) (by omega) hq
       rw [List.map_append] at this
       exact this
     · cases n with
       | zero => cases e
       | succ n =>
         simp only [argsF] at e
         have ht := atEnd_take ha w
         rw [if_neg (by rw [ht.1]; decide),if_neg (by simp)] at e
         obtain ⟨x,q,e1,_⟩ := bind_ok e
         exact atEnd_want ht.2 _ q e1
   by_cases ho : out = []
   · rw [if_pos ho,if_pos (by rw [ho]; rfl)]
     exact next hJ
   · rw [if_neg ho,if_neg (by simpa using ho)]
     refine (hJ.want_sc [44]).bindc fun _ q q2 _ hq => ?_
     rcases hq.take w with ⟨hb,h0,hf⟩ | ⟨ht2,hJ2⟩
     · intro y s' e
       rw [if_neg (by rw [hf]; decide)] at e
       obtain ⟨x,q',e1,_⟩ := bind_ok e
       exact absurd e1 (hE.no _ (atEnd_take (atEnd_of h0) w).2 x q')
     · rw [ht2]
       by_cases hy2 : (takeS q w).1 = true
       · rw [if_pos hy2,if_pos hy2]
         intro x s' e
         injection e with e1 e2
         exact ⟨_,by rw [← e1],e2 ▸ hJ2⟩
       · rw [if_neg hy2,if_neg hy2]
         exact next hJ2
end Go.Syn
namespace Go.Syn
open Go Go.Eng Go.Lex
variable {io : Nat} {b : Bool} {c : Int} {pe : List Ex} {pb : List Blk} {s s2 : PS} {E S : PS → R Nat}
theorem JR.step0 (h : JR io b c pe pb s s2) (hk : (tokI s).k ≠ 0) : JR io b c pe pb (step1 s) (step1 s2) := by
 refine h.at_ fun o E d h1 h2 h3 => ?_
 have hl : s.i < s.toks.length := by rw [h1.len]; omega
 have hne : s.i ≠ E := fun e => by
   have := h1.eof s.toks[s.i] (by rw [← e]; exact List.getElem?_eq_getElem hl)
   apply hk
   unfold tokI
   rw [List.getD_eq_getElem?_getD,List.getElem?_eq_getElem hl]
   exact this
 exact ⟨by omega,by omega⟩
theorem JR.lines (h : JR io b c pe pb s s2) : (b = false ∧ atEnd s) ∨ JR io b c pe pb (linesS s) (linesS s2) := by
 rcases h.now with ⟨hb,h0,_⟩ | ⟨hJ,_⟩
 · exact .inl ⟨hb,atEnd_of h0⟩
 · obtain ⟨o,E,d,h1,h2,h3,h4⟩ := hJ.tr
   have hr := h1.run (E - (nowS s).i) (nowS s).i (by omega)
   by_cases hlt : b = true ∨ (nowS s).i + lineRun ((nowS s).toks.drop (nowS s).i) < E
   · right
     have e := hr.2 hlt
     have := hJ.at_ (i := (nowS s).i + lineRun ((nowS s).toks.drop (nowS s).i)) (i2 := (nowS s2).i + lineRun ((nowS s2).toks.drop (nowS s2).i)) fun o' E' d' g1 g2 g3 => by
       have e1 : E = E' := by have := h1.len; have := g1.len; omega
       have e2 : o' = o := by omega
       rw [h2,e]
       exact ⟨by omega,by have := hr.1; omega⟩
     unfold linesS
     rw [← (nowS_f s).1,← (nowS_f s2).1]
     exact this
   · left
     have hb : b = false := by
       cases b with
       | false => rfl
       | true => exact absurd (.inl rfl) hlt
     refine ⟨hb,?_⟩
     have hi : (nowS s).i + lineRun ((nowS s).toks.drop (nowS s).i) = E := by
       have := hr.1
       by_cases hl : (nowS s).i + lineRun ((nowS s).toks.drop (nowS s).i) < E
       · exact absurd (.inr hl) hlt
       · omega
     have hn : atEnd (nowS s) := by
       have hlE : E < (nowS s).toks.length := by rw [h1.len]; omega
       have he := h1.eof _ (List.getElem?_eq_getElem hlE)
       unfold atEnd Syn.cur
       show (tokI (nowS { nowS s with quiet := true })).k = 0
       unfold nowS
       simp only [if_true]
       unfold tokI
       simp only
       have e' : nowS s = if s.quiet = true then { s with i := s.i + lineRun (s.toks.drop s.i) } else s := rfl
       rw [← e',hi,List.getD_eq_getElem?_getD,List.getElem?_eq_getElem hlE]
       exact he
     unfold atEnd at hn ⊢
     by_cases hq : s.quiet = true
     · rw [cur_q ((nowS_f s).2.2.2.1.trans hq),cur_now] at hn
       rw [cur_q hq]; exact hn
     · have e1 : nowS s = s := by unfold nowS; rw [if_neg hq]
       rw [e1] at hn; exact hn
theorem args_no (hE : SimE E) (w : Str) {n : Nat} {out : List Nat} (ha : atEnd s) : ∀ y s',argsF E w n s out ≠ .ok y s' := by
 intro y s' e
 cases n with
 | zero => cases e
 | succ n =>
   simp only [argsF] at e
   have ht := atEnd_take ha w
   rw [if_neg (by rw [ht.1]; decide)] at e
   split at e
   · obtain ⟨x,q,e1,_⟩ := bind_ok e; exact hE.no _ ht.2 x q e1
   · obtain ⟨x,q,e1,_⟩ := bind_ok e; exact atEnd_want ht.2 _ q e1
theorem argsR_sim (hE : SimE E) (w : Str) (h : JR io b c pe pb s s2) : Sc io b c pe pb (List.map (· + pe.length)) (argsR E w s) (argsR E w s2) := by
 have := args_sim hE w (s.toks.length + 1) (s2.toks.length + 1) s s2 [] (by have := h.len; omega) h
 exact this
theorem ok_sc {α β : Type} {io : Nat} {b : Bool} {c : Int} {pe : List Ex} {pb : List Blk} {mv : β → β} {x x2 : β} {q q2 : PS} (hx : x2 = mv x) (hq : JR io b c pe pb q q2) : Sc io b c pe pb mv (R.ok x q) (R.ok x2 q2) := fun y s' e => by
 injection e with e1 e2
 exact ⟨q2,by rw [hx,e1],e2 ▸ hq⟩
theorem list_sim (hE : SimE E) (h : JR io b c pe pb s s2) (hk : (tokI s).k ≠ 0) (a : Int) : Sc io b c pe pb (mvE pe.length c) (listR E s a) (listR E s2 (a + c)) := by
 have g := h.step0 hk
 unfold listR
 simp only
 by_cases hend : b = true ∨ (cur (step1 s)).k ≠ 0
 · obtain ⟨gn,k1,k2,k3⟩ := g.cur hend
   rw [k1,k2]
   by_cases hf : (cur (step1 s)).k ≠ 1 ∨ (cur (step1 s)).t ≠ kFor
   · rw [if_pos hf,if_pos hf]
     exact (argsR_sim hE [93] gn).bindc fun x q q2 _ hq => ok_sc (α := Nat) rfl hq
   · rw [if_neg hf,if_neg hf]
     have hk1 : (cur (step1 s)).k ≠ 0 := by omega
     refine ((g.step hk1).kind_sc (k := 1) (.inr (by decide))).bindc fun t q q2 _ hq => ?_
     refine (hq.kind_sc (k := 1) (.inr (by decide))).bindc fun u q q2 _ hq => ?_
     by_cases hu : u.t ≠ kIn
     · rw [if_pos hu]; intro x s' e; cases e
     rw [if_neg hu,if_neg hu]
     refine (hE.go _ _ _ _ _ _ _ hq).bindc (fun x q q2 _ hq => ?_) fun _ x q ha y s' e => by
       obtain ⟨_,q',e1,_⟩ := bind_ok e; exact atEnd_want ha _ q' e1
     refine (hq.want_sc [58]).bindc fun _ q q2 _ hq => ?_
     refine (hE.go _ _ _ _ _ _ _ hq).bindc (fun y q q2 _ hq => ?_) fun _ x q ha y s' e => by
       obtain ⟨_,q',e1,_⟩ := bind_ok e; exact atEnd_want ha _ q' e1
     refine (hq.want_sc [93]).bindc fun _ q q2 _ hq => ?_
     exact ok_sc (α := Nat) rfl hq
 · have h0 : (cur (step1 s)).k = 0 := by
     by_cases h0 : (cur (step1 s)).k = 0
     · exact h0
     · exact absurd (.inr h0) hend
   rw [if_pos (.inl (by omega))]
   intro x s' e
   obtain ⟨us,q,e1,_⟩ := bind_ok e
   exact absurd e1 (args_no hE _ (atEnd_now (atEnd_of h0)) us q)
end Go.Syn
namespace Go.Syn
open Go Go.Eng Go.Lex
variable {io : Nat} {b : Bool} {c : Int} {pe : List Ex} {pb : List Blk} {s s2 : PS} {E S : PS → R Nat}
theorem atEnd_ok {s : PS} {α : Type} {x y : α} {s' : PS} (h : atEnd s) (e : R.ok x s = .ok y s') : atEnd s' := by injection e with _ e; exact e ▸ h
theorem atEnd_lines {s : PS} (h : atEnd s) : atEnd (linesS s) := by
 have hn := atEnd_now h
 unfold atEnd at hn ⊢
 unfold linesS
 have e : cur { nowS s with quiet := true } = cur { { nowS s with i := (nowS s).i + lineRun (s.toks.drop (nowS s).i) } with quiet := true } := by
   have h1 : nowS { nowS s with quiet := true } = { nowS s with quiet := true,i := (nowS s).i + lineRun (s.toks.drop (nowS s).i) } := by
     have : (nowS s).toks = s.toks := (nowS_f s).1
     conv => lhs; unfold nowS
     simp only [if_true]
     rw [show ((if s.quiet = true then { s with i := s.i + lineRun (s.toks.drop s.i) } else s) : PS) = nowS s from rfl,this]
   rw [← cur_now,h1]
 rw [e] at hn
 exact hn
theorem obj_no {a : Int} {n : Nat} {us : List Nat} {ks : List Str} (ha : atEnd s) : ∀ y s',objF E a n s us ks ≠ .ok y s' := by
 intro y s' e
 cases n with
 | zero => cases e
 | succ n =>
   simp only [objF] at e
   have ht := atEnd_take ha [125]
   rw [if_neg (by rw [ht.1]; decide)] at e
   obtain ⟨k,q,e1,_⟩ := bind_ok e
   rcases atEnd_k ht.2 with h | h
   · rw [if_neg (by omega),if_neg (by omega)] at e1; cases e1
   · rw [if_neg (by omega),if_neg (by omega)] at e1; cases e1
theorem obj_sim (hE : SimE E) (a : Int) : ∀ (n m : Nat) (s s2 : PS) (us : List Nat) (ks : List Str),n ≤ m → JR io b c pe pb s s2 →
   Sc io b c pe pb (mvE pe.length c) (objF E a n s us ks) (objF E (a + c) m s2 (us.map (· + pe.length)) ks)
 | 0,_,_,_,_,_,_,_ => fun x s' e => by cases e
 | n + 1,m,s,s2,us,ks,hm,h => by
   obtain ⟨m,rfl⟩ : ∃ j,m = j + 1 := ⟨m - 1,by omega⟩
   rcases h.take [125] with ⟨hb,h0,hf⟩ | ⟨ht,hJ⟩
   · intro y s' e
     exact absurd e (obj_no (atEnd_of h0) y s')
   simp only [objF]
   rw [ht]
   by_cases hy : (takeS s [125]).1 = true
   · rw [if_pos hy,if_pos hy]
     exact ok_sc (α := Nat) rfl hJ
   rw [if_neg hy,if_neg hy]
   generalize (takeS s [125]).2 = s1 at *
   generalize (takeS s2 [125]).2 = s12 at *
   by_cases hk0 : (cur s1).k = 0
   · intro x s' e
     obtain ⟨k,q,e1,_⟩ := bind_ok e
     rw [if_neg (by omega),if_neg (by omega)] at e1; cases e1
   obtain ⟨_,k1,k2,k3⟩ := hJ.cur (.inr hk0)
   have hn1 : nextS s1 = step1 (nowS s1) := by unfold nextS; rw [if_pos hk0]
   have hn2 : nextS s12 = step1 (nowS s12) := by unfold nextS; rw [if_pos (by rw [k1]; exact hk0)]
   have hst := hJ.step hk0
   have hkey : Sc io b c pe pb id (if (cur s1).k = 3 then plainR (nextS s1) (cur s1) else if (cur s1).k = 1 then .ok (cur s1).t (nextS s1) else .err 50 (cur s1).a) (if (cur s12).k = 3 then plainR (nextS s12) (cur s12) else if (cur s12).k = 1 then .ok (cur s12).t (nextS s12) else .err 50 (cur s12).a) := by
     rw [hn1,hn2,k1]
     by_cases h3 : (cur s1).k = 3
     · rw [if_pos h3,if_pos h3]
       have := plain_sim hst (cur s1)
       rw [← k1,← k2,← k3] at this
       exact this
     rw [if_neg h3,if_neg h3]
     by_cases h1 : (cur s1).k = 1
     · rw [if_pos h1,if_pos h1,k2]
       exact ok_sc (α := Nat) rfl hst
     · rw [if_neg h1]; intro x s' e; cases e
   refine hkey.bindc fun k q q2 _ hq => ?_
   simp only [id]
   by_cases hc : ks.contains k = true
   · rw [if_pos hc]; intro x s' e; cases e
   rw [if_neg hc,if_neg hc]
   refine (hq.want_sc [61]).bindc fun _ q q2 _ hq => ?_
   refine (hE.go _ _ _ _ _ _ _ hq).bindc (fun x q q2 _ hq => ?_) fun _ x q ha y s' e => ?_
   · rcases hq.take [44] with ⟨hb,h0,hf⟩ | ⟨ht,hJ⟩
     · intro y s' e
       have ht := atEnd_take (atEnd_of h0) [44]
       split at e
       · cases e
       · rw [if_neg (by rw [hf]; decide)] at e
         exact absurd e (obj_no (atEnd_lines (atEnd_now ht.2)) y s')
     rw [ht]
     generalize (takeS q [44]).2 = r1 at *
     generalize (takeS q2 [44]).2 = r2 at *
     by_cases hend : b = true ∨ (cur r1).k ≠ 0
     · obtain ⟨g1,g2,g3,g4⟩ := hJ.cur hend
       have gi := g1.isS [125] (by rw [cur_now]; exact hend)
       rw [g2,gi]
       by_cases hbad : (takeS q [44]).1 = false ∧ (cur r1).k ≠ 5 ∧ isS (nowS r1) [125] = false
       · rw [if_pos hbad]; intro y s' e; cases e
       rw [if_neg hbad,if_neg hbad]
       have hsel : JR io b c pe pb (if (takeS q [44]).1 = true then r1 else nowS r1) (if (takeS q [44]).1 = true then r2 else nowS r2) := by
         split
         · exact hJ
         · exact g1
       rcases hsel.lines with ⟨_,ha⟩ | hl
       · intro y s' e
         exact absurd e (obj_no (atEnd_lines ha) y s')
       · have := obj_sim hE a n m _ _ (us ++ [x]) (ks ++ [k]) (by omega) hl
         rw [List.map_append] at this
         exact this
     · have h0 : (cur r1).k = 0 := by
         by_cases h0 : (cur r1).k = 0
         · exact h0
         · exact absurd (.inr h0) hend
       intro y s' e
       split at e
       · cases e
       · have : atEnd (if (takeS q [44]).1 = true then r1 else nowS r1) := by
           split
           · exact atEnd_of h0
           · exact atEnd_now (atEnd_of h0)
         exact absurd e (obj_no (atEnd_lines this) y s')
   · have ht := atEnd_take ha [44]
     split at e
     · cases e
     · rw [if_neg (by rw [ht.1]; decide)] at e
       exact absurd e (obj_no (atEnd_lines (atEnd_now ht.2)) y s')
theorem objR_sim (hE : SimE E) (h : JR io b c pe pb s s2) (hk : (tokI s).k ≠ 0) (a : Int) : Sc io b c pe pb (mvE pe.length c) (objR E s a) (objR E s2 (a + c)) := by
 have g := h.step0 hk
 unfold objR
 rcases g.lines with ⟨_,ha⟩ | hl
 · intro y s' e
   exact absurd e (obj_no (atEnd_lines ha) y s')
 · exact obj_sim hE a _ _ _ _ [] [] (by have := h.len; omega) hl
end Go.Syn
namespace Go.Syn
open Go Go.Eng Go.Lex
variable {io : Nat} {b : Bool} {c : Int} {pe : List Ex} {pb : List Blk} {s s2 : PS} {E S : PS → R Nat}
theorem within_sc1 {α : Type} {mv : α → α} {f f2 : PS → R α} {a a2 : Int} {q : Bool} (h : JR io b c pe pb s s2) (hf : JR io b c pe pb { s with deep := s.deep + 1,quiet := q } { s2 with deep := s.deep + 1,quiet := q } → Sc io b c pe pb mv (f { s with deep := s.deep + 1,quiet := q }) (f2 { s2 with deep := s.deep + 1,quiet := q })) : Sc io b c pe pb mv (within s a q f) (within s2 a2 q f2) := by
 unfold within
 rw [h.deep,h.quiet]
 split
 · intro x s' e; cases e
 · refine (hf (h.frame _ _)).bindc fun x s1 s3 _ g => ?_
   exact ok_sc (α := Nat) rfl (g.frame _ _)
theorem within_sm1 {α : Type} {mv : α → α} {f f2 : PS → R α} {a a2 : Int} {q : Bool} (h : JR io b c pe pb s s2) (hf : JR io b c pe pb { s with deep := s.deep + 1,quiet := q } { s2 with deep := s.deep + 1,quiet := q } → Sm io b c pe pb mv (f { s with deep := s.deep + 1,quiet := q }) (f2 { s2 with deep := s.deep + 1,quiet := q })) : Sm io b c pe pb mv (within s a q f) (within s2 a2 q f2) := by
 unfold within
 rw [h.deep,h.quiet]
 split
 · intro x s' e; cases e
 · refine (hf (h.frame _ _)).bind (fun x s1 s3 _ g => (ok_sc (α := Nat) rfl (g.frame _ _)).sm) fun _ x s1 ha y s' e => ?_
   injection e with e1 e2
   rw [← e2]
   exact ha
theorem put_end {s : PS} {e : Ex} {y : Nat} {s' : PS} (ha : atEnd s) (h : putR s e = .ok y s') : atEnd s' := by
 injection h with _ h
 rw [← h]; exact ha
theorem Sm.put {α : Type} {mv : α → α} {r r2 : R α} {g g2 : α → Ex} (h : Sm io b c pe pb mv r r2) (hg : ∀ x,g2 (mv x) = mvE pe.length c (g x)) : Sm io b c pe pb (· + pe.length) (r.bind fun x s => putR s (g x)) (r2.bind fun x s => putR s (g2 x)) :=
 h.bind (fun x q q2 _ hq => by rw [hg x]; exact (hq.put_sc (g x)).sm) fun _ x q ha y s' e => put_end ha e
theorem cur_tok (s : PS) : (cur s).k = (tokI (nowS s)).k := rfl
theorem atom_no {s : PS} (ha : atEnd s) : ∀ x s',atomR E s ≠ .ok x s' := by
 intro x s' e
 unfold atomR at e
 simp only at e
 have hn := atEnd_now ha
 rw [atEnd_sign hn,atEnd_sign hn,atEnd_sign hn] at e
 rcases atEnd_k ha with h | h
 · rw [if_neg (by omega),if_neg (by omega),if_neg (by omega),if_neg (by decide),if_neg (by decide),if_neg (by decide)] at e; cases e
 · rw [if_neg (by omega),if_neg (by omega),if_neg (by omega),if_neg (by decide),if_neg (by decide),if_neg (by decide)] at e; cases e
theorem isS_now (s : PS) (w : Str) : isS (nowS s) w = isS s w := by unfold isS; rw [cur_now]
theorem atom_sim (hE : SimE E) (h : JR io b c pe pb s s2) : Sm io b c pe pb (· + pe.length) (atomR E s) (atomR E s2) := by
 by_cases h0 : (cur s).k = 0
 · intro x s' e; exact absurd e (atom_no (atEnd_of h0) x s')
 obtain ⟨hn,k1,k2,k3⟩ := h.cur (.inr h0)
 have hst := h.step h0
 unfold atomR
 simp only
 have i1 : ∀ w,isS (nowS s2) w = isS (nowS s) w := fun w => by rw [isS_now,isS_now]; exact h.isS w (.inr h0)
 rw [k1,k2,k3,i1,i1,i1]
 generalize ht : cur s = t at *
 by_cases t2 : t.k = 2
 · rw [if_pos t2,if_pos t2]
   exact (hst.put_sc ⟨4,t.t,[],[],t.a⟩).sm
 rw [if_neg t2,if_neg t2]
 by_cases t3 : t.k = 3
 · rw [if_pos t3,if_pos t3]
   have := text_sim hE hst t
   have e : cur s2 = ⟨t.k,t.t,t.a + c⟩ := by rw [← k1,← k2,← k3]
   rw [e]
   exact this.sm
 rw [if_neg t3,if_neg t3]
 by_cases t1 : t.k = 1 ∧ t.t ≠ kFor
 · rw [if_pos t1,if_pos t1]
   by_cases hend : b = true ∨ (cur (step1 (nowS s))).k ≠ 0
   · obtain ⟨gn,g1,g2,g3⟩ := hst.cur hend
     rw [hst.isS [40] hend]
     by_cases hp : isS (step1 (nowS s)) [40] = true
     · rw [if_pos hp,if_pos hp]
       refine Sm.put (mv := List.map (· + pe.length)) (g := fun us => ⟨12,t.t,us,[],t.a⟩) (g2 := fun us => ⟨12,t.t,us,[],t.a + c⟩) (Sc.sm ?_) (fun _ => rfl)
       refine within_sc1 gn fun hq => ?_
       exact argsR_sim hE [41] (hq.step0 (by have := isS_k hp; rw [cur_tok] at this; exact this))
     · rw [if_neg hp,if_neg hp]
       have := gn.put_sc ⟨namedK t.t,if namedK t.t = 9 then t.t else [],[],[],t.a⟩
       exact this.sm
   · have hb : b = false := by
       cases b with
       | false => rfl
       | true => exact absurd (.inl rfl) hend
     have h1 : (cur (step1 (nowS s))).k = 0 := by
       by_cases h1 : (cur (step1 (nowS s))).k = 0
       · exact h1
       · exact absurd (.inr h1) hend
     rw [if_neg fun hh => isS_k hh h1]
     intro x s' e
     exact .inr ⟨hb,put_end (atEnd_now (atEnd_of h1)) e⟩
 rw [if_neg t1,if_neg t1]
 have htk : (tokI (nowS s)).k ≠ 0 := by rw [← cur_tok,ht]; exact h0
 by_cases p1 : isS (nowS s) [40] = true
 · rw [if_pos p1,if_pos p1]
   refine Sc.sm (within_sc1 hn fun hq => ?_)
   refine (hE.go _ _ _ _ _ _ _ (hq.step0 htk)).bindc (fun x q q2 _ hq => ?_) fun _ x q ha y s' e => by
     obtain ⟨_,q',e1,_⟩ := bind_ok e; exact atEnd_want ha _ q' e1
   refine (hq.want_sc [41]).bindc fun _ q q2 _ hq => ?_
   exact ok_sc (α := Nat) rfl hq
 rw [if_neg p1,if_neg p1]
 by_cases p2 : isS (nowS s) [91] = true
 · rw [if_pos p2,if_pos p2]
   exact Sm.put (mv := mvE pe.length c) (g := fun e => e) (g2 := fun e => e) (Sc.sm (within_sc1 hn fun hq => list_sim hE hq htk t.a)) (fun _ => rfl)
 rw [if_neg p2,if_neg p2]
 by_cases p3 : isS (nowS s) [123] = true
 · rw [if_pos p3,if_pos p3]
   exact Sm.put (mv := mvE pe.length c) (g := fun e => e) (g2 := fun e => e) (Sc.sm (within_sc1 hn fun hq => objR_sim hE hq htk t.a)) (fun _ => rfl)
 · rw [if_neg p3]; intro x s' e; cases e
theorem post_end {n : Nat} {s : PS} {x y : Nat} {s' : PS} (ha : atEnd s) (e : postF E n s x = .ok y s') : atEnd s' := by
 cases n with
 | zero => cases e
 | succ n =>
   simp only [postF] at e
   have hn := atEnd_now ha
   rw [if_neg (by rw [(atEnd_take hn [46]).1]; decide),if_neg (by rw [atEnd_sign hn]; decide)] at e
   exact atEnd_ok hn e
theorem post_sim (hE : SimE E) : ∀ (n m : Nat) (s s2 : PS) (x : Nat),n ≤ m → JR io b c pe pb s s2 → Sm io b c pe pb (· + pe.length) (postF E n s x) (postF E m s2 (x + pe.length))
 | 0,_,_,_,_,_,_ => fun x s' e => by cases e
 | n + 1,m,s,s2,x,hm,h => by
   obtain ⟨m,rfl⟩ : ∃ j,m = j + 1 := ⟨m - 1,by omega⟩
   by_cases hend : b = true ∨ (cur s).k ≠ 0
   · obtain ⟨hn,k1,k2,k3⟩ := h.cur hend
     have hend' : b = true ∨ (cur (nowS s)).k ≠ 0 := by rw [cur_now]; exact hend
     simp only [postF]
     rw [k3]
     generalize ht : (cur s).a = ta at *
     rcases hn.take [46] with ⟨hb,g0,_⟩ | ⟨ht1,hJ⟩
     · rcases hend' with hh | hh
       · rw [hb] at hh; cases hh
       · exact absurd g0 hh
     rw [ht1,hn.isS [91] hend']
     have go : ∀ {q q2 : PS} (e : Ex),JR io b c pe pb q q2 → Sm io b c pe pb (· + pe.length) ((putR q e).bind fun y s3 => postF E n s3 y) ((putR q2 (mvE pe.length c e)).bind fun y s3 => postF E m s3 y) := fun {q q2} e hq =>
       (hq.put_sc e).bind fun y q q2 _ hq => post_sim hE n m q q2 y (by omega) hq
     by_cases p1 : (takeS (nowS s) [46]).1 = true
     · rw [if_pos p1,if_pos p1]
       refine (hJ.kind_sc (k := 1) (.inr (by decide))).bind fun u q q2 _ hq => ?_
       exact go ⟨10,u.t,[x],[],ta⟩ hq
     rw [if_neg p1,if_neg p1]
     by_cases p2 : isS (nowS s) [91] = true
     · rw [if_pos p2,if_pos p2]
       have htk : (tokI (nowS s)).k ≠ 0 := by
         have := isS_k p2; rw [cur_now] at this; rw [← cur_tok]; exact this
       refine Sc.bind (mv := Option.map (· + pe.length)) (within_sc1 hn fun hq => ?_) fun o q q2 _ hq => ?_
       · have g := hq.step0 htk
         rcases g.take [42] with ⟨hb,g0,hf⟩ | ⟨ht2,hJ2⟩
         · intro y s' e
           rw [if_neg (by rw [hf]; decide)] at e
           obtain ⟨x,q,e1,_⟩ := bind_ok e
           exact absurd e1 (hE.no _ (atEnd_take (atEnd_of g0) [42]).2 x q)
         rw [ht2]
         split
         · refine (hJ2.want_sc [93]).bindc fun _ q q2 _ hq => ?_
           exact ok_sc (α := Nat) rfl hq
         · refine (hE.go _ _ _ _ _ _ _ hJ2).bindc (fun y q q2 _ hq => ?_) fun _ x q ha y s' e => by
             obtain ⟨_,q',e1,_⟩ := bind_ok e; exact atEnd_want ha _ q' e1
           refine (hq.want_sc [93]).bindc fun _ q q2 _ hq => ?_
           exact ok_sc (α := Nat) rfl hq
       · cases o with
         | some y => exact go ⟨11,[],[x,y],[],ta⟩ hq
         | none =>
           refine (hq.want_sc [46]).bind fun _ q q2 _ hq => ?_
           refine (hq.kind_sc (k := 1) (.inr (by decide))).bind fun u q q2 _ hq => ?_
           exact go ⟨30,u.t,[x],[],ta⟩ hq
     · rw [if_neg p2,if_neg p2]
       exact (ok_sc (α := Nat) rfl hn).sm
   · have hb : b = false := by
       cases b with
       | false => rfl
       | true => exact absurd (.inl rfl) hend
     have h1 : (cur s).k = 0 := by
       by_cases h1 : (cur s).k = 0
       · exact h1
       · exact absurd (.inr h1) hend
     intro y s' e
     exact .inr ⟨hb,post_end (atEnd_of h1) e⟩
end Go.Syn
namespace Go.Syn
open Go Go.Eng Go.Lex
variable {io : Nat} {b : Bool} {c : Int} {pe : List Ex} {pb : List Blk} {s s2 : PS} {E S : PS → R Nat}
theorem hend_of (s : PS) (h : ¬ (b = true ∨ (cur s).k ≠ 0)) : b = false ∧ (cur s).k = 0 := by
 refine ⟨?_,?_⟩
 · cases b with
   | false => rfl
   | true => exact absurd (.inl rfl) h
 · by_cases h0 : (cur s).k = 0
   · exact h0
   · exact absurd (.inr h0) h
theorem postR_sim (hE : SimE E) (h : JR io b c pe pb s s2) : Sm io b c pe pb (· + pe.length) (postR E s) (postR E s2) := by
 unfold postR
 exact (atom_sim hE h).bind (fun x q q2 _ hq => post_sim hE _ _ q q2 x (by have := h.len; omega) hq) fun _ x q ha y s' e => post_end ha e
theorem postR_no {s : PS} (ha : atEnd s) : ∀ x s',postR E s ≠ .ok x s' := by
 intro x s' e
 obtain ⟨y,q,e1,_⟩ := bind_ok e
 exact atom_no ha y q e1
theorem sign_sim (hE : SimE E) (hS : SimE S) : SimE (signR E S) := by
 refine ⟨fun io b c pe pb s s2 h => ?_,fun s ha x s' e => ?_⟩
 · by_cases hend : b = true ∨ (cur s).k ≠ 0
   · obtain ⟨hn,k1,k2,k3⟩ := h.cur hend
     have hend' : b = true ∨ (cur (nowS s)).k ≠ 0 := by rw [cur_now]; exact hend
     have hq : (nowS s2).quiet = (nowS s).quiet := hn.quiet
     unfold signR
     simp only
     rw [hn.isS [33] hend',hn.isS [45] hend',k3,hq]
     have one : ∀ (k : Int) (w : Str),isS (nowS s) w = true → Sm io b c pe pb (· + pe.length) ((within (nowS s) (cur s).a (nowS s).quiet fun q => S (step1 q)).bind fun x s2 => putR s2 ⟨k,[],[x],[],(cur s).a⟩) ((within (nowS s2) ((cur s).a + c) (nowS s).quiet fun q => S (step1 q)).bind fun x s2 => putR s2 ⟨k,[],[x],[],(cur s).a + c⟩) := fun k w hw => by
       have htk : (tokI (nowS s)).k ≠ 0 := by
         have := isS_k hw; rw [cur_now] at this; rw [← cur_tok]; exact this
       exact Sm.put (mv := (· + pe.length)) (g := fun x => ⟨k,[],[x],[],(cur s).a⟩) (g2 := fun x => ⟨k,[],[x],[],(cur s).a + c⟩) (within_sm1 hn fun hq => hS.go _ _ _ _ _ _ _ (hq.step0 htk)) (fun _ => rfl)
     by_cases p1 : isS (nowS s) [33] = true
     · rw [if_pos p1,if_pos p1]; exact one 14 [33] p1
     rw [if_neg p1,if_neg p1]
     by_cases p2 : isS (nowS s) [45] = true
     · rw [if_pos p2,if_pos p2]; exact one 13 [45] p2
     rw [if_neg p2,if_neg p2]
     exact postR_sim hE hn
   · obtain ⟨hb,h0⟩ := hend_of s hend
     intro x s' e
     unfold signR at e
     simp only at e
     have hn := atEnd_now (atEnd_of h0)
     rw [if_neg (by rw [atEnd_sign hn]; decide),if_neg (by rw [atEnd_sign hn]; decide)] at e
     exact absurd e (postR_no hn x s')
 · unfold signR at e
   simp only at e
   have hn := atEnd_now ha
   rw [if_neg (by rw [atEnd_sign hn]; decide),if_neg (by rw [atEnd_sign hn]; decide)] at e
   exact absurd e (postR_no hn x s')
theorem joinF_end {J : PS → R Nat} {n f : Nat} {s : PS} {a y : Nat} {s' : PS} (ha : atEnd s) (e : joinF J n f s a = .ok y s') : atEnd s' := by
 cases f with
 | zero => cases e
 | succ f =>
   simp only [joinF] at e
   rw [if_pos (by unfold levelK; rw [if_neg (by rcases atEnd_k ha with h | h <;> omega)])] at e
   exact atEnd_ok (atEnd_now ha) e
theorem joinF_sim {J : PS → R Nat} (hJ : SimE J) (n : Nat) : ∀ (f g : Nat) (s s2 : PS) (a : Nat),f ≤ g → JR io b c pe pb s s2 → Sm io b c pe pb (· + pe.length) (joinF J n f s a) (joinF J n g s2 (a + pe.length))
 | 0,_,_,_,_,_,_ => fun x s' e => by cases e
 | f + 1,g,s,s2,a,hg,h => by
   obtain ⟨g,rfl⟩ : ∃ j,g = j + 1 := ⟨g - 1,by omega⟩
   by_cases hend : b = true ∨ (cur s).k ≠ 0
   · obtain ⟨hn,k1,k2,k3⟩ := h.cur hend
     simp only [joinF]
     have hl : levelK (cur s2) n = levelK (cur s) n := by unfold levelK; rw [k1,k2]
     rw [hl,k3]
     by_cases p : levelK (cur s) n = 0
     · rw [if_pos p,if_pos p]
       exact (ok_sc (α := Nat) rfl hn).sm
     rw [if_neg p,if_neg p]
     have hk : (cur s).k ≠ 0 := fun h0 => p (by unfold levelK; rw [if_neg (by omega)])
     refine (hJ.go _ _ _ _ _ _ _ (h.step hk)).bind (fun x q q2 _ hq => ?_) fun _ x q ha y s' e => ?_
     · exact (hq.put_sc ⟨levelK (cur s) n,[],[a,x],[],(cur s).a⟩).bind fun z q q2 _ hq => joinF_sim hJ n f g q q2 z (by omega) hq
     · obtain ⟨z,q',e1,e2⟩ := bind_ok e
       exact joinF_end (put_end ha e1) e2
   · obtain ⟨hb,h0⟩ := hend_of s hend
     intro x s' e
     exact .inr ⟨hb,joinF_end (atEnd_of h0) e⟩
theorem joinU_sim (hE : SimE E) (hS : SimE S) : ∀ m : Nat,SimE (joinU E S m)
 | 0 => sign_sim hE hS
 | m + 1 => by
   have ih := joinU_sim hE hS m
   refine ⟨fun io b c pe pb s s2 h => ?_,fun s ha x s' e => ?_⟩
   · simp only [joinU]
     exact (ih.go _ _ _ _ _ _ _ h).bind (fun x q q2 _ hq => joinF_sim ih _ _ _ q q2 x (by have := h.len; omega) hq) fun _ x q ha y s' e => joinF_end ha e
   · simp only [joinU] at e
     obtain ⟨y,q,e1,_⟩ := bind_ok e
     exact ih.no s ha y q e1
theorem expr_sim (hE : SimE E) (hS : SimE S) : SimE (exprR E S) := by
 have hU := joinU_sim hE hS 6
 refine ⟨fun io b c pe pb s s2 h => ?_,fun s ha x s' e => ?_⟩
 · unfold exprR
   have fin : ∀ {a : Nat} {s1 : PS},atEnd s1 → ∀ {y s'},(let t := cur s1
       if (takeS s1 [63]).1 = true then
         (within (takeS s1 [63]).2 t.a (takeS s1 [63]).2.quiet fun q => (E q).bind fun x q1 => (wantR q1 [58]).bind fun _ q2 => (E q2).bind fun y q3 => .ok (x,y) q3).bind fun z s2 => putR s2 ⟨28,[],[a,z.1,z.2],[],t.a⟩
       else .ok a (takeS s1 [63]).2) = .ok y s' → atEnd s' := by
     intro a s1 ha y s' e
     simp only at e
     have ht := atEnd_take ha [63]
     rw [if_neg (by rw [ht.1]; decide)] at e
     exact atEnd_ok ht.2 e
   refine (hU.go _ _ _ _ _ _ _ h).bind (fun x q q2 _ hq => ?_) fun _ x q ha y s' e => fin ha e
   by_cases hend : b = true ∨ (cur q).k ≠ 0
   · obtain ⟨_,k1,k2,k3⟩ := hq.cur hend
     simp only
     rcases hq.take [63] with ⟨hb,g0,_⟩ | ⟨ht,hJ⟩
     · rcases hend with hh | hh
       · rw [hb] at hh; cases hh
       · exact absurd g0 hh
     rw [ht,k3]
     by_cases p : (takeS q [63]).1 = true
     · rw [if_pos p,if_pos p]
       have hqq : (takeS q2 [63]).2.quiet = (takeS q [63]).2.quiet := hJ.quiet
       rw [hqq]
       refine Sm.put (mv := fun z : Nat × Nat => (z.1 + pe.length,z.2 + pe.length)) (g := fun z => ⟨28,[],[x,z.1,z.2],[],(cur q).a⟩) (g2 := fun z => ⟨28,[],[x + pe.length,z.1,z.2],[],(cur q).a + c⟩) (within_sm1 hJ fun hq => ?_) (fun _ => rfl)
       refine (hE.go _ _ _ _ _ _ _ hq).bind (fun x q q2 _ hq => ?_) fun _ x q ha y s' e => by
         obtain ⟨_,q',e1,_⟩ := bind_ok e; exact absurd e1 (atEnd_want ha _ q')
       refine (hq.want_sc [58]).bind fun _ q q2 _ hq => ?_
       refine (hE.go _ _ _ _ _ _ _ hq).bind (fun y q q2 _ hq => ?_) fun _ x q ha y s' e => atEnd_ok ha e
       exact (ok_sc (α := Nat) rfl hq).sm
     · rw [if_neg p,if_neg p]
       exact (ok_sc (α := Nat) rfl hJ).sm
   · obtain ⟨hb,h0⟩ := hend_of q hend
     intro y s' e
     exact .inr ⟨hb,fin (atEnd_of h0) e⟩
 · unfold exprR at e
   obtain ⟨y,q,e1,_⟩ := bind_ok e
   exact hU.no s ha y q e1
theorem exprD_sim : ∀ d : Nat,SimE (exprD d).1 ∧ SimE (exprD d).2
 | 0 => ⟨expr_sim dead_sim dead_sim,sign_sim dead_sim dead_sim⟩
 | d + 1 => ⟨expr_sim (exprD_sim d).1 (exprD_sim d).2,sign_sim (exprD_sim d).1 (exprD_sim d).2⟩
end Go.Syn
namespace Go.Syn
open Go Go.Eng Go.Lex
variable {N : Int} {io : Nat} {b : Bool} {c : Int} {pe : List Ex} {pb : List Blk} {s s2 : PS} {E B : PS → R Nat}
theorem JR.back (h : JR io b c pe pb s s2) (hi : 1 ≤ s.i) : JR io b c pe pb { s with i := s.i - 1 } { s2 with i := s2.i - 1 } :=
 h.at_ fun o E d _ h2 h3 => ⟨by omega,by omega⟩
theorem labels_sim : ∀ (n m : Nat) (s s2 : PS) (ls : List Str),n ≤ m → JR io b c pe pb s s2 → Sm io b c pe pb id (labelsF n s ls) (labelsF m s2 ls)
 | 0,_,_,_,_,_,_ => fun x s' e => by cases e
 | n + 1,m,s,s2,ls,hm,h => by
   obtain ⟨m,rfl⟩ : ∃ j,m = j + 1 := ⟨m - 1,by omega⟩
   by_cases hend : b = true ∨ (cur s).k ≠ 0
   · obtain ⟨hn,k1,k2,k3⟩ := h.cur hend
     simp only [labelsF]
     rw [k1]
     by_cases p : (cur s).k = 3
     · rw [if_pos p,if_pos p]
       have hk : (cur s).k ≠ 0 := by omega
       have e1 : nextS s = step1 (nowS s) := by unfold nextS; rw [if_pos hk]
       have e2 : nextS s2 = step1 (nowS s2) := by unfold nextS; rw [if_pos (by rw [k1]; exact hk)]
       rw [e1,e2]
       have := plain_sim (h.step hk) (cur s)
       rw [← k1,← k2,← k3] at this
       exact this.bind fun l q q2 _ hq => labels_sim n m q q2 (ls ++ [l]) (by omega) hq
     · rw [if_neg p,if_neg p]
       exact (ok_sc (α := Nat) rfl hn).sm
   · obtain ⟨hb,h0⟩ := hend_of s hend
     intro x s' e
     simp only [labelsF] at e
     rw [if_neg (by omega)] at e
     exact .inr ⟨hb,atEnd_ok (atEnd_now (atEnd_of h0)) e⟩
structure SimB (N : Int) (F : PS → R Nat) : Prop where
 go : ∀ io b c pe pb s s2,JR io b c pe pb s s2 → WS N s → s.quiet = false → Sc io b c pe pb (· + pb.length) (F s) (F s2)
 no : ∀ s t q,kindR s 1 = .ok t q → atEnd q → ∀ x s',F s ≠ .ok x s'
theorem dead_simB (N : Int) : SimB N dead := ⟨fun _ _ _ _ _ _ _ _ _ _ x s' e => (by cases e),fun _ _ _ _ _ x s' e => (by cases e)⟩
abbrev mvI (pe : List Ex) (pb : List Blk) (c : Int) (x : List Atr × List Nat) : List Atr × List Nat := (x.1.map (mvA pe.length c),x.2.map (· + pb.length))
theorem item_sim (hE : SimE E) (hB : SimB N B) (h : JR io b c pe pb s s2) (hw : WS N s) (hq : s.quiet = false) (us : List Atr) (bs : List Nat) :
   Sm io b c pe pb (mvI pe pb c) (itemR E B s us bs) (itemR E B s2 (us.map (mvA pe.length c)) (bs.map (· + pb.length))) := by
 unfold itemR
 refine (h.kind_sc (k := 1) (.inr (by decide))).bind fun t q q2 hk hJ => ?_
 simp only
 have hnow : ∀ {z : PS},z.quiet = false → nowS z = z := fun {z} hz => by unfold nowS; rw [if_neg (by rw [hz]; decide)]
 have hq2 : s2.quiet = false := by rw [h.quiet]; exact hq
 have hk0 : (cur s).k ≠ 0 := by
   unfold kindR at hk
   split at hk
   · omega
   · cases hk
 have eq1 : q = step1 s := by
   unfold kindR at hk
   split at hk
   · injection hk with _ hk
     rw [← hk]; unfold nextS; rw [if_pos hk0,hnow hq]
   · cases hk
 have hqq : q.quiet = false := by rw [eq1]; exact hq
 have hqq2 : q2.quiet = false := by rw [hJ.quiet]; exact hqq
 have two : (takeS q [61]).1 = false → (takeS q2 [61]).1 = false → Sm io b c pe pb (mvI pe pb c) ((B { (takeS q [61]).2 with i := (takeS q [61]).2.i - 1 }).bind fun x s2 => .ok (us,bs ++ [x]) s2) ((B { (takeS q2 [61]).2 with i := (takeS q2 [61]).2.i - 1 }).bind fun x s2 => .ok (us.map (mvA pe.length c),bs.map (· + pb.length) ++ [x]) s2) := by
   intro f1 f2
   have g1 : (takeS q [61]).2 = q := by
     unfold takeS at f1 ⊢
     split
     · rename_i hh; rw [if_pos hh] at f1; cases f1
     · exact hnow hqq
   have g2 : (takeS q2 [61]).2 = q2 := by
     unfold takeS at f2 ⊢
     split
     · rename_i hh; rw [if_pos hh] at f2; cases f2
     · exact hnow hqq2
   rw [g1,g2]
   have hi : 1 ≤ q.i := by rw [eq1]; show 1 ≤ s.i + 1; omega
   have hs : ({ q with i := q.i - 1 } : PS) = s := by rw [eq1]; rfl
   have hback := hJ.back hi
   rw [hs] at hback ⊢
   refine (hB.go _ _ _ _ _ _ _ hback hw hq).bind fun x r r2 _ hr => ?_
   exact (ok_sc (α := Nat) (by simp) hr).sm
 rcases hJ.take [61] with ⟨hb,g0,hf⟩ | ⟨ht,hJ2⟩
 · intro y s' e
   rw [if_neg (by rw [hf]; decide)] at e
   obtain ⟨x,r,e1,_⟩ := bind_ok e
   have g1 : (takeS q [61]).2 = q := by
     unfold takeS at hf ⊢
     split
     · rename_i hh; rw [if_pos hh] at hf; cases hf
     · exact hnow hqq
   have hs : ({ q with i := q.i - 1 } : PS) = s := by rw [eq1]; rfl
   rw [g1,hs] at e1
   exact absurd e1 (hB.no s t q hk (atEnd_of g0) x r)
 · rw [ht]
   by_cases p : (takeS q [61]).1 = true
   · rw [if_pos p,if_pos p]
     refine (hE.go _ _ _ _ _ _ _ hJ2).bind (fun x r r2 _ hr => ?_) fun _ x r ha y s' e => atEnd_ok ha e
     exact (ok_sc (α := Nat) (by simp [mvA]) hr).sm
   · rw [if_neg p,if_neg p]
     exact two (by simpa using p) (by rw [ht]; simpa using p)
theorem item_end {us : List Atr} {bs : List Nat} (ha : atEnd s) : ∀ y s',itemR E B s us bs ≠ .ok y s' := by
 intro y s' e
 unfold itemR at e
 obtain ⟨x,q,e1,_⟩ := bind_ok e
 exact atEnd_kind ha (by decide) (by decide) x q e1
theorem items_end {n : Nat} {us : List Atr} {bs : List Nat} (ha : atEnd s) : ∀ y s',itemsF E B n s us bs ≠ .ok y s' := by
 intro y s' e
 cases n with
 | zero => cases e
 | succ n =>
   simp only [itemsF] at e
   have ht := atEnd_take ha [125]
   rw [if_neg (by rw [ht.1]; decide)] at e
   obtain ⟨x,q,e1,_⟩ := bind_ok e
   exact item_end ht.2 x q e1
theorem lines_q (s : PS) : (linesS s).quiet = s.quiet := (nowS_f s).2.2.2.1
theorem take_q (s : PS) (w : Str) : (takeS s w).2.quiet = s.quiet := by unfold takeS; split <;> exact (nowS_f s).2.2.2.1
theorem items_sim (hE : SimE E) (hEo : EOk N E) (hB : SimB N B) (hBo : BOk N B) : ∀ (n m : Nat) (s s2 : PS) (us : List Atr) (bs : List Nat),n ≤ m → JR io b c pe pb s s2 → WS N s → s.quiet = false → Named us →
   Sc io b c pe pb (mvI pe pb c) (itemsF E B n s us bs) (itemsF E B m s2 (us.map (mvA pe.length c)) (bs.map (· + pb.length)))
 | 0,_,_,_,_,_,_,_,_,_,_ => fun x s' e => by cases e
 | n + 1,m,s,s2,us,bs,hm,h,hw,hq,hn => by
   obtain ⟨m,rfl⟩ : ∃ j,m = j + 1 := ⟨m - 1,by omega⟩
   have tg := take_go hw [125]
   have hw1 := tg.1.ws hw
   have hq1 := (take_q s [125]).trans hq
   rcases h.take [125] with ⟨hb,h0,hf⟩ | ⟨ht,hJ⟩
   · intro y s' e
     exact absurd e (items_end (atEnd_of h0) y s')
   simp only [itemsF]
   rw [ht]
   by_cases p : (takeS s [125]).1 = true
   · rw [if_pos p,if_pos p]
     exact ok_sc (α := Nat) rfl hJ
   rw [if_neg p,if_neg p]
   have hsat := item_sat hEo hBo hw1 us bs hn
   refine (item_sim hE hB hJ hw1 hq1 us bs).bindc (fun x q q2 hx hr => ?_) fun _ x q ha y s' e => ?_
   · rw [hx] at hsat
     obtain ⟨lt,nm,_⟩ := hsat
     have hw2 := lt.1.ws hw1
     have hq2 : q.quiet = false := lt.1.quiet.trans hq1
     by_cases hend : b = true ∨ (cur q).k ≠ 0
     · obtain ⟨g1,k1,k2,k3⟩ := hr.cur hend
       have gi := g1.isS [125] (by rw [cur_now]; exact hend)
       rw [k1,gi]
       by_cases hbad : (cur q).k ≠ 5 ∧ isS (nowS q) [125] = false
       · rw [if_pos hbad]; intro y s' e; cases e
       rw [if_neg hbad,if_neg hbad]
       have hw3 := (now_go hw2).ws hw2
       rcases g1.lines with ⟨_,ha⟩ | hl
       · intro y s' e
         exact absurd e (items_end (atEnd_lines ha) y s')
       · exact items_sim hE hEo hB hBo n m _ _ x.1 x.2 (by omega) hl ((lines_go hw3).1.ws hw3) ((lines_q _).trans ((nowS_f q).2.2.2.1.trans hq2)) nm
     · obtain ⟨hb,h0⟩ := hend_of q hend
       intro y s' e
       split at e
       · cases e
       · exact absurd e (items_end (atEnd_lines (atEnd_now (atEnd_of h0))) y s')
   · split at e
     · cases e
     · exact absurd e (items_end (atEnd_lines (atEnd_now ha)) y s')
end Go.Syn
namespace Go.Syn
open Go Go.Eng Go.Lex
variable {N : Int} {io : Nat} {b : Bool} {c : Int} {pe : List Ex} {pb : List Blk} {s s2 : PS} {E B : PS → R Nat}
theorem labels_end : ∀ (n : Nat) (s : PS) (ls l : List Str) (r : PS),atEnd s → labelsF n s ls = .ok l r → atEnd r
 | 0,_,_,_,_,_,e => by cases e
 | n + 1,s,ls,l,r,ha,e => by
   simp only [labelsF] at e
   rw [if_neg (by rcases atEnd_k ha with h | h <;> omega)] at e
   exact atEnd_ok (atEnd_now ha) e
theorem block_sim (hE : SimE E) (hEo : EOk N E) (hB : SimB N B) (hBo : BOk N B) : SimB N (blockR E B) := by
 refine ⟨fun io b c pe pb s s2 h hw hq => ?_,fun s t q hk ha x s' e => ?_⟩
 · unfold blockR
   have hksat := kind_sat hw 1 (by decide)
   refine (h.kind_sc (k := 1) (.inr (by decide))).bindc fun t q q2 hk hJ => ?_
   rw [hk] at hksat
   have hwq := hksat.1.1.ws hw
   have hqq : q.quiet = false := hksat.1.1.quiet.trans hq
   have hlsat := labels_sat (s.toks.length + 1) q [] hwq
   refine (labels_sim (s.toks.length + 1) (s2.toks.length + 1) q q2 [] (by have := h.len; omega) hJ).bindc (fun ls r r2 hr hJ2 => ?_) fun _ x r ha y s' e => ?_
   · rw [hr] at hlsat
     have hwr := hlsat.1.ws hwq
     by_cases hi : isS r [123] = true
     · have hk0 := isS_k hi
       obtain ⟨gn,_,_,_⟩ := hJ2.cur (.inr hk0)
       have htk : (tokI (nowS r)).k ≠ 0 := by rw [← cur_tok]; exact hk0
       rw [if_neg (by rw [hi]; decide),if_neg (by rw [hJ2.isS [123] (.inr hk0),hi]; decide)]
       refine Sc.bindc (mv := mvI pe pb c) (within_sc1 gn fun hf => ?_) fun x z z2 _ hz => ?_
       · have hh := sign_here hwr hi ((nowS r).deep + 1) false
         have hwf := ws_frame ((now_go hwr).ws hwr) ((nowS r).deep + 1) false
         have h4 := step_go hwf hh.2.1
         rw [hh.1] at h4
         have hw4 := h4.1.ws hwf
         rcases (hf.step0 htk).lines with ⟨_,ha⟩ | hl
         · intro y s' e
           exact absurd e (items_end (atEnd_lines ha) y s')
         · exact items_sim hE hEo hB hBo _ _ _ _ [] [] (by have := h.len; omega) hl ((lines_go hw4).1.ws hw4) (lines_q _) (fun a ha => by cases ha)
       · intro y s' e
         injection e with e1 e2
         refine ⟨{ z2 with bl := z2.bl ++ [⟨t.t,ls,x.1.map (mvA pe.length c),x.2.map (· + pb.length),t.a + c⟩] },?_,?_⟩
         · rw [← e1]
           show R.ok z2.bl.length _ = R.ok (z.bl.length + pb.length) _
           rw [show z2.bl.length = z.bl.length + pb.length by rw [hz.bl]; simp; omega]
           rfl
         · rw [← e2]
           exact ⟨hz.tr,hz.deep,hz.quiet,hz.ex,by rw [hz.bl]; simp [mvB],hz.len,hz.io⟩
     · rw [if_pos (by simpa using hi)]; intro y s' e; cases e
   · rw [if_pos (atEnd_sign ha _)] at e; cases e
 · unfold blockR at e
   rw [hk] at e
   obtain ⟨ls,r,e1,e2⟩ := bind_ok (show ((labelsF (s.toks.length + 1) q []).bind _) = R.ok x s' from e)
   rw [if_pos (atEnd_sign (labels_end _ _ _ _ _ ha e1) _)] at e2
   cases e2
theorem blockD_sim (N : Int) : ∀ d,SimB N (blockD d)
 | 0 => block_sim dead_sim (dead_ok N) (dead_simB N) (dead_bok N)
 | d + 1 => block_sim (exprD_sim d).1 (exprD_ok N d).1 (blockD_sim N d) (blockD_ok N d)
end Go.Syn
namespace Go.Syn
open Go Go.Eng Go.Lex
variable {N N2 : Int} {io : Nat} {b : Bool} {c : Int} {pe : List Ex} {pb : List Blk} {s s2 : PS}
theorem JR.nl (h : JR io false c pe pb s s2) (hq : s.quiet = false) (hk : (Syn.cur s).k = 0) : (Syn.cur s2).k = 5 := by
 obtain ⟨o,E,d,h1,h2,h3,_⟩ := h.tr
 have n1 : nowS s = s := by unfold nowS; rw [if_neg (by rw [hq]; decide)]
 have n2 : nowS s2 = s2 := by unfold nowS; rw [if_neg (by rw [h.quiet,hq]; decide)]
 have hl : s.i < s.toks.length := by rw [h1.len]; omega
 have e1 : tokI s = s.toks[s.i] := by unfold tokI; rw [List.getD_eq_getElem?_getD,List.getElem?_eq_getElem hl]; rfl
 have hE : s.i = E := by
   by_cases hlt : s.i < E
   · have := (h1.tok s.i s.toks[s.i] hlt (List.getElem?_eq_getElem hl)).1
     rw [cur_tok,n1,e1] at hk
     exact absurd hk this
   · omega
 have hl2 : s2.i < s2.toks.length := by have := h1.len2; omega
 have e2 : tokI s2 = s2.toks[s2.i] := by unfold tokI; rw [List.getD_eq_getElem?_getD,List.getElem?_eq_getElem hl2]; rfl
 rw [cur_tok,n2,e2]
 exact h1.nl rfl _ (by rw [← hE,← h2]; exact List.getElem?_eq_getElem hl2)
theorem top_sim (p : List Nat) : ∀ (n m : Nat) (s s2 : PS) (top : List Nat),n ≤ m → JR io true c pe pb s s2 → WS N s → s.quiet = false → Sc io true c pe pb (fun l => p ++ l.map (· + pb.length)) (topF n s top) (topF m s2 (p ++ top.map (· + pb.length)))
 | 0,_,_,_,_,_,_,_,_ => fun x s' e => by cases e
 | n + 1,m,s,s2,top,hm,h,hw,hq => by
   obtain ⟨m,rfl⟩ : ∃ j,m = j + 1 := ⟨m - 1,by omega⟩
   obtain ⟨hn,k1,_,_⟩ := h.cur (.inl rfl)
   simp only [topF]
   rw [k1]
   by_cases h0 : (cur s).k = 0
   · rw [if_pos h0,if_pos h0]
     exact ok_sc (α := Nat) rfl hn
   rw [if_neg h0,if_neg h0]
   have hw1 := (now_go hw).ws hw
   have hq1 := (nowS_f s).2.2.2.1.trans hq
   have hsat := blockD_ok N 24 _ hw1
   refine ((blockD_sim N 24).go _ _ _ _ _ _ _ hn hw1 hq1).bindc fun x q q2 hx hr => ?_
   rw [hx] at hsat
   have hw2 := hsat.1.1.ws hw1
   have hq2 : q.quiet = false := hsat.1.1.quiet.trans hq1
   obtain ⟨g1,j1,_,_⟩ := hr.cur (.inl rfl)
   rw [j1]
   by_cases hbad : (cur q).k ≠ 5 ∧ (cur q).k ≠ 0
   · rw [if_pos hbad]; intro y s' e; cases e
   rw [if_neg hbad,if_neg hbad]
   have hw3 := (now_go hw2).ws hw2
   rcases g1.lines with ⟨hb,_⟩ | hl
   · cases hb
   · have := top_sim p n m _ _ (top ++ [x]) (by omega) hl ((lines_go hw3).1.ws hw3) ((lines_q _).trans ((nowS_f q).2.2.2.1.trans hq2))
     rw [List.map_append,← List.append_assoc] at this
     exact this
theorem blockD_end {d : Nat} (ha : atEnd s) : ∀ x s',blockD d s ≠ .ok x s' := by
 intro x s' e
 have : ∀ E B : PS → R Nat,blockR E B s ≠ .ok x s' := fun E B e => by
   unfold blockR at e
   obtain ⟨t,q,e1,_⟩ := bind_ok e
   exact atEnd_kind ha (by decide) (by decide) t q e1
 cases d with
 | zero => exact this _ _ e
 | succ d => exact this _ _ e
theorem top_pre : ∀ (n m : Nat) (s0 s02 : PS) (top : List Nat),n ≤ m → JR io false c pe pb s0 s02 → WS N s0 → WS N2 s02 → s0.quiet = false → ∀ x s',topF n (linesS s0) top = .ok x s' →
   ∃ z z2 m',(z.toks = s0.toks ∧ z2.toks = s02.toks ∧ z2.off = s02.off ∧ z.quiet = s0.quiet ∧ z.deep = s0.deep ∧ z2.deep = s02.deep) ∧ JR io false c pe pb z z2 ∧ (cur (linesS z)).k = 0 ∧ s'.ex = z.ex ∧ s'.bl = z.bl ∧ m - n + 1 ≤ m' ∧ topF m (linesS s02) (top.map (· + pb.length)) = topF m' (linesS z2) (x.map (· + pb.length))
 | 0,_,_,_,_,_,_,_,_,_ => fun x s' e => by cases e
 | n + 1,m,s0,s02,top,hm,h,hw,hv,hq => by
   intro x s' e
   obtain ⟨m,rfl⟩ : ∃ j,m = j + 1 := ⟨m - 1,by omega⟩
   have lg := lines_go hw
   simp only [topF] at e
   by_cases h0 : (cur (linesS s0)).k = 0
   · rw [if_pos h0] at e
     injection e with e1 e2
     refine ⟨s0,s02,m + 1,⟨rfl,rfl,rfl,rfl,rfl,rfl⟩,h,h0,?_,?_,by omega,by rw [e1]⟩
     · rw [← e2,(nowS_f _).2.2.2.2.1]; exact lg.2.1
     · rw [← e2,(nowS_f _).2.2.2.2.2]; exact lg.2.2
   rw [if_neg h0] at e
   obtain ⟨y,q,e1,e2⟩ := bind_ok e
   rcases h.lines with ⟨_,ha⟩ | hl
   · exact absurd e1 (blockD_end (atEnd_now (atEnd_lines ha)) y q)
   have hw0 := lg.1.ws hw
   have hq0 := (lines_q s0).trans hq
   obtain ⟨hn,k1,_,_⟩ := hl.cur (.inr h0)
   have hw1 := (now_go hw0).ws hw0
   have hq1 := (nowS_f (linesS s0)).2.2.2.1.trans hq0
   have hsat := blockD_ok N 24 _ hw1
   obtain ⟨q2,g1,g2⟩ := (blockD_sim N 24).go _ _ _ _ _ _ _ hn hw1 hq1 y q e1
   rw [e1] at hsat
   have hw2 := hsat.1.1.ws hw1
   have lv := lines_go hv
   have hv0 := lv.1.ws hv
   have hv1 := (now_go hv0).ws hv0
   have hsv := blockD_ok N2 24 _ hv1
   rw [g1] at hsv
   have hv2 := hsv.1.1.ws hv1
   have hq2 : q.quiet = false := hsat.1.1.quiet.trans hq1
   have n1 : nowS q = q := by unfold nowS; rw [if_neg (by rw [hq2]; decide)]
   have n2 : nowS q2 = q2 := by unfold nowS; rw [if_neg (by rw [g2.quiet,hq2]; decide)]
   split at e2
   · cases e2
   rename_i hbad
   rw [n1] at e2
   obtain ⟨z,z2,m',⟨t1,t2,t3,t4,t5,t6⟩,r1,r2,r3,r4,r5,r6⟩ := top_pre n m q q2 (top ++ [y]) (by omega) g2 hw2 hv2 hq2 x s' e2
   refine ⟨z,z2,m',⟨t1.trans (hsat.1.1.toks.trans ((now_go hw0).toks.trans lg.1.toks)),t2.trans (hsv.1.1.toks.trans ((now_go hv0).toks.trans lv.1.toks)),t3.trans (hsv.1.1.off.trans ((now_go hv0).off.trans lv.1.off)),t4.trans (hsat.1.1.quiet.trans ((now_go hw0).quiet.trans lg.1.quiet)),t5.trans (hsat.1.1.deep.trans ((now_go hw0).deep.trans lg.1.deep)),t6.trans (hsv.1.1.deep.trans ((now_go hv0).deep.trans lv.1.deep))⟩,r1,r2,r3,r4,by omega,?_⟩
   rw [← r6]
   simp only [topF]
   rw [if_neg (by rw [k1]; exact h0),g1]
   simp only [R.bind]
   have hk5 : ¬ ((cur q2).k ≠ 5 ∧ (cur q2).k ≠ 0) := by
     by_cases hz : (cur q).k = 0
     · have := g2.nl hq2 hz; omega
     · have := (g2.cur (.inr hz)).2.1; omega
   rw [if_neg hk5,n2,List.map_append]
   rfl
end Go.Syn
namespace Go.Proofs.YtofhaneggcpdaaaDoor
open Go Go.Eng Go.RowKit Go.Syn Go.Lex
set_option maxRecDepth 100000
theorem run_cat (q : UInt8 → Bool) (hq : q 10 = false) (t : Str) : ∀ s : Str,runM q (s ++ 10 :: t) = runM q s
 | [] => by simp only [List.nil_append,runM]; rw [if_neg (by rw [hq]; decide)]
 | c :: r => by
   simp only [List.cons_append,runM,run_cat q hq t r]
theorem pre_cat {x y : UInt8} (hy : y ≠ 10) (c : UInt8) (r t : Str) : Lib.hasPrefix (c :: r ++ 10 :: t) [x,y] = Lib.hasPrefix (c :: r) [x,y] := by
 cases r with
 | nil =>
   simp only [Lib.hasPrefix,List.cons_append,List.nil_append,List.isPrefixOf,Bool.and_true]
   rw [show (y == (10 : UInt8)) = false by rw [beq_eq_false_iff_ne]; exact hy]
 | cons d r => simp [Lib.hasPrefix,List.isPrefixOf]
theorem index_cat (x : Str) : ∀ (s : Str) (i : Nat),Lib.index s [42,47] = (i : Int) → Lib.index (s ++ x) [42,47] = (i : Int)
 | [],i,h => by
   unfold Lib.index at h
   simp at h
 | b :: l,i,h => by
   have hl := idx_len _ _ h
   rw [List.cons_append]
   unfold Lib.index at h ⊢
   have hpre : List.isPrefixOf [42,47] (b :: (l ++ x)) = List.isPrefixOf [42,47] (b :: l) := by
     cases l with
     | nil => simp at hl
     | cons c l => simp [List.isPrefixOf]
   rw [hpre]
   split at h
   · rename_i hp; rw [if_pos hp]; exact h
   · rename_i hp
     rw [if_neg hp]
     split at h
     · omega
     · rename_i hq
       have h1 : Lib.index l [42,47] ≠ -1 := by simpa using hq
       have hg := Lib.index_ge l [42,47]
       have := index_cat x l (i - 1) (by omega)
       rw [this]
       rw [if_neg (by simp only [beq_iff_eq]; omega)]
       omega
theorem cat_drop {s : Str} {k : Nat} (x : Str) (h : k ≤ s.length) : (s ++ x).drop k = s.drop k ++ x := List.drop_append_of_le_length h
theorem cat_take {s : Str} {k : Nat} (x : Str) (h : k ≤ s.length) : (s ++ x).take k = s.take k := List.take_append_of_le_length h
theorem skip_cat (t : Str) : ∀ (n : Nat) (s : Str) (k m : Nat),skipF n s = (k,0) → s.length < n → s.length + t.length + 1 < m → skipF m (s ++ 10 :: t) = (k,0)
 | 0,_,_,_,_,hn,_ => absurd hn (Nat.not_lt_zero _)
 | n + 1,[],k,m,h,_,hm => by
   obtain ⟨m,rfl⟩ : ∃ j,m = j + 1 := ⟨m - 1,by omega⟩
   rw [List.nil_append,skip_step,if_neg (by decide),if_neg (by rw [show (((10 : UInt8) == 35) || Lib.hasPrefix (10 :: t) [47,47]) = false from rfl]; decide),if_neg (by rw [show Lib.hasPrefix (10 :: t) [47,42] = false from rfl]; decide)]
   simp only [skipF] at h
   exact h
 | n + 1,c :: r,k,m,h,hn,hm => by
   obtain ⟨m,rfl⟩ : ∃ j,m = j + 1 := ⟨m - 1,by omega⟩
   simp only [List.length_cons] at hn hm
   have p1 := pre_cat (x := 47) (y := 47) (by decide) c r t
   have p2 := pre_cat (x := 47) (y := 42) (by decide) c r t
   rw [skip_step] at h
   rw [List.cons_append,skip_step]
   rw [List.cons_append] at p1 p2
   rw [p1,p2]
   split at h
   · rename_i hb
     rw [if_pos hb]
     injection h with h1 h2
     have := skip_cat t n r (skipF n r).1 m (Prod.ext rfl h2) (by omega) (by omega)
     rw [this,← h1]
   rename_i hb
   rw [if_neg hb]
   split at h
   · rename_i hc
     rw [if_pos hc]
     injection h with h1 h2
     have hrun := run_cat (fun b => b != 10) (by decide) t (c :: r)
     rw [List.cons_append] at hrun
     have hle := run_le (fun b => b != 10) (c :: r)
     have hpos : 1 ≤ runM (fun b => b != 10) (c :: r) := runM_pos (by
       rw [Bool.or_eq_true] at hc
       rcases hc with h | h
       · rw [beq_iff_eq] at h; subst h; rfl
       · simp only [Lib.hasPrefix,List.isPrefixOf,Bool.and_eq_true,beq_iff_eq] at h
         rw [← h.1]; rfl)
     rw [hrun]
     simp only [List.length_cons] at hle
     have hd := cat_drop (s := c :: r) (10 :: t) (k := runM (fun b => b != 10) (c :: r)) (by simp only [List.length_cons]; omega)
     rw [List.cons_append] at hd
     rw [hd]
     have := skip_cat t n ((c :: r).drop (runM (fun b => b != 10) (c :: r))) _ m (Prod.ext rfl h2) (by rw [List.length_drop,List.length_cons]; omega) (by rw [List.length_drop,List.length_cons]; omega)
     rw [this,← h1]
   rename_i hc
   rw [if_neg hc]
   split at h
   · rename_i hp
     rw [if_pos hp]
     have h2l : 2 ≤ (c :: r).length := pre_len (p := [47,42]) (s := c :: r) hp
     simp only [List.length_cons] at h2l
     split at h
     · cases h
     · rename_i hneg
       injection h with h1 h2
       obtain ⟨j,hj⟩ := Int.eq_ofNat_of_zero_le (show 0 ≤ Lib.index (r.drop 1) [42,47] by omega)
       have hjl := idx_len _ _ hj
       rw [List.length_drop] at hjl
       have hi := index_cat (10 :: t) _ _ hj
       rw [← cat_drop (10 :: t) (by omega)] at hi
       rw [hj,Int.toNat_natCast] at h1 h2
       rw [hi,Int.toNat_natCast,if_neg (by omega)]
       have hd := cat_drop (s := c :: r) (10 :: t) (k := j + 4) (by simp only [List.length_cons]; omega)
       rw [List.cons_append] at hd
       rw [hd]
       have := skip_cat t n ((c :: r).drop (j + 4)) _ m (Prod.ext rfl h2) (by rw [List.length_drop,List.length_cons]; omega) (by rw [List.length_drop,List.length_cons]; omega)
       rw [this,← h1]
   · rename_i hp
     rw [if_neg hp]
     exact h
theorem hereF_cat (t name : Str) : ∀ (n : Nat) (s x : Str) (k m : Nat),hereF n name s = (x,k,0) → s.length + t.length + 1 < m → hereF m name (s ++ 10 :: t) = (x,k,0)
 | 0,_,_,_,_,h,_ => by simp [hereF] at h
 | n + 1,s,x,k,m,h,hm => by
   obtain ⟨m,rfl⟩ : ∃ j,m = j + 1 := ⟨m - 1,by omega⟩
   rw [here_step] at h ⊢
   rw [run_cat (fun b => b != 10) (by decide) t s]
   have hle := run_le (fun b => b != 10) s
   generalize runM (fun b => b != 10) s = q at *
   rw [cat_take _ hle]
   split at h
   · rename_i h1
     rw [if_pos h1]; exact h
   rename_i h1
   rw [if_neg h1]
   split at h
   · cases h
   rename_i h2
   rw [if_neg (by rw [List.length_append,List.length_cons]; omega),cat_drop _ (by omega)]
   split at h
   · rename_i h3
     injection h with e1 e2
     injection e2 with e2 _
     have := hereF_cat t name n (s.drop (q + 1)) _ _ m (Prod.ext rfl (Prod.ext rfl h3)) (by rw [List.length_drop]; omega)
     rw [this,if_pos rfl,← e1,← e2]
   · rename_i h3
     injection h with _ h
     injection h with _ h
     exact absurd h h3
theorem heredoc_cat {s x t : Str} {k : Nat} (h : heredocM s = (x,k,0)) (h2 : 2 ≤ s.length) : heredocM (s ++ 10 :: t) = (x,k,0) := by
 unfold heredocM at h ⊢
 simp only at h ⊢
 have hn : (if isLetter (((s ++ 10 :: t).drop 2).headD 0) = true then runM isName ((s ++ 10 :: t).drop 2) else 0) = (if isLetter ((s.drop 2).headD 0) = true then runM isName (s.drop 2) else 0) := by
   rw [cat_drop _ h2,run_cat isName (by decide)]
   cases s.drop 2 with
   | nil => rfl
   | cons c r => rfl
 rw [hn]
 have hnl : 2 + (if isLetter ((s.drop 2).headD 0) = true then runM isName (s.drop 2) else 0) ≤ s.length := by
   have := run_le isName (s.drop 2)
   rw [List.length_drop] at this
   split <;> omega
 generalize (if isLetter ((s.drop 2).headD 0) = true then runM isName (s.drop 2) else 0) = n at *
 split at h
 · cases h
 rename_i h1
 rw [if_neg h1]
 split at h
 · rename_i hh
   have hlt := head_lt hh
   have hh' : ((s ++ 10 :: t).drop (2 + n)).head? = some 10 := by
     rw [cat_drop _ hnl]
     cases hd : s.drop (2 + n) with
     | nil => rfl
     | cons c r => rw [hd] at hh; exact hh
   rw [if_pos hh',cat_drop _ h2,cat_take _ (by rw [List.length_drop]; omega),cat_drop _ (by omega)]
   split at h
   · rename_i h3
     injection h with e1 e2
     injection e2 with e2 _
     have := hereF_cat t ((s.drop 2).take n) (s.length + 1) (s.drop (2 + n + 1)) _ _ ((s ++ 10 :: t).length + 1) (Prod.ext rfl (Prod.ext rfl h3)) (by rw [List.length_drop,List.length_append,List.length_cons]; omega)
     rw [this,if_pos rfl,← e1,← e2]
   · rename_i h3
     injection h with _ h
     injection h with _ h
     exact absurd h h3
 · cases h
theorem sign_cat (c : UInt8) (r t : Str) : signM (c :: r ++ 10 :: t) = signM (c :: r) := by
 cases r with
 | nil =>
   have e1 : signM ([c] ++ 10 :: t) = (if signs2.contains [c,10] = true then [c,10] else if signs1.contains c = true then [c] else []) := rfl
   have e2 : signM [c] = (if signs2.contains [c] = true then [c] else if signs1.contains c = true then [c] else []) := rfl
   have h1 : signs2.contains [c,10] = false := by
     have : ∀ m : Fin 256,signs2.contains [UInt8.ofNat m.val,10] = false := by decide +kernel
     have h := this ⟨c.toNat,UInt8.toNat_lt c⟩
     rwa [UInt8.ofNat_toNat] at h
   have h2 : signs2.contains [c] = false := by simp [signs2]
   simp only [e1,e2,h1,h2,Bool.false_eq_true,if_false]
 | cons d r => rfl
theorem one_cat {c : UInt8} {r t : Str} {tk : Tok} {k : Nat} (h : oneM (c :: r) = (tk,k,0)) : oneM (c :: r ++ 10 :: t) = (tk,k,0) := by
 have l1 : (c :: r).length = r.length + 1 := rfl
 have hr1 := run_cat isName (by decide) t (c :: r)
 have hr2 := run_cat isDigit (by decide) t (c :: r)
 have hl1 := run_le isName (c :: r)
 have hl2 := run_le isDigit (c :: r)
 have ht1 := cat_take (10 :: t) hl1
 have ht2 := cat_take (10 :: t) hl2
 have hd2 := cat_drop (10 :: t) hl2
 have hp := pre_cat (x := 60) (y := 60) (by decide) c r t
 have hs := sign_cat c r t
 rw [List.cons_append] at hr1 hr2 ht1 ht2 hd2 hp hs ⊢
 rw [one_cons] at h ⊢
 rw [hr1,hr2,ht1,ht2,hd2,hs]
 split at h
 · rename_i h1; rw [if_pos h1]; exact h
 rename_i h1
 rw [if_neg h1]
 split at h
 · rename_i h2; rw [if_pos h2]; exact h
 rename_i h2
 rw [if_neg h2]
 split at h
 · rename_i h3
   rw [if_pos h3]
   have hh : (decide (runM isDigit (c :: r) < (c :: (r ++ 10 :: t)).length) && isLetter (((c :: r).drop (runM isDigit (c :: r)) ++ 10 :: t).headD 0)) = (decide (runM isDigit (c :: r) < (c :: r).length) && isLetter (((c :: r).drop (runM isDigit (c :: r))).headD 0)) := by
     cases hd : (c :: r).drop (runM isDigit (c :: r)) with
     | nil =>
       have e0 : isLetter (([] : Str).headD 0) = false := rfl
       rw [List.nil_append,e0,Bool.and_false]
       show (_ && isLetter 10) = false
       rw [show isLetter 10 = false from rfl,Bool.and_false]
     | cons x y =>
       have hlt : runM isDigit (c :: r) < (c :: r).length := by
         rcases Nat.lt_or_ge (runM isDigit (c :: r)) (c :: r).length with h | h
         · exact h
         · rw [List.drop_of_length_le h] at hd; cases hd
       rw [decide_eq_true hlt,decide_eq_true (by simp only [List.length_cons,List.length_append] at hlt ⊢; omega)]
       rfl
   rw [hh]; exact h
 rename_i h3
 rw [if_neg h3]
 split at h
 · rename_i h4
   rw [if_pos h4]
   rw [textF_x (by omega)] at h
   rw [textF_x (by simp only [List.length_cons,List.length_append]; omega)]
   split at h
   · rename_i h5
     have hf := textX_fits h5
     have := (stab r.length r (r ++ 10 :: t) (Nat.le_refl _)).1 0 (textX r 0).1 (Prod.ext rfl h5) (cat_take _ hf.2) (by rw [List.length_append]; omega)
     rw [this,if_pos rfl]
     simp only
     rw [cat_take _ (by omega)]
     exact h
   · rename_i h5
     injection h with _ h
     injection h with _ h
     exact absurd h h5
 rename_i h4
 rw [if_neg h4]
 rw [show preM [60,60] (c :: (r ++ 10 :: t)) = preM [60,60] (c :: r) from hp]
 split at h
 · rename_i h5
   rw [if_pos h5]
   have h2 : 2 ≤ (c :: r).length := pre_len (p := [60,60]) (s := c :: r) h5
   injection h with e1 e2
   injection e2 with e2 e3
   have := heredoc_cat (t := t) (s := c :: r) (Prod.ext rfl (Prod.ext rfl e3)) h2
   rw [List.cons_append] at this
   rw [this,← e1,← e2]
 · rename_i h5
   rw [if_neg h5]
   exact h
end Go.Proofs.YtofhaneggcpdaaaDoor
namespace Go.Proofs.YtofhaneggcpdaaaDoor
open Go Go.Eng Go.RowKit Go.Syn Go.Lex
set_option maxRecDepth 100000
def mvT (a b : Nat) (t : Tok) : Tok := ⟨t.k,t.t,t.a - (a : Nat) + (b : Nat)⟩
theorem scan_step (n : Nat) (s : Str) (at_ cnt : Nat) : scanF (n + 1) s at_ cnt = (if (skipF (s.length + 1) s).2 ≠ 0 then .bad (skipF (s.length + 1) s).2 ((at_ + (skipF (s.length + 1) s).1 : Nat) : Int)
   else if s.drop (skipF (s.length + 1) s).1 = [] then .ok [⟨0,[],((at_ + (skipF (s.length + 1) s).1 : Nat) : Int)⟩]
   else if (oneM (s.drop (skipF (s.length + 1) s).1)).2.2 ≠ 0 then .bad (oneM (s.drop (skipF (s.length + 1) s).1)).2.2 ((at_ + (skipF (s.length + 1) s).1 : Nat) : Int)
   else if cnt = 4096 then .bad 3 ((at_ + (skipF (s.length + 1) s).1 : Nat) : Int)
   else match scanF n ((s.drop (skipF (s.length + 1) s).1).drop (oneM (s.drop (skipF (s.length + 1) s).1)).2.1) (at_ + (skipF (s.length + 1) s).1 + (oneM (s.drop (skipF (s.length + 1) s).1)).2.1) (cnt + 1) with
       | .ok l => .ok (⟨(oneM (s.drop (skipF (s.length + 1) s).1)).1.k,(oneM (s.drop (skipF (s.length + 1) s).1)).1.t,((at_ + (skipF (s.length + 1) s).1 : Nat) : Int)⟩ :: l)
       | x => x) := rfl
theorem scan_mv : ∀ (n : Nat) (s : Str) (at_ cnt : Nat) (l : List Tok),scanF n s at_ cnt = .ok l → ∀ m b c : Nat,s.length < m → c ≤ 4096 →
   (1 ≤ l.length) ∧ ((c + l.length ≤ 4097 → scanF m s b c = .ok (l.map (mvT at_ b))) ∧ (4097 < c + l.length → ∃ p,scanF m s b c = .bad 3 p))
 | 0,_,_,_,_,h,_,_,_,_,_ => by simp [scanF] at h
 | n + 1,s,at_,cnt,l,h,m,b,c,hm,hc => by
   obtain ⟨m,rfl⟩ : ∃ j,m = j + 1 := ⟨m - 1,by omega⟩
   rw [scan_step] at h
   rw [scan_step]
   have hkl := skip_le (s.length + 1) s
   generalize skipF (s.length + 1) s = k at *
   split at h
   · cases h
   rename_i h1
   rw [if_neg h1]
   split at h
   · rename_i h2
     rw [if_pos h2]
     injection h with h
     subst h
     refine ⟨by simp,fun _ => ?_,fun hh => absurd hh (by simp only [List.length_cons,List.length_nil]; omega)⟩
     simp only [List.map_cons,List.map_nil,mvT]
     congr 3
     omega
   rename_i h2
   rw [if_neg h2]
   have hok := @one_ok (s.drop k.1)
   generalize oneM (s.drop k.1) = o at *
   split at h
   · cases h
   rename_i h3
   rw [if_neg h3]
   have h3 : o.2.2 = 0 := by simpa using h3
   obtain ⟨o1,o2,_⟩ := hok (t := o.1) (k := o.2.1) h2 (by rw [← h3])
   rw [List.length_drop] at o2
   split at h
   · cases h
   cases hr : scanF n ((s.drop k.1).drop o.2.1) (at_ + k.1 + o.2.1) (cnt + 1) with
   | bad x y => rw [hr] at h; cases h
   | ok l2 =>
     rw [hr] at h
     injection h with h
     subst h
     have ih := fun c' hc' => scan_mv n _ _ _ _ hr m (b + k.1 + o.2.1) c' (by rw [List.length_drop,List.length_drop]; omega) hc'
     have hl2 := (ih 0 (by omega)).1
     refine ⟨by simp,fun hh => ?_,fun hh => ?_⟩
     · simp only [List.length_cons] at hh
       rw [if_neg (by omega),(ih (c + 1) (by omega)).2.1 (by omega)]
       simp only [List.map_cons,mvT]
       congr 2
       · congr 1; omega
       · refine List.map_congr_left fun t _ => ?_
         simp only [mvT]
         congr 1; omega
     · simp only [List.length_cons] at hh
       by_cases hc2 : c = 4096
       · rw [if_pos hc2]; exact ⟨_,rfl⟩
       · rw [if_neg hc2]
         obtain ⟨p,hp⟩ := (ih (c + 1) (by omega)).2.2 (by omega)
         rw [hp]; exact ⟨p,rfl⟩
theorem scan_cat (t : Str) : ∀ (n : Nat) (s : Str) (at_ cnt : Nat) (l : List Tok),scanF n s at_ cnt = .ok l → ∀ m : Nat,s.length + t.length + 1 < m → cnt ≤ 4096 →
   ∃ ini m',l = ini ++ [⟨0,[],((at_ + s.length : Nat) : Int)⟩] ∧ t.length < m' ∧ scanF m (s ++ 10 :: t) at_ cnt = (if cnt + ini.length = 4096 then .bad 3 ((at_ + s.length : Nat) : Int) else match scanF m' t (at_ + s.length + 1) (cnt + ini.length + 1) with | .ok l2 => .ok (ini ++ ⟨5,[10],((at_ + s.length : Nat) : Int)⟩ :: l2) | x => x)
 | 0,_,_,_,_,h,_,_,_ => by simp [scanF] at h
 | n + 1,s,at_,cnt,l,h,m,hm,hc => by
   obtain ⟨m,rfl⟩ : ∃ j,m = j + 1 := ⟨m - 1,by omega⟩
   rw [scan_step] at h
   have hsk := skip_cat t (s.length + 1) s
   have hkl := skip_le (s.length + 1) s
   generalize skipF (s.length + 1) s = k at *
   split at h
   · cases h
   rename_i h1
   have h1 : k.2 = 0 := by simpa using h1
   have hsk := hsk k.1 ((s ++ 10 :: t).length + 1) (by rw [← h1]) (by omega) (by rw [List.length_append,List.length_cons]; omega)
   rw [scan_step,hsk,if_neg (by simp)]
   simp only
   rw [cat_drop _ hkl]
   split at h
   · rename_i h2
     injection h with h
     subst h
     have hk : k.1 = s.length := by
       have := List.drop_eq_nil_iff.1 h2
       omega
     refine ⟨[],m,by rw [hk]; rfl,by omega,?_⟩
     rw [h2,if_neg (by simp),show oneM ([] ++ 10 :: t) = (⟨5,[10],0⟩,1,0) from rfl,if_neg (by simp),hk]
     simp only [List.length_nil,Nat.add_zero,List.nil_append,List.drop_succ_cons,List.drop_zero]
   rename_i h2
   rw [if_neg (by intro e; exact h2 (List.append_eq_nil_iff.1 e).1)]
   have hok := @one_ok (s.drop k.1)
   have hone : ∀ tk q,oneM (s.drop k.1) = (tk,q,0) → oneM (s.drop k.1 ++ 10 :: t) = (tk,q,0) := by
     cases hd : s.drop k.1 with
     | nil => exact absurd hd h2
     | cons c r => exact fun tk q => one_cat
   generalize oneM (s.drop k.1) = o at *
   split at h
   · cases h
   rename_i h3
   have h3 : o.2.2 = 0 := by simpa using h3
   obtain ⟨o1,o2,_⟩ := hok (t := o.1) (k := o.2.1) h2 (by rw [← h3])
   rw [hone o.1 o.2.1 (by rw [← h3]),if_neg (by simp)]
   rw [cat_drop _ o2]
   rw [List.length_drop] at o2
   split at h
   · cases h
   rename_i h4
   cases hr : scanF n ((s.drop k.1).drop o.2.1) (at_ + k.1 + o.2.1) (cnt + 1) with
   | bad x y => rw [hr] at h; cases h
   | ok l2 =>
     rw [hr] at h
     injection h with h
     subst h
     obtain ⟨ini,m',e1,e2,e3⟩ := scan_cat t n _ _ _ _ hr m (by rw [List.length_drop,List.length_drop]; omega) (by omega)
     have el : at_ + k.1 + o.2.1 + ((s.drop k.1).drop o.2.1).length = at_ + s.length := by rw [List.length_drop,List.length_drop]; omega
     rw [el] at e1 e3
     refine ⟨⟨o.1.k,o.1.t,((at_ + k.1 : Nat) : Int)⟩ :: ini,m',by rw [e1]; rfl,e2,?_⟩
     rw [if_neg h4,e3]
     simp only [List.length_cons]
     rw [show cnt + 1 + ini.length = cnt + (ini.length + 1) by omega]
     by_cases h5 : cnt + (ini.length + 1) = 4096
     · rw [if_pos h5,if_pos h5]
     · rw [if_neg h5,if_neg h5]
       cases scanF m' t (at_ + s.length + 1) (cnt + (ini.length + 1) + 1) <;> rfl
theorem badF_of : ∀ {t : Str},Utf t → ∀ {s : Str} {n i : Nat},s.drop i = t → badF n s i = none := by
 intro t h
 induction h with
 | nil =>
   intro s n i hs
   have hl := List.drop_eq_nil_iff.1 hs
   cases n with
   | zero => rfl
   | succ n => rw [badF,if_pos hl]
 | @cons u r hu hr ih =>
   intro s n i hs
   have hat := hu.at hs
   have hp := hu.pos
   cases n with
   | zero => rfl
   | succ n =>
     rw [badF]
     split
     · rfl
     · rw [if_neg (by omega)]
       refine ih ?_
       rw [show stepM s i = u.length by unfold stepM; omega]
       exact drop_app hs
theorem utf_scan {s : Str} {l : List Tok} (h : scanM s = .ok l) : Utf s := by
 unfold scanM at h
 split at h
 · cases h
 cases hb : badF (s.length + 1) s 0 with
 | some i => rw [hb] at h; cases h
 | none =>
   have := badF_utf (s := s) (s.length + 1) 0 (by omega) hb
   rwa [List.drop_zero] at this
theorem scan_join {a b : Str} {la lb : List Tok} (ha : scanM a = .ok la) (hb : scanM b = .ok lb) (hl : a.length + b.length + 1 ≤ 16384) :
   (∃ p,scanM (a ++ 10 :: b) = .bad 3 p) ∨ ∃ ini,la = ini ++ [⟨0,[],(a.length : Nat)⟩] ∧ scanM (a ++ 10 :: b) = .ok (ini ++ ⟨5,[10],(a.length : Nat)⟩ :: lb.map (mvT 0 (a.length + 1))) := by
 have ua := utf_scan ha
 have ub := utf_scan hb
 have u10 : Utf (10 :: b) := by
   have h1 : Rn [10] := ⟨by decide,by decide⟩
   exact Utf.cons h1 ub
 have uj := badF_of (ua.app u10) (s := a ++ 10 :: b) (n := (a ++ 10 :: b).length + 1) (i := 0) (by rw [List.drop_zero])
 have ba := badF_of ua (s := a) (n := a.length + 1) (i := 0) (by rw [List.drop_zero])
 have bb := badF_of ub (s := b) (n := b.length + 1) (i := 0) (by rw [List.drop_zero])
 unfold scanM at ha hb ⊢
 rw [if_neg (by omega),ba] at ha
 rw [if_neg (by omega),bb] at hb
 rw [if_neg (by rw [List.length_append,List.length_cons]; omega),uj]
 simp only at ha hb ⊢
 obtain ⟨ini,m',e1,e2,e3⟩ := scan_cat b (a.length + 1) a 0 0 la ha ((a ++ 10 :: b).length + 1) (by rw [List.length_append,List.length_cons]; omega) (by omega)
 simp only [Nat.zero_add] at e1 e3
 rw [e3]
 by_cases h5 : ini.length = 4096
 · rw [if_pos h5]; exact .inl ⟨_,rfl⟩
 rw [if_neg h5]
 rcases Nat.lt_or_ge 4096 (ini.length + 1) with h | h
 · have := scanF_few _ _ _ _ _ (by omega) ha
   rw [e1,List.length_append,List.length_cons,List.length_nil] at this
   omega
 obtain ⟨_,g1,g2⟩ := scan_mv (b.length + 1) b 0 0 lb hb m' (a.length + 1) (ini.length + 1) e2 (by omega)
 rcases Nat.lt_or_ge 4097 (ini.length + 1 + lb.length) with h | h
 · obtain ⟨p,hp⟩ := g2 h
   rw [hp]; exact .inl ⟨p,rfl⟩
 · rw [g1 h]
   exact .inr ⟨ini,e1,rfl⟩
end Go.Proofs.YtofhaneggcpdaaaDoor
namespace Go.Proofs.YtofhaneggcpdaaaDoor
open Go Go.Eng Go.Lex Go.Syn
theorem run_on : ∀ (u : List Tok) (e t : Tok) (r : List Tok),e.k = 0 → t.k = 5 → lineRun (u ++ [e]) = u.length → lineRun (u ++ t :: r) = u.length + 1 + lineRun r
 | [],e,t,r,h,h5,_ => by
   rw [List.nil_append]
   simp only [lineRun,List.length_nil]
   rw [if_pos h5]; omega
 | v :: u,e,t,r,h,h5,hl => by
   rw [List.cons_append] at hl ⊢
   simp only [lineRun,List.length_cons] at hl ⊢
   by_cases hv : v.k = 5
   · rw [if_pos hv] at hl ⊢
     rw [run_on u e t r h h5 (by omega)]; omega
   · rw [if_neg hv] at hl; omega
theorem mvE_id (l : List Ex) : l.map (mvE 0 0) = l := by
 refine (List.map_congr_left fun e _ => ?_).trans (List.map_id l)
 obtain ⟨k,t,a,ks,p⟩ := e
 show (⟨k,t,a.map (· + 0),ks,p + 0⟩ : Ex) = ⟨k,t,a,ks,p⟩
 rw [show a.map (· + 0) = a from (List.map_id' a),Int.add_zero]
theorem mvA_id (l : List Atr) : l.map (mvA 0 0) = l := by
 refine (List.map_congr_left fun e _ => ?_).trans (List.map_id l)
 obtain ⟨n,e,p⟩ := e
 show (⟨n,e + 0,p + 0⟩ : Atr) = ⟨n,e,p⟩
 rw [Int.add_zero,Nat.add_zero]
theorem mvB_id (l : List Blk) : l.map (mvB 0 0 0) = l := by
 refine (List.map_congr_left fun e _ => ?_).trans (List.map_id l)
 obtain ⟨t,ls,us,bs,p⟩ := e
 show (⟨t,ls,us.map (mvA 0 0),bs.map (· + 0),p + 0⟩ : Blk) = ⟨t,ls,us,bs,p⟩
 rw [mvA_id,show bs.map (· + 0) = bs from (List.map_id' bs),Int.add_zero]
theorem join_plain {a b : Str} {x y : Fl} (ha : parseM a = .ok x) (hb : parseM b = .ok y) (hl : a.length + b.length + 1 ≤ 16384) :
   (∃ p,parseM (a ++ 10 :: b) = .bad 3 p) ∨ parseM (a ++ 10 :: b) = .ok ⟨x.ex ++ y.ex.map (mvE x.ex.length (a.length + 1 : Nat)),x.bl ++ y.bl.map (mvB x.ex.length x.bl.length (a.length + 1 : Nat)),x.top ++ y.top.map (· + x.bl.length)⟩ := by
 unfold parseM at ha hb
 cases hsa : scanM a with
 | bad c p => rw [hsa] at ha; cases ha
 | ok la =>
 cases hsb : scanM b with
 | bad c p => rw [hsb] at hb; cases hb
 | ok lb =>
 rw [hsa] at ha
 rw [hsb] at hb
 simp only at ha hb
 rcases scan_join hsa hsb hl with ⟨p,hp⟩ | ⟨ini,e1,e2⟩
 · exact .inl ⟨p,by unfold parseM; rw [hp]⟩
 right
 cases hra : topF (la.length + 1) (linesS ⟨la,0,0,0,false,[],[]⟩) [] with
 | err c p => rw [hra] at ha; cases ha
 | ok ta sa =>
 cases hrb : topF (lb.length + 1) (linesS ⟨lb,0,0,0,false,[],[]⟩) [] with
 | err c p => rw [hrb] at hb; cases hb
 | ok tb sb =>
 rw [hra] at ha
 rw [hrb] at hb
 injection ha with ha
 injection hb with hb
 subst ha
 subst hb
 generalize hL : ini ++ ⟨5,[10],(a.length : Nat)⟩ :: lb.map (mvT 0 (a.length + 1)) = L at e2
 have hll : L.length = ini.length + 1 + lb.length := by rw [← hL]; simp; omega
 have hlla : la.length = ini.length + 1 := by rw [e1]; simp
 have wsa : WS (a.length : Nat) ⟨la,0,0,0,false,[],[]⟩ := by
   have htg := scan_tg (N := (a.length : Nat)) (off := 0) hsa (Int.le_refl _) (by omega)
   exact ⟨htg,List.length_pos_iff.2 htg.ne,by omega⟩
 have wsb : WS (b.length : Nat) ⟨lb,0,0,0,false,[],[]⟩ := by
   have htg := scan_tg (N := (b.length : Nat)) (off := 0) hsb (Int.le_refl _) (by omega)
   exact ⟨htg,List.length_pos_iff.2 htg.ne,by omega⟩
 have wsL : WS ((a ++ 10 :: b).length : Nat) ⟨L,0,0,0,false,[],[]⟩ := by
   have htg := scan_tg (N := ((a ++ 10 :: b).length : Nat)) (off := 0) e2 (Int.le_refl _) (by omega)
   exact ⟨htg,List.length_pos_iff.2 htg.ne,by omega⟩
 have ka : ∀ t ∈ ini,t.k ≠ 0 := by
   obtain ⟨ini',p,g1,g2⟩ := scanM_kinds hsa
   have := (List.append_inj' (e1.symm.trans g1) rfl).1
   rw [this]; exact g2
 have atI : ∀ (j : Nat),j < ini.length → la[j]? = ini[j]? ∧ L[j]? = ini[j]? := fun j hj => by
   rw [e1,← hL,List.getElem?_append_left hj,List.getElem?_append_left hj]; exact ⟨rfl,rfl⟩
 have atE : la[ini.length]? = some ⟨0,[],(a.length : Nat)⟩ ∧ L[ini.length]? = some ⟨5,[10],(a.length : Nat)⟩ := by
   rw [e1,← hL,List.getElem?_append_right (Nat.le_refl _),List.getElem?_append_right (Nat.le_refl _),Nat.sub_self]; exact ⟨rfl,rfl⟩
 have t1 : TR false 0 ini.length 0 la L := by
   refine ⟨hlla,by rw [hll]; omega,fun j t hj ht => ?_,fun t ht => ?_,(fun h => by cases h),fun _ t ht => ?_⟩
   · rw [(atI j hj).1] at ht
     exact ⟨ka t (List.mem_of_getElem? ht),t,by rw [Nat.add_zero,(atI j hj).2]; exact ht,rfl,rfl,(Int.add_zero _).symm⟩
   · rw [atE.1] at ht; injection ht with ht; rw [← ht]
   · rw [Nat.add_zero,atE.2] at ht; injection ht with ht; rw [← ht]
 have j1 : JR 0 false 0 [] [] ⟨la,0,0,0,false,[],[]⟩ ⟨L,0,0,0,false,[],[]⟩ :=
   ⟨⟨0,ini.length,0,t1,rfl,Nat.zero_le _,rfl⟩,rfl,rfl,rfl,rfl,by show la.length ≤ L.length; rw [hll,hlla]; omega,rfl⟩
 obtain ⟨z,z2,m',⟨q1,q2,q3,q4,q5,q6⟩,r1,r2,r3,r4,r5,r6⟩ := top_pre (la.length + 1) (L.length + 1) _ _ [] (by rw [hll,hlla]; omega) j1 wsa wsL rfl ta sa hra
 have q1 : z.toks = la := q1
 have q2 : z2.toks = L := q2
 have q3 : z2.off = 0 := q3
 have q4 : z.quiet = false := q4
 have q6 : z2.deep = 0 := q6
 have n1 : nowS z = z := by unfold nowS; rw [if_neg (by rw [q4]; decide)]
 have n2 : nowS z2 = z2 := by unfold nowS; rw [if_neg (by rw [r1.quiet,q4]; decide)]
 obtain ⟨o,E,d,u1,u2,u3,u4⟩ := r1.tr
 have hE : E = ini.length := by have := u1.len; rw [q1] at this; omega
 subst hE
 have hio := r1.io
 have hzr := u1.run (ini.length - z.i) z.i (by omega)
 have hzi : z.i + lineRun (la.drop z.i) = ini.length := by
   have hle := hzr.1
   rw [q1] at hle
   by_cases hlt : z.i + lineRun (la.drop z.i) < ini.length
   · exfalso
     have e : tokI (nowS (linesS z)) = ini[z.i + lineRun (la.drop z.i)] := by
       have e3 : nowS (linesS z) = linesS z := by unfold nowS; rw [if_neg (by rw [lines_q,q4]; decide)]
       rw [e3]
       unfold linesS tokI
       rw [n1]
       show (z.toks.getD (z.i + lineRun (z.toks.drop z.i)) _) = _
       rw [q1]
       rw [List.getD_eq_getElem?_getD,(atI _ hlt).1,List.getElem?_eq_getElem hlt]; rfl
     have : (tokI (nowS (linesS z))).k = 0 := r2
     rw [e] at this
     exact ka _ (List.getElem_mem hlt) this
   · omega
 have hz2 : z2.i = z.i := by omega
 have hrun : lineRun (L.drop z.i) = (ini.length - z.i) + 1 + lineRun (L.drop (ini.length + 1)) := by
   have h1 : L.drop z.i = ini.drop z.i ++ ⟨5,[10],(a.length : Nat)⟩ :: lb.map (mvT 0 (a.length + 1)) := by
     rw [← hL,List.drop_append_of_le_length u3]
   have h2 : la.drop z.i = ini.drop z.i ++ [⟨0,[],(a.length : Nat)⟩] := by
     rw [e1,List.drop_append_of_le_length u3]
   have h3 : L.drop (ini.length + 1) = lb.map (mvT 0 (a.length + 1)) := by
     rw [← hL,List.drop_append,List.drop_eq_nil_of_le (by omega),List.nil_append,show ini.length + 1 - ini.length = 0 + 1 by omega,List.drop_succ_cons,List.drop_zero]
   rw [h1,h3,run_on _ ⟨0,[],(a.length : Nat)⟩ _ _ rfl rfl (by rw [← h2,List.length_drop]; omega),List.length_drop]
 have hlz : linesS z2 = linesS { z2 with i := ini.length + 1 } := by
   have n3 : nowS { z2 with i := ini.length + 1 } = { z2 with i := ini.length + 1 } := by
     unfold nowS; rw [if_neg (by show ¬ z2.quiet = true; rw [r1.quiet,q4]; decide)]
   unfold linesS
   rw [n2,n3]
   show ({ z2 with i := z2.i + lineRun (z2.toks.drop z2.i) } : PS) = { z2 with i := ini.length + 1 + lineRun (z2.toks.drop (ini.length + 1)) }
   rw [q2,hz2,hrun,show z.i + (ini.length - z.i + 1 + lineRun (L.drop (ini.length + 1))) = ini.length + 1 + lineRun (L.drop (ini.length + 1)) by omega]
 obtain ⟨inb,p,f1,f2⟩ := scanM_kinds hsb
 have hllb : lb.length = inb.length + 1 := by rw [f1]; simp
 have atL : ∀ (j : Nat) (t : Tok),lb[j]? = some t → L[j + (ini.length + 1)]? = some (mvT 0 (a.length + 1) t) := fun j t ht => by
   rw [← hL,List.getElem?_append_right (by omega),show j + (ini.length + 1) - ini.length = j + 1 by omega,List.getElem?_cons_succ,List.getElem?_map,ht]; rfl
 have mv : ∀ t : Tok,(mvT 0 (a.length + 1) t).k = t.k ∧ (mvT 0 (a.length + 1) t).t = t.t ∧ (mvT 0 (a.length + 1) t).a = t.a + (a.length + 1 : Nat) := fun t => ⟨rfl,rfl,by simp only [mvT]; omega⟩
 have t2 : TR true (ini.length + 1) inb.length (a.length + 1 : Nat) lb L := by
   refine ⟨hllb,by rw [hll]; omega,fun j t hj ht => ?_,fun t ht => ?_,fun _ t ht => ⟨_,?_,mv t⟩,(fun h => by cases h)⟩
   · refine ⟨?_,_,atL j t ht,mv t⟩
     rw [f1,List.getElem?_append_left hj] at ht
     exact f2 t (List.mem_of_getElem? ht)
   · rw [f1,List.getElem?_append_right (Nat.le_refl _),Nat.sub_self] at ht
     injection ht with ht; rw [← ht]
   · rw [atL _ t ht]
 have j2 : JR (ini.length + 1) true (a.length + 1 : Nat) sa.ex sa.bl ⟨lb,0,0,0,false,[],[]⟩ { z2 with i := ini.length + 1 } := by
   refine ⟨⟨ini.length + 1,inb.length,(a.length + 1 : Nat),?_,?_,Nat.zero_le _,?_⟩,?_,?_,?_,?_,?_,?_⟩
   · show TR _ _ _ _ lb z2.toks
     rw [q2]; exact t2
   · show ini.length + 1 = 0 + (ini.length + 1)
     omega
   · show ((a.length + 1 : Nat) : Int) + z2.off = _ + 0
     rw [q3]
   · show z2.deep = 0
     exact q6
   · show z2.quiet = false
     rw [r1.quiet,q4]
   · show z2.ex = sa.ex ++ [].map _
     rw [r1.ex,r3,List.map_nil,List.append_nil]; exact mvE_id _
   · show z2.bl = sa.bl ++ [].map _
     rw [r1.bl,r4,List.map_nil,List.append_nil]; exact mvB_id _
   · show lb.length ≤ z2.toks.length
     rw [q2]
     show lb.length ≤ L.length
     omega
   · show ini.length + 1 = 0 + (ini.length + 1)
     omega
 rcases j2.lines with ⟨hh,_⟩ | j3
 · cases hh
 have lg := lines_go wsb
 obtain ⟨s2',g1,g2⟩ := top_sim (N := (b.length : Nat)) ta (lb.length + 1) m' _ _ [] (by omega) j3 (lg.1.ws wsb) ((lines_q _).trans rfl) tb sb hrb
 unfold parseM
 rw [e2]
 simp only
 have hf : topF (L.length + 1) (linesS ⟨L,0,0,0,false,[],[]⟩) [] = .ok (ta ++ tb.map (· + sa.bl.length)) s2' := by
   refine (show _ = _ from r6).trans ?_
   rw [hlz]
   rw [List.map_nil,List.append_nil] at g1
   rw [← g1]
   congr 1
   exact List.map_id' ta
 rw [hf]
 simp only [PR.ok.injEq,Fl.mk.injEq,and_true]
 exact ⟨g2.ex,g2.bl⟩
end Go.Proofs.YtofhaneggcpdaaaDoor
