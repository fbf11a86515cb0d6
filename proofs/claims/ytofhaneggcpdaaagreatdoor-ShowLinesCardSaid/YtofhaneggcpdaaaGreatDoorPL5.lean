/- One plain sentence: weakest preconditions, contracts and plain laws that the claim rests on, text behind text. Conditions: those that each states. -/
import Derived.Test.YtofhaneggcpdaaaGreatDoorPL4
import Derived.ChangeKeysEq
import Derived.Laws.StructEq
import Derived.Test.YtofhaneggcpdaaaGreatDoorRows
import Derived.Below
import Derived.RowKit
import Derived.ChangeMaps5
import Derived.MakeChecks
import Derived.Lib.LaidTab
import Derived.Lib.LaidU8
import Derived.SizedLaws
import Derived.Shelf.Vars
set_option linter.all false
set_option linter.unusedSimpArgs false
set_option linter.unusedVariables false
set_option linter.unusedSectionVars false
namespace Go.Proofs.YtofhaneggcpdaaaGreatDoor
open Go Go.Eng Go.RowKit Go.Lex Go.Syn
set_option maxRecDepth 100000
theorem two_sum : ∀ {l : List Nat} {i j a b : Nat},l[i]? = some a → l[j]? = some b → i ≠ j → a + b ≤ sumN l
 | [],_,_,_,_,h,_,_ => by simp at h
 | x :: l,0,0,_,_,_,_,h => absurd rfl h
 | x :: l,0,j + 1,a,b,h1,h2,_ => by
   injection h1 with h1
   rw [List.getElem?_cons_succ] at h2
   have := sumN_mem (List.mem_of_getElem? h2)
   rw [sumN_cons]; omega
 | x :: l,i + 1,0,a,b,h1,h2,_ => by
   injection h2 with h2
   rw [List.getElem?_cons_succ] at h1
   have := sumN_mem (List.mem_of_getElem? h1)
   rw [sumN_cons]; omega
 | x :: l,i + 1,j + 1,a,b,h1,h2,h => by
   rw [List.getElem?_cons_succ] at h1 h2
   have := two_sum h1 h2 (by omega)
   rw [sumN_cons]; omega
theorem count_flatten (k : Nat) (L : List (List Nat)) : L.flatten.count k = sumN (L.map fun us => us.count k) := by
 induction L with
 | nil => rfl
 | cons x L ih => rw [List.flatten_cons,List.count_append,ih,List.map_cons,sumN_cons]
theorem forest_apart {L : List (List Nat)} {r : List Nat} (h : Forest L r) {i : Nat} {us : List Nat} {k : Nat} (hi : L[i]? = some us) (hk : k ∈ us) : k ∉ r ∧ ∀ j vs,L[j]? = some vs → j ≠ i → k ∉ vs := by
 have hlt := h.flat_lt k (List.mem_flatten.2 ⟨us,List.mem_of_getElem? hi,hk⟩)
 have ho := h.once k hlt
 rw [count_flatten] at ho
 have h1 : (L.map fun us => us.count k)[i]? = some (us.count k) := by rw [List.getElem?_map,hi]; rfl
 have h2 := List.count_pos_iff.2 hk
 have h3 := sumN_mem (List.mem_of_getElem? h1)
 refine ⟨fun hr => ?_,fun j vs hj hne hv => ?_⟩
 · have := List.count_pos_iff.2 hr; omega
 · have h4 : (L.map fun us => us.count k)[j]? = some (vs.count k) := by rw [List.getElem?_map,hj]; rfl
   have h5 := two_sum h1 h4 (fun e => hne e.symm)
   have h6 := List.count_pos_iff.2 hv
   omega
def i64s (D : List Int) : List Value := D.map i64
theorem i64s_get {D : List Int} {i : Nat} {x : Int} (h : D[i]? = some x) : (i64s D)[i]? = some (i64 x) := by unfold i64s; rw [List.getElem?_map,h]; rfl
structure Dp (f : Fl) (D : List Int) (i : Int) : Prop where
 len : D.length = f.bl.length
 root : ∀ r ∈ f.top,D[r]? = some 0
 kid : ∀ (j : Nat) (b : Blk),i < (j : Int) → f.bl[j]? = some b → ∀ k ∈ b.blocks,∃ x,D[j]? = some x ∧ D[k]? = some (x + 1)
 lo : ∀ x ∈ D,-1 ≤ x ∧ x ≤ (f.bl.length : Int) - 1 - i
theorem mem_set {D : List Int} {k : Nat} {v x : Int} (h : x ∈ D.set k v) : x ∈ D ∨ x = v := List.mem_or_eq_of_mem_set h
variable [HX]
theorem set_i {D : List Int} {a n x : Nat} {v : Int} {w : World} {K : World → Prop} (hD : w.heap[a]? = some (.cells (i64s D).toArray IntT (0,0))) (hn : D.length = n) (hx : x < n)
   (hK : ∀ w',w'.heap[a]? = some (.cells (i64s (D.set x v)).toArray IntT (0,0)) → Chg (One a) w w' → w'.heap.size = w.heap.size → K w') : ixaW none 1 (.slice (some ⟨a,0,none⟩) n n) (i64 (x : Nat)) fun t => stW 1 t (i64 v) w K := by
 rw [ixa_slice]
 refine ⟨by omega,by omega,?_⟩
 rw [add_mk,Int.toNat_natCast,Nat.mul_one,Nat.zero_add]
 refine st_at hD rfl (by simp [i64s]; omega) fun w' hz hb hc => hK w' ?_ hc hz
 rw [hb]
 simp [i64s,List.map_set]
theorem get_i {D : List Int} {a n x : Nat} {v : Int} {w : World} {K : Value → Prop} (hD : w.heap[a]? = some (.cells (i64s D).toArray IntT (0,0))) (hn : D.length = n) (hx : D[x]? = some v) (hK : K (i64 v)) : ixaW none 1 (.slice (some ⟨a,0,none⟩) n n) (i64 (x : Nat)) fun t => ldW false 1 t w K := by
 have hlt := (List.getElem?_eq_some_iff.1 hx).1
 rw [ixa_slice]
 refine ⟨by omega,by omega,?_⟩
 rw [add_mk,Int.toNat_natCast,Nat.mul_one,Nat.zero_add,ld_one]
 exact ⟨_,by rw [cell_eq,hD,cellO_some,List.getElem?_toArray]; exact i64s_get hx,hK⟩
theorem row_cell {w : World} {T : TypeId} {v : Value} {n i off : Nat} {cs d : List Value} {k : IntKind} {x : Value} {K : Value → Prop} (h : SlAt w T v n cs) (hl : cs.length = n * 5) (hi : i < n) (hd : (cs.drop (i * 5)).take 5 = d) (ho : off < 5) (hx : d[off]? = some x) (hK : K x) :
   ixaW none 5 v (.int k i) fun t => fldW off t fun t => ldW false 1 t w K := by
 refine ixa_at h hl (by omega) hi fun bb o c fr hbb hcs => ?_
 rw [fld_ptr,ld_one]
 have h0 := hcs off ho
 have h1 := row_get hd ho
 exact ⟨x,by rw [add_mk,cell_eq,hbb,cellO_some,h0,h1,hx],hK⟩
theorem depths_p {f : Fl} {M : Lay} {w : World} {K : Value → World → Prop} (hf : FV w M f) (hfb : Forest (blL f.bl) f.top) (few : f.bl.length ≤ 100000) (ft : f.top.length ≤ 100000) (fb : ∀ b ∈ f.bl,b.blocks.length ≤ 1000000)
   (hK : ∀ a D w',Dp f D (-1) → w'.heap[a]? = some (.cells (i64s D).toArray IntT (0,0)) → w.heap.size ≤ a → Ext w w' → K (.slice (some ⟨a,0,none⟩) f.bl.length f.bl.length) w') : callF Tryz.prog 15 [.agg [M.vE,M.vB,M.vT].toArray] w K := by
 refine W15_ok ?_
 unfold W15
 refine box_new (z := [M.vE,M.vB,M.vT]) fun p w1 hp hz1 hb1 hx1 => ?_
 have hf1 := hf.ext hx1
 refine fld5 (off := 1) hb1 rfl ?_
 rw [lenl_at hf1.oB]
 refine make_i (by omega) fun a w2 ha hz2 hb2 hx2 => ?_
 have hlen : lenlW (.slice (some ⟨a,0,none⟩) f.bl.length f.bl.length) = fun (K : Value → Prop) => K (i64 (f.bl.length : Nat)) := rfl
 rw [hlen]
 simp only
 have hb2 : w2.heap[a]? = some (.cells (i64s (List.replicate f.bl.length 0)).toArray IntT (0,0)) := by rw [hb2]; simp [i64s,ints]
 refine LoopW.go (fun st w' => ∃ (i : Nat) (D : List Int),st = [i64 (i : Nat)] ∧ i ≤ f.bl.length ∧ D.length = f.bl.length ∧ (∀ x ∈ D,-1 ≤ x ∧ x ≤ 0) ∧ w'.heap[a]? = some (.cells (i64s D).toArray IntT (0,0)) ∧ Ext w1 w') (fun st _ => match st with | [.int _ i] => f.bl.length - i.toNat | _ => 0) ⟨0,_,rfl,by omega,by simp,fun x hx => by have := (List.mem_replicate.1 hx).2; omega,hb2,hx2⟩ ?_
 clear hb2
 rintro st g w4 ⟨i,D,rfl,hi,hD,hv,hb4,hx4⟩
 simp only [List.getD_cons_zero]
 rw [bin_lss,condW_dec]
 refine ⟨fun hlt => ?_,fun hge => ?_⟩
 · have hlt : i < f.bl.length := by omega
   refine set_i hb4 hD hlt fun w5 hb5 hc5 hz5 => ?_
   rw [bin_add,upi (by omega)]
   refine ⟨⟨i + 1,_,rfl,by omega,by rw [List.length_set]; exact hD,fun x hx => ?_,hb5,hx4.new hc5 (by omega)⟩,?_⟩
   · rcases mem_set hx with h | rfl
     · exact hv x h
     · omega
   · simp only [Int.toNat_natCast]; omega
 clear hge hi
 refine fld5 (off := 2) (hx4.at hb1 id) rfl ?_
 rw [lenl_at (hf1.ext hx4).oT]
 refine LoopW.go (fun st w' => ∃ (i : Nat) (D : List Int),st = [i64 (i : Nat)] ∧ i ≤ f.top.length ∧ D.length = f.bl.length ∧ (∀ x ∈ D,-1 ≤ x ∧ x ≤ 0) ∧ (∀ r ∈ f.top.take i,D[r]? = some 0) ∧ w'.heap[a]? = some (.cells (i64s D).toArray IntT (0,0)) ∧ Ext w1 w') (fun st _ => match st with | [.int _ i] => f.top.length - i.toNat | _ => 0) ⟨0,D,rfl,by omega,hD,hv,(fun r hr => by rw [List.take_zero] at hr; cases hr),hb4,hx4⟩ ?_
 clear hb4 hx4 hv hD
 rintro st g w7 ⟨i,D,rfl,hi,hD,hv,hr,hb7,hx7⟩
 simp only [List.getD_cons_zero]
 rw [bin_lss,condW_dec]
 have lB : (blL f.bl).length = f.bl.length := by unfold blL; rw [List.length_map]
 refine ⟨fun hlt => ?_,fun hge => ?_⟩
 · have hlt : i < f.top.length := by omega
   have gi := List.getElem?_eq_getElem hlt
   have hq := hfb.low f.top[i] (List.getElem_mem hlt)
   rw [lB] at hq
   generalize f.top[i] = q at gi hq
   refine ixa_ld (hf1.ext hx7).oT (by simp [ints]) (int_get gi) ?_
   refine set_i hb7 hD hq fun w8 hb8 hc8 hz8 => ?_
   rw [bin_add,upi (by omega)]
   refine ⟨⟨i + 1,_,rfl,by omega,by rw [List.length_set]; exact hD,fun x hx => ?_,fun r hr2 => ?_,hb8,hx7.new hc8 (by omega)⟩,?_⟩
   · rcases mem_set hx with h | rfl
     · exact hv x h
     · omega
   · rw [List.getElem?_set]
     by_cases e : q = r
     · rw [if_pos e,if_pos (by omega)]
     · rw [if_neg e]
       rw [List.take_add_one,gi] at hr2
       rcases List.mem_append.1 hr2 with h | h
       · exact hr r h
       · simp only [Option.toList_some,List.mem_singleton] at h; exact absurd h.symm e
   · simp only [Int.toNat_natCast]; omega
 obtain rfl : i = f.top.length := by omega
 rw [List.take_length] at hr
 refine fld5 (off := 1) (hx7.at hb1 id) rfl ?_
 rw [lenl_at (hf1.ext hx7).oB,bin_sub,wrap_id (by omega) (by omega)]
 refine LoopW.go (fun st w' => ∃ (i : Int) (D : List Int),st = [i64 i] ∧ -1 ≤ i ∧ i < (f.bl.length : Int) ∧ Dp f D i ∧ w'.heap[a]? = some (.cells (i64s D).toArray IntT (0,0)) ∧ Ext w1 w') (fun st _ => match st with | [.int _ i] => (i + 1).toNat | _ => 0) ⟨(f.bl.length : Int) - 1,D,rfl,by omega,by omega,⟨hD,hr,fun j b hj hb => by have := (List.getElem?_eq_some_iff.1 hb).1; omega,fun x hx => by have := hv x hx; omega⟩,hb7,hx7⟩ ?_
 clear hb7 hx7 hv hD hr hge hi
 rintro st g w10 ⟨i,D,rfl,hi1,hi2,hDp,hb10,hx10⟩
 simp only [List.getD_cons_zero]
 rw [bin_geq,condW_dec]
 refine ⟨fun h0 => ?_,fun h0 => ?_⟩
 · obtain ⟨n,rfl⟩ : ∃ n : Nat,i = (n : Nat) := ⟨i.toNat,by omega⟩
   have hn : n < f.bl.length := by omega
   have ge := List.getElem?_eq_getElem hn
   generalize f.bl[n] = b at ge
   have hbm := List.mem_of_getElem? ge
   have hfb1 := fb b hbm
   have hgl : (blL f.bl)[n]? = some b.blocks := by unfold blL; rw [List.getElem?_map,ge]; rfl
   obtain ⟨vl,va,vb,erow,_,_,oB⟩ := hf1.bb.2 n b ge
   obtain ⟨di,hdi⟩ : ∃ di,D[n]? = some di := ⟨_,List.getElem?_eq_getElem (by rw [hDp.len]; exact hn)⟩
   have hdb := hDp.lo di (List.mem_of_getElem? hdi)
   refine fld5 (off := 1) (hx10.at hb1 id) rfl ?_
   refine row_cell (off := 3) (hf1.ext hx10).oB (hf1.ext hx10).bb.1 hn erow (by omega) rfl ?_
   rw [lenl_at (oB.ext hx10)]
   refine LoopW.go (fun st w' => ∃ (q : Nat) (D : List Int),st = [i64 (q : Nat)] ∧ q ≤ b.blocks.length ∧ D.length = f.bl.length ∧ (∀ r ∈ f.top,D[r]? = some 0) ∧ (∀ (j : Nat) (b : Blk),(n : Int) < (j : Int) → f.bl[j]? = some b → ∀ k ∈ b.blocks,∃ x,D[j]? = some x ∧ D[k]? = some (x + 1)) ∧
     (∀ x ∈ D,-1 ≤ x ∧ x ≤ (f.bl.length : Int) - 1 - n + 1) ∧ D[n]? = some di ∧ (∀ k ∈ b.blocks.take q,D[k]? = some (di + 1)) ∧ w'.heap[a]? = some (.cells (i64s D).toArray IntT (0,0)) ∧ Ext w1 w') (fun st _ => match st with | [.int _ q] => b.blocks.length - q.toNat | _ => 0)
     ⟨0,D,rfl,by omega,hDp.len,hDp.root,hDp.kid,fun x hx => by have := hDp.lo x hx; omega,hdi,(fun k hk => by rw [List.take_zero] at hk; cases hk),hb10,hx10⟩ ?_
   clear hb10 hx10 hDp hdi
   rintro st g2 w12 ⟨q,D,rfl,hq,hD,hr,hkid,hlo,hdi,hnew,hb12,hx12⟩
   simp only [List.getD_cons_zero]
   rw [bin_lss,condW_dec]
   refine ⟨fun hlt => ?_,fun hge => ?_⟩
   · have hlt : q < b.blocks.length := by omega
     have gk := List.getElem?_eq_getElem hlt
     have hkm := List.getElem_mem hlt
     have hka := hfb.ahead n b.blocks hgl b.blocks[q] hkm
     obtain ⟨ap1,ap2⟩ := forest_apart hfb hgl hkm
     generalize b.blocks[q] = k at gk hkm hka ap1 ap2
     refine ixa_ld (oB.ext hx12) (by simp [ints]) (int_get gk) ?_
     refine get_i hb12 hD hdi ?_
     rw [bin_add,wrap_id (by omega) (by omega)]
     refine set_i hb12 hD (by omega) fun w13 hb13 hc13 hz13 => ?_
     rw [bin_add,upi (by omega)]
     have same : ∀ j : Nat,j ≠ k → (D.set k (di + 1))[j]? = D[j]? := fun j hj => List.getElem?_set_ne (fun e => hj e.symm)
     refine ⟨⟨q + 1,_,rfl,by omega,by rw [List.length_set]; exact hD,fun r hr2 => ?_,fun j b' hj hb' k' hk' => ?_,fun x hx => ?_,?_,fun k' hk' => ?_,hb13,hx12.new hc13 (by omega)⟩,?_⟩
     · rw [same r (fun e => ap1 (e ▸ hr2))]; exact hr r hr2
     · obtain ⟨x,h1,h2⟩ := hkid j b' hj hb' k' hk'
       have hb2 : (blL f.bl)[j]? = some b'.blocks := by unfold blL; rw [List.getElem?_map,hb']; rfl
       refine ⟨x,by rw [same j (by omega)]; exact h1,?_⟩
       rw [same k' (fun e => ap2 j b'.blocks hb2 (by omega) (e ▸ hk'))]; exact h2
     · rcases mem_set hx with h | rfl
       · exact hlo x h
       · omega
     · rw [same n (by omega)]; exact hdi
     · rw [List.getElem?_set]
       by_cases e : k = k'
       · rw [if_pos e,if_pos (by omega)]
       · rw [if_neg e]
         rw [List.take_add_one,gk] at hk'
         rcases List.mem_append.1 hk' with h | h
         · exact hnew k' h
         · simp only [Option.toList_some,List.mem_singleton] at h; exact absurd h.symm e
     · simp only [Int.toNat_natCast]; omega
   · obtain rfl : q = b.blocks.length := by omega
     rw [List.take_length] at hnew
     rw [bin_sub,wrap_id (by omega) (by omega)]
     refine ⟨⟨(n : Int) - 1,D,rfl,by omega,by omega,⟨hD,hr,fun j b' hj hb' k' hk' => ?_,fun x hx => by have := hlo x hx; omega⟩,hb12,hx12⟩,?_⟩
     · by_cases e : j = n
       · subst e
         rw [ge] at hb'
         injection hb' with hb'
         subst hb'
         exact ⟨di,hdi,hnew k' hk'⟩
       · exact hkid j b' (by omega) hb' k' hk'
     · simp only; omega
 · obtain rfl : i = -1 := by omega
   exact hK a D w10 hDp hb10 (by omega) (hx1.trans hx10)
end Go.Proofs.YtofhaneggcpdaaaGreatDoor
namespace Go.Proofs.YtofhaneggcpdaaaGreatDoor
open Go Go.Eng Go.RowKit Go.Lex Go.Syn
set_option maxRecDepth 100000
def arrV (F : Nat → Nat) : List Value := (List.range 30).map fun k => i64 (F k : Nat)
theorem arr_len (F : Nat → Nat) : (arrV F).length = 30 := by simp [arrV]
theorem arr_get {F : Nat → Nat} {n : Nat} (h : n < 30) : (arrV F)[n]? = some (i64 (F n : Nat)) := by
 unfold arrV
 rw [List.getElem?_map,List.getElem?_range h]; rfl
theorem arr_set {F : Nat → Nat} {n c : Nat} (h : n < 30) : (arrV F).set n (i64 ((F n + c : Nat) : Int)) = arrV fun k => F k + if k = n then c else 0 := by
 apply List.ext_getElem?
 intro k
 rw [List.getElem?_set,arr_len]
 by_cases hk : k < 30
 · rw [arr_get (F := fun k => F k + if k = n then c else 0) hk]
   by_cases e : n = k
   · subst e
     rw [if_pos rfl,if_pos h]; simp
   · rw [if_neg e,arr_get hk,if_neg (fun e2 => e e2.symm),Nat.add_zero]
 · rw [if_neg (by omega),List.getElem?_eq_none (by rw [arr_len]; omega),List.getElem?_eq_none (by rw [arr_len]; omega)]
theorem arr_zero : arrV (fun _ => 0) = List.replicate 30 (i64 0) := rfl
abbrev A30 : TypeId := 52
theorem items_same (d : Nat) (xs : Array Value) (w : World) : ∀ is : List Nat,(∀ i ∈ is,∃ n : Int,xs[i]? = some (i64 n)) → (Op.eqItems (d + 1) IntT 1 xs xs is).run Tryz.prog w = .ok true w
 | [],_ => by simp [Op.eqItems]
 | i :: is,h => by
   obtain ⟨n,hn⟩ := h i (by simp)
   have hp : (part IntT xs (i * 1)).run Tryz.prog w = .ok (i64 n) w := run_part_plain w (by kernel_rfl) (by rw [Nat.mul_one]; exact hn)
   have he : (Op.equalIn (d + 1) IntT (i64 n) (i64 n)).run Tryz.prog w = .ok (n == n) w := run_equalIn_int w d IntT .i64 .i64 n n (by kernel_rfl)
   have ih := items_same d xs w is fun j hj => h j (List.mem_cons_of_mem _ hj)
   simp only [Op.eqItems,Sem.run_bind,hp,he,Result.andThen_ok]
   simpa using ih
theorem eq30 {F : Nat → Nat} {w : World} {K : Value → Prop} (hK : K (.bool true)) : eqQ Tryz.prog .eql A30 false false (.agg (arrV F).toArray) (.agg (arrV F).toArray) w K := by
 have h1 : (eqGuard .eql A30 (stand false) (stand false) (.agg (arrV F).toArray) (.agg (arrV F).toArray)).run Tryz.prog w = .ok () w := run_eqGuard_agg w .eql A30 _ _ _ _ (by kernel_rfl)
 have hi : ∃ i,Tryz.prog.info? IntT = some i := ⟨_,el_int.get.choose_spec.choose_spec.1⟩
 obtain ⟨i,hi⟩ := hi
 have hc : Tryz.prog.cellsOf IntT = 1 := by kernel_rfl
 have h2 : (Op.equalIn 10000 A30 (.agg (arrV F).toArray) (.agg (arrV F).toArray)).run Tryz.prog w = .ok true w := by
   have := run_equalIn_array (P := Tryz.prog) w 9999 (t := A30) (e := IntT) (n := 30) (arrV F).toArray (arrV F).toArray (by kernel_rfl) hi
   rw [this,hc]
   exact items_same 9998 _ w _ fun j hj => ⟨(F j : Nat),by rw [List.getElem?_toArray]; exact arr_get (List.mem_range.1 hj)⟩
 have h3 : (binOp .eql A30 (.agg (arrV F).toArray) (.agg (arrV F).toArray)).run Tryz.prog w = .ok (.bool true) w := by
   rw [run_eql_struct,h2]; rfl
 have hr : (do eqGuard .eql A30 (stand false) (stand false) (.agg (arrV F).toArray) (.agg (arrV F).toArray); binOp .eql A30 (.agg (arrV F).toArray) (.agg (arrV F).toArray) : Sem Value).run Tryz.prog w = .ok (.bool true) w := by
   simp only [Sem.run_bind,h1,Result.andThen_ok,h3]
 unfold eqQ semQ
 exact ⟨_,hr,hK⟩
theorem in_get {k p : Nat} (h : p < 2 * k) : (inM k)[p]? = some 32 := by
 have hl := in_len k
 have hall : ∀ c ∈ inM k,c = 32 := by
   unfold inM
   intro c hc
   obtain ⟨s,hs,hc⟩ := List.mem_flatten.1 hc
   rw [(List.mem_replicate.1 hs).2] at hc
   simpa using hc
 have hlt : p < (inM k).length := by omega
 rw [List.getElem?_eq_getElem hlt,hall _ (List.getElem_mem hlt)]
theorem ln_at {k p : Nat} {a : Str} (h : Ln k a) (hp : p < a.length) : ∃ x,a[p]? = some x ∧ ((p < 2 * k ∧ x = 32 ∧ p + 1 < a.length) ∨ (p = 2 * k ∧ x ≠ 32 ∧ x ≠ 10 ∧ p + 1 < a.length) ∨ (2 * k < p ∧ x ≠ 10 ∧ p + 1 < a.length) ∨ (2 * k < p ∧ x = 10 ∧ p + 1 = a.length)) := by
 obtain ⟨c,r,rfl,h1,h2,h3⟩ := h
 have hl := in_len k
 have hal : (inM k ++ c :: (r ++ [10])).length = 2 * k + r.length + 2 := by simp [hl]; omega
 by_cases g1 : p < 2 * k
 · exact ⟨32,by rw [List.getElem?_append_left (by omega)]; exact in_get g1,.inl ⟨g1,rfl,by omega⟩⟩
 rw [List.getElem?_append_right (by omega),hl]
 by_cases g2 : p = 2 * k
 · exact ⟨c,by rw [g2,Nat.sub_self]; rfl,.inr (.inl ⟨g2,h1,h2,by omega⟩)⟩
 obtain ⟨q,hq⟩ : ∃ q,p - 2 * k = q + 1 := ⟨p - 2 * k - 1,by omega⟩
 rw [hq,List.getElem?_cons_succ]
 by_cases g3 : q < r.length
 · rw [List.getElem?_append_left g3,List.getElem?_eq_getElem g3]
   exact ⟨_,rfl,.inr (.inr (.inl ⟨by omega,h3 _ (List.getElem_mem g3),by omega⟩))⟩
 · have : q = r.length := by omega
   rw [List.getElem?_append_right (by omega),this,Nat.sub_self]
   exact ⟨10,rfl,.inr (.inr (.inr ⟨by omega,rfl,by omega⟩))⟩
theorem lb_le {f : Fl} (hA : AhB f) : ∀ (d i n : Nat),HB d f.bl i → ∀ k ∈ LB f i n,k ≤ n + d
 | 0,_,_,h,_,_ => h.elim
 | d + 1,i,n,⟨b,h1,h2⟩,k,hk => by
   rw [LB_eq hA h1] at hk
   simp only [List.mem_append,List.mem_singleton,List.mem_map,List.mem_flatMap] at hk
   rcases hk with ((rfl | ⟨a,_,rfl⟩) | ⟨j,hj,hk⟩) | rfl
   · omega
   · omega
   · have := lb_le hA d j (n + 1) (h2 j hj) k hk; omega
   · omega
theorem dp_deep {f : Fl} {D : List Int} (h : Dp f D (-1)) (hfb : Forest (blL f.bl) f.top) (hT : ∀ k ∈ f.top,HB 25 f.bl k) : ∀ (k i : Nat),i + k + 1 = f.bl.length → ∃ (x : Int) (d : Nat),D[i]? = some x ∧ 0 ≤ x ∧ HB d f.bl i ∧ x + d ≤ 25 := by
 have lB : (blL f.bl).length = f.bl.length := by unfold blL; rw [List.length_map]
 intro k
 induction k using Nat.strongRecOn with
 | ind k ih =>
   intro i hi
   have hm : i ∈ (blL f.bl).flatten ++ f.top := (forest_perm hfb).mem_iff.2 (List.mem_range.2 (by rw [lB]; omega))
   rcases List.mem_append.1 hm with hm | hm
   · obtain ⟨us,hus,hiu⟩ := List.mem_flatten.1 hm
     obtain ⟨p,hp⟩ := List.mem_iff_getElem?.1 hus
     have hlt := hfb.ahead p us hp i hiu
     have hpl := (List.getElem?_eq_some_iff.1 hp).1
     rw [lB] at hpl
     obtain ⟨b,hb,rfl⟩ := blL_get hp
     obtain ⟨x,d,h1,h2,h3,h4⟩ := ih (f.bl.length - 1 - p) (by omega) p (by omega)
     obtain ⟨y,h5,h6⟩ := h.kid p b (by omega) hb i hiu
     have hxy : y = x := by rw [h1] at h5; injection h5 with h5; exact h5.symm
     subst hxy
     cases d with
     | zero => exact h3.elim
     | succ d =>
       obtain ⟨b',hb',h7⟩ := h3
       rw [hb] at hb'
       injection hb' with hb'
       subst hb'
       exact ⟨y + 1,d,h6,by omega,h7 i hiu,by omega⟩
   · exact ⟨0,25,h.root i hm,by omega,hT i hm,by omega⟩
end Go.Proofs.YtofhaneggcpdaaaGreatDoor
namespace Go.Proofs.YtofhaneggcpdaaaGreatDoor
open Go Go.Eng Go.RowKit Go.Syn Go.Lex
set_option maxRecDepth 100000
def xokB (e : Ex) : Bool := decide (1 ≤ e.k) && decide (e.k ≤ 30) && utfM e.t && decide (e.t.length ≤ 1000000000) && e.keys.all (fun s => utfM s && decide (s.length ≤ 10000000)) && decide (e.args.length ≤ 100000) &&
 (decide (e.k ≠ 6) || decide (e.keys.length = e.args.length)) && (decide (e.k ≠ 8) || decide (e.keys.length = e.args.length)) && (!(decide (e.k = 10) || decide (e.k = 30)) || decide (1 ≤ e.args.length)) &&
 (!(decide (e.k = 11) || decide (e.k = 29) || (decide (15 ≤ e.k) && decide (e.k ≤ 27))) || decide (2 ≤ e.args.length)) && (decide (e.k ≠ 28) || decide (3 ≤ e.args.length))
theorem utf_ofM {s : Str} (h : utfM s = true) : Utf s := by have := utf_of h; rwa [List.drop_zero] at this
theorem xok_of {e : Ex} (h : xokB e = true) : XOk e ∧ ∀ s ∈ e.keys,s.length ≤ 10000000 := by
 unfold xokB at h
 simp only [Bool.and_eq_true,decide_eq_true_iff,Bool.or_eq_true,Bool.not_eq_true',Bool.or_eq_false_iff,Bool.and_eq_false_iff,decide_eq_false_iff_not,List.all_eq_true] at h
 obtain ⟨⟨⟨⟨⟨⟨⟨⟨⟨⟨h1,h2⟩,h3⟩,h4⟩,h5⟩,h6⟩,h7⟩,h8⟩,h9⟩,h10⟩,h11⟩ := h
 exact ⟨⟨h1,h2,⟨utf_ofM h3,h4⟩,fun s hs => ⟨utf_ofM (h5 s hs).1,by have := (h5 s hs).2; omega⟩,h6,fun e => h7.resolve_left (fun n => n e),fun e => h8.resolve_left (fun n => n e),fun e => h9.resolve_left (by omega),fun e => h10.resolve_left (by omega),fun e => h11.resolve_left (fun n => n e)⟩,fun s hs => (h5 s hs).2⟩
theorem fok_of {f : Fl} (h1 : ∀ i,i < f.ex.length → ∀ a ∈ (f.ex.getD i ⟨0,[],[],[],0⟩).args,a < i) (h2 : ∀ e ∈ f.ex,xokB e = true) (h3 : f.ex.length ≤ 100000) (h4 : ∀ i,i < f.ex.length → (exprM f i).length ≤ 100000000) (h5 : ∀ e ∈ f.ex,(joinL (argsT e (exprM f)) [44,32]).length ≤ 100000000) : FOk f := by
 refine ⟨fun i e he => ?_,fun e he => (xok_of (h2 e he)).1,h3,fun i => ?_,fun e he _ => (xok_of (h2 e he)).2,fun e he => Nat.le_trans (h5 e he) (by decide)⟩
 · have := h1 i (List.getElem?_eq_some_iff.1 he).1
   rw [List.getD_eq_getElem?_getD,he] at this
   exact this
 · by_cases hi : i < f.ex.length
   · exact Nat.le_trans (h4 i hi) (by decide)
   · unfold exprM
     rw [exprF,List.getElem?_eq_none (by omega)]
     exact Nat.zero_le _
def ex6 : Str := [97,32,123,120,61,49,43,121,46,122,42,50,125]
def f6 : Fl := ⟨[⟨4,[49],[],[],5⟩,⟨9,[121],[],[],7⟩,⟨10,[122],[1],[],8⟩,⟨4,[50],[],[],11⟩,⟨17,[],[2,3],[],10⟩,⟨15,[],[0,4],[],6⟩],[⟨[97],[],[⟨[120],5,3⟩],[],0⟩],[0]⟩
theorem ex6_ok : parseM ex6 = .ok f6 := by decide +kernel
def t6 : Str := [97,32,123,10,32,32,120,32,61,32,40,49,32,43,32,40,40,121,41,46,122,32,42,32,50,41,41,10,125,10]
theorem f6_file : fileM f6 = t6 ∧ exprM f6 0 = [49] ∧ exprM f6 99 = [] := by decide +kernel
theorem f6_ok : FOk f6 := fok_of (by decide) (by decide +kernel) (by decide) (by decide +kernel) (by decide +kernel)
theorem b6_ok : BOk f6 := by
 refine ⟨fun i b hb a ha => ?_,by decide,fun b hb s hs => ?_,by decide⟩
 rotate_left
 · have : ∀ b ∈ f6.bl,b.labels = [] := by decide
   rw [this b hb] at hs; cases hs
 have : i = 0 := by
   have := (List.getElem?_eq_some_iff.1 hb).1
   have e : f6.bl.length = 1 := rfl
   omega
 subst this
 injection hb with hb
 rw [← hb] at ha
 cases ha
variable [HX]
theorem awake6_p {w : World} {K : Value → World → Prop} (hT : TabI w) (hK : ∀ w',Ext w w' → K (.bool true) w') : callF Tryz.prog 12 [] w K := by
 refine W12_ok ?_
 unfold W12
 refine parse_r (t := ex6) hT (by decide) fun M d w1 hx1 hF1 hd1 _ => ?_
 rw [ex6_ok] at hF1 hd1
 simp only [flOf] at hF1
 rw [ext_tuple]; refine ⟨_,rfl,?_⟩
 rw [ext_tuple]; refine ⟨_,rfl,?_⟩
 refine alloc_new fun a w2 ha hz2 hb2 hx2 => ?_
 refine st_agg_at (l := [M.vE,M.vB,M.vT]) hb2 rfl rfl hF1.one fun w3 hz3 hb3 hc3 => ?_
 have hx13 : Ext w1 w3 := hx2.new hc3 (by omega)
 have hd3 := hd1.ext hx13
 have hfv := (hF1.ext hx13).fv
 have hx3 := hx1.trans hx13
 obtain ⟨e1,e2,e3⟩ := f6_file
 rw [hd3.eq,show (false ^^ okP (PR.ok f6)) = true from rfl]
 refine GdW.act true (fun w' => Ext w3 w') (fun e => by cases e) ?_ ?_
 · intro _ J hJ
   refine ld_row hb3 rfl ?_
   refine showF_p f6_ok b6_ok hfv (by decide) (by rw [e1]; decide) fun w5 hx5 => ?_
   rw [e1,bin_seq]
   exact hJ _ hx5
 rintro g4 w6 hx6
 rw [isB_t,cond_true,List.getD_cons_zero,pick_t,isB_t]
 refine GdW.act true (fun w' => Ext w6 w') (fun e => by cases e) ?_ ?_
 · intro _ J hJ
   refine ld_row (hx6.at hb3 id) rfl ?_
   refine showX_p f6_ok 0 _ _ (by omega) (hfv.ext hx6) fun w8 hx8 => ?_
   rw [e2,bin_seq]
   exact hJ _ hx8
 rintro g7 w9 hx9
 rw [cond_true,List.getD_cons_zero,pick_t,isB_t]
 have hx69 := hx6.trans hx9
 refine GdW.act true (fun w' => Ext w9 w') (fun e => by cases e) ?_ ?_
 · intro _ J hJ
   refine ld_row (hx69.at hb3 id) rfl ?_
   refine showX_p f6_ok 99 _ _ (by omega) (hfv.ext hx69) fun w11 hx11 => ?_
   rw [e3,bin_seq]
   exact hJ _ hx11
 rintro g10 w12 hx12
 rw [cond_true,List.getD_cons_zero,pick_t]
 exact hK _ (hx3.trans (hx69.trans hx12))
end Go.Proofs.YtofhaneggcpdaaaGreatDoor
namespace Go.Proofs.YtofhaneggcpdaaaGreatDoor
open Go Go.Eng Go.RowKit Go.Lex Go.Syn
set_option maxRecDepth 100000
set_option maxHeartbeats 1000000
def dN (D : List Int) (j : Nat) : Nat := (D.getD j 0).toNat
def wantF (f : Fl) (D : List Int) (i k : Nat) : Nat := sumN ((List.range i).map (ownL f (dN D) k))
theorem want_next (f : Fl) (D : List Int) (i k : Nat) : wantF f D (i + 1) k = wantF f D i k + ownL f (dN D) k i := by
 unfold wantF
 rw [List.range_succ,List.map_append,sumN_app]
 simp [sumN]
theorem want_le (f : Fl) (D : List Int) (fa : ∀ b ∈ f.bl,b.attrs.length ≤ 1000000) (k : Nat) : ∀ i,wantF f D i k ≤ i * 1000002
 | 0 => Nat.le_refl _
 | i + 1 => by
   rw [want_next]
   have ih := want_le f D fa k i
   have : ownL f (dN D) k i ≤ 1000002 := by
     unfold ownL
     cases hb : f.bl[i]? with
     | none => exact Nat.zero_le _
     | some b =>
       have := fa b (List.mem_of_getElem? hb)
       simp only
       split <;> split <;> omega
   rw [Nat.succ_mul]; omega
def CS (s : Str) (L : List Nat) (inn at_ i : Nat) (K1 : List Nat) : Prop :=
 ∃ (pre post : Str) (K2 : List Nat) (p : Nat),s = pre ++ post ∧ L = K1 ++ K2 ∧ at_ = pre.length ∧ i = pre.length + p ∧
   ((K2 = [] ∧ post = [] ∧ p = 0 ∧ inn = 0) ∨ ∃ k K3 a b,K2 = k :: K3 ∧ post = a ++ b ∧ Ln k a ∧ Lns K3 b ∧ p < a.length ∧ inn = min p (2 * k))
theorem ln_pos {k : Nat} {a : Str} (h : Ln k a) : 0 < a.length := by
 obtain ⟨c,r,rfl,_⟩ := h
 simp only [List.length_append,List.length_cons]; omega
theorem cs_start {s : Str} {K1 K2 : List Nat} {pre post : Str} (hs : s = pre ++ post) (h : Lns K2 post) : CS s (K1 ++ K2) 0 pre.length pre.length K1 := by
 refine ⟨pre,post,K2,0,hs,rfl,rfl,rfl,?_⟩
 cases K2 with
 | nil => exact .inl ⟨rfl,h,rfl,rfl⟩
 | cons k K3 =>
   obtain ⟨a,b,h1,h2,h3⟩ := h
   exact .inr ⟨k,K3,a,b,rfl,h1,h2,h3,ln_pos h2,by simp⟩
theorem cs_end {s : Str} {L : List Nat} {inn at_ i : Nat} {K1 : List Nat} (h : CS s L inn at_ i K1) (hi : s.length ≤ i) : at_ = s.length ∧ K1 = L := by
 obtain ⟨pre,post,K2,p,h1,h2,h3,h4,h5⟩ := h
 rcases h5 with ⟨e1,e2,e3,e4⟩ | ⟨k,K3,a,b,e1,e2,_,_,e5,_⟩
 · subst e1 e2
   rw [h1,h2,h3]; simp
 · rw [h1,e2] at hi
   simp only [List.length_append] at hi
   omega
theorem cs_step {s : Str} {L : List Nat} {inn at_ i : Nat} {K1 : List Nat} (h : CS s L inn at_ i K1) (hi : i < s.length) : ∃ x,s[i]? = some x ∧ at_ ≤ i ∧
   ((x = 10 ∧ ∃ k,inn = 2 * k ∧ k ∈ L ∧ CS s L 0 (i + 1) (i + 1) (K1 ++ [k])) ∨ (x ≠ 10 ∧ CS s L (if x = 32 ∧ inn = i - at_ then inn + 1 else inn) at_ (i + 1) K1)) := by
 obtain ⟨pre,post,K2,p,h1,h2,h3,h4,h5⟩ := h
 rcases h5 with ⟨e1,e2,e3,e4⟩ | ⟨k,K3,a,b,e1,e2,e3,e4,e5,e6⟩
 · subst e2
   rw [h1,List.append_nil] at hi
   omega
 · obtain ⟨x,hx,hc⟩ := ln_at e3 e5
   have hsx : s[i]? = some x := by
     rw [h1,h4,List.getElem?_append_right (by omega),Nat.add_sub_cancel_left,e2,List.getElem?_append_left e5]; exact hx
   refine ⟨x,hsx,by omega,?_⟩
   have go : ∀ inn',p + 1 < a.length → inn' = min (p + 1) (2 * k) → CS s L inn' at_ (i + 1) K1 := fun inn' hp hin => ⟨pre,post,K2,p + 1,h1,h2,h3,by omega,.inr ⟨k,K3,a,b,e1,e2,e3,e4,hp,hin⟩⟩
   rcases hc with ⟨c1,c2,c3⟩ | ⟨c1,c2,c2',c3⟩ | ⟨c1,c2,c3⟩ | ⟨c1,c2,c3⟩
   · right
     refine ⟨by rw [c2]; decide,go _ c3 ?_⟩
     rw [if_pos ⟨c2,by omega⟩]; omega
   · right
     refine ⟨c2',go _ c3 ?_⟩
     rw [if_neg (fun e => c2 e.1)]; omega
   · right
     refine ⟨c2,go _ c3 ?_⟩
     rw [if_neg (fun e => by omega)]; omega
   · left
     refine ⟨c2,k,by omega,by rw [h2,e1]; simp,?_⟩
     have hpre : (pre ++ a).length = i + 1 := by rw [List.length_append]; omega
     have := cs_start (s := s) (K1 := K1 ++ [k]) (K2 := K3) (pre := pre ++ a) (post := b) (by rw [h1,e2,List.append_assoc]) e4
     rw [hpre] at this
     rw [h2,e1]
     simpa using this
variable [HX]
theorem slines_true {s : Str} {w : World} {K : Value → World → Prop} (hT : TabI w) (hl : s.length ≤ 9223372036854775807) (hK : ∀ w',Ext w w' → K (.bool true) w') : callF Tryz.prog 6 [str s] w K := by
 refine W6_ok ?_
 unfold W6
 refine awake6_p hT fun w1 hx1 => ?_
 rw [un_not,Bool.not_true,condW_false]
 refine cut5_p hl ?_
 have hsl : (s.take 6000).length ≤ 6000 := by rw [List.length_take]; omega
 generalize s.take 6000 = t at *
 refine parse_r (hT.ext hx1) (by omega) fun M d w3 hx3 hF hd hfew => ?_
 rw [ext_tuple]; refine ⟨_,rfl,?_⟩
 rw [ext_tuple]; refine ⟨_,rfl,?_⟩
 refine alloc_new fun a3 w4 ha3 hz4 hb4 hx4 => ?_
 refine st_agg_at (l := [M.vE,M.vB,M.vT]) hb4 rfl rfl hF.one fun w5 hz5 hb5 hc5 => ?_
 have hx35 : Ext w3 w5 := hx4.new hc5 (by omega)
 have hx5 := (hx1.trans hx3).trans hx35
 have hd := hd.ext hx35
 have hF := hF.ext hx35
 rw [hd.eq]
 cases hp : parseM t with
 | bad c p =>
   rw [show (true ^^ okP (PR.bad c p)) = true from rfl,condW_true]
   exact hK _ hx5
 | ok f =>
 rw [show (true ^^ okP (PR.ok f)) = false from rfl,condW_false]
 rw [hp] at hF hfew
 simp only [flOf] at hF hfew
 have hfv := hF.fv
 obtain ⟨fo,bo,hin,hlen⟩ := file_shown hp hfew
 obtain ⟨hX,hXB,hHB⟩ := parse_shape hp
 have hfp := forms_plain t
 rw [hp] at hfp
 obtain ⟨_,hfe,hfb,_⟩ := hfp
 have hA : AhB f := bo.ahead
 have hlns := file_lns fo.ahead hX hA hXB hin
 have lB : (blL f.bl).length = f.bl.length := by unfold blL; rw [List.length_map]
 have hLk : ∀ k ∈ f.top.flatMap (fun i => LB f i 0),k ≤ 25 := fun k hk => by
   obtain ⟨i,hi,hk⟩ := List.mem_flatMap.1 hk
   have := lb_le hA 25 i 0 (hHB i hi) k hk
   omega
 have few := hfew.2.1
 have fewt := hfew.2.2
 clear hd hF hp hfew hsl
 refine alloc_new fun a5 w6 ha5 hz6 hb6 hx6 => ?_
 refine alloc_new fun a6 w7 ha6 hz7 hb7 hx7 => ?_
 rw [show (List.replicate 30 (Value.int .i64 0)) = arrV (fun _ => 0) from arr_zero.symm] at hb6 hb7
 have hx57 := hx6.trans hx7
 have hb67 := hx7.at hb6 id
 have hb57 := hx57.at hb5 id
 refine ld_row hb57 rfl ?_
 refine depths_p (hfv.ext hx57) hfb few fewt (fun b hb => (bo.few.2.2 b hb).2.2) fun a D w8 hDp hbD hlo hx8 => ?_
 have hlenl : lenlW (.slice (some ⟨a,0,none⟩) f.bl.length f.bl.length) = fun (K : Value → Prop) => K (i64 (f.bl.length : Nat)) := rfl
 rw [hlenl]
 simp only
 have hx58 := hx57.trans hx8
 have hdeep : ∀ i,i < f.bl.length → ∃ n : Nat,D[i]? = some (n : Int) ∧ n ≤ 24 ∧ dN D i = n := fun i hi => by
   obtain ⟨x,dd,h1,h2,h3,h4⟩ := dp_deep hDp hfb hHB (f.bl.length - 1 - i) i (by omega)
   have hd1 : 1 ≤ dd := by
     cases dd with
     | zero => exact h3.elim
     | succ dd => omega
   refine ⟨x.toNat,by rw [Int.toNat_of_nonneg h2]; exact h1,by omega,?_⟩
   unfold dN
   rw [List.getD_eq_getElem?_getD,h1]; rfl
 refine LoopW.go (fun st w' => ∃ i : Nat,st = [i64 (i : Nat)] ∧ i ≤ f.bl.length ∧ w'.heap[a5]? = some (.cells (arrV (wantF f D i)).toArray A30 (0,0)) ∧ w'.heap[a6]? = some (.cells (arrV (fun _ => 0)).toArray A30 (0,0)) ∧ w'.heap[a]? = some (.cells (i64s D).toArray IntT (0,0)) ∧ Ext w5 w') (fun st _ => match st with | [.int _ i] => f.bl.length - i.toNat | _ => 0)
   ⟨0,rfl,by omega,hx8.at hb67 id,hx8.at hb7 id,hbD,hx58⟩ ?_
 clear hbD hb67 hb6 hb7 hb57
 rintro st g w10 ⟨i,rfl,hi,hw,hh,hbD,hx10⟩
 simp only [List.getD_cons_zero]
 rw [bin_lss,condW_dec]
 refine ⟨fun hlt => ?_,fun hge => ?_⟩
 · have hlt : i < f.bl.length := by omega
   obtain ⟨n,hn1,hn2,hn3⟩ := hdeep i hlt
   have ge := List.getElem?_eq_getElem hlt
   generalize f.bl[i] = b at ge
   have fa := (bo.few.2.2 b (List.mem_of_getElem? ge)).2.1
   have wl : ∀ k,wantF f D i k ≤ 200000000000 := fun k => by
     have := want_le f D (fun b hb => (bo.few.2.2 b hb).2.1) k i
     have h2 : i * 1000002 ≤ 100000 * 1000002 := Nat.mul_le_mul_right _ (by omega)
     omega
   refine get_i hbD hDp.len hn1 ?_
   rw [bin_lss,decide_eq_false (by omega)]
   refine GdW.look false (fun _ J hJ => by rw [bin_gtr,decide_eq_false (by omega)]; exact hJ) fun g11 => ?_
   rw [isB_f,Bool.not_false,cond_true,List.getD_cons_zero,pick_f,condW_false]
   rw [ixa_arr]
   refine ⟨by omega,by omega,?_⟩
   rw [add_mk,Int.toNat_natCast,Nat.mul_one,Nat.zero_add,ld_one]
   refine ⟨_,by rw [cell_eq,hw,cellO_some,List.getElem?_toArray]; exact arr_get (by omega),?_⟩
   have wln := wl n
   rw [bin_add,wrap_id (by omega) (by omega),ixa_arr]
   refine ⟨by omega,by omega,?_⟩
   rw [add_mk,Int.toNat_natCast,Nat.mul_one,Nat.zero_add]
   refine st_at hw rfl (by simp [arr_len]; omega) fun w13 hz13 hb13 hc13 => ?_
   have hb13 : w13.heap[a5]? = some (.cells (arrV fun k => wantF f D i k + if k = n then 2 else 0).toArray A30 (0,0)) := by
     rw [hb13,← arr_set (c := 2) (by omega : n < 30)]; simp
   have hx13 : Ext w5 w13 := hx10.new hc13 (by omega)
   have hbD13 := hc13.at hbD (by have := hx57.size; omega)
   have hh13 := hc13.at hh (by omega)
   have hxd := ext_drew w13
   have hb13d := hxd.at hb13 id
   rw [bin_add,wrap_id (by omega) (by omega),show (n : Int) + 1 = ((n + 1 : Nat) : Int) by omega,ixa_arr]
   refine ⟨by omega,by omega,?_⟩
   rw [add_mk,Int.toNat_natCast,Nat.mul_one,Nat.zero_add,ld_one]
   refine ⟨_,by rw [cell_eq,hb13d,cellO_some,List.getElem?_toArray]; exact arr_get (by omega),?_⟩
   refine fld5 (off := 1) ((hx13.trans hxd).at hb5 id) rfl ?_
   obtain ⟨vl,va,vb,erow,_,oA,_⟩ := hfv.bb.2 i b ge
   have hfv13 := hfv.ext (hx13.trans hxd)
   refine row_cell (off := 2) hfv13.oB hfv13.bb.1 hlt erow (by omega) rfl ?_
   rw [lenl_at (oA.ext (hx13.trans hxd))]
   have e1 : (if n + 1 = n then 2 else 0) = 0 := if_neg (by omega)
   rw [e1,Nat.add_zero]
   have wln2 := wl (n + 1)
   rw [bin_add,wrap_id (by omega) (by omega),ixa_arr]
   refine ⟨by omega,by omega,?_⟩
   rw [add_mk,Int.toNat_natCast,Nat.mul_one,Nat.zero_add]
   refine st_at hb13d rfl (by simp [arr_len]; omega) fun w14 hz14 hb14 hc14 => ?_
   have hb14 : w14.heap[a5]? = some (.cells (arrV (wantF f D (i + 1))).toArray A30 (0,0)) := by
     have e2 := arr_set (F := fun k => wantF f D i k + if k = n then 2 else 0) (n := n + 1) (c := b.attrs.length) (by omega)
     have e3 : (fun k => (wantF f D i k + if k = n then 2 else 0) + if k = n + 1 then b.attrs.length else 0) = wantF f D (i + 1) := by
       funext k
       rw [want_next]
       unfold ownL
       rw [ge]
       simp only [hn3]
       have q1 : (if k = n then 2 else 0) = (if n = k then 2 else 0) := by
         by_cases h : k = n
         · rw [if_pos h,if_pos h.symm]
         · rw [if_neg h,if_neg (fun e => h e.symm)]
       have q2 : (if k = n + 1 then b.attrs.length else 0) = (if n + 1 = k then b.attrs.length else 0) := by
         by_cases h : k = n + 1
         · rw [if_pos h,if_pos h.symm]
         · rw [if_neg h,if_neg (fun e => h e.symm)]
       rw [q1,q2,Nat.add_assoc]
     rw [hb14,← e3,← e2,e1,Nat.add_zero]
     simp
   rw [bin_add,upi (by omega)]
   refine ⟨⟨i + 1,rfl,by omega,hb14,hc14.at (hxd.at hh13 id) (by omega),hc14.at (hxd.at hbD13 id) (by have := hx57.size; omega),(hx13.trans hxd).new hc14 (by omega)⟩,?_⟩
   simp only [Int.toNat_natCast]; omega
 obtain rfl : i = f.bl.length := by omega
 have hx10K := hx5.trans hx10
 refine ld_row (hx10.at hb5 id) rfl ?_
 refine showF_p fo bo (hfv.ext hx10) hin hlen fun w15 hx15 => ?_
 have hw := hx15.at hw id
 have hh := hx15.at hh id
 have hx515 := hx10.trans hx15
 have hfin : ∀ k,(f.top.flatMap fun i => LB f i 0).count k = wantF f D f.bl.length k := fun k => by
   refine lines_count hA hfb (fun r hr => ?_) (fun i b hb j hj => ?_) k
   · unfold dN
     rw [List.getD_eq_getElem?_getD,hDp.root r hr]; rfl
   · obtain ⟨x,h1,h2⟩ := hDp.kid i b (by omega) hb j hj
     have hx0 : 0 ≤ x := by
       obtain ⟨n,h3,_⟩ := hdeep i (List.getElem?_eq_some_iff.1 hb).1
       rw [h1] at h3
       injection h3 with h3
       omega
     unfold dN
     rw [List.getD_eq_getElem?_getD,List.getD_eq_getElem?_getD,h1,h2]
     simp only [Option.getD_some]
     omega
 generalize f.top.flatMap (fun i => LB f i 0) = L at *
 generalize fileM f = S at *
 clear hbD hge hi hdeep
 refine LoopW.go (fun st w' => ∃ (inn at_ i : Nat) (K1 : List Nat),st = [i64 (inn : Nat),i64 (at_ : Nat),i64 (i : Nat)] ∧ i ≤ S.length ∧ inn ≤ i ∧ CS S L inn at_ i K1 ∧ K1.length ≤ i ∧ w'.heap[a5]? = some (.cells (arrV (wantF f D f.bl.length)).toArray A30 (0,0)) ∧ w'.heap[a6]? = some (.cells (arrV (fun k => K1.count k)).toArray A30 (0,0)) ∧ Ext w5 w') (fun st _ => match st with | [_,_,.int _ i] => S.length - i.toNat | _ => 0)
   ⟨0,0,0,[],rfl,by omega,by omega,by simpa using cs_start (s := S) (K1 := []) (K2 := L) (pre := []) (post := S) rfl hlns,by simp,hw,by simpa using hh,hx515⟩ ?_
 clear hw hh
 rintro st g w17 ⟨inn,at_,i,K1,rfl,hi,hii,hcs,hK1,hw,hh,hx17⟩
 simp only [List.getD_cons_zero,List.getD_cons_succ]
 rw [lens_str,bin_lss,condW_dec]
 refine ⟨fun hlt => ?_,fun hge => ?_⟩
 · have hlt : i < S.length := by omega
   obtain ⟨x,hx,hai,hc⟩ := cs_step hcs hlt
   refine JoinW.cut (fun st w' => ∃ (inn' at' : Nat) (K1' : List Nat),st = [i64 (inn' : Nat),i64 (at' : Nat)] ∧ inn' ≤ i + 1 ∧ CS S L inn' at' (i + 1) K1' ∧ K1'.length ≤ i + 1 ∧ w'.heap[a5]? = some (.cells (arrV (wantF f D f.bl.length)).toArray A30 (0,0)) ∧ w'.heap[a6]? = some (.cells (arrV (fun k => K1'.count k)).toArray A30 (0,0)) ∧ Ext w5 w') ?_ ?_
   · rw [ixs_str]
     refine ⟨by omega,x,by rw [Int.toNat_natCast]; exact hx,?_⟩
     have hx10' : ((x.toNat : Nat) : Int) = 10 ↔ x = 10 := by
       constructor
       · intro e
         have : x.toNat = (10 : UInt8).toNat := by show x.toNat = 10; omega
         exact UInt8.toNat_inj.1 this
       · rintro rfl; rfl
     have hx32' : ((x.toNat : Nat) : Int) = 32 ↔ x = 32 := by
       constructor
       · intro e
         have : x.toNat = (32 : UInt8).toNat := by show x.toNat = 32; omega
         exact UInt8.toNat_inj.1 this
       · rintro rfl; rfl
     rw [bin_eql,condW_dec]
     refine ⟨fun e => ?_,fun e => ?_⟩
     · have e := hx10'.1 e
       rcases hc with ⟨_,k,h1,h2,h3⟩ | ⟨h1,_⟩
       · have hk := hLk k h2
         subst h1
         rw [bin_rem]
         refine ⟨by decide,?_⟩
         have er : ((2 * k : Nat) : Int).tmod 2 = 0 := by rw [Int.tmod_eq_emod_of_nonneg (by omega)]; omega
         rw [er,bin_neq,decide_eq_false (by simp)]
         refine GdW.look false (fun _ J hJ => by rw [bin_gtr,decide_eq_false (by omega)]; exact hJ) fun g19 => ?_
         rw [isB_f,Bool.not_false,cond_true,List.getD_cons_zero,pick_f,condW_false,bin_quo]
         refine ⟨by decide,?_⟩
         have eq2 : IntKind.i64.wrap (((2 * k : Nat) : Int).tdiv 2) = (k : Nat) := by
           rw [Int.tdiv_eq_ediv_of_nonneg (by omega),show ((2 * k : Nat) : Int) / 2 = (k : Nat) by omega,wrap_id (by omega) (by omega)]
         rw [eq2,ixa_arr]
         refine ⟨by omega,by omega,?_⟩
         rw [add_mk,Int.toNat_natCast,Nat.mul_one,Nat.zero_add,ld_one]
         refine ⟨_,by rw [cell_eq,hh,cellO_some,List.getElem?_toArray]; exact arr_get (by omega),?_⟩
         have hcl : K1.count k ≤ K1.length := List.count_le_length
         rw [bin_add,wrap_id (by omega) (by omega),ixa_arr]
         refine ⟨by omega,by omega,?_⟩
         rw [add_mk,Int.toNat_natCast,Nat.mul_one,Nat.zero_add]
         refine st_at hh rfl (by simp [arr_len]; omega) fun w21 hz21 hb21 hc21 => ?_
         rw [bin_add,upi (by omega)]
         refine ⟨0,i + 1,K1 ++ [k],rfl,by omega,h3,by rw [List.length_append]; simp only [List.length_cons,List.length_nil]; omega,hc21.at hw (by omega),?_,hx17.new hc21 (by have := hx6.size; omega)⟩
         have e2 := arr_set (F := fun q => K1.count q) (n := k) (c := 1) (by omega)
         have e3 : (fun q => K1.count q + if q = k then 1 else 0) = fun q => (K1 ++ [k]).count q := by
           funext q
           rw [List.count_append,List.count_singleton]
           by_cases h : q = k
           · subst h; simp
           · rw [if_neg h]
             have : (k == q) = false := by rw [beq_eq_false_iff_ne]; exact fun e => h e.symm
             simp [this]
         rw [hb21,← e3,← e2]
         simp
       · exact absurd e h1
     · have e : x ≠ 10 := fun h => e (hx10'.2 h)
       rcases hc with ⟨h1,_⟩ | ⟨_,h2⟩
       · exact absurd h1 e
       rw [ixs_str]
       refine ⟨by omega,x,by rw [Int.toNat_natCast]; exact hx,?_⟩
       rw [bin_eql]
       have hd32 : decide (((x.toNat : Nat) : Int) = 32) = decide (x = 32) := by rw [decide_eq_decide]; exact hx32'
       rw [hd32]
       refine GdW.look (decide (inn = i - at_)) (fun _ J hJ => ?_) fun g22 => ?_
       · rw [bin_sub,wrap_id (by omega) (by omega),bin_eql]
         have : decide ((inn : Int) = (i : Int) - (at_ : Int)) = decide (inn = i - at_) := by rw [decide_eq_decide]; omega
         rw [this]; exact hJ
       by_cases h32 : x = 32
       · rw [decide_eq_true h32,isB_t,cond_true,List.getD_cons_zero,pick_t,condW_dec]
         refine ⟨fun h => ?_,fun h => ?_⟩
         · rw [if_pos ⟨h32,h⟩] at h2
           rw [bin_add,upi (by omega)]
           exact ⟨inn + 1,at_,K1,rfl,by omega,h2,by omega,hw,hh,hx17⟩
         · rw [if_neg (fun hh => h hh.2)] at h2
           exact ⟨inn,at_,K1,rfl,by omega,h2,by omega,hw,hh,hx17⟩
       · rw [decide_eq_false h32,pick_f,condW_false]
         rw [if_neg (fun hh => h32 hh.1)] at h2
         exact ⟨inn,at_,K1,rfl,by omega,h2,by omega,hw,hh,hx17⟩
   · rintro st g24 w24 ⟨inn',at',K1',rfl,hin',hcs',hK1',hw',hh',hx24⟩
     simp only [List.getD_cons_zero,List.getD_cons_succ]
     rw [bin_add,upi (by omega)]
     refine ⟨⟨inn',at',i + 1,K1',rfl,by omega,hin',hcs',hK1',hw',hh',hx24⟩,?_⟩
     simp only [Int.toNat_natCast]; omega
 · obtain ⟨h1,h2⟩ := cs_end hcs (by omega)
   subst h2
   have ecnt : (fun k => K1.count k) = wantF f D f.bl.length := funext hfin
   rw [ecnt] at hh
   rw [lens_str,bin_eql,decide_eq_true (by omega)]
   refine GdW.look true (fun _ J hJ => ?_) fun g25 => ?_
   · refine ld_row hw (arr_len _) ?_
     refine ld_row hh (arr_len _) ?_
     exact eq30 hJ
   rw [isB_t,cond_true,List.getD_cons_zero,pick_t]
   exact hK _ (hx5.trans hx17)
end Go.Proofs.YtofhaneggcpdaaaGreatDoor
namespace Go.Proofs.YtofhaneggcpdaaaGreatDoor
open Go Go.RowKit Go.Eng
set_option maxRecDepth 100000
theorem tabi_of {w : World} (hsh : w.ShapedOpen Tryz.prog) : TabI w :=
 Go.Proofs.cell_of_shapedOpen_int (t := 3) (zero := #[.int .i64 0]) hsh (of_decide_eq_true (by kernel_rfl)) (by kernel_rfl) rfl (by kernel_rfl) (by kernel_rfl) Tryz.underlying3
theorem handed_and_shaped {H : Type} {enc : TypeId × Value → H} {a : Assume} {C : Checked} {os : Os} {f : FuncId} {fn : Func} {s : ChangeSpec} {conds : List PathCond} {apart fresh handsOn again : Bool} {X : World → Array Value → Prop}
   (hX : ∀ (w w' : World) (args : Array Value),w.heap = w'.heap → X w args → X w' args)
   (own : ownKnob C.prog.godebug = none) (started : os.Started) (noInit : C.prog.inits.idxOf? f = none) (hfn : C.prog.funcs[f]? = some fn)
   (witness : ∃ (w : World) (tape : Tape) (i : Input),w.os = os ∧ (w.forCall tape i).Shaped C.prog ∧ i.vars = [] ∧ Input.okWide C.prog (w.forCall tape i) .any w.heap.size f i ∧
     ((s.pre enc C.prog fn conds apart (w.forCall tape i).memory i.args ∧ X (w.forCall tape i).memory i.args) ∧ sizedMet enc C.prog fn (OpenSpec.ofChange s) apart (w.forCall tape i).memory i.args) ∧ a.holds C.prog (lone (Frame.enter C.prog f i.args .normal) [] (w.forCall tape i)))
   (contract : ∀ (W : World) (base : Nat) (args : Array Value) (ds gs : List (DataW H)) (before : List MemPlace),
     (∀ (j : Nat) t v,fn.params[j]? = some t → args[j]? = some v → Value.okWide C.prog W .any base t v) →
     DataW.Whole enc C.prog fn.params.toList s.vars apart W args.toList ds gs before →
     conds.all (PathCond.test C.prog ⟨fn.params.toList,ds,s.plain.varTypes C.prog,gs⟩) = true →
     (DataW.weightsEach C.prog (fn.params.toList ++ s.plain.varTypes C.prog) (ds ++ gs)).all (· ≤ reachBytes) = true → X W args → W.ShapedOpen C.prog →
     a.holds C.prog (lone (Frame.enter C.prog f args .normal) [] W) →
     Calls C.prog f args W fun e W' => ∃ v,e = .returned v ∧ s.post enc C.prog fn apart fresh handsOn again W args v W') :
   ReturnsInHanded a C os f .any (fun w args => (s.pre enc C.prog fn conds apart w args ∧ X w args) ∧ sizedMet enc C.prog fn (OpenSpec.ofChange s) apart w args) (s.post enc C.prog fn apart fresh handsOn again) := by
 refine returnsInHanded_of_calls own started noInit witness ?_
 intro w tape i _ hsh _ hok hpre hholds
 obtain ⟨_,_,_,fn',hfn',_,_,_,_,hval⟩ := hok
 have e : fn' = fn := Option.some.inj (hfn'.symm.trans hfn)
 subst e
 obtain ⟨⟨⟨ds,gs,before,hw,hc⟩,hx⟩,hz⟩ := hpre
 have hw' := DataW.Whole.of_heap (w' := w.forCall tape i) (by rfl) hw
 refine (contract (w.forCall tape i) w.heap.size i.args ds gs before hval hw' hc (hz.weights hw) (hX _ _ _ (by rfl) hx) hsh hholds).mono fun e W' ⟨v,he,hp⟩ => ?_
 subst he
 exact ChangeSpec.post_blind hp
section
variable {H : Type} {enc : TypeId × Value → H} {w : World} {base : Nat} {spare : Nat → Bool} {held : Bool}
theorem fopen_s {v : Value} {d : DataW H} {ps : List MemPlace} {r : Reach} {b0 : Nat} (hval : Value.okWide Tryz.prog w r b0 9 v) (h : DataW.Trod enc Tryz.prog w base spare held 9 v d ps) : ∃ s : Str,v = str s ∧ s.length ≤ 9223372036854775807 := by
 obtain ⟨s,rfl,_,_,hs⟩ := Go.ChangeMaps.open_string Tryz.underlying9 hval h
 exact ⟨s.data.toList,by simp [ofL],by unfold maxLen at hs; simpa using hs⟩
end
end Go.Proofs.YtofhaneggcpdaaaGreatDoor
