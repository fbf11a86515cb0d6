/- One plain sentence: weakest preconditions, contracts and plain laws that the claim rests on, text behind text. Conditions: those that each states. -/
import Derived.Test.YtofhaneggcpdaaaDoorPJ4
import Derived.Test.YtofhaneggcpdaaaDoorRows
import Derived.Below
import Derived.RowKit
import Derived.ChangeMaps5
import Derived.MakeChecks
import Derived.Lib.LaidTab
import Derived.Lib.LaidU8
import Derived.SizedLaws
import Derived.Shelf.Vars
set_option linter.all false
set_option linter.unusedSimpArgs false
set_option linter.unusedVariables false
set_option linter.unusedSectionVars false
namespace Go.Proofs.YtofhaneggcpdaaaDoor
open Go Go.Eng Go.RowKit Go.Syn Go.Lex
set_option maxRecDepth 100000
theorem parse_small {t : Str} {y : Fl} (h : parseM t = .ok y) : (∀ e ∈ y.ex,∀ a ∈ e.args,a < y.ex.length) ∧ (∀ b ∈ y.bl,(∀ u ∈ b.attrs,u.e < y.ex.length) ∧ ∀ c ∈ b.blocks,c < y.bl.length) ∧ ∀ k ∈ y.top,k < y.bl.length := by
 have hf := forms_plain t
 rw [h] at hf
 obtain ⟨_,hfe,hfb,_⟩ := hf
 have hE := once_of hfe
 have hB := once_of hfb
 rw [List.length_map] at hE hB
 refine ⟨fun e he a ha => hE.lt a (List.mem_append_left _ (List.mem_flatten.2 ⟨_,List.mem_map.2 ⟨e,he,rfl⟩,ha⟩)),fun b hb => ⟨fun u hu => hE.lt _ (List.mem_append_right _ ?_),fun c hc => hB.lt c (List.mem_append_left _ (List.mem_flatten.2 ⟨_,List.mem_map.2 ⟨b,hb,rfl⟩,hc⟩))⟩,fun k hk => hB.lt k (List.mem_append_right _ hk)⟩
 exact List.mem_flatMap.2 ⟨b,hb,List.mem_map.2 ⟨u,hu,rfl⟩⟩
theorem row_get {c l : List Value} {r n p : Nat} (h : (c.drop (r * n)).take n = l) (hp : p < n) : c[r * n + p]? = l[p]? := by
 rw [← h,List.getElem?_take_of_lt hp,List.getElem?_drop]
theorem rows_take {α : Type} {R : α → List Value → Prop} {ex x : List α} {c : List Value} (h : RowsR R 5 ex c) (hl : x.length ≤ ex.length) (hx : ∀ j,j < x.length → ex[j]? = x[j]?) : RowsR R 5 x (c.take (x.length * 5)) := by
 refine ⟨by rw [List.length_take,h.1]; omega,fun i e hi => ?_⟩
 have hlt := (List.getElem?_eq_some_iff.1 hi).1
 have := h.2 i e (by rw [hx i hlt]; exact hi)
 rw [List.drop_take,List.take_take,Nat.min_eq_left (by omega)]
 exact this
theorem rows_drop {α : Type} {R : α → List Value → Prop} {ex y : List α} {c : List Value} {n : Nat} (h : RowsR R 5 ex c) (hl : ex.length = n + y.length) (hy : ∀ j e,y[j]? = some e → ex[n + j]? = some e) : RowsR R 5 y (c.drop (n * 5)) := by
 refine ⟨by rw [List.length_drop,h.1,hl]; omega,fun i e hi => ?_⟩
 have := h.2 (n + i) e (hy i e hi)
 rw [List.drop_drop,← Nat.add_mul]
 exact this
theorem ExR.v {w : World} {B : Nat} {e : Ex} {c : List Value} : ExR w B e c → ExV w e c := fun ⟨va,vk,e,h1,h2⟩ => ⟨va,vk,e,h1.sl,h2.sl⟩
theorem BkR.v {w : World} {B : Nat} {e : Blk} {c : List Value} : BkR w B e c → BkV w e c := fun ⟨vl,va,vb,e,h0,h1,h2⟩ => ⟨vl,va,vb,e,h0.sl,h1.sl,h2.sl⟩
theorem RowsR.exv {w : World} {B n : Nat} {l : List Ex} {c : List Value} (h : RowsR (ExR w B) n l c) : RowsR (ExV w) n l c := h.imp fun _ _ _ h => h.v
theorem RowsR.bkv {w : World} {B n : Nat} {l : List Blk} {c : List Value} (h : RowsR (BkR w B) n l c) : RowsR (BkV w) n l c := h.imp fun _ _ _ h => h.v
theorem flA_refl (q : Bool) (f : Fl) : flA q f f := by
 refine ⟨⟨rfl,fun i x y h1 h2 => ?_⟩,⟨rfl,fun i x y h1 h2 => ?_⟩,rfl⟩
 · rw [h1] at h2
   injection h2 with h2
   subst h2
   exact ⟨rfl,rfl,rfl,rfl,fun _ => rfl⟩
 · rw [h1] at h2
   injection h2 with h2
   subst h2
   refine ⟨rfl,rfl,rfl,⟨rfl,fun i u v g1 g2 => ?_⟩,fun _ => rfl⟩
   rw [g1] at g2
   injection g2 with g2
   subst g2
   exact ⟨rfl,rfl,fun _ => rfl⟩
theorem flA_moved (C : Int) (y : Fl) : flA false ⟨y.ex.map (mvE 0 C),y.bl.map (mvB 0 0 C),y.top⟩ y := by
 refine ⟨⟨List.length_map _,fun i x z h1 h2 => ?_⟩,⟨List.length_map _,fun i x z h1 h2 => ?_⟩,rfl⟩
 · have h1 : (y.ex.map (mvE 0 C))[i]? = some x := h1
   rw [List.getElem?_map,h2] at h1
   injection h1 with h1
   subst h1
   exact ⟨rfl,rfl,List.map_id' _,rfl,fun h => by cases h⟩
 · have h1 : (y.bl.map (mvB 0 0 C))[i]? = some x := h1
   rw [List.getElem?_map,h2] at h1
   injection h1 with h1
   subst h1
   refine ⟨rfl,rfl,List.map_id' _,⟨List.length_map _,fun i u v g1 g2 => ?_⟩,fun h => by cases h⟩
   have g1 : (z.attrs.map (mvA 0 C))[i]? = some u := g1
   rw [List.getElem?_map,g2] at g1
   injection g1 with g1
   subst g1
   exact ⟨rfl,rfl,fun h => by cases h⟩
def JQ (l : List Value) (w0 : World) (st : List Value) (w' : World) : Prop := st = l ∧ w' = w0
theorem cut_a {s : Str} {K : Value → Prop} (hl : s.length ≤ 9223372036854775807) : slsW (str s) none (some (.int .i64 (if (2000 : Int) < (s.length : Int) then 2000 else (s.length : Int)))) K ↔ K (str (s.take 2000)) := by
 rw [sls_str,bd_some]
 by_cases h : (2000 : Int) < (s.length : Int)
 · rw [if_pos h,bd_none,List.drop_zero]
   exact ⟨fun h => h.2.2,fun h => ⟨by omega,by omega,h⟩⟩
 · rw [if_neg h,bd_none,List.drop_zero,Int.toNat_natCast,List.take_length,List.take_of_length_le (show s.length ≤ 2000 by omega)]
   exact ⟨fun h => h.2.2,fun h => ⟨by omega,by omega,h⟩⟩
theorem FO.one {w : World} {B : Nat} {M : Lay} {fl : Fl} (h : FO w B M fl) : [M.vE,M.vB,M.vT].all one1 = true := by
 obtain ⟨p1,c1,e1,_⟩ := h.oE.sl.shape
 obtain ⟨p2,c2,e2,_⟩ := h.oB.sl.shape
 obtain ⟨p3,c3,e3,_⟩ := h.oT.sl.shape
 rw [e1,e2,e3]; rfl
theorem own_one {w : World} {B n m : Nat} {T : TypeId} {v : Value} {xs : List Value} (h : Own w B T m v n xs) : one1 v = true := by
 obtain ⟨p1,c1,e1,_⟩ := h.sl.shape
 rw [e1]; rfl
end Go.Proofs.YtofhaneggcpdaaaDoor
namespace Go.Proofs.YtofhaneggcpdaaaDoor
open Go Go.Eng Go.RowKit Go.Syn Go.Lex
set_option maxRecDepth 100000
set_option maxHeartbeats 1000000
variable [HX]
abbrev nilS : Value := .slice none 0 0
theorem joined_true {a b : Str} {w : World} {K : Value → World → Prop} (hT : TabI w) (hla : a.length ≤ 9223372036854775807) (hlb : b.length ≤ 9223372036854775807) (hK : ∀ w',Ext w w' → K (.bool true) w') : callF Tryd.prog 5 [str a,str b] w K := by
 refine W5_ok ?_
 unfold W5
 refine awake5_p hT fun w1 hx1 => ?_
 rw [un_not,Bool.not_true,condW_false]
 refine JoinW.cut (JQ [str (a.take 2000),str (b.take 2000)] w1.drew) ?_ ?_
 · simp only [lens_str,min_int,cut_a hla,cut_a hlb,and_self]
   exact ⟨rfl,rfl⟩
 rintro st g w3 ⟨rfl,rfl⟩
 simp only [List.getD_cons_zero,List.getD_cons_succ]
 have hta : (a.take 2000).length ≤ 2000 := by rw [List.length_take]; omega
 have htb : (b.take 2000).length ≤ 2000 := by rw [List.length_take]; omega
 generalize a.take 2000 = ta at *
 generalize b.take 2000 = tb at *
 have hx1d := hx1.trans (ext_drew w1)
 refine parse_r (hT.ext hx1d) (by omega) fun M1 d1 w4 hx4 hF1 hd1 hf1 => ?_
 rw [ext_tuple]; refine ⟨_,rfl,?_⟩
 rw [ext_tuple]; refine ⟨_,rfl,?_⟩
 refine alloc_new fun a5 w5 ha5 hz5 hb5 hx5 => ?_
 refine st_agg_at (l := [M1.vE,M1.vB,M1.vT]) hb5 rfl rfl hF1.one fun w6 hz6 hb6 hc6 => ?_
 have hx46 : Ext w4 w6 := hx5.new hc6 (by omega)
 have hx6 := (hx1d.trans hx4).trans hx46
 refine parse_r (hT.ext hx6) (by omega) fun M2 d2 w7 hx7 hF2 hd2 hf2 => ?_
 rw [ext_tuple]; refine ⟨_,rfl,?_⟩
 rw [ext_tuple]; refine ⟨_,rfl,?_⟩
 refine alloc_new fun a7 w8 ha7 hz8 hb8 hx8 => ?_
 refine st_agg_at (l := [M2.vE,M2.vB,M2.vT]) hb8 rfl rfl hF2.one fun w9 hz9 hb9 hc9 => ?_
 have hx79 : Ext w7 w9 := hx8.new hc9 (by omega)
 have hx69 := hx7.trans hx79
 have hx9 := hx6.trans hx69
 have hF1 := (hF1.ext hx46).ext hx69
 have hF2 := hF2.ext hx79
 have hd1 := (hd1.ext hx46).ext hx69
 have hd2 := hd2.ext hx79
 have hb5 := hx69.at hb6 id
 have hb7 := hb9
 clear hb6 hc6 hb8 hc9
 rw [hd1.eq]
 cases h1 : parseM ta with
 | bad c p =>
   rw [show (true ^^ okP (PR.bad c p)) = true from rfl]
   refine GdW.look true (fun hc => by rw [isB_f] at hc; cases hc) fun g => ?_
   rw [pick_t,condW_true]
   exact hK _ hx9
 | ok x =>
 rw [show (true ^^ okP (PR.ok x)) = false from rfl]
 refine GdW.look (true ^^ okP (parseM tb)) (fun _ J hJ => by rw [hd2.eq]; exact hJ) fun g => ?_
 rw [isB_f,Bool.not_false,cond_true,List.getD_cons_zero,pick_f]
 cases h2 : parseM tb with
 | bad c p =>
   rw [show (true ^^ okP (PR.bad c p)) = true from rfl,condW_true]
   exact hK _ hx9
 | ok y =>
 rw [show (true ^^ okP (PR.ok y)) = false from rfl,condW_false]
 rw [h1] at hF1 hf1
 rw [h2] at hF2 hf2
 simp only [flOf] at hF1 hf1 hF2 hf2
 have emax : IntKind.i64.max = 9223372036854775807 := by decide
 rw [bin_sadd]
 refine ⟨by rw [emax,List.length_cons,List.length_nil]; omega,?_⟩
 rw [bin_sadd]
 refine ⟨by rw [emax,List.length_append,List.length_cons,List.length_nil]; omega,?_⟩
 rw [show ta ++ [10] ++ tb = ta ++ 10 :: tb by simp]
 refine parse_r (hT.ext hx9) (by rw [List.length_append,List.length_cons]; omega) fun M d3 w12 hx12 hF3 hd3 hf3 => ?_
 rw [ext_tuple]; refine ⟨_,rfl,?_⟩
 rw [ext_tuple]; refine ⟨_,rfl,?_⟩
 refine alloc_new fun a9 w13 ha9 hz13 hb13 hx13 => ?_
 refine st_agg_at (l := [M.vE,M.vB,M.vT]) hb13 rfl rfl hF3.one fun w14 hz14 hb14 hc14 => ?_
 have hx124 : Ext w12 w14 := hx13.new hc14 (by omega)
 have hx914 := hx12.trans hx124
 have hd3 := hd3.ext hx124
 have hlt3 := hF3.lt
 have hF3 := hF3.ext hx124
 have hb9 := hb14
 clear hb13 hc14 hb14
 rw [hd3.eq]
 rcases join_plain h1 h2 (by omega) with ⟨p,hp⟩ | hp
 · rw [hp] at hd3 ⊢
   obtain ⟨bb,rfl,hbb⟩ := hd3
   rw [show (true ^^ okP (PR.bad 3 p)) = true from rfl,condW_true,nil_ptr]
   refine fld5 (off := 0) hbb rfl ?_
   rw [bin_eql]
   exact hK _ (hx9.trans hx914)
 rw [hp] at hF3 hf3 ⊢
 rw [show ∀ f,(true ^^ okP (PR.ok f)) = false from fun _ => rfl,condW_false]
 simp only [flOf] at hF3 hf3
 obtain ⟨sy1,sy2,sy3⟩ := parse_small h2
 clear hp h1 h2 hd1 hd2 hd3
 generalize hC : ((ta.length + 1 : Nat) : Int) = C at *
 have hxd := ext_drew w14
 have hx9d := hx914.trans hxd
 have hF3 := hF3.ext hxd
 have hb9 := hxd.at hb9 id
 have kb5 : ∀ {w'},Ext w9 w' → w'.heap[a5]? = some (.cells [M1.vE,M1.vB,M1.vT].toArray FlT (0,0)) := fun hx => hx.at hb5 id
 have kb7 : ∀ {w'},Ext w9 w' → w'.heap[a7]? = some (.cells [M2.vE,M2.vB,M2.vT].toArray FlT (0,0)) := fun hx => hx.at hb7 id
 have lE : (x.ex ++ y.ex.map (mvE x.ex.length C)).length = x.ex.length + y.ex.length := by simp
 have lB : (x.bl ++ y.bl.map (mvB x.ex.length x.bl.length C)).length = x.bl.length + y.bl.length := by simp
 have lT : (x.top ++ y.top.map (· + x.bl.length)).length = x.top.length + y.top.length := by simp
 refine fld5 (off := 0) (kb5 hx9d) rfl ?_
 rw [lenl_at (hF1.ext hx9d).oE.sl]
 refine fld5 (off := 1) (kb5 hx9d) rfl ?_
 rw [lenl_at (hF1.ext hx9d).oB.sl]
 refine fld5 (off := 0) hb9 rfl ?_
 rw [lenl_at hF3.oE.sl]
 refine fld5 (off := 0) (kb7 hx9d) rfl ?_
 rw [lenl_at (hF2.ext hx9d).oE.sl,bin_add,wrap_id (by omega) (by omega),bin_neq,decide_eq_false (by rw [lE]; simp)]
 refine GdW.look false (fun _ J hJ => ?_) fun g => ?_
 · refine fld5 (off := 1) hb9 rfl ?_
   rw [lenl_at hF3.oB.sl]
   refine fld5 (off := 1) (kb7 hx9d) rfl ?_
   rw [lenl_at (hF2.ext hx9d).oB.sl,bin_add,wrap_id (by omega) (by omega),bin_neq,decide_eq_false (by rw [lB]; simp)]
   exact hJ
 rw [isB_f,Bool.not_false,cond_true,List.getD_cons_zero,pick_f]
 refine GdW.look false (fun _ J hJ => ?_) fun g => ?_
 · refine fld5 (off := 2) hb9 rfl ?_
   rw [lenl_at hF3.oT.sl]
   refine fld5 (off := 2) (kb5 hx9d) rfl ?_
   rw [lenl_at (hF1.ext hx9d).oT.sl]
   refine fld5 (off := 2) (kb7 hx9d) rfl ?_
   rw [lenl_at (hF2.ext hx9d).oT.sl,bin_add,wrap_id (by omega) (by omega),bin_neq,decide_eq_false (by rw [lT]; simp)]
   exact hJ
 rw [isB_f,Bool.not_false,cond_true,List.getD_cons_zero,pick_f,condW_false,put_nil]
 refine alloc_new fun a12 w20 ha12 hz20 hb20 hx20 => ?_
 refine st_agg_at (l := [nilS,nilS,nilS]) hb20 rfl rfl rfl fun w21 hz21 hb21 hc21 => ?_
 have hx21 : Ext w14.drew w21 := hx20.new hc21 (by omega)
 have hzd : w14.drew.heap.size = w14.heap.size := rfl
 have hz9 := hx12.size
 generalize hT0 : x.top ++ y.top.map (· + x.bl.length) = top0 at *
 have start : JV w9 w21 w9.heap.size a9 a12 x.ex.length x.bl.length M ⟨x.ex ++ y.ex.map (mvE x.ex.length C),x.bl ++ y.bl.map (mvB x.ex.length x.bl.length C),top0⟩ nilS nilS nilS 0 0 [] :=
   ⟨hF3.ext hx21,hx21.at hb9 id,hb21,⟨by simp,.inl ⟨rfl,rfl⟩⟩,⟨by simp,.inl ⟨rfl,rfl⟩⟩,⟨by simp [ints],.inl ⟨rfl,rfl⟩⟩,hx9d.trans hx21,⟨Nat.le_refl _,by omega,by have := hx124.size; omega⟩,fun k hk => by have := hlt3 k hk; omega,(fun k hk => by cases hk),(fun k hk => by cases hk),(fun k hk => by cases hk)⟩
 clear hF3 hb20 hc21 hb21 hx20
 refine fld5 (off := 0) start.h9 rfl ?_
 have hsE := start.F.oE.sl
 rw [lE] at hsE
 refine sl_from (size := 5) (l := x.ex.length) hsE (by rw [start.F.ee.1,lE]) (by omega) fun u1 hu1 => ?_
 rw [Nat.add_sub_cancel_left] at hu1
 rw [lenl_at (hu1 _ hsE)]
 generalize hbl0 : x.bl ++ y.bl.map (mvB x.ex.length x.bl.length C) = bl0 at *
 refine LoopW.go (fun st w' => ∃ (i : Nat) (ex : List Ex) (vE : Value),st = [i64 (i : Nat)] ∧ i ≤ y.ex.length ∧ EAt C x.ex y.ex ex i ∧ JV w9 w' w9.heap.size a9 a12 x.ex.length x.bl.length M ⟨ex,bl0,top0⟩ vE nilS nilS i 0 []) (fun st _ => match st with | [.int _ i] => y.ex.length - i.toNat | _ => 0) ⟨0,_,_,rfl,by omega,EAt.start C x.ex y.ex,start⟩ ?_
 clear start hsE
 rintro st g w23 ⟨i,ex,vE,rfl,hi,hE,hJ⟩
 simp only [List.getD_cons_zero]
 rw [bin_lss,condW_dec]
 refine ⟨fun hlt => ?_,fun hge => ?_⟩
 · have hlt : i < y.ex.length := by omega
   have ge := List.getElem?_eq_getElem hlt
   generalize y.ex[i] = e at ge
   have smE := sy1 e (List.mem_of_getElem? ge)
   have fwA := (hF2.few.2.1 e (List.mem_of_getElem? ge)).1
   have hop := hE.opened ge
   have eA : (e.args.map (· + x.ex.length)).length = e.args.length := List.length_map _
   generalize e.args.map (· + x.ex.length) = A0 at hop eA
   obtain ⟨va,vk,erow,oA,oK⟩ : ∃ va vk,(M.cE.drop ((x.ex.length + i) * 5)).take 5 = [i64 e.k,str e.t,va,vk,i64 (e.a + C)] ∧ Own w23 w9.heap.size IntT 1 va A0.length (ints A0) ∧ Own w23 w9.heap.size StT 1 vk e.keys.length (strs e.keys) := hJ.F.ee.2 _ _ hop.here
   have hsE := hJ.F.oE.sl
   rw [show (⟨ex,bl0,top0⟩ : Fl).ex.length = x.ex.length + y.ex.length from hE.len] at hsE
   have hcE : M.cE.length = (x.ex.length + y.ex.length) * 5 := by rw [hJ.F.ee.1]; exact congrArg (· * 5) hE.len
   refine ixa_row (d := [i64 e.k,str e.t,va,vk,i64 (e.a + C)]) (hu1 _ hsE) (by rw [List.length_drop,hcE]; omega) (by omega) hlt (by rw [List.drop_drop,← Nat.add_mul]; exact erow) ?_
   have one5 : [i64 e.k,str e.t,va,vk,i64 (e.a + C)].all one1 = true := by
     obtain ⟨p1,c1,e1,_⟩ := oA.sl.shape
     obtain ⟨p2,c2,e2,_⟩ := oK.sl.shape
     rw [e1,e2]; rfl
   refine alloc_new fun a14 w24 ha14 hz24 hb24 hx24 => ?_
   refine st_agg_at (l := [i64 e.k,str e.t,va,vk,i64 (e.a + C)]) hb24 rfl rfl one5 fun w25 hz25 hb25 hc25 => ?_
   have hx25 : Ext w23 w25 := hx24.new hc25 (by omega)
   have hfar : a12 < a14 := by have := hJ.base; omega
   refine fld5 (off := 2) hb25 rfl ?_
   rw [lenl_at oA.sl,eA]
   refine LoopW.go (fun st w' => ∃ (k : Nat) (ex2 : List Ex) (A : List Nat),st = [i64 (k : Nat)] ∧ k ≤ e.args.length ∧ EIn C x.ex y.ex ex2 i k e A ∧ JV w9 w' w9.heap.size a9 a12 x.ex.length x.bl.length M ⟨ex2,bl0,top0⟩ vE nilS nilS i 0 [] ∧ w'.heap[a14]? = some (.cells [i64 e.k,str e.t,va,vk,i64 (e.a + C)].toArray ExT (0,0))) (fun st _ => match st with | [.int _ k] => e.args.length - k.toNat | _ => 0) ⟨0,ex,A0,rfl,by omega,hop,hJ.ext hx25,hb25⟩ ?_
   clear hop oA oK hJ hsE hE hb25 hc25 hx24 hx25 hb24 hz24 hz25
   rintro st g2 w27 ⟨k,ex2,A,rfl,hk,hI,hJ,hb14⟩
   simp only [List.getD_cons_zero]
   rw [bin_lss,condW_dec]
   refine ⟨fun hlt2 => ?_,fun hge2 => ?_⟩
   · have hlt2 : k < e.args.length := by omega
     have gk := List.getElem?_eq_getElem hlt2
     generalize e.args[k] = q at gk
     have hq := smE q (List.mem_of_getElem? gk)
     obtain ⟨va',vk',erow',oA,oK⟩ : ∃ va vk,(M.cE.drop ((x.ex.length + i) * 5)).take 5 = [i64 e.k,str e.t,va,vk,i64 (e.a + C)] ∧ Own w27 w9.heap.size IntT 1 va A.length (ints A) ∧ Own w27 w9.heap.size StT 1 vk e.keys.length (strs e.keys) := hJ.F.ee.2 _ _ hI.here
     obtain ⟨rfl,rfl⟩ : va' = va ∧ vk' = vk := by
       have h := erow'.symm.trans erow
       injection h with _ h
       injection h with _ h
       injection h with h1 h
       injection h with h2 _
       exact ⟨h1,h2⟩
     have gA := hI.done k q gk
     rw [if_neg (by omega)] at gA
     refine fld5 (off := 2) hb14 rfl ?_
     refine own_sub (a := q) (d := x.ex.length) oA gA rfl (by omega) fun gg w28 hg hc hO => ?_
     have s2 := row_get erow (p := 2) (by omega)
     have s3 := row_get erow (p := 3) (by omega)
     have inu := ub_mem (List.mem_of_getElem? (slotE (M := M) s2)) hg
     have hlo := hJ.F.lo gg inu
     have hhi := hJ.lt gg inu
     have hF := hJ.F.setE (r := x.ex.length + i) (p := 2) (e' := ⟨e.k,e.t,A.set k q,e.keys,e.a + C⟩) s2 (by omega) hg hc ⟨va',vk',erow,by
       show Own w28 _ IntT 1 va' (A.set k q).length _
       rw [List.length_set]; exact hO,own_at oK hc fun k2 hk2 e2 => by
         have e2 : k2 = gg := e2
         subst e2
         have := nd_inj hJ.F.nd (slotE (M := M) s2) (slotE (M := M) s3) hg hk2
         omega⟩
     rw [bin_add,upj (by omega)]
     refine ⟨⟨k + 1,_,A.set k q,rfl,by omega,hI.step hlt gk,hJ.one hc ⟨hlo,hhi⟩ hF,hc.at hb14 fun e2 => by have e2 : a14 = gg := e2; have := hJ.lo; omega⟩,?_⟩
     simp only [Int.toNat_natCast]; omega
   · obtain ⟨_,hE⟩ := hI.close ge (by omega)
     refine fld5 (off := 0) hJ.h12 rfl ?_
     refine ld_row hb14 rfl ?_
     refine bsl_agg rfl rfl fun r w29 hr hz29 hrb hx29 => ?_
     have hJ := hJ.ext hx29
     refine append_own3 el_ex hJ.oE (slat_new' (n := 1) (T := ExT) hrb) rfl (fun u hu => List.all_eq_true.1 one5 u hu) (by omega) (by omega) hJ.base fun v' w30 hO hc hv => ?_
     rw [fld_ptr,add_mk]
     refine st_at (hc.at hJ.h12 fun e2 => by have := (own_lt hJ.oE e2).2; omega) (own_one hO) (by simp) fun w31 hz31 hb31 hc31 => ?_
     rw [bin_add,upi (by omega)]
     rw [take_row (cs := M.cE.drop (x.ex.length * 5)) (by rw [List.drop_drop,← Nat.add_mul]; exact erow)] at hO
     refine ⟨⟨i + 1,ex2,v',rfl,by omega,hE,hJ.rowE hO hc hv hc31 (by rw [hb31]; simp)⟩,?_⟩
     simp only [Int.toNat_natCast]; omega
 obtain rfl : i = y.ex.length := by omega
 clear hlt3 hge hi
 -- the blocks
 refine fld5 (off := 1) hJ.h9 rfl ?_
 have hbl0len : bl0.length = x.bl.length + y.bl.length := lB
 have hsB := hJ.F.oB.sl
 rw [show (⟨ex,bl0,top0⟩ : Fl).bl.length = x.bl.length + y.bl.length from hbl0len] at hsB
 refine sl_from (size := 5) (l := x.bl.length) hsB (by rw [hJ.F.bb.1]; exact congrArg (· * 5) hbl0len) (by omega) fun u2 hu2 => ?_
 rw [Nat.add_sub_cancel_left] at hu2
 rw [lenl_at (hu2 _ hsB)]
 refine LoopW.go (fun st w' => ∃ (i : Nat) (bl : List Blk) (vB : Value),st = [i64 (i : Nat)] ∧ i ≤ y.bl.length ∧ BAt C x.ex.length x.bl y.bl bl i ∧ JV w9 w' w9.heap.size a9 a12 x.ex.length x.bl.length M ⟨ex,bl,top0⟩ vE vB nilS y.ex.length i []) (fun st _ => match st with | [.int _ i] => y.bl.length - i.toNat | _ => 0) ⟨0,bl0,nilS,rfl,by omega,by rw [← hbl0]; exact BAt.start C x.ex.length x.bl y.bl,hJ⟩ ?_
 clear hJ hsB
 rintro st g w33 ⟨i,bl,vB,rfl,hi,hB,hJ⟩
 simp only [List.getD_cons_zero]
 rw [bin_lss,condW_dec]
 refine ⟨fun hlt => ?_,fun hge => ?_⟩
 · have hlt : i < y.bl.length := by omega
   have ge := List.getElem?_eq_getElem hlt
   generalize y.bl[i] = e at ge
   obtain ⟨smU,smV⟩ := sy2 e (List.mem_of_getElem? ge)
   have fwA := (hF2.few.2.2 e (List.mem_of_getElem? ge)).2
   have hop := hB.opened ge
   have eU : (e.attrs.map (mvA x.ex.length C)).length = e.attrs.length := List.length_map _
   have eV : (e.blocks.map (· + x.bl.length)).length = e.blocks.length := List.length_map _
   generalize e.attrs.map (mvA x.ex.length C) = U0 at hop eU
   generalize e.blocks.map (· + x.bl.length) = V0 at hop eV
   obtain ⟨vl,va,vk,erow,oL,oA,oK⟩ : ∃ vl va vk,(M.cB.drop ((x.bl.length + i) * 5)).take 5 = [str e.typ,vl,va,vk,i64 (e.a + C)] ∧ Own w33 w9.heap.size StT 1 vl e.labels.length (strs e.labels) ∧ Own w33 w9.heap.size AtT 3 va U0.length (atrs U0) ∧ Own w33 w9.heap.size IntT 1 vk V0.length (ints V0) := hJ.F.bb.2 _ _ hop.here
   have hsB := hJ.F.oB.sl
   rw [show (⟨ex,bl,top0⟩ : Fl).bl.length = x.bl.length + y.bl.length from hB.len] at hsB
   have hcB : M.cB.length = (x.bl.length + y.bl.length) * 5 := by rw [hJ.F.bb.1]; exact congrArg (· * 5) hB.len
   refine ixa_row (d := [str e.typ,vl,va,vk,i64 (e.a + C)]) (hu2 _ hsB) (by rw [List.length_drop,hcB]; omega) (by omega) hlt (by rw [List.drop_drop,← Nat.add_mul]; exact erow) ?_
   have one5 : [str e.typ,vl,va,vk,i64 (e.a + C)].all one1 = true := by
     obtain ⟨p0,c0,e0,_⟩ := oL.sl.shape
     obtain ⟨p1,c1,e1,_⟩ := oA.sl.shape
     obtain ⟨p2,c2,e2,_⟩ := oK.sl.shape
     rw [e0,e1,e2]; rfl
   refine alloc_new fun a17 w34 ha17 hz34 hb34 hx34 => ?_
   refine st_agg_at (l := [str e.typ,vl,va,vk,i64 (e.a + C)]) hb34 rfl rfl one5 fun w35 hz35 hb35 hc35 => ?_
   have hx35 : Ext w33 w35 := hx34.new hc35 (by omega)
   have hfar : a12 < a17 := by have := hJ.base; omega
   have rowq : ∀ {w' : World} {ex' : List Ex} {bl' : List Blk} {U : List Atr} {V : List Nat},FO w' w9.heap.size M ⟨ex',bl',top0⟩ → bl'[x.bl.length + i]? = some ⟨e.typ,e.labels,U,V,e.a + C⟩ → Own w' w9.heap.size StT 1 vl e.labels.length (strs e.labels) ∧ Own w' w9.heap.size AtT 3 va U.length (atrs U) ∧ Own w' w9.heap.size IntT 1 vk V.length (ints V) := fun {w'} {_} {_} {U} {V} hF hh => by
     obtain ⟨vl',va',vk',erow',oL',oA',oK'⟩ : ∃ vl va vk,(M.cB.drop ((x.bl.length + i) * 5)).take 5 = [str e.typ,vl,va,vk,i64 (e.a + C)] ∧ Own w' w9.heap.size StT 1 vl e.labels.length (strs e.labels) ∧ Own w' w9.heap.size AtT 3 va U.length (atrs U) ∧ Own w' w9.heap.size IntT 1 vk V.length (ints V) := hF.bb.2 _ _ hh
     have h := erow'.symm.trans erow
     injection h with _ h
     injection h with h0 h
     injection h with h1 h
     injection h with h2 _
     rw [h0] at oL'
     rw [h1] at oA'
     rw [h2] at oK'
     exact ⟨oL',oA',oK'⟩
   have s1 := row_get erow (p := 1) (by omega)
   have s2 := row_get erow (p := 2) (by omega)
   have s3 := row_get erow (p := 3) (by omega)
   refine fld5 (off := 2) hb35 rfl ?_
   rw [lenl_at oA.sl,eU]
   refine LoopW.go (fun st w' => ∃ (k : Nat) (bl2 : List Blk) (U : List Atr),st = [i64 (k : Nat)] ∧ k ≤ e.attrs.length ∧ BIn C x.ex.length x.bl y.bl bl2 i k 0 e U V0 ∧ JV w9 w' w9.heap.size a9 a12 x.ex.length x.bl.length M ⟨ex,bl2,top0⟩ vE vB nilS y.ex.length i [] ∧ w'.heap[a17]? = some (.cells [str e.typ,vl,va,vk,i64 (e.a + C)].toArray BkT (0,0))) (fun st _ => match st with | [.int _ k] => e.attrs.length - k.toNat | _ => 0) ⟨0,bl,U0,rfl,by omega,hop,hJ.ext hx35,hb35⟩ ?_
   clear hop oL oA oK hJ hsB hB hb35 hc35 hx34 hx35 hb34 hz34 hz35
   rintro st g2 w37 ⟨k,bl2,U,rfl,hk,hI,hJ,hb17⟩
   simp only [List.getD_cons_zero]
   rw [bin_lss,condW_dec]
   refine ⟨fun hlt2 => ?_,fun hge2 => ?_⟩
   · have hlt2 : k < e.attrs.length := by omega
     have gk := List.getElem?_eq_getElem hlt2
     generalize e.attrs[k] = q at gk
     have hq := smU q (List.mem_of_getElem? gk)
     obtain ⟨oL,oA,oK⟩ := rowq hJ.F hI.here
     have gA := hI.doneU k q gk
     rw [if_neg (by omega)] at gA
     refine fld5 (off := 2) hb17 rfl ?_
     refine own_sub3 (nm := q.n) (e := q.e) (a := q.a + C) (d := x.ex.length) oA gA rfl (by omega) fun gg w38 hg hc hO => ?_
     have inu := ub_mem (List.mem_of_getElem? (slotB (M := M) s2)) hg
     have hlo := hJ.F.lo gg inu
     have hhi := hJ.lt gg inu
     have hF := hJ.F.setB (r := x.bl.length + i) (p := 2) (e' := ⟨e.typ,e.labels,U.set k (mvA 0 C q),V0,e.a + C⟩) s2 (by omega) hg hc ⟨vl,va,vk,erow,own_at oL hc fun k2 hk2 e2 => by
         have e2 : k2 = gg := e2
         subst e2
         have := nd_inj hJ.F.nd (slotB (M := M) s2) (slotB (M := M) s1) hg hk2
         omega,by
       show Own w38 _ AtT 3 va (U.set k (mvA 0 C q)).length _
       rw [List.length_set]; exact hO,own_at oK hc fun k2 hk2 e2 => by
         have e2 : k2 = gg := e2
         subst e2
         have := nd_inj hJ.F.nd (slotB (M := M) s2) (slotB (M := M) s3) hg hk2
         omega⟩
     rw [bin_add,upj (by omega)]
     refine ⟨⟨k + 1,_,U.set k (mvA 0 C q),rfl,by omega,hI.stepU hlt gk,hJ.one hc ⟨hlo,hhi⟩ hF,hc.at hb17 fun e2 => by have e2 : a17 = gg := e2; have := hJ.lo; omega⟩,?_⟩
     simp only [Int.toNat_natCast]; omega
   · refine fld5 (off := 3) hb17 rfl ?_
     rw [lenl_at (rowq hJ.F hI.here).2.2.sl,eV]
     refine LoopW.go (fun st w' => ∃ (k2 : Nat) (bl2 : List Blk) (V : List Nat),st = [i64 (k2 : Nat)] ∧ k2 ≤ e.blocks.length ∧ BIn C x.ex.length x.bl y.bl bl2 i k k2 e U V ∧ JV w9 w' w9.heap.size a9 a12 x.ex.length x.bl.length M ⟨ex,bl2,top0⟩ vE vB nilS y.ex.length i [] ∧ w'.heap[a17]? = some (.cells [str e.typ,vl,va,vk,i64 (e.a + C)].toArray BkT (0,0))) (fun st _ => match st with | [.int _ k] => e.blocks.length - k.toNat | _ => 0) ⟨0,bl2,V0,rfl,by omega,hI,hJ,hb17⟩ ?_
     clear hI hJ hb17 bl2
     rintro st g3 w40 ⟨k2,bl2,V,rfl,hk2,hI,hJ,hb17⟩
     simp only [List.getD_cons_zero]
     rw [bin_lss,condW_dec]
     refine ⟨fun hlt3 => ?_,fun hge3 => ?_⟩
     · have hlt3 : k2 < e.blocks.length := by omega
       have gk := List.getElem?_eq_getElem hlt3
       generalize e.blocks[k2] = q at gk
       have hq := smV q (List.mem_of_getElem? gk)
       obtain ⟨oL,oA,oK⟩ := rowq hJ.F hI.here
       have gA := hI.doneV k2 q gk
       rw [if_neg (by omega)] at gA
       refine fld5 (off := 3) hb17 rfl ?_
       refine own_sub (a := q) (d := x.bl.length) oK gA rfl (by omega) fun gg w41 hg hc hO => ?_
       have inu := ub_mem (List.mem_of_getElem? (slotB (M := M) s3)) hg
       have hlo := hJ.F.lo gg inu
       have hhi := hJ.lt gg inu
       have hF := hJ.F.setB (r := x.bl.length + i) (p := 3) (e' := ⟨e.typ,e.labels,U,V.set k2 q,e.a + C⟩) s3 (by omega) hg hc ⟨vl,va,vk,erow,own_at oL hc fun k2 hk2 e2 => by
           have e2 : k2 = gg := e2
           subst e2
           have := nd_inj hJ.F.nd (slotB (M := M) s3) (slotB (M := M) s1) hg hk2
           omega,own_at oA hc fun k2 hk2 e2 => by
           have e2 : k2 = gg := e2
           subst e2
           have := nd_inj hJ.F.nd (slotB (M := M) s3) (slotB (M := M) s2) hg hk2
           omega,by
         show Own w41 _ IntT 1 vk (V.set k2 q).length _
         rw [List.length_set]; exact hO⟩
       rw [bin_add,upj (by omega)]
       refine ⟨⟨k2 + 1,_,V.set k2 q,rfl,by omega,hI.stepV hlt gk,hJ.one hc ⟨hlo,hhi⟩ hF,hc.at hb17 fun e2 => by have e2 : a17 = gg := e2; have := hJ.lo; omega⟩,?_⟩
       simp only [Int.toNat_natCast]; omega
     · have hB := hI.close ge (by omega) (by omega)
       refine fld5 (off := 1) hJ.h12 rfl ?_
       refine ld_row hb17 rfl ?_
       refine bsl_agg rfl rfl fun r w42 hr hz42 hrb hx42 => ?_
       have hJ := hJ.ext hx42
       refine append_own3 el_bk hJ.oB (slat_new' (n := 1) (T := BkT) hrb) rfl (fun u hu => List.all_eq_true.1 one5 u hu) (by omega) (by omega) hJ.base fun v' w43 hO hc hv => ?_
       rw [fld_ptr,add_mk]
       refine st_at (hc.at hJ.h12 fun e2 => by have := (own_lt hJ.oB e2).2; omega) (own_one hO) (by simp) fun w44 hz44 hb44 hc44 => ?_
       rw [bin_add,upi (by omega)]
       rw [take_row (cs := M.cB.drop (x.bl.length * 5)) (by rw [List.drop_drop,← Nat.add_mul]; exact erow)] at hO
       refine ⟨⟨i + 1,bl2,v',rfl,by omega,hB,hJ.rowB hO hc hv hc44 (by rw [hb44]; simp)⟩,?_⟩
       simp only [Int.toNat_natCast]; omega
 obtain rfl : i = y.bl.length := by omega
 -- the outmost blocks
 refine fld5 (off := 2) hJ.h9 rfl ?_
 refine fld5 (off := 2) (kb5 hJ.ch) rfl ?_
 rw [lenl_at (hF1.ext hJ.ch).oT.sl]
 have htop0 : top0.length = x.top.length + y.top.length := by rw [← hT0]; simp
 have hsT := hJ.F.oT.sl
 rw [show (⟨ex,bl,top0⟩ : Fl).top.length = x.top.length + y.top.length from htop0] at hsT
 refine sl_from (size := 1) (l := x.top.length) hsT (by simpa [ints] using htop0) (by omega) fun u3 hu3 => ?_
 rw [Nat.add_sub_cancel_left] at hu3
 rw [lenl_at (hu3 _ hsT)]
 have hsd : (ints top0).drop (x.top.length * 1) = ints (y.top.map (· + x.bl.length)) := by
   rw [← hT0,Nat.mul_one,ints_app,List.drop_append_of_le_length (by simp [ints]),List.drop_eq_nil_of_le (by simp [ints]),List.nil_append]
 rw [hsd] at hu3
 refine LoopW.go (fun st w' => ∃ (i : Nat) (vT : Value),st = [i64 (i : Nat)] ∧ i ≤ y.top.length ∧ JV w9 w' w9.heap.size a9 a12 x.ex.length x.bl.length M ⟨ex,bl,top0⟩ vE vB vT y.ex.length y.bl.length (y.top.take i)) (fun st _ => match st with | [.int _ i] => y.top.length - i.toNat | _ => 0) ⟨0,nilS,rfl,by omega,by rw [List.take_zero]; exact hJ⟩ ?_
 clear hJ hsT
 rintro st g w46 ⟨i,vT,rfl,hi,hJ⟩
 simp only [List.getD_cons_zero]
 rw [bin_lss,condW_dec]
 have hsT := hJ.F.oT.sl
 rw [show (⟨ex,bl,top0⟩ : Fl).top.length = x.top.length + y.top.length from htop0] at hsT
 refine ⟨fun hlt => ?_,fun hge => ?_⟩
 · have hlt : i < y.top.length := by omega
   have ge := List.getElem?_eq_getElem hlt
   generalize y.top[i] = q at ge
   have hq := sy3 q (List.mem_of_getElem? ge)
   refine ixa_ld (hu3 _ hsT) (by simp [ints]) (x := i64 ((q + x.bl.length : Nat) : Int)) (by simp [ints,ge]) ?_
   refine fld5 (off := 2) hJ.h12 rfl ?_
   rw [bin_sub,wrap_id (by omega) (by omega),show ((q + x.bl.length : Nat) : Int) - (x.bl.length : Nat) = (q : Nat) by omega]
   refine bsl_int1 fun r w47 hr hz47 hrb hx47 => ?_
   have hJ := hJ.ext hx47
   have htk : (y.top.take i).length = i := by rw [List.length_take]; omega
   refine append_own3 el_int hJ.oT (slat_new' (n := 1) (T := IntT) hrb) rfl (fun u hu => by simp only [List.mem_singleton] at hu; subst hu; rfl) (by omega) (by omega) hJ.base fun v' w48 hO hc hv => ?_
   rw [fld_ptr,add_mk]
   refine st_at (hc.at hJ.h12 fun e2 => by have := (own_lt hJ.oT e2).2; omega) (own_one hO) (by simp) fun w49 hz49 hb49 hc49 => ?_
   rw [bin_add,upi (by omega)]
   have hO : Own w48 (a12 + 1) IntT 1 v' ((y.top.take i).length + 1) (ints (y.top.take i ++ [q])) := by rw [ints_app]; exact hO
   have hJ := hJ.rowT hO hc hv hc49 (by rw [hb49]; simp)
   rw [show y.top.take i ++ [q] = y.top.take (i + 1) by rw [List.take_add_one,ge]; rfl] at hJ
   refine ⟨⟨i + 1,v',rfl,by omega,hJ⟩,?_⟩
   simp only [Int.toNat_natCast]; omega
 obtain rfl : i = y.top.length := by omega
 rw [List.take_length] at hJ
 have hJ := hJ.ext (ext_drew w46)
 have hsE := hJ.F.oE.sl
 have hsB := hJ.F.oB.sl
 have hsT := hJ.F.oT.sl
 rw [show (⟨ex,bl,top0⟩ : Fl).ex.length = x.ex.length + y.ex.length from hE.len] at hsE
 rw [show (⟨ex,bl,top0⟩ : Fl).bl.length = x.bl.length + y.bl.length from hB.len] at hsB
 rw [show (⟨ex,bl,top0⟩ : Fl).top.length = x.top.length + y.top.length from htop0] at hsT
 have hcE : M.cE.length = (x.ex.length + y.ex.length) * 5 := by rw [hJ.F.ee.1]; exact congrArg (· * 5) hE.len
 have hcB : M.cB.length = (x.bl.length + y.bl.length) * 5 := by rw [hJ.F.bb.1]; exact congrArg (· * 5) hB.len
 refine fld5 (off := 0) hJ.h9 rfl ?_
 refine sl_to (size := 5) (l := x.ex.length) hsE hcE (by omega) fun t1 ht1 => ?_
 refine fld5 (off := 1) hJ.h9 rfl ?_
 refine sl_to (size := 5) (l := x.bl.length) hsB hcB (by omega) fun t2 ht2 => ?_
 refine fld5 (off := 2) hJ.h9 rfl ?_
 refine fld5 (off := 2) (kb5 hJ.ch) rfl ?_
 rw [lenl_at (hF1.ext hJ.ch).oT.sl]
 refine sl_to (size := 1) (l := x.top.length) hsT (by simpa [ints] using htop0) (by omega) fun t3 ht3 => ?_
 have hst : (ints top0).take (x.top.length * 1) = ints x.top := by
   rw [← hT0,Nat.mul_one,ints_app,List.take_append_of_le_length (by simp [ints]),List.take_of_length_le (by simp [ints])]
 rw [hst] at ht3
 have fv1 : FV w46.drew ⟨t1,t2,t3,M.cE.take (x.ex.length * 5),M.cB.take (x.bl.length * 5)⟩ x :=
   ⟨ht1,ht2,ht3,(rows_take hJ.F.ee (by have := hE.len; show x.ex.length ≤ ex.length; omega) hE.lo).exv,(rows_take hJ.F.bb (by have := hB.len; show x.bl.length ≤ bl.length; omega) hB.lo).bkv⟩
 have fv2 : FV w46.drew ⟨vE,vB,vT,M.cE.drop (x.ex.length * 5),M.cB.drop (x.bl.length * 5)⟩ ⟨y.ex.map (mvE 0 C),y.bl.map (mvB 0 0 C),y.top⟩ := by
   have o1 := hJ.oE.sl
   have o2 := hJ.oB.sl
   rw [List.take_of_length_le (by rw [List.length_drop,hcE]; omega)] at o1
   rw [List.take_of_length_le (by rw [List.length_drop,hcB]; omega)] at o2
   refine ⟨?_,?_,hJ.oT.sl,(rows_drop hJ.F.ee (by rw [List.length_map]; exact hE.len) fun j e hj => ?_).exv,(rows_drop hJ.F.bb (by rw [List.length_map]; exact hB.len) fun j e hj => ?_).bkv⟩
   · show SlAt _ _ _ (y.ex.map (mvE 0 C)).length _
     rw [List.length_map]; exact o1
   · show SlAt _ _ _ (y.bl.map (mvB 0 0 C)).length _
     rw [List.length_map]; exact o2
   · rw [List.getElem?_map,Option.map_eq_some_iff] at hj
     obtain ⟨e0,h0,rfl⟩ := hj
     have := hE.hi j e0 h0
     rw [if_pos (List.getElem?_eq_some_iff.1 h0).1] at this
     exact this
   · rw [List.getElem?_map,Option.map_eq_some_iff] at hj
     obtain ⟨e0,h0,rfl⟩ := hj
     have := hB.hi j e0 h0
     rw [if_pos (List.getElem?_eq_some_iff.1 h0).1] at this
     exact this
 have eag : (⟨t1,t2,t3,M.cE.take (x.ex.length * 5),M.cB.take (x.bl.length * 5)⟩ : Lay).vE = t1 := rfl
 obtain ⟨p1,c1,e1,_⟩ := ht1.shape
 obtain ⟨p2,c2,e2,_⟩ := ht2.shape
 obtain ⟨p3,c3,e3,_⟩ := ht3.shape
 subst e1 e2 e3
 rw [put_slice,put_slice,put_slice,put_nil]
 refine ⟨by simp,by simp,by simp,?_⟩
 simp only [List.set_cons_zero,List.set_cons_succ]
 refine ld_row (kb5 hJ.ch) rfl ?_
 have few1 := (hF1.ext hJ.ch).few
 have few2 := (hF2.ext hJ.ch).few
 have fewE2 : ∀ e ∈ y.ex.map (mvE 0 C),e.args.length ≤ 9223372036854775807 ∧ e.keys.length ≤ 9223372036854775807 := fun e he => by
   obtain ⟨e0,h0,rfl⟩ := List.mem_map.1 he
   have := few2.2.1 e0 h0
   refine ⟨?_,this.2⟩
   show (e0.args.map (· + 0)).length ≤ _
   rw [List.length_map]; exact this.1
 have fewB2 : ∀ b ∈ y.bl.map (mvB 0 0 C),b.labels.length ≤ 9223372036854775807 ∧ b.attrs.length ≤ 9223372036854775807 ∧ b.blocks.length ≤ 9223372036854775807 := fun b hb => by
   obtain ⟨b0,h0,rfl⟩ := List.mem_map.1 hb
   have := few2.2.2 b0 h0
   refine ⟨this.1,?_,?_⟩
   · show (b0.attrs.map (mvA 0 C)).length ≤ _
     rw [List.length_map]; exact this.2.1
   · show (b0.blocks.map (· + 0)).length ≤ _
     rw [List.length_map]; exact this.2.2
 have hs1 : ∀ K' : Value → World → Prop,(∀ w',Ext w46.drew w' → K' (.bool true) w') → callF Tryd.prog 11 [_,_,_] w46.drew K' := fun K' h => same_t fv1 (hF1.ext hJ.ch).fv (flA_refl true x) few1.1 few1.2.1 few1.2.2 h
 refine hs1 _ fun w51 hx51 => ?_
 have hJ := hJ.ext hx51
 rw [isB_t]
 refine gq_of (v := .agg [vE,vB,vT].toArray) (ld_row (d := [vE,vB,vT]) hJ.h12 rfl rfl) ?_
 refine gq_of (v := .agg [M2.vE,M2.vB,M2.vT].toArray) (ld_row (d := [M2.vE,M2.vB,M2.vT]) (kb7 hJ.ch) rfl rfl) ?_
 refine GeW_tt ?_
 have hs2 : ∀ K' : Value → World → Prop,(∀ w',Ext w51 w' → K' (.bool true) w') → callF Tryd.prog 11 [_,_,_] w51 K' := fun K' h => same_t (fv2.ext hx51) (hF2.ext hJ.ch).fv (flA_moved C y) ⟨by show (y.ex.map (mvE 0 C)).length ≤ _; rw [List.length_map]; exact few2.1.1,by show (y.bl.map (mvB 0 0 C)).length ≤ _; rw [List.length_map]; exact few2.1.2.1,few2.1.2.2⟩ fewE2 fewB2 h
 refine hs2 _ fun w55 hx55 => ?_
 rw [pick_t]
 exact hK _ ((hx9.trans hJ.ch).trans hx55)
end Go.Proofs.YtofhaneggcpdaaaDoor
namespace Go.Proofs.YtofhaneggcpdaaaDoor
open Go Go.RowKit Go.Eng
set_option maxRecDepth 100000
theorem tabi_of {w : World} (hsh : w.ShapedOpen Tryd.prog) : TabI w :=
 Go.Proofs.cell_of_shapedOpen_int (t := 3) (zero := #[.int .i64 0]) hsh (of_decide_eq_true (by kernel_rfl)) (by kernel_rfl) rfl (by kernel_rfl) (by kernel_rfl) Tryd.underlying3
theorem handed_and_shaped {H : Type} {enc : TypeId × Value → H} {a : Assume} {C : Checked} {os : Os} {f : FuncId} {fn : Func} {s : ChangeSpec} {conds : List PathCond} {apart fresh handsOn again : Bool} {X : World → Array Value → Prop}
   (hX : ∀ (w w' : World) (args : Array Value),w.heap = w'.heap → X w args → X w' args)
   (own : ownKnob C.prog.godebug = none) (started : os.Started) (noInit : C.prog.inits.idxOf? f = none) (hfn : C.prog.funcs[f]? = some fn)
   (witness : ∃ (w : World) (tape : Tape) (i : Input),w.os = os ∧ (w.forCall tape i).Shaped C.prog ∧ i.vars = [] ∧ Input.okWide C.prog (w.forCall tape i) .any w.heap.size f i ∧
     ((s.pre enc C.prog fn conds apart (w.forCall tape i).memory i.args ∧ X (w.forCall tape i).memory i.args) ∧ sizedMet enc C.prog fn (OpenSpec.ofChange s) apart (w.forCall tape i).memory i.args) ∧ a.holds C.prog (lone (Frame.enter C.prog f i.args .normal) [] (w.forCall tape i)))
   (contract : ∀ (W : World) (base : Nat) (args : Array Value) (ds gs : List (DataW H)) (before : List MemPlace),
     (∀ (j : Nat) t v,fn.params[j]? = some t → args[j]? = some v → Value.okWide C.prog W .any base t v) →
     DataW.Whole enc C.prog fn.params.toList s.vars apart W args.toList ds gs before →
     conds.all (PathCond.test C.prog ⟨fn.params.toList,ds,s.plain.varTypes C.prog,gs⟩) = true →
     (DataW.weightsEach C.prog (fn.params.toList ++ s.plain.varTypes C.prog) (ds ++ gs)).all (· ≤ reachBytes) = true → X W args → W.ShapedOpen C.prog →
     a.holds C.prog (lone (Frame.enter C.prog f args .normal) [] W) →
     Calls C.prog f args W fun e W' => ∃ v,e = .returned v ∧ s.post enc C.prog fn apart fresh handsOn again W args v W') :
   ReturnsInHanded a C os f .any (fun w args => (s.pre enc C.prog fn conds apart w args ∧ X w args) ∧ sizedMet enc C.prog fn (OpenSpec.ofChange s) apart w args) (s.post enc C.prog fn apart fresh handsOn again) := by
 refine returnsInHanded_of_calls own started noInit witness ?_
 intro w tape i _ hsh _ hok hpre hholds
 obtain ⟨_,_,_,fn',hfn',_,_,_,_,hval⟩ := hok
 have e : fn' = fn := Option.some.inj (hfn'.symm.trans hfn)
 subst e
 obtain ⟨⟨⟨ds,gs,before,hw,hc⟩,hx⟩,hz⟩ := hpre
 have hw' := DataW.Whole.of_heap (w' := w.forCall tape i) (by rfl) hw
 refine (contract (w.forCall tape i) w.heap.size i.args ds gs before hval hw' hc (hz.weights hw) (hX _ _ _ (by rfl) hx) hsh hholds).mono fun e W' ⟨v,he,hp⟩ => ?_
 subst he
 exact ChangeSpec.post_blind hp
section
variable {H : Type} {enc : TypeId × Value → H} {w : World} {base : Nat} {spare : Nat → Bool} {held : Bool}
theorem fopen_s {v : Value} {d : DataW H} {ps : List MemPlace} {r : Reach} {b0 : Nat} (hval : Value.okWide Tryd.prog w r b0 9 v) (h : DataW.Trod enc Tryd.prog w base spare held 9 v d ps) : ∃ s : Str,v = str s ∧ s.length ≤ 9223372036854775807 := by
 obtain ⟨s,rfl,_,_,hs⟩ := Go.ChangeMaps.open_string Tryd.underlying9 hval h
 exact ⟨s.data.toList,by simp [ofL],by unfold maxLen at hs; simpa using hs⟩
end
end Go.Proofs.YtofhaneggcpdaaaDoor
