/- One plain sentence: weakest preconditions, contracts and plain laws that the claim rests on, text behind text. Conditions: those that each states. -/
import Derived.Test.YtcnjpcadejcenaaGreatDoorMX5
import Derived.Test.YtcnjpcadejcenaaGreatDoorMX1
import Derived.Deep.Slices
import Derived.DataReads
import Derived.ChangeArms
import Derived.Test.YtcnjpcadejcenaaGreatDoorMX3
import Derived.OpenShut
import Derived.Test.YtcnjpcadejcenaaGreatDoorRows
import Derived.Below
import Derived.RowKit
import Derived.ChangeMaps5
import Derived.MakeChecks
import Derived.Lib.LaidU8T
import Derived.Lib.LaidTab
import Derived.Test.YtcnjpcadejcenaaGreatDoorMX4
set_option linter.all false
set_option linter.unusedSimpArgs false
set_option linter.unusedVariables false
set_option linter.unusedSectionVars false
namespace Go.Proofs.YtcnjpcadejcenaaGreatDoor
open Go Go.Eng Go.RowKit
set_option maxRecDepth 100000
section
variable [HX]
theorem areads_true {s : Str} {w : World} {K : Value → World → Prop} (hT : TabA w) (hs : s.length ≤ 9223372036854775807) (hK : ∀ w',Ext w w' → K (.bool true) w') :
   callF Tryz.prog 12 [str s] w K := by
 refine W12_ok ?_
 unfold W12
 refine awake_a hT fun w1 hx1 => ?_
 rw [un_not,Bool.not_true]
 refine GdW.look (decide ((30000 : Int) < (s.length : Int))) (fun _ J hJ => by rw [lens_str,bin_gtr]; exact hJ) fun g => ?_
 simp only [List.getD_cons_zero,isB_f]
 rw [pick_gd_or,condW_b]
 refine ⟨fun _ => awake_a (hT.ext hx1) fun w2 hx2 => hK w2 (hx1.trans hx2),fun e => ?_⟩
 have hl : s.length ≤ 30000 := by
   rw [Bool.false_or,decide_eq_false_iff_not] at e
   omega
 refine parse_p (hT.ext hx1) (by omega) (fun a hg ha cs w5 hx5 r5 => ?_) (fun hn cs w5 hx5 r5 => ?_)
 · simp only [ext_tuple]
   refine ⟨_,rfl,_,rfl,?_⟩
   refine keep_a r5 fun p w7 sv hA7 hx7 hp7 => ?_
   refine parse22_ref (by omega) (fun b hgb hb cs2 w8 hx8 r8 => ?_) (fun hn => absurd ha (hn a hg))
   obtain rfl : b = a := show_inj hgb hg (hb.trans ha.symm)
   simp only [ext_tuple]
   refine ⟨_,rfl,_,rfl,?_⟩
   refine keep_a r8 fun q w10 tv hB10 hx10 hq10 => ?_
   rw [un_not,Bool.not_true,condW_false]
   have hA10 := hA7.ext (hx8.trans hx10)
   have hx010 : Ext w w10 := hx1.trans (hx5.trans (hx7.trans (hx8.trans hx10)))
   refine hA10.all ?_
   refine show_p (hT.ext hx010).tabs hA10.rep fun w16 hx16 => ?_
   rw [hgb]
   simp only [if_true,ext_tuple]
   refine ⟨_,rfl,_,rfl,?_⟩
   have hA16 := (hA10.ext hx16).drew
   have hB16 := (hB10.ext hx16).drew
   have hxd : Ext w16 w16.drew := Chg.drew (Chg.refl (fun _ => False) w16)
   rw [bin_eql,decide_eq_true rfl]
   simp only [isB_t,GqW_t]
   refine ⟨_,hA16.all rfl,_,hB16.all rfl,⟨fun _ => ?_,fun e => by cases e⟩⟩
   refine ref_p hA16.rep fun w20 hx20 r20 => ?_
   refine ⟨fun _ => (hB16.ext hx20).all rfl,⟨fun _ => ?_,fun e => by cases e⟩⟩
   refine same22_ref r20 (hB16.ext hx20).rep fun w22 hx22 => ?_
   rw [(sameA_iff b b).2 rfl,pick_t]
   simp only [isB_t,GqW_t]
   refine ⟨_,rfl,.bool true,by rw [bin_eql]; simp,?_⟩
   rw [pick_t]
   simp only [isB_t,GqW_t]
   refine ⟨_,rfl,_,rfl,.bool true,by rw [bin_seq,decide_eq_true ha],?_⟩
   rw [pick_t]
   exact hK w22 (hx010.trans (hx16.trans (hxd.trans (hx20.trans hx22))))
 · simp only [ext_tuple]
   refine ⟨_,rfl,_,rfl,?_⟩
   refine keep_a r5 fun p w7 sv hA7 hx7 hp7 => ?_
   refine parse22_ref (by omega) (fun b hgb hb => absurd hb (hn b hgb)) (fun _ cs2 w8 hx8 r8 => ?_)
   simp only [ext_tuple]
   refine ⟨_,rfl,_,rfl,?_⟩
   refine keep_a r8 fun q w10 tv hB10 hx10 hq10 => ?_
   rw [un_not,Bool.not_false,condW_true,bin_eql,decide_eq_true rfl]
   have hA10 := hA7.ext (hx8.trans hx10)
   have hx010 : Ext w w10 := hx1.trans (hx5.trans (hx7.trans (hx8.trans hx10)))
   refine GdW.act true (fun w' => Ext w10 w') (fun e => by cases e) (fun _ J hJ => ?_) fun g w15 hx15 => ?_
   · refine hA10.all ?_
     refine ref_p hA10.rep fun w12 hx12 r12 => ?_
     rw [put_nil]
     refine same22_ref r12 (zero_rep w12) fun w14 hx14 => ?_
     rw [(sameA_iff AV.zero AV.zero).2 rfl]
     exact hJ w14 (hx12.trans hx14)
   simp only [List.getD_cons_zero,isB_t]
   rw [pick_gd_and]
   exact hK w15 (hx010.trans hx15)
end
end Go.Proofs.YtcnjpcadejcenaaGreatDoor
namespace Go.Eng
open Go Go.Deep
theorem flat_len {k : Nat} : ∀ (L : List (List Value)),(∀ z ∈ L,z.length = k) → L.flatten.length = L.length * k
 | [],_ => by simp
 | z :: L,hl => by
   rw [List.flatten_cons,List.length_append,flat_len L fun u hu => hl u (List.mem_cons_of_mem _ hu),hl z List.mem_cons_self,List.length_cons,Nat.add_mul]
   omega
section
variable {H : Type} {enc : TypeId × Value → H} {P : Program} {w : World} {base : Nat} {spare : Nat → Bool} {held : Bool}
end
end Go.Eng
namespace Go.Proofs.YtcnjpcadejcenaaGreatDoor
open Go Go.Eng Go.Num Go.Deep
set_option maxRecDepth 100000
instance : Inhabited JV := ⟨JV.null⟩
section
variable {H : Type} {enc : TypeId × Value → H} {w : World} {base : Nat} {spare : Nat → Bool} {held : Bool}
end
end Go.Proofs.YtcnjpcadejcenaaGreatDoor
namespace Go.Proofs.YtcnjpcadejcenaaGreatDoor
open Go.RowKit Go.Eng
set_option maxRecDepth 100000
theorem tab_reads {P : Program} {w : World} {name : String} {k : IntKind} {zs : List Int} {g : Nat} {t e : TypeId} {n : Nat} (hg : P.globalNamed name = some g) (hty : (P.globals[g]?).map (·.type) = some t) (ht : P.underlying t = some (.array n e)) (he : P.underlying e = some (.int k)) (hce : P.cellsOf e = 1) (hct : P.cellsOf t = n)
   (h : Lib.VarReads P w name (Lib.tabData k zs)) : Lib.TabIs P w name k zs := by
 obtain ⟨g',t',cs,fuel,p,hg',ht',hvar,hd⟩ := h
 obtain rfl := Option.some.inj (hg.symm.trans hg')
 obtain rfl := Option.some.inj (hty.symm.trans ht')
 unfold Lib.TabIs
 rw [hvar,← Lib.cells_of_tab ht he hce hct hd]
def bruTab : List Int := [0,1,56,2,57,49,28,3,61,58,42,50,38,29,17,4,62,47,59,36,45,43,51,22,53,39,33,30,24,18,12,5,63,55,48,27,60,41,37,16,46,35,44,21,52,32,23,11,54,26,40,15,34,20,31,10,25,14,19,9,13,8,7,6]
theorem tabs_of {w : World} (hL : laidMetH Tryz.prog Rows.reportPlacesRow.laid w) : Tabs w := by
 have h : laidMet Tryz.prog Rows.reportPlacesRow.laid w := by
   rw [Go.MakeChecks.laidMetH_plain _ _ _ (by kernel_rfl)] at hL
   exact hL
 have r : ∀ n d,(n,d) ∈ Rows.reportPlacesRow.laid → Lib.VarReads Tryz.prog w n d := fun n d hm => Lib.laidMet.reads h hm
 have r1 : Lib.VarReads Tryz.prog w "math/bits.deBruijn64tab" (Lib.tabData .u8 bruTab) := r _ _ (.tail _ (.head _))
 have r2 : Lib.VarReads Tryz.prog w "internal/strconv.uint64pow10" (Lib.tabData .u64 Lib.pow10Tab) := r _ _ (.tail _ (.tail _ (.head _)))
 have r3 : Lib.VarReads Tryz.prog w "unicode/utf8.acceptRanges" Lib.acceptData := r _ _ (.tail _ (.tail _ (.tail _ (.head _))))
 have r4 : Lib.VarReads Tryz.prog w "unicode/utf8.first" Lib.firstData := r _ _ (.tail _ (.tail _ (.tail _ (.tail _ (.tail _ (.tail _ (.head _)))))))
 refine ⟨?_,?_,?_⟩
 · exact Go.Proofs.utf8Tabs_of_readsT (Go.Proofs.U8Types.of196 Tryz.laysValid) ⟨by kernel_rfl,by kernel_rfl,by kernel_rfl,by kernel_rfl,by kernel_rfl,by kernel_rfl,by kernel_rfl⟩ r4 r3
 · have := tab_reads (g := 7) (t := 263) (e := U8) (n := 64) (by kernel_rfl) (by kernel_rfl) (by kernel_rfl) (by kernel_rfl) (by kernel_rfl) (by kernel_rfl) r1
   exact Lib.TabIs.cell this (by kernel_rfl) 15 (by decide)
 · exact tab_reads (g := 3) (t := 224) (e := U64) (n := 20) (by kernel_rfl) (by kernel_rfl) (by kernel_rfl) (by kernel_rfl) (by kernel_rfl) (by kernel_rfl) r2
section
variable {H : Type} {enc : TypeId × Value → H} {w : World} {base : Nat} {spare : Nat → Bool} {held : Bool}
theorem open_s {v : Value} {d : DataW H} {ps : List MemPlace} {r : Reach} {b0 : Nat} (hval : Value.okWide Tryz.prog w r b0 9 v) (h : DataW.Trod enc Tryz.prog w base spare held 9 v d ps) : ∃ s : Str,v = str s ∧ s.length ≤ 9223372036854775807 := by
 obtain ⟨s,rfl,_,_,hs⟩ := Go.ChangeMaps.open_string Tryz.underlying9 hval h
 exact ⟨s.data.toList,by simp [ofL],by unfold maxLen at hs; simpa using hs⟩
end
end Go.Proofs.YtcnjpcadejcenaaGreatDoor
namespace Go.Proofs.YtcnjpcadejcenaaGreatDoor
open Go.RowKit Go.Eng
set_option maxRecDepth 100000
theorem trod_iface {P : Program} {w : World} {fuel : Nat} {t : TypeId} {cs : List Value} {s : String} {x : DataW Unit} {p : List MemPlace} {m : Array TypeId} (ht : ∃ m,P.underlying t = some (.interface m)) (h : DataW.trod (fun _ => ()) P w 0 (fun _ => true) false fuel t cs = some (.iface s x,p)) : ∃ u v,cs = [.iface u v] := by
 obtain ⟨m,ht⟩ := ht
 cases fuel with
 | zero => cases h
 | succ fuel =>
   unfold DataW.trod at h
   rw [ht] at h
   match cs,h with
   | [],h => cases h
   | [v],h =>
     cases v with
     | iface u v => exact ⟨u,v,rfl⟩
     | _ => cases h
   | a :: b :: r,h => simp at h
theorem tabe_of {w : World} {x : DataW Unit} {s : String} (h : Lib.VarReads Tryz.prog w "strconv.ErrSyntax" (.iface s x)) : TabE w := by
 obtain ⟨g',t',cs,fuel,p,hg',ht',hvar,hd⟩ := h
 have hg : Tryz.prog.globalNamed "strconv.ErrSyntax" = some 4 := by kernel_rfl
 have hty : (Tryz.prog.globals[4]?).map (·.type) = some 111 := by kernel_rfl
 obtain rfl := Option.some.inj (hg.symm.trans hg')
 obtain rfl := Option.some.inj (hty.symm.trans ht')
 obtain ⟨u,v,hcs⟩ := trod_iface (m := #[]) ⟨_,Tryz.underlying111⟩ hd
 have := World.var?_cell hg hvar 0
 refine ⟨u,v,?_⟩
 rw [this]
 have e : cs = #[.iface u v] := by
   apply Array.ext'
   rw [hcs]
 rw [e]; rfl
theorem tabsj_of {w : World} (hL : laidMetH Tryz.prog Rows.jsoncBackRow.laid w) : TabJ w := by
 have h : laidMet Tryz.prog Rows.jsoncBackRow.laid w := by
   rw [Go.MakeChecks.laidMetH_plain _ _ _ (by kernel_rfl)] at hL
   exact hL
 have r : ∀ n d,(n,d) ∈ Rows.jsoncBackRow.laid → Lib.VarReads Tryz.prog w n d := fun n d hm => Lib.laidMet.reads h hm
 have hT := tabs_of (w := w) hL
 have r5 : Lib.VarReads Tryz.prog w "strconv.ErrSyntax" Rows.laid_strconv_ErrSyntax := r _ _ (.tail _ (.tail _ (.tail _ (.tail _ (.tail _ (.head _))))))
 exact ⟨hT.utf,hT.bru,tabe_of r5⟩
section
variable {H : Type} {enc : TypeId × Value → H} {w : World} {base : Nat} {spare : Nat → Bool} {held : Bool}
end
end Go.Proofs.YtcnjpcadejcenaaGreatDoor
namespace Go.Proofs.YtcnjpcadejcenaaGreatDoor
open Go Go.RowKit Go.Eng
set_option maxRecDepth 100000
theorem tabr_of {w : World} {x : DataW Unit} {s : String} (h : Lib.VarReads Tryz.prog w "strconv.ErrRange" (.iface s x)) : ∃ T v,w.cell? ⟨5,0,none⟩ = some (.iface T v) := by
 obtain ⟨g',t',cs,fuel,p,hg',ht',hvar,hd⟩ := h
 have hg : Tryz.prog.globalNamed "strconv.ErrRange" = some 5 := by kernel_rfl
 have hty : (Tryz.prog.globals[5]?).map (·.type) = some 111 := by kernel_rfl
 obtain rfl := Option.some.inj (hg.symm.trans hg')
 obtain rfl := Option.some.inj (hty.symm.trans ht')
 obtain ⟨u,v,hcs⟩ := trod_iface (m := #[]) ⟨_,Tryz.underlying111⟩ hd
 have := World.var?_cell hg hvar 0
 refine ⟨u,v,?_⟩
 rw [this]
 have e : cs = #[.iface u v] := by
   apply Array.ext'
   rw [hcs]
 rw [e]; rfl
theorem taba_of {w : World} (hL : laidMetH Tryz.prog Rows.addrWithinRow.laid w) : TabA w := by
 have h : laidMet Tryz.prog Rows.addrWithinRow.laid w := by
   rw [Go.MakeChecks.laidMetH_plain _ _ _ (by kernel_rfl)] at hL
   exact hL
 have r : ∀ n d,(n,d) ∈ Rows.addrWithinRow.laid → Lib.VarReads Tryz.prog w n d := fun n d hm => Lib.laidMet.reads h hm
 have hT := tabs_of (w := w) hL
 have hJ := tabsj_of (w := w) hL
 have r4 : Lib.VarReads Tryz.prog w "strconv.ErrRange" Rows.laid_strconv_ErrRange := r _ _ (.tail _ (.tail _ (.tail _ (.tail _ (.head _)))))
 exact ⟨hT,hJ.err,tabr_of r4⟩
section
variable {H : Type} {enc : TypeId × Value → H} {w : World} {base : Nat} {spare : Nat → Bool} {held : Bool}
end
end Go.Proofs.YtcnjpcadejcenaaGreatDoor
