/- One plain sentence: weakest preconditions, contracts and plain laws that the claim rests on, text behind text. Conditions: those that each states. -/
import Derived.Test.YtcnjpcadejcenaaGreatDoorMS4
import Derived.Test.YtcnjpcadejcenaaGreatDoorMS2
import Derived.Test.YtcnjpcadejcenaaGreatDoorMS1
import Derived.Deep.Slices
import Derived.DataReads
import Derived.ChangeArms
import Derived.Test.YtcnjpcadejcenaaGreatDoorMS3
import Derived.OpenShut
import Derived.Test.YtcnjpcadejcenaaGreatDoorRows
import Derived.Below
import Derived.RowKit
import Derived.ChangeMaps5
import Derived.MakeChecks
import Derived.Lib.LaidU8T
import Derived.Lib.LaidTab
set_option linter.all false
set_option linter.unusedSimpArgs false
set_option linter.unusedVariables false
set_option linter.unusedSectionVars false
namespace Go.Proofs.YtcnjpcadejcenaaGreatDoor
open Go Go.Eng Go.RowKit
set_option maxRecDepth 100000
structure TabJ (w : World) : Prop where
  utf : TabU w
  bru : TabB w
  err : TabE w
theorem TabJ.ext {w w' : World} (h : TabJ w) (hx : Ext w w') : TabJ w' := ⟨h.utf.ext hx, cell_ext hx h.bru, h.err.ext hx⟩
abbrev aw1 : Str := [32, 123, 34, 98, 34, 32, 58, 32, 91, 49, 44, 32, 110, 117, 108, 108, 93, 44, 32, 34, 97, 34, 58, 34, 120, 92, 110, 34, 125]
abbrev awV : JV := .mk 6 false [] [.mk 4 false [120, 10] [] [], .mk 5 false [] [.mk 3 false [49] [] [], .mk 0 false [] [] []] []] [[97], [98]]
theorem aw_dec : decM En aw1 = .ok awV 29 5 := by kernel_rfl
theorem aw_enc : encM 1 20 31 3 awV = ([123, 34, 97, 34, 58, 34, 120, 92, 110, 34, 44, 34, 98, 34, 58, 91, 49, 44, 110, 117, 108, 108, 93, 125], 0) := by kernel_rfl
theorem aw_bad : decM En [91, 49, 44, 93] = .bad 30 3 := by kernel_rfl
section
variable [HX]
theorem eqp_nn (n : Bool) (K : Value → Prop) : eqW .ptr n (.pointer none) (.pointer none) K ↔ K (.bool (!n)) := by cases n <;> exact Iff.rfl
theorem eqp_sn (n : Bool) (a : Addr) (K : Value → Prop) : eqW .ptr n (.pointer (some a)) (.pointer none) K ↔ K (.bool n) := Iff.rfl
theorem keep_val {w : World} {v : JV} {cs : List Value} {K : Value → World → Prop} (h : VRep w v cs) (hK : ∀ a w' sv kv, ValB w' a v sv kv → Ext w w' → K (.pointer (some ⟨a, 0, none⟩)) w') :
    allocW VT [(.int .i64 0), (.bool false), (.string (ofL [])), (.slice none 0 0), (.slice none 0 0)] w fun t1 w2 => stW 5 t1 (.agg cs.toArray) w2 fun w3 => K t1 w3 := copy_new h hK
theorem awake_j {w : World} {K : Value → World → Prop} (hT : TabJ w) (hK : ∀ w', Ext w w' → K (.bool true) w') : callF Tryz.prog 15 [] w K := by
  refine W15_ok ?_
  unfold W15
  refine decode_p (s := aw1) hT.utf hT.err (by decide) (fun v j c hv cs w1 hx1 hr1 => ?_) (fun e i hv => by rw [aw_dec] at hv; cases hv)
  rw [aw_dec] at hv
  cases hv
  simp only [ext_tuple]
  refine ⟨_, rfl, _, rfl, ?_⟩
  refine keep_val hr1.rep fun a w3 sv kv hB hx3 => ?_
  refine hB.ld fun cs1 h1 => ?_
  have hT3 := hT.ext (hx1.trans hx3)
  refine encode_p hT3.utf (fmt_ok hT3.bru) h1 fun w4 hx4 => ?_
  rw [aw_enc]
  simp only [ext_tuple]
  refine ⟨_, rfl, _, rfl, ?_⟩
  have hT4 := hT3.ext hx4
  refine decode_p (s := [91, 49, 44, 93]) hT4.utf hT4.err (by decide) (fun v j c hv => by rw [aw_bad] at hv; cases hv) (fun e i hv d w5 hx5 hd hbd => ?_)
  rw [aw_bad] at hv
  cases hv
  simp only [ext_tuple]
  refine ⟨_, rfl, _, rfl, ?_⟩
  refine keep_val (vrep_null w5) fun a2 w7 sv2 kv2 hB2 hx7 => ?_
  have hbd7 := hx7.at hbd id
  have hx := (hx1.trans hx3).trans (hx4.trans (hx5.trans hx7))
  rw [eqp_nn]
  simp only [isB_t, bin_eql, bin_seq, GdW_pure, Bool.not_false, cond_true, List.getD_cons_zero, pick_t]
  intros
  simp only [isB_t, bin_eql, bin_seq, eqp_sn, GdW_pure, Bool.not_false, cond_true, List.getD_cons_zero, pick_t, decide_true]
  intros
  simp only [nil_ptr, fld_ptr, ld_one, add_mk, Nat.zero_add, cell_eq, hbd7, cellO_some]
  refine GdW.act true (fun w' => w' = w7) (fun e => by cases e) ?_ ?_
  · intro _ J hJ
    refine ⟨i64 30, rfl, ?_⟩
    rw [bin_eql, decide_eq_true rfl]
    exact hJ _ rfl
  rintro g w8 rfl
  simp only [cond_true, List.getD_cons_zero, isB_t]
  refine GdW.act true (fun w' => w' = w8) (fun e => by cases e) ?_ ?_
  · intro _ J hJ
    refine ⟨i64 3, by rw [hbd7]; rfl, ?_⟩
    rw [bin_eql, decide_eq_true rfl]
    exact hJ _ rfl
  rintro g w9 rfl
  simp only [cond_true, List.getD_cons_zero, pick_t]
  exact hK _ hx
end
end Go.Proofs.YtcnjpcadejcenaaGreatDoor
namespace Go.Proofs.YtcnjpcadejcenaaGreatDoor
open Go Go.Eng
set_option maxRecDepth 100000
variable [HX]
def plan5 : Plan := { js := [(49004, ⟨[80], [], 79⟩), (49009, ⟨[76], [], 74⟩), (49013, ⟨[71], [], 70⟩), (33006, ⟨[50], [], 47⟩), (10, ⟨[], [], 2⟩), (19005, ⟨[34], [], 31⟩)], ds := [] }
def W5 (v0 v1 : Value) (w : World) (K : Value → World → Prop) : Prop :=
  boxW 26 v0 w fun t2 w1 =>
  callF Tryz.prog 15 [] w1 fun t14 w2 =>
  unW .not t14 fun t15 =>
  condW t15 (
    K (.bool false) w2) (
    JoinW (fun J3 =>
      ldW true 5 t2 w2 fun t17 =>
      callF Tryz.prog 16 [t17] w2 fun t18 w4 =>
      extW 0 t18 fun t19 =>
      extW 1 t18 fun t20 =>
      binW .eql t20 (.int .i64 0) fun t22 =>
      condW t22 (
        callF Tryz.prog 18 [t19] w4 fun t25 w5 =>
        extW 0 t25 fun t26 =>
        extW 1 t25 fun t27 =>
        allocW 26 [(.int .i64 0), (.bool false), (.string (ofL [])), (.slice none 0 0), (.slice none 0 0)] w5 fun t7 w6 =>
        stW 5 t7 t26 w6 fun w7 =>
        eqW .ptr true t27 (.pointer none) fun t29 =>
        GdW (isB t29 false) [undef] w7 (fun J8 =>
          ldW true 5 t2 w7 fun t31 =>
          ldW true 5 t7 w7 fun t32 =>
          callF Tryz.prog 21 [t31, t32] w7 fun t33 w9 =>
          unW .not t33 fun t34 =>
          J8 [t34] w9)
        fun s8 _ w10 =>
        pickW t29 (.bool true) (s8.getD 0 undef) fun t35 =>
        condW t35 (
          K (.bool false) w10) (
          J3 [] w10)) (
        J3 [] w4))
    fun s3 _ w11 =>
    callF Tryz.prog 18 [v1] w11 fun t38 w12 =>
    extW 0 t38 fun t39 =>
    extW 1 t38 fun t40 =>
    allocW 26 [(.int .i64 0), (.bool false), (.string (ofL [])), (.slice none 0 0), (.slice none 0 0)] w12 fun t9 w13 =>
    stW 5 t9 t39 w13 fun w14 =>
    eqW .ptr true t40 (.pointer none) fun t42 =>
    condW t42 (
      fldW 0 t9 fun t43 =>
      ldW false 1 t43 w14 fun t44 =>
      binW .eql t44 (.int .i64 0) fun t45 =>
      GdW (isB t45 true) [undef] w14 (fun J15 =>
        fldW 3 t9 fun t47 =>
        ldW false 1 t47 w14 fun t48 =>
        lenlW t48 fun t49 =>
        binW .eql t49 (.int .i64 0) fun t50 =>
        J15 [t50] w14)
      fun s15 _ w16 =>
      pickW t45 (s15.getD 0 undef) (.bool false) fun t51 =>
      K t51 w16) (
      ldW true 5 t9 w14 fun t53 =>
      callF Tryz.prog 16 [t53] w14 fun t54 w17 =>
      extW 0 t54 fun t55 =>
      extW 1 t54 fun t56 =>
      binW .eql t56 (.int .i64 3) fun t58 =>
      condW t58 (
        lensW v1 fun t60 =>
        binW .gtr t60 (.int .i64 1000) fun t61 =>
        K t61 w17) (
        callF Tryz.prog 18 [t55] w17 fun t64 w18 =>
        extW 0 t64 fun t65 =>
        extW 1 t64 fun t66 =>
        allocW 26 [(.int .i64 0), (.bool false), (.string (ofL [])), (.slice none 0 0), (.slice none 0 0)] w18 fun t13 w19 =>
        stW 5 t13 t65 w19 fun w20 =>
        binW .eql t56 (.int .i64 0) fun t68 =>
        GdW (isB t68 true) [undef] w20 (fun J21 =>
          eqW .ptr false t66 (.pointer none) fun t71 =>
          J21 [t71] w20)
        fun s21 _ w22 =>
        pickW t68 (s21.getD 0 undef) (.bool false) fun t72 =>
        GdW (isB t72 true) [undef] w22 (fun J23 =>
          ldW true 5 t13 w22 fun t74 =>
          ldW true 5 t9 w22 fun t75 =>
          callF Tryz.prog 21 [t74, t75] w22 fun t76 w24 =>
          J23 [t76] w24)
        fun s23 _ w25 =>
        pickW t72 (s23.getD 0 undef) (.bool false) fun t77 =>
        GdW (isB t77 true) [undef] w25 (fun J26 =>
          ldW true 5 t9 w25 fun t79 =>
          callF Tryz.prog 22 [t79] w25 fun t80 w27 =>
          J26 [t80] w27)
        fun s26 _ w28 =>
        pickW t77 (s26.getD 0 undef) (.bool false) fun t81 =>
        K t81 w28)))
theorem W5_eq (v0 v1 : Value) (w : World) (K : Value → World → Prop) : funW Tryz.prog Tryz.f5 plan5 [v0, v1] w K = W5 v0 v1 w K := by kernel_rfl
theorem W5_chk : chkFun Tryz.prog Tryz.f5 plan5 2 = true := by kernel_rfl
theorem W5_ok {v0 v1 : Value} {w : World} {K : Value → World → Prop} (h : W5 v0 v1 w K) : callF Tryz.prog 5 [v0, v1] w K :=
  tie Tryz.prog 5 Tryz.f5 plan5 [v0, v1] w K 2 (W5 v0 v1 w K) rfl mixed Tryz.func5 W5_chk (W5_eq v0 v1 w K) Tryz.call5 h
def plan6 : Plan := { js := [(86004, ⟨[139], [], 138⟩), (86008, ⟨[135], [], 134⟩), (86015, ⟨[131], [], 127⟩), (66, ⟨[101], [15], 101⟩), (45, ⟨[8, 9], [], 1⟩), (33002, ⟨[68], [], 62⟩), (33005, ⟨[67], [], 65⟩), (33008, ⟨[64], [], 62⟩), (33011, ⟨[59], [], 50⟩), (33013, ⟨[58], [], 57⟩), (33015, ⟨[56], [], 50⟩), (33017, ⟨[54], [], 53⟩), (33020, ⟨[52], [], 50⟩), (33025, ⟨[47], [], 45⟩), (18, ⟨[3, 4, 5], [], 1⟩)], ds := [] }
def W6 (v0 : Value) (w : World) (K : Value → World → Prop) : Prop :=
  callF Tryz.prog 15 [] w fun t20 w1 =>
  unW .not t20 fun t21 =>
  condW t21 (
    K (.bool false) w1) (
    cvtW .u64 v0 fun t23 =>
    binW .rem t23 (.int .u64 40) fun t24 =>
    cvtW .i64 t24 fun t25 =>
    LoopW [(.string (ofL [])), (.string (ofL [])), (.int .i64 0)] w1 fun s2 _ w3 L2 =>
      binW .lss (s2.getD 2 undef) t25 fun t28 =>
      condW t28 (
        binW .add (s2.getD 0 undef) (.string (ofL [91])) fun t32 =>
        binW .add (s2.getD 1 undef) (.string (ofL [93])) fun t34 =>
        binW .add (s2.getD 2 undef) (.int .i64 1) fun t30 =>
        L2 [t32, t34, t30] w3) (
        binW .add (s2.getD 0 undef) (s2.getD 1 undef) fun t38 =>
        callF Tryz.prog 18 [t38] w3 fun t39 w4 =>
        extW 0 t39 fun t40 =>
        extW 1 t39 fun t41 =>
        allocW 26 [(.int .i64 0), (.bool false), (.string (ofL [])), (.slice none 0 0), (.slice none 0 0)] w4 fun t6 w5 =>
        stW 5 t6 t40 w5 fun w6 =>
        binW .eql t25 (.int .i64 0) fun t43 =>
        GdW (isB t43 true) [undef] w6 (fun J7 =>
          callF Tryz.prog 20 [t41, (.int .i64 30), (.int .i64 0)] w6 fun t46 w8 =>
          unW .not t46 fun t47 =>
          J7 [t47] w8)
        fun s7 _ w9 =>
        pickW t43 (s7.getD 0 undef) (.bool false) fun t48 =>
        GdW (isB t48 false) [undef] w9 (fun J10 =>
          binW .gtr t25 (.int .i64 0) fun t51 =>
          J10 [t51] w9)
        fun s10 _ w11 =>
        GdW (isB (s10.getD 0 undef) true) [undef] w11 (fun J12 =>
          binW .leq t25 (.int .i64 24) fun t54 =>
          J12 [t54] w11)
        fun s12 _ w13 =>
        GdW (isB t48 false) [undef] w13 (fun J14 =>
          pickW (s10.getD 0 undef) (s12.getD 0 undef) (.bool false) fun t55 =>
          J14 [t55] w13)
        fun s14 _ w15 =>
        GdW (isB (s14.getD 0 undef) true) [undef] w15 (fun J16 =>
          eqW .ptr true t41 (.pointer none) fun t58 =>
          J16 [t58] w15)
        fun s16 _ w17 =>
        GdW (isB t48 false) [undef] w17 (fun J18 =>
          pickW (s14.getD 0 undef) (s16.getD 0 undef) (.bool false) fun t59 =>
          J18 [t59] w17)
        fun s18 _ w19 =>
        pickW t48 (.bool true) (s18.getD 0 undef) fun t60 =>
        GdW (isB t60 false) [undef] w19 (fun J20 =>
          binW .gtr t25 (.int .i64 24) fun t63 =>
          J20 [t63] w19)
        fun s20 _ w21 =>
        GdW (isB (s20.getD 0 undef) true) [undef] w21 (fun J22 =>
          callF Tryz.prog 20 [t41, (.int .i64 7), (.int .i64 24)] w21 fun t66 w23 =>
          unW .not t66 fun t67 =>
          J22 [t67] w23)
        fun s22 _ w24 =>
        GdW (isB t60 false) [undef] w24 (fun J25 =>
          pickW (s20.getD 0 undef) (s22.getD 0 undef) (.bool false) fun t68 =>
          J25 [t68] w24)
        fun s25 _ w26 =>
        pickW t60 (.bool true) (s25.getD 0 undef) fun t69 =>
        condW t69 (
          K (.bool false) w26) (
          semE Tryz.prog (Instr.makeSlice 44 (.int .i64 0) (.int .i64 5000)) w26 fun t70 w27 =>
          LoopW [t70, (.int .i64 0)] w27 fun s28 _ w29 L28 =>
            binW .lss (s28.getD 1 undef) (.int .i64 1999) fun t72 =>
            condW t72 (
              bslW 5 2 [(.int .u8 0), (.int .u8 0)] [(0, 1, (.int .u8 49)), (1, 1, (.int .u8 44))] w29 fun t76 w30 =>
              semE Tryz.prog (Builtin.append_ #[44, 44] 44 #[(s28.getD 0 undef), t76]) w30 fun t77 w31 =>
              binW .add (s28.getD 1 undef) (.int .i64 1) fun t74 =>
              L28 [t77, t74] w31) (
              lenlW (s28.getD 0 undef) fun t81 =>
              binW .sub t81 (.int .i64 1) fun t82 =>
              sllW 1 (s28.getD 0 undef) none (some t82) none fun t83 =>
              semQ Tryz.prog (convert 44 9 t83) w29 fun t84 =>
              binW .add (.string (ofL [91])) t84 fun t85 =>
              binW .add t85 (.string (ofL [93])) fun t86 =>
              callF Tryz.prog 18 [t86] w29 fun t87 w32 =>
              extW 0 t87 fun t88 =>
              extW 1 t87 fun t89 =>
              allocW 26 [(.int .i64 0), (.bool false), (.string (ofL [])), (.slice none 0 0), (.slice none 0 0)] w32 fun t10 w33 =>
              stW 5 t10 t88 w33 fun w34 =>
              semQ Tryz.prog (convert 44 9 (s28.getD 0 undef)) w34 fun t92 =>
              binW .add (.string (ofL [91])) t92 fun t93 =>
              binW .add t93 (.string (ofL [49, 93])) fun t94 =>
              callF Tryz.prog 18 [t94] w34 fun t95 w35 =>
              extW 0 t95 fun t96 =>
              extW 1 t95 fun t97 =>
              allocW 26 [(.int .i64 0), (.bool false), (.string (ofL [])), (.slice none 0 0), (.slice none 0 0)] w35 fun t12 w36 =>
              stW 5 t12 t96 w36 fun w37 =>
              semE Tryz.prog (Instr.makeSlice 44 (.int .i64 65536) (.int .i64 65536)) w37 fun t98 w38 =>
              lenlW t98 fun t100 =>
              LoopW [(.int .i64 0)] w38 fun s39 _ w40 L39 =>
                binW .lss (s39.getD 0 undef) t100 fun t102 =>
                condW t102 (
                  ixaW none 1 t98 (s39.getD 0 undef) fun t106 =>
                  stW 1 t106 (.int .u8 32) w40 fun w41 =>
                  binW .add (s39.getD 0 undef) (.int .i64 1) fun t107 =>
                  L39 [t107] w41) (
                  ixaW none 1 t98 t25 fun t110 =>
                  stW 1 t110 (.int .u8 55) w40 fun w42 =>
                  semQ Tryz.prog (convert 44 9 t98) w42 fun t113 =>
                  callF Tryz.prog 18 [t113] w42 fun t114 w43 =>
                  extW 0 t114 fun t115 =>
                  extW 1 t114 fun t116 =>
                  allocW 26 [(.int .i64 0), (.bool false), (.string (ofL [])), (.slice none 0 0), (.slice none 0 0)] w43 fun t16 w44 =>
                  stW 5 t16 t115 w44 fun w45 =>
                  semQ Tryz.prog (convert 44 9 t98) w45 fun t119 =>
                  binW .add t119 (.string (ofL [32])) fun t120 =>
                  callF Tryz.prog 18 [t120] w45 fun t121 w46 =>
                  extW 0 t121 fun t122 =>
                  extW 1 t121 fun t123 =>
                  allocW 26 [(.int .i64 0), (.bool false), (.string (ofL [])), (.slice none 0 0), (.slice none 0 0)] w46 fun t18 w47 =>
                  stW 5 t18 t122 w47 fun w48 =>
                  eqW .ptr false t89 (.pointer none) fun t125 =>
                  GdW (isB t125 true) [undef] w48 (fun J49 =>
                    lenlW (s28.getD 0 undef) fun t129 =>
                    binW .add (.int .i64 1) t129 fun t130 =>
                    callF Tryz.prog 20 [t97, (.int .i64 3), t130] w48 fun t131 w50 =>
                    J49 [t131] w50)
                  fun s49 _ w51 =>
                  pickW t125 (s49.getD 0 undef) (.bool false) fun t132 =>
                  GdW (isB t132 true) [undef] w51 (fun J52 =>
                    eqW .ptr false t116 (.pointer none) fun t135 =>
                    J52 [t135] w51)
                  fun s52 _ w53 =>
                  pickW t132 (s52.getD 0 undef) (.bool false) fun t136 =>
                  GdW (isB t136 true) [undef] w53 (fun J54 =>
                    callF Tryz.prog 20 [t123, (.int .i64 3), (.int .i64 0)] w53 fun t139 w55 =>
                    J54 [t139] w55)
                  fun s54 _ w56 =>
                  pickW t136 (s54.getD 0 undef) (.bool false) fun t140 =>
                  K t140 w56)))))
theorem W6_eq (v0 : Value) (w : World) (K : Value → World → Prop) : funW Tryz.prog Tryz.f6 plan6 [v0] w K = W6 v0 w K := by kernel_rfl
theorem W6_chk : chkFun Tryz.prog Tryz.f6 plan6 1 = true := by kernel_rfl
theorem W6_ok {v0 : Value} {w : World} {K : Value → World → Prop} (h : W6 v0 w K) : callF Tryz.prog 6 [v0] w K :=
  tie Tryz.prog 6 Tryz.f6 plan6 [v0] w K 1 (W6 v0 w K) rfl mixed Tryz.func6 W6_chk (W6_eq v0 w K) Tryz.call6 h
def plan7 : Plan := { js := [(72005, ⟨[142], [], 140⟩), (67004, ⟨[129], [], 128⟩), (67010, ⟨[125], [], 122⟩), (61, ⟨[8], [8], 11⟩), (63003, ⟨[116], [], 115⟩), (55, ⟨[7], [7], 11⟩), (57003, ⟨[105], [], 104⟩), (47, ⟨[7], [7], 13⟩), (46003, ⟨[88], [], 55⟩), (46007, ⟨[87], [], 84⟩), (46009, ⟨[83], [], 55⟩), (46013, ⟨[81], [], 78⟩), (46015, ⟨[77], [], 55⟩), (46019, ⟨[75], [], 72⟩), (46021, ⟨[71], [], 55⟩), (46025, ⟨[69], [], 66⟩), (46027, ⟨[65], [], 55⟩), (46031, ⟨[63], [], 60⟩), (46036, ⟨[59], [], 55⟩), (39, ⟨[11], [], 11⟩), (28, ⟨[7, 8, 9, 10], [], 6⟩), (14004, ⟨[27], [], 25⟩)], ds := [] }
def W7 (v0 v1 : Value) (w : World) (K : Value → World → Prop) : Prop :=
  boxW 26 v0 w fun t2 w1 =>
  callF Tryz.prog 15 [] w1 fun t15 w2 =>
  unW .not t15 fun t16 =>
  condW t16 (
    K (.bool false) w2) (
    ldW true 5 t2 w2 fun t18 =>
    callF Tryz.prog 16 [t18] w2 fun t19 w3 =>
    extW 0 t19 fun t20 =>
    extW 1 t19 fun t21 =>
    binW .neq t21 (.int .i64 0) fun t23 =>
    GdW (isB t23 false) [undef] w3 (fun J4 =>
      lensW t20 fun t26 =>
      binW .gtr t26 (.int .i64 10000) fun t27 =>
      J4 [t27] w3)
    fun s4 _ w5 =>
    pickW t23 (.bool true) (s4.getD 0 undef) fun t28 =>
    condW t28 (
      K (.bool true) w5) (
      lensW t20 fun t30 =>
      binW .mul (.int .i64 3) t30 fun t31 =>
      semE Tryz.prog (Instr.makeSlice 44 (.int .i64 0) t31) w5 fun t32 w6 =>
      LoopW [t32, (.bool false), (.bool false), (.int .i64 0)] w6 fun s7 _ w8 L7 =>
        lensW t20 fun t35 =>
        binW .lss (s7.getD 3 undef) t35 fun t36 =>
        condW t36 (
          JoinW (fun J9 =>
            lenlW v1 fun t40 =>
            binW .gtr t40 (.int .i64 0) fun t41 =>
            condW t41 (
              lenlW v1 fun t45 =>
              binW .rem (s7.getD 3 undef) t45 fun t46 =>
              ixaW none 1 v1 t46 fun t47 =>
              ldW false 1 t47 w8 fun t48 =>
              cvtW .u64 t48 fun t49 =>
              binW .rem t49 (.int .u64 4) fun t50 =>
              cvtW .i64 t50 fun t51 =>
              J9 [t51] w8) (
              J9 [(.int .i64 0)] w8))
          fun s9 _ w10 =>
          unW .not (s7.getD 1 undef) fun t53 =>
          GdW (isB t53 true) [undef] w10 (fun J11 =>
            ixsW t20 (s7.getD 3 undef) fun t57 =>
            binW .eql t57 (.int .u8 123) fun t58 =>
            J11 [t58] w10)
          fun s11 _ w12 =>
          GdW (isB (s11.getD 0 undef) false) [undef] w12 (fun J13 =>
            ixsW t20 (s7.getD 3 undef) fun t62 =>
            binW .eql t62 (.int .u8 91) fun t63 =>
            J13 [t63] w12)
          fun s13 _ w14 =>
          GdW (isB t53 true) [undef] w14 (fun J15 =>
            pickW (s11.getD 0 undef) (.bool true) (s13.getD 0 undef) fun t64 =>
            J15 [t64] w14)
          fun s15 _ w16 =>
          GdW (isB (s15.getD 0 undef) false) [undef] w16 (fun J17 =>
            ixsW t20 (s7.getD 3 undef) fun t68 =>
            binW .eql t68 (.int .u8 44) fun t69 =>
            J17 [t69] w16)
          fun s17 _ w18 =>
          GdW (isB t53 true) [undef] w18 (fun J19 =>
            pickW (s15.getD 0 undef) (.bool true) (s17.getD 0 undef) fun t70 =>
            J19 [t70] w18)
          fun s19 _ w20 =>
          GdW (isB (s19.getD 0 undef) false) [undef] w20 (fun J21 =>
            ixsW t20 (s7.getD 3 undef) fun t74 =>
            binW .eql t74 (.int .u8 58) fun t75 =>
            J21 [t75] w20)
          fun s21 _ w22 =>
          GdW (isB t53 true) [undef] w22 (fun J23 =>
            pickW (s19.getD 0 undef) (.bool true) (s21.getD 0 undef) fun t76 =>
            J23 [t76] w22)
          fun s23 _ w24 =>
          GdW (isB (s23.getD 0 undef) false) [undef] w24 (fun J25 =>
            ixsW t20 (s7.getD 3 undef) fun t80 =>
            binW .eql t80 (.int .u8 93) fun t81 =>
            J25 [t81] w24)
          fun s25 _ w26 =>
          GdW (isB t53 true) [undef] w26 (fun J27 =>
            pickW (s23.getD 0 undef) (.bool true) (s25.getD 0 undef) fun t82 =>
            J27 [t82] w26)
          fun s27 _ w28 =>
          GdW (isB (s27.getD 0 undef) false) [undef] w28 (fun J29 =>
            ixsW t20 (s7.getD 3 undef) fun t86 =>
            binW .eql t86 (.int .u8 125) fun t87 =>
            J29 [t87] w28)
          fun s29 _ w30 =>
          GdW (isB t53 true) [undef] w30 (fun J31 =>
            pickW (s27.getD 0 undef) (.bool true) (s29.getD 0 undef) fun t88 =>
            J31 [t88] w30)
          fun s31 _ w32 =>
          pickW t53 (s31.getD 0 undef) (.bool false) fun t89 =>
          JoinW (fun J33 =>
            condW t89 (
              ixsW (.string (ofL [32, 10, 9, 13])) (s9.getD 0 undef) fun t93 =>
              bslW 5 1 [(.int .u8 0)] [(0, 1, t93)] w32 fun t94 w34 =>
              semE Tryz.prog (Builtin.append_ #[44, 44] 44 #[(s7.getD 0 undef), t94]) w34 fun t95 w35 =>
              J33 [t95] w35) (
              J33 [(s7.getD 0 undef)] w32))
          fun s33 _ w36 =>
          ixsW t20 (s7.getD 3 undef) fun t99 =>
          bslW 5 1 [(.int .u8 0)] [(0, 1, t99)] w36 fun t100 w37 =>
          semE Tryz.prog (Builtin.append_ #[44, 44] 44 #[(s33.getD 0 undef), t100]) w37 fun t101 w38 =>
          JoinW (fun J39 =>
            GdW (isB t89 true) [undef] w38 (fun J40 =>
              binW .gtr (s9.getD 0 undef) (.int .i64 0) fun t105 =>
              J40 [t105] w38)
            fun s40 _ w41 =>
            pickW t89 (s40.getD 0 undef) (.bool false) fun t106 =>
            condW t106 (
              bslW 5 1 [(.int .u8 0)] [(0, 1, (.int .u8 32))] w41 fun t108 w42 =>
              semE Tryz.prog (Builtin.append_ #[44, 44] 44 #[t101, t108]) w42 fun t109 w43 =>
              J39 [t109] w43) (
              J39 [t101] w41))
          fun s39 _ w44 =>
          JoinW (fun J45 =>
            ixsW t20 (s7.getD 3 undef) fun t112 =>
            binW .eql t112 (.int .u8 34) fun t113 =>
            GdW (isB t113 true) [undef] w44 (fun J46 =>
              unW .not (s7.getD 2 undef) fun t116 =>
              J46 [t116] w44)
            fun s46 _ w47 =>
            pickW t113 (s46.getD 0 undef) (.bool false) fun t117 =>
            condW t117 (
              unW .not (s7.getD 1 undef) fun t119 =>
              J45 [t119] w47) (
              J45 [(s7.getD 1 undef)] w47))
          fun s45 _ w48 =>
          GdW (isB (s45.getD 0 undef) true) [undef] w48 (fun J49 =>
            ixsW t20 (s7.getD 3 undef) fun t124 =>
            binW .eql t124 (.int .u8 92) fun t125 =>
            J49 [t125] w48)
          fun s49 _ w50 =>
          pickW (s45.getD 0 undef) (s49.getD 0 undef) (.bool false) fun t126 =>
          GdW (isB t126 true) [undef] w50 (fun J51 =>
            unW .not (s7.getD 2 undef) fun t129 =>
            J51 [t129] w50)
          fun s51 _ w52 =>
          pickW t126 (s51.getD 0 undef) (.bool false) fun t130 =>
          binW .add (s7.getD 3 undef) (.int .i64 1) fun t38 =>
          L7 [(s39.getD 0 undef), (s45.getD 0 undef), t130, t38] w52) (
          semQ Tryz.prog (convert 44 9 (s7.getD 0 undef)) w8 fun t133 =>
          callF Tryz.prog 18 [t133] w8 fun t134 w53 =>
          extW 0 t134 fun t135 =>
          extW 1 t134 fun t136 =>
          allocW 26 [(.int .i64 0), (.bool false), (.string (ofL [])), (.slice none 0 0), (.slice none 0 0)] w53 fun t13 w54 =>
          stW 5 t13 t135 w54 fun w55 =>
          eqW .ptr false t136 (.pointer none) fun t138 =>
          GdW (isB t138 true) [undef] w55 (fun J56 =>
            ldW true 5 t2 w55 fun t140 =>
            ldW true 5 t13 w55 fun t141 =>
            callF Tryz.prog 21 [t140, t141] w55 fun t142 w57 =>
            J56 [t142] w57)
          fun s56 _ w58 =>
          pickW t138 (s56.getD 0 undef) (.bool false) fun t143 =>
          K t143 w58)))
theorem W7_eq (v0 v1 : Value) (w : World) (K : Value → World → Prop) : funW Tryz.prog Tryz.f7 plan7 [v0, v1] w K = W7 v0 v1 w K := by kernel_rfl
theorem W7_chk : chkFun Tryz.prog Tryz.f7 plan7 2 = true := by kernel_rfl
theorem W7_ok {v0 v1 : Value} {w : World} {K : Value → World → Prop} (h : W7 v0 v1 w K) : callF Tryz.prog 7 [v0, v1] w K :=
  tie Tryz.prog 7 Tryz.f7 plan7 [v0, v1] w K 2 (W7 v0 v1 w K) rfl mixed Tryz.func7 W7_chk (W7_eq v0 v1 w K) Tryz.call7 h
end Go.Proofs.YtcnjpcadejcenaaGreatDoor
namespace Go.Proofs.YtcnjpcadejcenaaGreatDoor
open Go Go.Eng Go.RowKit
set_option maxRecDepth 100000
theorem item_good {v : JV} (h : Eng.Item 24 v) (hc : cntM v ≤ 2000) : goodM v = true := by
  unfold goodM
  rw [h.deep, h.plain, (size_cnt 24 (Nat.le_refl _) v h.deep).2 (by omega), decide_eq_true (by omega)]
  rfl
theorem enc_item {v : JV} (h : Eng.Item 24 v) (hc : cntM v ≤ 2000) (hl : (showM v).length ≤ 65536) : encM 1 20 31 3 v = (showM v, 0) := by
  unfold encM
  rw [if_neg (by rw [item_good h hc]; simp), if_neg (by rw [h.known]; simp), if_neg (by rw [h.texts]; simp), if_neg (by omega)]
theorem enc_ok {v : JV} (h : (encM 1 20 31 3 v).2 = 0) : Eng.Item 24 v ∧ cntM v ≤ 2000 ∧ (showM v).length ≤ 65536 ∧ encM 1 20 31 3 v = (showM v, 0) := by
  unfold encM at h ⊢
  split at h
  · cases h
  split at h
  · cases h
  split at h
  · cases h
  split at h
  · cases h
  rename_i h1 h2 h3 h4
  have hg : goodM v = true := by simpa using h1
  have hg' := hg
  simp only [goodM, Bool.and_eq_true, decide_eq_true_eq] at hg'
  refine ⟨⟨hg'.2, by simpa using h3, by simpa using h2, hg'.1.2⟩, good_cnt hg, by omega, ?_⟩
  rw [if_neg h1, if_neg h2, if_neg h3, if_neg h4]
theorem show_lt {v : JV} (h : (showM v).length ≤ 65536) : (showM v).length ≤ 9223372036854775807 := by omega
section
variable [HX]
theorem decode_show {v : JV} {w : World} {K : Value → World → Prop} (hT : TabJ w) (hi : Eng.Item 24 v) (hc : cntM v ≤ 2000) (hl : (showM v).length ≤ 65536) (hK : ∀ cs w', Ext w w' → VRep w' v cs → K (.tuple #[.agg cs.toArray, .pointer none]) w') :
    callF Tryz.prog 18 [str (showM v)] w K := by
  obtain ⟨j0, hd⟩ := dec_show (E := En) hi hc hl
  refine decode_p hT.utf hT.err (show_lt hl) (fun v' j c hv cs w1 hx1 hr1 => ?_) (fun e i hv => by rw [hd] at hv; cases hv)
  rw [hd] at hv
  cases hv
  exact hK cs w1 hx1 hr1.rep
theorem back_true {v : JV} {cs : List Value} {s : Str} {w : World} {K : Value → World → Prop} (hT : TabJ w) (h : VRep w v cs) (hs : s.length ≤ 9223372036854775807) (hK : ∀ w', Ext w w' → K (.bool true) w') : callF Tryz.prog 5 [.agg cs.toArray, str s] w K := by
  refine W5_ok ?_
  unfold W5
  refine box_val h fun a w1 sv kv hB hx1 ha => ?_
  refine awake_j (hT.ext hx1) fun w2 hx2 => ?_
  rw [un_not, Bool.not_true, condW_false]
  have hB2 := hB.ext hx2
  have hx02 := hx1.trans hx2
  refine JoinW.cut (fun st w' => Ext w2 w') ?_ ?_
  · refine hB2.ld fun cs1 h1 => ?_
    have hT2 := hT.ext hx02
    refine encode_p hT2.utf (fmt_ok hT2.bru) h1 fun w4 hx4 => ?_
    simp only [ext_tuple]
    refine ⟨_, rfl, _, rfl, ?_⟩
    rw [bin_eql, condW_dec]
    refine ⟨fun e => ?_, fun e => hx4⟩
    obtain ⟨hi, hc, hl, he⟩ := enc_ok e
    rw [he]
    refine decode_show (hT2.ext hx4) hi hc hl fun cs2 w5 hx5 hr5 => ?_
    simp only [ext_tuple]
    refine ⟨_, rfl, _, rfl, ?_⟩
    refine keep_val hr5 fun b w7 sv2 kv2 hB7 hx7 => ?_
    rw [eqp_nn]
    have hx27 := hx4.trans (hx5.trans hx7)
    refine GdW.act false (fun w' => Ext w7 w') (fun _ => Chg.refl _ _) ?_ ?_
    · intro _ J hJ
      refine (hB2.ext hx27).ld fun cs3 h3 => ?_
      refine hB7.ld fun cs4 h4 => ?_
      refine same_ref v h3 h4 fun w8 hx8 => ?_
      rw [un_not, (same_iff v v).2 rfl]
      exact hJ w8 hx8
    intro g w8 hx8
    simp only [Bool.not_true, isB_f, Bool.not_false, cond_true, List.getD_cons_zero, pick_f]
    rw [condW_false]
    exact hx27.trans hx8
  rintro st g w11 hx11
  have hT11 := hT.ext (hx02.trans hx11)
  refine decode_p hT11.utf hT11.err hs (fun v' j c hv cs1 w12 hx12 hr12 => ?_) (fun e i hv d w12 hx12 hd hbd => ?_)
  · obtain ⟨hi, hc, hlen, h65⟩ := dec_back hv
    simp only [ext_tuple]
    refine ⟨_, rfl, _, rfl, ?_⟩
    refine keep_val hr12.rep fun b w14 sv2 kv2 hB14 hx14 => ?_
    rw [eqp_nn]
    simp only [Bool.not_true]
    rw [condW_false]
    refine hB14.ld fun cs2 h2 => ?_
    have hT14 := hT11.ext (hx12.trans hx14)
    refine encode_p hT14.utf (fmt_ok hT14.bru) h2 fun w17 hx17 => ?_
    rw [enc_item hi hc (by omega)]
    simp only [ext_tuple]
    refine ⟨_, rfl, _, rfl, ?_⟩
    rw [bin_eql, decide_eq_false (by decide), condW_false]
    refine decode_show (hT14.ext hx17) hi hc (by omega) fun cs3 w18 hx18 hr18 => ?_
    simp only [ext_tuple]
    refine ⟨_, rfl, _, rfl, ?_⟩
    refine keep_val hr18 fun b2 w20 sv3 kv3 hB20 hx20 => ?_
    rw [bin_eql, decide_eq_true rfl]
    simp only [isB_t, eqp_nn, GdW_pure, Bool.not_false, cond_true, List.getD_cons_zero, pick_t]
    intros
    have hx1420 := hx17.trans (hx18.trans hx20)
    have hB1420 := hB14.ext hx1420
    refine GdW.act true (fun w' => Ext w20 w') (fun e => by cases e) ?_ ?_
    · intro _ J hJ
      refine hB20.ld fun cs4 h4 => ?_
      refine hB1420.ld fun cs5 h5 => ?_
      refine same_ref v' h4 h5 fun w24 hx24 => ?_
      rw [(same_iff v' v').2 rfl]
      exact hJ w24 hx24
    intro g2 w24 hx24
    simp only [cond_true, List.getD_cons_zero, pick_t, isB_t]
    refine GdW.act true (fun w' => Ext w24 w') (fun e => by cases e) ?_ ?_
    · intro _ J hJ
      refine (hB1420.ext hx24).ld fun cs4 h4 => ?_
      refine good_ref h4 fun w27 hx27 => ?_
      rw [item_good hi hc]
      exact hJ w27 hx27
    intro g3 w27 hx27
    simp only [cond_true, List.getD_cons_zero, pick_t]
    exact hK w27 ((hx02.trans hx11).trans (hx12.trans (hx14.trans (hx1420.trans (hx24.trans hx27)))))
  · simp only [ext_tuple]
    refine ⟨_, rfl, _, rfl, ?_⟩
    refine keep_val (vrep_null w12) fun b w14 sv2 kv2 hB14 hx14 => ?_
    rw [eqp_sn, condW_true]
    rw [fld_ptr, ld_one]
    refine ⟨i64 0, by rw [add_mk, cell_eq, hB14.hb]; rfl, ?_⟩
    rw [bin_eql, decide_eq_true rfl]
    refine GdW.act true (fun w' => w' = w14) (fun e => by cases e) ?_ ?_
    · intro _ J hJ
      rw [fld_ptr, ld_one]
      refine ⟨sv2, by rw [add_mk, cell_eq, hB14.hb]; rfl, ?_⟩
      rw [hB14.lenx]
      show binW .eql (i64 ((0 : Nat) : Int)) (i64 0) _
      rw [bin_eql, show decide (((0 : Nat) : Int) = 0) = true from rfl]
      exact hJ _ rfl
    rintro g2 w15 rfl
    simp only [cond_true, List.getD_cons_zero, pick_t]
    exact hK w15 ((hx02.trans hx11).trans (hx12.trans hx14))
end
end Go.Proofs.YtcnjpcadejcenaaGreatDoor
namespace Go.Proofs.YtcnjpcadejcenaaGreatDoor
open Go Go.Eng
set_option maxRecDepth 100000
variable [HX]
def plan20 : Plan := { js := [(11007, ⟨[34], [], 30⟩), (11015, ⟨[27], [], 22⟩), (11023, ⟨[19], [], 14⟩)], ds := [] }
def W20 (v0 v1 v2 : Value) (w : World) (K : Value → World → Prop) : Prop :=
  binW .eql v1 (.int .i64 0) fun t8 =>
  condW t8 (
    eqW .ptr false v0 (.pointer none) fun t10 =>
    K t10 w) (
    eqW .ptr true v0 (.pointer none) fun t12 =>
    GdW (isB t12 true) [undef] w (fun J1 =>
      nilW v0 fun t15 =>
      fldW 0 t15 fun t16 =>
      ldW false 1 t16 w fun t17 =>
      binW .eql t17 v1 fun t19 =>
      J1 [t19] w)
    fun s1 _ w2 =>
    pickW t12 (s1.getD 0 undef) (.bool false) fun t20 =>
    GdW (isB t20 true) [undef] w2 (fun J3 =>
      nilW v0 fun t23 =>
      fldW 2 t23 fun t24 =>
      ldW false 1 t24 w2 fun t25 =>
      binW .eql t25 v2 fun t27 =>
      J3 [t27] w2)
    fun s3 _ w4 =>
    pickW t20 (s3.getD 0 undef) (.bool false) fun t28 =>
    GdW (isB t28 true) [undef] w4 (fun J5 =>
      nilW v0 fun t31 =>
      fldW 1 t31 fun t32 =>
      ldW false 1 t32 w4 fun t33 =>
      binW .eql t33 (.string (ofL [])) fun t34 =>
      J5 [t34] w4)
    fun s5 _ w6 =>
    pickW t28 (s5.getD 0 undef) (.bool false) fun t35 =>
    K t35 w6)
theorem W20_eq (v0 v1 v2 : Value) (w : World) (K : Value → World → Prop) : funW Tryz.prog Tryz.f20 plan20 [v0, v1, v2] w K = W20 v0 v1 v2 w K := by kernel_rfl
theorem W20_chk : chkFun Tryz.prog Tryz.f20 plan20 3 = true := by kernel_rfl
theorem W20_ok {v0 v1 v2 : Value} {w : World} {K : Value → World → Prop} (h : W20 v0 v1 v2 w K) : callF Tryz.prog 20 [v0, v1, v2] w K :=
  tie Tryz.prog 20 Tryz.f20 plan20 [v0, v1, v2] w K 3 (W20 v0 v1 v2 w K) rfl mixed Tryz.func20 W20_chk (W20_eq v0 v1 v2 w K) Tryz.call20 h
end Go.Proofs.YtcnjpcadejcenaaGreatDoor
namespace Go.Proofs.YtcnjpcadejcenaaGreatDoor
open Go Go.Eng Go.RowKit
set_option maxRecDepth 100000
def valR : RR JV → JV
  | .ok v _ _ => v
  | .bad _ _ => JV.null
def okR : RR JV → Bool
  | .ok _ _ _ => true
  | .bad _ _ => false
def isM (r : RR JV) (code at_ : Int) : Bool :=
  match r with
  | .ok _ _ _ => decide (code = 0)
  | .bad e i => decide (code ≠ 0) && decide (e = code) && decide ((i : Int) = at_)
def DRep (w : World) (d : Value) : RR JV → Prop
  | .ok _ _ _ => d = .pointer none
  | .bad e i => ∃ b, d = .pointer (some ⟨b, 0, none⟩) ∧ w.heap[b]? = some (.cells [i64 e, str [], i64 (i : Nat)].toArray DgT (0, 0))
theorem DRep.ext {w w' : World} {d : Value} {r : RR JV} (h : DRep w d r) (hx : Ext w w') : DRep w' d r := by
  cases r with
  | ok v j c => exact h
  | bad e i => obtain ⟨b, h1, h2⟩ := h; exact ⟨b, h1, hx.at h2 id⟩
section
variable [HX]
theorem DRep.eq {w : World} {d : Value} {r : RR JV} (h : DRep w d r) (n : Bool) (K : Value → Prop) : eqW .ptr n d (.pointer none) K ↔ K (.bool (n ^^ okR r)) := by
  cases r with
  | ok v j c => have h : d = .pointer none := h; rw [h, eqp_nn]; cases n <;> exact Iff.rfl
  | bad e i => obtain ⟨b, rfl, _⟩ := h; rw [eqp_sn]; cases n <;> exact Iff.rfl
theorem decode_r {s : Str} {w : World} {K : Value → World → Prop} (hT : TabJ w) (hs : s.length ≤ 9223372036854775807) (hK : ∀ cs d w', Ext w w' → VRep w' (valR (decM En s)) cs → DRep w' d (decM En s) → K (.tuple #[.agg cs.toArray, d]) w') :
    callF Tryz.prog 18 [str s] w K := by
  refine decode_p hT.utf hT.err hs (fun v j c hv cs w' hx hr => ?_) (fun e i hv d w' hx _ hb => ?_)
  · rw [hv] at hK
    exact hK _ _ w' hx hr.rep rfl
  · rw [hv] at hK
    exact hK _ _ w' hx (vrep_null w') ⟨d, rfl, hb⟩
theorem is_p {w : World} {d : Value} {r : RR JV} {code a : Int} {K : Value → World → Prop} (h : DRep w d r) (hK : K (.bool (isM r code a)) w) : callF Tryz.prog 20 [d, i64 code, i64 a] w K := by
  refine W20_ok ?_
  unfold W20
  rw [bin_eql, condW_dec]
  refine ⟨fun e => ?_, fun e => ?_⟩
  · rw [h.eq]
    cases r with
    | ok v j c => simp only [isM, e, decide_true, okR] at hK ⊢; exact hK
    | bad e1 i => simp only [isM, e, ne_eq, not_true, decide_false, Bool.false_and, okR] at hK ⊢; exact hK
  · rw [h.eq]
    cases r with
    | ok v j c =>
      simp only [isM, decide_eq_false e, okR, Bool.xor_self] at hK ⊢
      simp only [isB_t, isB_f, GdW_f, List.getD_cons_zero, pick_f]
      intros
      exact hK
    | bad e1 i =>
      obtain ⟨b, rfl, hb⟩ := h
      simp only [isM, decide_eq_true e, okR, Bool.xor_false, Bool.true_and] at hK ⊢
      have ld : ∀ {off : Nat} {v : Value} {K : Value → Prop}, [i64 e1, str [], i64 (i : Nat)][off]? = some v → K v → nilW (.pointer (some ⟨b, 0, none⟩)) fun t => fldW off t fun t => ldW false 1 t w K := fun hv hk => by
        rw [nil_ptr, fld_ptr, ld_one]
        refine ⟨_, ?_, hk⟩
        rw [add_mk, cell_eq, hb, cellO_some, Nat.zero_add]
        simpa using hv
      refine GdW.act (decide (e1 = code)) (fun w' => w' = w) (fun e => by cases e) ?_ ?_
      · intro _ J hJ
        refine ld rfl ?_
        rw [bin_eql]
        exact hJ _ rfl
      rintro g w2 rfl
      simp only [cond_true, List.getD_cons_zero, pick_t, isB_t]
      refine GdW.act (decide ((i : Int) = a)) (fun w' => w' = w2) (fun _ => rfl) ?_ ?_
      · intro _ J hJ
        refine ld rfl ?_
        rw [bin_eql]
        exact hJ _ rfl
      rintro g2 w3 rfl
      simp only [List.getD_cons_zero]
      rw [pick_gd_and]
      simp only [isB_t]
      refine GdW.act true (fun w' => w' = w3) (fun _ => rfl) ?_ ?_
      · intro _ J hJ
        refine ld rfl ?_
        rw [bin_seq]
        exact hJ _ rfl
      rintro g3 w4 rfl
      simp only [List.getD_cons_zero]
      rw [pick_gd_and, Bool.and_true]
      exact hK
theorem make_b {n m : Nat} {w : World} {K : Value → World → Prop} (hnm : n ≤ m) (hm : m ≤ 1000000) (hK : ∀ a w', a = w.heap.size → w'.heap[a]? = some (.cells (List.replicate m (.int .u8 0)).toArray U8 (0, 0)) → Ext w w' → K (.slice (some ⟨a, 0, none⟩) n m) w') :
    semE Tryz.prog (Instr.makeSlice 44 (i64 (n : Nat)) (i64 (m : Nat))) w K := by
  have hinf : ((Tryz.prog.info? U8).bind (·.zero)) = some (.int .u8 0) := by kernel_rfl
  obtain ⟨i, z, hi, hz, hsz, hbytes, hzs⟩ := elem_u8.get
  have hz0 : z = .int .u8 0 := by
    rw [hi] at hinf
    simp only [Option.bind_some] at hinf
    rw [hz] at hinf
    exact Option.some.inj hinf
  subst hz0
  unfold semE
  have hr := run_makeSlice (P := Tryz.prog) (w := w) 44 U8 i _ (by kernel_rfl) hi hz .i64 .i64 n m (by omega) (by omega) (by rw [hsz]; omega) (by rw [hbytes]; omega) (by omega)
  rw [hr, hsz]
  simp only [Int.toNat_natCast, Nat.mul_one]
  have hc : madeCells (Value.cells (.int .u8 0)) m = (List.replicate m (.int .u8 0)).toArray := by
    apply Array.ext_getElem?
    intro j
    simp only [madeCells, Array.getElem?_map, List.getElem?_toArray]
    by_cases hj : j < m
    · rw [Array.getElem?_eq_getElem (by simpa using hj)]
      simp [Value.cells, hj, Nat.mod_one]
    · rw [Array.getElem?_eq_none (by simp; omega)]
      simp [hj]
  rw [hc]
  exact hK _ _ rfl (heap_anew _ _ _ rfl) (by repeat (first | assumption | exact Chg.refl _ _ | refine Chg.drew ?_ | refine Chg.alloc ?_ _ | refine Chg.set ?_ (by first | exact .inl rfl | exact .inr (by omega) | exact .inr (by simp only [size_set, size_alloc, size_drew]; omega) | (left; simp; done)) _ | exact Chg.of_ext (by assumption)))
end
end Go.Proofs.YtcnjpcadejcenaaGreatDoor
namespace Go.Proofs.YtcnjpcadejcenaaGreatDoor
open Go Go.Eng Go.RowKit
set_option maxRecDepth 100000
section
variable [HX]
theorem bad_ref {s : Str} {w : World} {K : Value → World → Prop} (hl : s.length ≤ 4611686018427387904) (hK : ∀ r : Int, decide (0 ≤ r) = !utfM s → K (i64 r) w) : callF Tryz.prog 82 [str s] w K := by
  refine W82_ok ?_
  unfold W82
  refine LoopW.go (fun st w' => w' = w ∧ ∃ i n : Nat, st = [i64 (i : Nat)] ∧ i ≤ s.length ∧ s.length ≤ n + i ∧ utfGo s n i = utfM s) (fun st _ => match st with | [.int _ i] => s.length - i.toNat | _ => 0) ⟨rfl, 0, s.length, rfl, Nat.zero_le _, by omega, rfl⟩ ?_
  rintro st g w2 ⟨rfl, i, n, rfl, hi, hn, hu⟩
  simp only [List.getD_cons_zero]
  rw [lens_str, bin_lss, condW_dec]
  refine ⟨fun hlt => ?_, fun hge => ?_⟩
  · have hlt : i < s.length := by omega
    obtain ⟨n, rfl⟩ : ∃ m, n = m + 1 := ⟨n - 1, by omega⟩
    rw [utfGo, if_neg (by omega)] at hu
    refine rune_ref hl (by omega) ?_
    rw [bin_eql, condW_dec]
    refine ⟨fun e => ?_, fun e => ?_⟩
    · rw [if_pos (by omega)] at hu
      refine hK _ ?_
      rw [← hu, decide_eq_true (by omega)]; rfl
    · have hr : runeM s i ≠ 0 := by omega
      rw [if_neg hr] at hu
      have hf := rune_fits hr
      rw [bin_add, upk (by omega)]
      refine ⟨⟨rfl, i + runeM s i, n, rfl, hf, by omega, hu⟩, ?_⟩
      simp only [Int.toNat_natCast]
      omega
  · have e : utfGo s n i = true := by
      cases n with
      | zero => rw [utfGo]; exact decide_eq_true (by omega)
      | succ n => rw [utfGo, if_pos (by omega)]
    rw [e] at hu
    exact hK _ (by rw [← hu]; rfl)
theorem textsr_ref (v : JV) : ∀ {cs : List Value} {w : World} {K : Value → World → Prop}, fewM v = true → (∀ s ∈ v.ks, s.length ≤ 4611686018427387904) → VRep w v cs → plainM v = true → (∀ w', Ext w w' → K (.bool (textsM v)) w') → callF Tryz.prog 49 [.agg cs.toArray] w K := by
  induction v using JV.ind' with
  | h v ih =>
    intro cs w K hfew hks h hp hK
    rw [fewM_eq, fewL_all] at hfew
    simp only [Bool.and_eq_true, decide_eq_true_eq, List.all_eq_true] at hfew
    obtain ⟨⟨f1, f2⟩, f3⟩ := hfew
    rw [plainM_eq, Bool.and_eq_true, plainL_all, List.all_eq_true] at hp
    have hh := headOk_out hp.1
    have htl : v.t.length ≤ 4611686018427387904 := by
      by_cases ht : v.t = []
      · rw [ht]; simp
      · rcases hh.2.2.2.1 ht with h3 | h4
        · obtain ⟨_, g2, _, _⟩ := Go.Num.goodN_out (hh.2.2.2.2.2.2.1 h3)
          have : v.t.length ≤ (Go.Num.dig v.t).length + 1 := by
            cases v.t with
            | nil => simp
            | cons a r =>
              by_cases h45 : a = 45
              · simp [Go.Num.dig, h45]
              · simp [Go.Num.dig, h45]
          omega
        · have := hh.2.2.2.2.2.2.2.1 h4; omega
    rw [textsM_eq] at hK
    refine W49_ok ?_
    unfold W49
    refine box_val h fun a w1 sv kv hB hx1 ha => ?_
    rw [fld_ptr, ld_one]
    refine ⟨str v.t, by rw [add_mk, cell_eq, hB.hb]; rfl, ?_⟩
    refine bad_ref htl fun r hr => ?_
    rw [bin_geq, hr, condW_b]
    refine ⟨fun e => ?_, fun e => ?_⟩
    · have e : utfM v.t = false := by simpa using e
      rw [e] at hK
      exact hK w1 hx1
    have ht : utfM v.t = true := by simpa using e
    rw [ht, Bool.true_and] at hK
    rw [fld_ptr, ld_one]
    refine ⟨kv, by rw [add_mk, cell_eq, hB.hb]; rfl, ?_⟩
    rw [hB.lenk]
    refine loop_up v.ks.length (fun i w' => w' = w1 ∧ (v.ks.take i).all utfM = true) ⟨rfl, by simp⟩ ?_ ?_
    · rintro i w4 g L hi ⟨rfl, hall⟩ hL
      obtain ⟨k, hk⟩ : ∃ k, v.ks[i]? = some k := ⟨_, List.getElem?_eq_getElem hi⟩
      simp only [List.getD_cons_zero]
      rw [bin_lss, decide_eq_true (by omega), condW_true, fld_ptr, ld_one]
      refine ⟨kv, by rw [add_mk, cell_eq, hB.hb]; rfl, ?_⟩
      refine hB.key hk ?_
      refine bad_ref (hks k (List.mem_of_getElem? hk)) fun r hr => ?_
      rw [bin_geq, hr, condW_b]
      refine ⟨fun e => ?_, fun e => ?_⟩
      · have e : utfM k = false := by simpa using e
        have := hK w4 hx1
        rw [all_no hk e, Bool.false_and] at this
        exact this
      · have e : utfM k = true := by simpa using e
        rw [bin_add, up1 (by omega)]
        exact hL w4 ⟨rfl, by rw [all_take hk, hall, e]; rfl⟩
    rintro w4 g L ⟨rfl, hall⟩
    rw [List.take_length] at hall
    rw [hall, Bool.true_and] at hK
    simp only [List.getD_cons_zero]
    rw [bin_lss, decide_eq_false (by omega), condW_false, fld_ptr, ld_one]
    refine ⟨sv, by rw [add_mk, cell_eq, hB.hb]; rfl, ?_⟩
    rw [hB.lenx]
    refine loop_up v.xs.length (fun i w' => Ext w4 w' ∧ (v.xs.take i).all textsM = true) ⟨Chg.refl _ _, by simp⟩ ?_ ?_
    · rintro i w7 g L hi ⟨hx7, hall⟩ hL
      obtain ⟨x, hxi⟩ : ∃ x, v.xs[i]? = some x := ⟨_, List.getElem?_eq_getElem hi⟩
      have hB7 := hB.ext hx7
      simp only [List.getD_cons_zero]
      rw [bin_lss, decide_eq_true (by omega), condW_true, fld_ptr, ld_one]
      refine ⟨sv, by rw [add_mk, cell_eq, hB7.hb]; rfl, ?_⟩
      refine hB7.item hxi fun cs2 h2 => ?_
      have hxm := List.mem_of_getElem? hxi
      refine ih x hxm (f3 x hxm) (fun s hs => ?_) h2 (hp.2 x hxm) fun w8 hx8 => ?_
      · have hpx := hp.2 x hxm
        rw [plainM_eq, Bool.and_eq_true] at hpx
        have := keysOk_len (headOk_out hpx.1).2.2.2.2.2.2.2.2.2 s hs
        omega
      rw [un_not, condW_b]
      refine ⟨fun e => ?_, fun e => ?_⟩
      · have e : textsM x = false := by simpa using e
        have := hK w8 ((hx1.trans hx7).trans hx8)
        rw [textsL_all, all_no hxi e] at this
        exact this
      · have e : textsM x = true := by simpa using e
        rw [bin_add, up1 (by omega)]
        exact hL w8 ⟨hx7.trans hx8, by rw [all_take hxi, hall, e]; rfl⟩
    rintro w7 g L ⟨hx7, hall⟩
    rw [List.take_length] at hall
    simp only [List.getD_cons_zero]
    rw [bin_lss, decide_eq_false (by omega), condW_false]
    have := hK w7 (hx1.trans hx7)
    rw [textsL_all, hall] at this
    exact this
end
end Go.Proofs.YtcnjpcadejcenaaGreatDoor
namespace Go.Proofs.YtcnjpcadejcenaaGreatDoor
open Go Go.Eng Go.RowKit
set_option maxRecDepth 100000
def pickB (l : List Int) (i : Nat) : Nat := if l.length = 0 then 0 else ((IntKind.u64.wrap (l.getD (i % l.length) 0)).toNat) % 4
theorem pickB_lt (l : List Int) (i : Nat) : pickB l i < 4 := by unfold pickB; split <;> omega
theorem dec_u8 (c d : UInt8) : decide (((c.toNat : Nat) : Int) = ((d.toNat : Nat) : Int)) = decide (c = d) := by
  by_cases h : c = d
  · rw [decide_eq_true h, decide_eq_true (by rw [h])]
  · rw [decide_eq_false h, decide_eq_false]
    intro e
    exact h (UInt8.toNat_inj.1 (by omega))
theorem part_eq (c : UInt8) : (decide (((c.toNat : Nat) : Int) = 123) || decide (((c.toNat : Nat) : Int) = 91) || decide (((c.toNat : Nat) : Int) = 44) || decide (((c.toNat : Nat) : Int) = 58) || decide (((c.toNat : Nat) : Int) = 93) || decide (((c.toNat : Nat) : Int) = 125)) = isPart c := by
  unfold isPart
  rw [← dec_u8 c 123, ← dec_u8 c 91, ← dec_u8 c 44, ← dec_u8 c 58, ← dec_u8 c 93, ← dec_u8 c 125]
  rfl
section
variable [HX]
theorem row_b {c : UInt8} {w : World} {K : Value → World → Prop} (hK : ∀ t w', SlAt w' U8 t 1 (u8s [c]) → Ext w w' → K t w') : bslW U8 1 [(.int .u8 0)] [(0, 1, .int .u8 (c.toNat : Nat))] w K := by
  rw [bslW]
  simp only [put_int, put_nil, List.length_cons, List.length_nil, List.set_cons_zero]
  refine ⟨by omega, ?_⟩
  refine hK _ _ ⟨_, _, rfl, Nat.le_refl _, fun e => (by cases e), fun _ => ⟨_, _, _, _, rfl, heap_anew _ _ _ rfl, fun i _ => by rw [Nat.zero_add]; simp [u8s]⟩⟩ (Chg.alloc (Chg.refl _ _) _)
theorem app_b {c : UInt8} {w : World} {B : Nat} {v : Value} {l : Str} {K : Value → World → Prop} (h : Own w B U8 1 v l.length (u8s l)) (hl : l.length ≤ 1000000) (hB : B ≤ w.heap.size) (hK : ∀ v' w', Own w' B U8 1 v' (l ++ [c]).length (u8s (l ++ [c])) → Chg (fun q => B ≤ q) w w' → K v' w') :
    bslW U8 1 [(.int .u8 0)] [(0, 1, .int .u8 (c.toNat : Nat))] w fun t w1 => semE Tryz.prog (Builtin.append_ #[44, 44] 44 #[v, t]) w1 K := by
  refine row_b fun t w1 ht hx1 => ?_
  refine append_own3 elem_u8 (own_chg h hx1 fun _ _ e => e) ht (m := 1) rfl (u8s_one _) (by omega) (by omega) (by have := hx1.size; omega) fun v' w2 hO hc _ => ?_
  refine hK v' w2 (by rw [u8s_app, List.length_append]; exact hO) ((Chg.of_ext hx1).trans (hc.mono fun q _ e => (own_in h e).1))
theorem blanks_true {v : JV} {cs : List Value} {T : TypeId} {bv : Value} {l : List Int} {w : World} {K : Value → World → Prop} (hT : TabJ w) (h : VRep w v cs) (hl : SlAt w T bv l.length (l.map i64) ∧ l.length ≤ 9223372036854775807) (hK : ∀ w', Ext w w' → K (.bool true) w') :
    callF Tryz.prog 7 [.agg cs.toArray, bv] w K := by
  obtain ⟨hbv, hln⟩ := hl
  refine W7_ok ?_
  unfold W7
  refine box_val h fun a w1 sv kv hB hx1 ha => ?_
  refine awake_j (hT.ext hx1) fun w2 hx2 => ?_
  rw [un_not, Bool.not_true, condW_false]
  have hB2 := hB.ext hx2
  have hx02 := hx1.trans hx2
  have hT2 := hT.ext hx02
  refine hB2.ld fun cs1 h1 => ?_
  refine encode_p hT2.utf (fmt_ok hT2.bru) h1 fun w3 hx3 => ?_
  simp only [ext_tuple]
  refine ⟨_, rfl, _, rfl, ?_⟩
  rw [bin_neq]
  simp only [isB_t, isB_f, lens_str, bin_gtr, GdW_pure, List.getD_cons_zero, pick_gd_or]
  intro _
  rw [condW_b]
  have hx03 := hx02.trans hx3
  refine ⟨fun _ => hK _ hx03, fun e => ?_⟩
  rw [Bool.or_eq_false_iff, decide_eq_false_iff_not, decide_eq_false_iff_not] at e
  obtain ⟨hi, hc, hlen, he⟩ := enc_ok (v := v) (by have := e.1; simpa using this)
  rw [he] at e ⊢
  dsimp only at e ⊢
  have hs10 : (showM v).length ≤ 10000 := by have := e.2; omega
  have hscan := scan_len (pickB l) (showM v) 0 false false
  have hdec := fun hl2 => dec_scan (E := En) (f := pickB l) hi hc hl2
  generalize hS : showM v = s at *
  have e3 : IntKind.i64.wrap (3 * (s.length : Int)) = ((3 * s.length : Nat) : Int) := by rw [wrap_id (by omega) (by omega)]; omega
  rw [bin_mul, e3]
  refine make_b (n := 0) (m := 3 * s.length) (by omega) (by omega) fun am w6 ham hbm hx6 => ?_
  have hO6 : Own w6 w3.heap.size U8 1 (.slice (some ⟨am, 0, none⟩) 0 (3 * s.length)) ([] : Str).length (u8s []) := ⟨rfl, .inr ⟨am, 3 * s.length, _, rfl, by omega, hbm, Nat.zero_le _, Nat.le_trans (show 3 * s.length ≤ 1000000 by omega) (by decide), by simp, by simp [u8s]⟩⟩
  refine LoopW.go (fun st w' => ∃ (i : Nat) (wv : Value) (wl : Str) (text back : Bool), i ≤ s.length ∧ st = [wv, .bool text, .bool back, i64 (i : Nat)] ∧ Ext w3 w' ∧ Own w' w3.heap.size U8 1 wv wl.length (u8s wl) ∧ wl.length ≤ 3 * i ∧ wl ++ scanM (pickB l) (s.drop i) i text back = scanM (pickB l) s 0 false false)
    (fun st _ => match st with | [_, _, _, .int _ i] => s.length - i.toNat | _ => 0) ⟨0, _, [], false, false, by omega, rfl, hx6, hO6, by simp, by simp⟩ ?_
  rintro st g w8 ⟨i, wv, wl, text, back, hi2, rfl, hx8, hO8, hwl, hinv⟩
  simp only [List.getD_cons_zero, List.getD_cons_succ]
  rw [bin_lss, condW_dec]
  refine ⟨fun hlt => ?_, fun hge => ?_⟩
  · have hlt : i < s.length := by omega
    obtain ⟨c, hc2⟩ : ∃ c, s[i]? = some c := ⟨_, List.getElem?_eq_getElem hlt⟩
    have hdrop : s.drop i = c :: s.drop (i + 1) := by
      rw [drop_here hlt]
      rw [List.getElem?_eq_getElem hlt] at hc2
      cases hc2; rfl
    have hix : ∀ K : Value → Prop, ixsW (str s) (i64 (i : Nat)) K ↔ K (.int .u8 (c.toNat : Nat)) := fun K => by
      rw [ixs_str]
      constructor
      · rintro ⟨_, b, hb, hk⟩
        rw [show ((i : Nat) : Int).toNat = i by omega, hc2] at hb
        cases hb
        exact hk
      · intro hk
        exact ⟨by omega, c, by simpa using hc2, hk⟩
    have hx38 : Ext w w8 := hx03.trans hx8
    refine JoinW.cut (fun st w' => st = [i64 (pickB l i : Nat)] ∧ w' = w8) ?_ ?_
    · rw [lenl_at hbv, bin_gtr, condW_dec]
      refine ⟨fun hpos => ?_, fun hz => ?_⟩
      · rw [lenl_at hbv, bin_rem]
        refine ⟨by omega, ?_⟩
        have hlp : 0 < l.length := by omega
        have em : ((i : Nat) : Int).tmod (l.length : Int) = ((i % l.length : Nat) : Int) := by rw [Int.tmod_eq_emod_of_nonneg (by omega)]; omega
        rw [em]
        have hml := Nat.mod_lt i hlp
        refine ixa_ld (x := i64 (l.getD (i % l.length) 0)) (hbv.ext hx38) (by simp) (by rw [List.getElem?_map, List.getElem?_eq_getElem hml, List.getD_eq_getElem?_getD, List.getElem?_eq_getElem hml]; rfl) ?_
        rw [cvt_int, bin_rem]
        refine ⟨by decide, ?_⟩
        obtain ⟨u, hu⟩ : ∃ u : Nat, IntKind.u64.wrap (l.getD (i % l.length) 0) = (u : Int) := ⟨(IntKind.u64.wrap (l.getD (i % l.length) 0)).toNat, by rw [IntKind.wrap_u64]; omega⟩
        have e4 : ((u : Nat) : Int).tmod 4 = ((u % 4 : Nat) : Int) := by rw [Int.tmod_eq_emod_of_nonneg (by omega)]; omega
        rw [hu, e4, cvt_int, wrap_id (by omega) (by omega)]
        refine ⟨?_, rfl⟩
        unfold pickB
        rw [if_neg (by omega), hu, Int.toNat_natCast]
      · refine ⟨?_, rfl⟩
        unfold pickB
        rw [if_pos (by omega)]
        rfl
    rintro st g10 w10 ⟨rfl, rfl⟩
    simp only [List.getD_cons_zero]
    have hp4 := pickB_lt l i
    rw [hdrop, scanM] at hinv
    generalize hk : pickB l i = k at *
    rw [un_not]
    simp only [isB_t, isB_f, isB_gd_t, isB_gd_f, hix, bin_eql, GdW_pure, GdW_nest_or, List.getD_cons_zero, pick_gd_and]
    intros
    rw [part_eq]
    generalize hpart : (!text && isPart c) = part at *
    have hBw : w3.heap.size ≤ w10.heap.size := hx8.size
    have hup : ∀ {w1 w2 : World}, Ext w3 w1 → Chg (fun q => w3.heap.size ≤ q) w1 w2 → Ext w3 w2 := fun hx hc => hx.then hc fun q hq e => by omega
    refine JoinW.cut (fun st w' => ∃ wv', st = [wv'] ∧ Ext w3 w' ∧ Own w' w3.heap.size U8 1 wv' (wl ++ (if part = true then [([32, 10, 9, 13] : Str).getD k 32] else [])).length (u8s (wl ++ (if part = true then [([32, 10, 9, 13] : Str).getD k 32] else [])))) ?_ ?_
    · rw [condW_b]
      refine ⟨fun hp => ?_, fun hp => ?_⟩
      · rw [if_pos hp]
        have hpad : ([32, 10, 9, 13] : Str)[k]? = some (([32, 10, 9, 13] : Str).getD k 32) := by
          rw [List.getD_eq_getElem?_getD, List.getElem?_eq_getElem (by simpa using hp4)]; rfl
        rw [ixs_str]
        refine ⟨by omega, _, by simpa using hpad, ?_⟩
        exact app_b hO8 (by omega) hBw fun v' w' hO' hc' => ⟨v', rfl, hup hx8 hc', hO'⟩
      · rw [if_neg (by rw [hp]; simp), List.append_nil]
        exact ⟨wv, rfl, hx8, hO8⟩
    rintro st g36 w36 ⟨wv1, rfl, hx36, hO36⟩
    simp only [List.getD_cons_zero]
    have hpl : (if part = true then [([32, 10, 9, 13] : Str).getD k 32] else [] : Str).length ≤ 1 := by split <;> simp
    generalize hP1 : (if part = true then [([32, 10, 9, 13] : Str).getD k 32] else [] : Str) = P1 at *
    have hl36 : (wl ++ P1).length ≤ 3 * i + 1 := by rw [List.length_append]; omega
    refine app_b hO36 (by omega) hx36.size fun wv2 w38 hO38 hc38 => ?_
    have hx38' := hup hx36 hc38
    have hl38 : (wl ++ P1 ++ [c]).length ≤ 3 * i + 2 := by rw [List.length_append]; simp; omega
    refine JoinW.cut (fun st w' => ∃ wv', st = [wv'] ∧ Ext w3 w' ∧ Own w' w3.heap.size U8 1 wv' (wl ++ P1 ++ [c] ++ (if part = true ∧ 0 < k then [32] else [])).length (u8s (wl ++ P1 ++ [c] ++ (if part = true ∧ 0 < k then [32] else [])))) ?_ ?_
    · simp only [isB_t, bin_gtr, GdW_pure, List.getD_cons_zero, pick_gd_and]
      intro _
      rw [condW_b]
      refine ⟨fun hp => ?_, fun hp => ?_⟩
      · rw [Bool.and_eq_true, decide_eq_true_iff] at hp
        rw [if_pos ⟨hp.1, by omega⟩]
        exact app_b (c := 32) hO38 (by omega) hx38'.size fun v' w' hO' hc' => ⟨v', rfl, hup hx38' hc', hO'⟩
      · rw [if_neg (by
          rintro ⟨h1, h2⟩
          rw [h1, decide_eq_true (by omega)] at hp
          cases hp), List.append_nil]
        exact ⟨wv2, rfl, hx38', hO38⟩
    rintro st g44 w44 ⟨wv3, rfl, hx44, hO44⟩
    simp only [List.getD_cons_zero]
    have hql : (if part = true ∧ 0 < k then [32] else [] : Str).length ≤ 1 := by split <;> simp
    generalize hQ : (if part = true ∧ 0 < k then [32] else [] : Str) = Q at *
    have d34 : decide (((c.toNat : Nat) : Int) = 34) = decide (c = 34) := dec_u8 c 34
    have d92 : decide (((c.toNat : Nat) : Int) = 92) = decide (c = 92) := dec_u8 c 92
    refine JoinW.cut (fun st w' => st = [.bool (if c = 34 ∧ back = false then !text else text)] ∧ w' = w44) ?_ ?_
    · simp only [d34, isB_t, un_not, GdW_pure, List.getD_cons_zero, pick_gd_and]
      intro _
      rw [condW_b]
      refine ⟨fun hp => ?_, fun hp => ?_⟩
      · rw [Bool.and_eq_true, decide_eq_true_iff, Bool.not_eq_true'] at hp
        rw [if_pos hp]
        exact ⟨rfl, (by first | rfl | trivial)⟩
      · rw [if_neg (by
          rintro ⟨h1, h2⟩
          rw [decide_eq_true h1, h2] at hp
          cases hp)]
        exact ⟨rfl, (by first | rfl | trivial)⟩
    rintro st g48 w48 ⟨rfl, rfl⟩
    simp only [List.getD_cons_zero]
    generalize hT' : (if c = 34 ∧ back = false then !text else text) = text' at *
    simp only [isB_t, hix, bin_eql, d92, un_not, GdW_pure, List.getD_cons_zero, pick_gd_and]
    intros
    (try simp only [isB_t, un_not, GdW_pure, List.getD_cons_zero, pick_gd_and])
    intros
    rw [bin_add, up1 (by omega)]
    refine ⟨⟨i + 1, wv3, wl ++ P1 ++ [c] ++ Q, text', _, by omega, rfl, hx44, hO44, by rw [List.length_append, List.length_append]; simp; omega, ?_⟩, by simp only [Int.toNat_natCast]; omega⟩
    rw [← hinv]
    simp only [List.append_assoc]
    congr 1
    rw [← List.append_assoc, ← List.append_assoc]
    congr 1
    rw [← hP1, ← hQ]
    cases hp : part with
    | true => simp
    | false => simp
  obtain rfl : i = s.length := by omega
  have hscanE : scanM (pickB l) (s.drop s.length) s.length text back = [] := by rw [List.drop_length]; rfl
  rw [hscanE, List.append_nil] at hinv
  subst hinv
  obtain ⟨j0, hd⟩ := hdec (by omega)
  refine (conv_bytes (e := U8) (by kernel_rfl) (by kernel_rfl) (by kernel_rfl) hO8.sl).2 ?_
  have hT8 := hT.ext (hx03.trans hx8)
  refine decode_r hT8 (by omega) fun cs2 d2 w9 hx9 hv9 hd9 => ?_
  rw [hd] at hv9 hd9
  simp only [ext_tuple]
  refine ⟨_, rfl, _, rfl, ?_⟩
  refine keep_val hv9 fun b2 w11 sv2 kv2 hB11 hx11 => ?_
  rw [(hd9.ext hx11).eq]
  simp only [okR, Bool.false_xor]
  have hx211 := hx3.trans (hx8.trans (hx9.trans hx11))
  refine GdW.act true (fun w' => Ext w11 w') (fun e => by cases e) ?_ ?_
  · intro _ J hJ
    refine (hB2.ext hx211).ld fun cs4 h4 => ?_
    refine hB11.ld fun cs5 h5 => ?_
    refine same_ref v h4 h5 fun w12 hx12 => ?_
    rw [show sameM v (valR (.ok v j0 (cntM v))) = true from (same_iff v v).2 rfl]
    exact hJ w12 hx12
  intro g12 w12 hx12
  simp only [cond_true, List.getD_cons_zero, pick_t]
  exact hK w12 (hx02.trans (hx211.trans hx12))
end
end Go.Proofs.YtcnjpcadejcenaaGreatDoor
namespace Go.Proofs.YtcnjpcadejcenaaGreatDoor
open Go Go.Eng Go.RowKit
set_option maxRecDepth 100000
section
variable [HX]
theorem row_b2 {c d : UInt8} {w : World} {K : Value → World → Prop} (hK : ∀ t w', SlAt w' U8 t 2 (u8s [c, d]) → Ext w w' → K t w') : bslW U8 2 [(.int .u8 0), (.int .u8 0)] [(0, 1, .int .u8 (c.toNat : Nat)), (1, 1, .int .u8 (d.toNat : Nat))] w K := by
  rw [bslW]
  simp only [put_int, put_nil, List.length_cons, List.length_nil, List.set_cons_zero, List.set_cons_succ]
  refine ⟨by omega, by omega, ?_⟩
  refine hK _ _ ⟨_, _, rfl, Nat.le_refl _, fun e => (by cases e), fun _ => ⟨_, _, _, _, rfl, heap_anew _ _ _ rfl, fun i _ => by rw [Nat.zero_add]; simp [u8s]⟩⟩ (Chg.alloc (Chg.refl _ _) _)
theorem row_b6 {a b c d e f : UInt8} {w : World} {K : Value → World → Prop} (hK : ∀ t w', SlAt w' U8 t 6 (u8s [a, b, c, d, e, f]) → Ext w w' → K t w') :
    bslW U8 6 [(.int .u8 0), (.int .u8 0), (.int .u8 0), (.int .u8 0), (.int .u8 0), (.int .u8 0)] [(0, 1, .int .u8 (a.toNat : Nat)), (1, 1, .int .u8 (b.toNat : Nat)), (2, 1, .int .u8 (c.toNat : Nat)), (3, 1, .int .u8 (d.toNat : Nat)), (4, 1, .int .u8 (e.toNat : Nat)), (5, 1, .int .u8 (f.toNat : Nat))] w K := by
  rw [bslW]
  simp only [put_int, put_nil, List.length_cons, List.length_nil, List.set_cons_zero, List.set_cons_succ]
  refine ⟨by omega, by omega, by omega, by omega, by omega, by omega, ?_⟩
  refine hK _ _ ⟨_, _, rfl, Nat.le_refl _, fun e => (by cases e), fun _ => ⟨_, _, _, _, rfl, heap_anew _ _ _ rfl, fun i _ => by rw [Nat.zero_add]; simp [u8s]⟩⟩ (Chg.alloc (Chg.refl _ _) _)
theorem app_l {w w1 : World} {B : Nat} {v t : Value} {l m : Str} {K : Value → World → Prop} (h : Own w B U8 1 v l.length (u8s l)) (hx : Ext w w1) (ht : SlAt w1 U8 t m.length (u8s m)) (hl : l.length + m.length ≤ 100000000000) (hB : B ≤ w.heap.size) (hK : ∀ v' w', Own w' B U8 1 v' (l ++ m).length (u8s (l ++ m)) → Chg (fun q => B ≤ q) w w' → K v' w') :
    semE Tryz.prog (Builtin.append_ #[44, 44] 44 #[v, t]) w1 K := by
  refine append_own3 elem_u8 (own_chg h hx fun _ _ e => e) ht (by rw [u8s_length, Nat.mul_one]) (u8s_one _) (by omega) (by omega) (by have := hx.size; omega) fun v' w2 hO hc _ => ?_
  refine hK v' w2 (by rw [u8s_app, List.length_append]; exact hO) ((Chg.of_ext hx).trans (hc.mono fun q _ e => (own_in h e).1))
theorem quote_ref {s : Str} {w : World} {K : Value → World → Prop} (hl : s.length ≤ 1000000000) (hK : ∀ w', Ext w w' → K (str (quoteM s)) w') : callF Tryz.prog 83 [str s] w K := by
  refine W83_ok ?_
  unfold W83
  have e34 : (.int .u8 34 : Value) = .int .u8 (((34 : UInt8).toNat : Nat) : Int) := rfl
  have first : ∀ {K : Value → World → Prop}, (∀ v w', Own w' w.heap.size U8 1 v ([34] : Str).length (u8s [34]) → Ext w w' → K v w') → bslW U8 1 [(.int .u8 0)] [(0, 1, .int .u8 34)] w K := fun {K} hK => by
    rw [bslW]
    simp only [put_int, put_nil, List.length_cons, List.length_nil, List.set_cons_zero]
    refine ⟨by omega, ?_⟩
    refine hK _ _ ⟨rfl, .inr ⟨w.heap.size, 1, _, rfl, Nat.le_refl _, heap_anew _ _ _ rfl, Nat.le_refl _, by decide, rfl, by simp [u8s]⟩⟩ (Chg.alloc (Chg.refl _ _) _)
  refine first fun v0 w1 hO1 hx1 => ?_
  refine LoopW.go (fun st w' => ∃ (i : Nat) (v : Value), i ≤ s.length ∧ st = [v, i64 (i : Nat)] ∧ Ext w w' ∧ Own w' w.heap.size U8 1 v ([34] ++ (s.take i).flatMap escB).length (u8s ([34] ++ (s.take i).flatMap escB))) (fun st _ => match st with | [_, .int _ i] => s.length - i.toNat | _ => 0)
    ⟨0, v0, Nat.zero_le _, rfl, hx1, by simpa using hO1⟩ ?_
  rintro st g w3 ⟨i, v, hi, rfl, hx3, hO3⟩
  simp only [List.getD_cons_zero, List.getD_cons_succ]
  have hfl := flat_len (s.take i)
  have htl : (s.take i).length = i := by rw [List.length_take]; omega
  have hol : ([34] ++ (s.take i).flatMap escB).length ≤ 6 * i + 1 := by rw [List.length_append, List.length_singleton]; omega
  have hup : ∀ {w1 w2 : World}, Ext w w1 → Chg (fun q => w.heap.size ≤ q) w1 w2 → Ext w w2 := fun hx hc => hx.then hc fun q hq e => by omega
  rw [lens_str, bin_lss, condW_dec]
  refine ⟨fun hlt => ?_, fun hge => ?_⟩
  · obtain ⟨c, hc⟩ : ∃ c, s[i]? = some c := ⟨_, List.getElem?_eq_getElem (by omega)⟩
    have etake : s.take (i + 1) = s.take i ++ [c] := by rw [List.take_add_one, hc]; rfl
    have eflat : (s.take (i + 1)).flatMap escB = (s.take i).flatMap escB ++ escB c := by rw [etake, List.flatMap_append]; simp
    have hn := UInt8.toNat_lt c
    refine JoinW.cut (fun st w' => ∃ v', st = [v'] ∧ Ext w w' ∧ Own w' w.heap.size U8 1 v' ([34] ++ (s.take i).flatMap escB ++ escB c).length (u8s ([34] ++ (s.take i).flatMap escB ++ escB c))) ?_ ?_
    · rw [ixs_str]
      refine ⟨by omega, c, by simpa using hc, ?_⟩
      have eqn : ∀ d : UInt8, (((c.toNat : Nat) : Int) = (d.toNat : Int)) ↔ c = d := fun d => ⟨fun h => UInt8.toNat_inj.1 (by omega), fun h => by rw [h]⟩
      have q34 : ((c.toNat : Nat) : Int) = 34 ↔ c = 34 := eqn 34
      have q92 : ((c.toNat : Nat) : Int) = 92 ↔ c = 92 := eqn 92
      have q8 : ((c.toNat : Nat) : Int) = 8 ↔ c = 8 := eqn 8
      have q12 : ((c.toNat : Nat) : Int) = 12 ↔ c = 12 := eqn 12
      have q10 : ((c.toNat : Nat) : Int) = 10 ↔ c = 10 := eqn 10
      have q13 : ((c.toNat : Nat) : Int) = 13 ↔ c = 13 := eqn 13
      have q9 : ((c.toNat : Nat) : Int) = 9 ↔ c = 9 := eqn 9
      refine JoinW.cut (fun st w' => st = [.bool (decide (c = 34) || decide (c = 92))] ∧ w' = w3) ?_ ?_
      · rw [bin_eql, condW_dec]
        refine ⟨fun e => ?_, fun e => ?_⟩
        · rw [decide_eq_true (q34.1 e), decide_eq_true e]
          exact ⟨rfl, rfl⟩
        · rw [bin_eql, decide_eq_false (fun h => e (q34.2 h))]
          refine ⟨?_, rfl⟩
          by_cases h : c = 92
          · rw [decide_eq_true h, decide_eq_true (q92.2 h)]; rfl
          · rw [decide_eq_false h, decide_eq_false (fun e => h (q92.1 e))]; rfl
      rintro st g6 w6 ⟨rfl, rfl⟩
      simp only [List.getD_cons_zero]
      have done : ∀ {v' : Value} {w' : World}, Chg (fun q => w.heap.size ≤ q) w6 w' → Own w' w.heap.size U8 1 v' ([34] ++ (s.take i).flatMap escB ++ escB c).length (u8s ([34] ++ (s.take i).flatMap escB ++ escB c)) →
          ∃ v'', [v'] = [v''] ∧ Ext w w' ∧ Own w' w.heap.size U8 1 v'' ([34] ++ (s.take i).flatMap escB ++ escB c).length (u8s ([34] ++ (s.take i).flatMap escB ++ escB c)) := fun {v' w'} hc hO => ⟨v', rfl, hup hx3 hc, hO⟩
      have two : ∀ (d : UInt8), escB c = [92, d] → bslW U8 2 [(.int .u8 0), (.int .u8 0)] [(0, 1, .int .u8 92), (1, 1, .int .u8 (d.toNat : Nat))] w6 fun t w7 => semE Tryz.prog (Builtin.append_ #[44, 44] 44 #[v, t]) w7 fun t38 w8 =>
          ∃ v'', [t38] = [v''] ∧ Ext w w8 ∧ Own w8 w.heap.size U8 1 v'' ([34] ++ (s.take i).flatMap escB ++ escB c).length (u8s ([34] ++ (s.take i).flatMap escB ++ escB c)) := fun d he => by
        refine row_b2 (c := 92) fun t w7 ht hx7 => ?_
        rw [he]
        refine app_l (m := [92, d]) hO3 hx7 ht (by simp; simp at hol; omega) hx3.size fun v' w8 hO8 hc8 => ?_
        exact ⟨v', rfl, hup hx3 hc8, hO8⟩
      rw [condW_b]
      refine ⟨fun e => ?_, fun e => ?_⟩
      · refine two c ?_
        rw [Bool.or_eq_true, decide_eq_true_iff, decide_eq_true_iff] at e
        unfold escB
        rw [if_pos e]
      rw [Bool.or_eq_false_iff, decide_eq_false_iff_not, decide_eq_false_iff_not] at e
      have n0 : ¬ (c = 34 ∨ c = 92) := fun h => h.elim e.1 e.2
      rw [bin_eql, condW_dec]
      refine ⟨fun e => two 98 (by unfold escB; rw [if_neg n0, if_pos (q8.1 e)]), fun e8 => ?_⟩
      rw [bin_eql, condW_dec]
      refine ⟨fun e => two 102 (by unfold escB; rw [if_neg n0, if_neg (fun h => e8 (q8.2 h)), if_pos (q12.1 e)]), fun e12 => ?_⟩
      rw [bin_eql, condW_dec]
      refine ⟨fun e => two 110 (by unfold escB; rw [if_neg n0, if_neg (fun h => e8 (q8.2 h)), if_neg (fun h => e12 (q12.2 h)), if_pos (q10.1 e)]), fun e10 => ?_⟩
      rw [bin_eql, condW_dec]
      refine ⟨fun e => two 114 (by unfold escB; rw [if_neg n0, if_neg (fun h => e8 (q8.2 h)), if_neg (fun h => e12 (q12.2 h)), if_neg (fun h => e10 (q10.2 h)), if_pos (q13.1 e)]), fun e13 => ?_⟩
      rw [bin_eql, condW_dec]
      refine ⟨fun e => two 116 (by unfold escB; rw [if_neg n0, if_neg (fun h => e8 (q8.2 h)), if_neg (fun h => e12 (q12.2 h)), if_neg (fun h => e10 (q10.2 h)), if_neg (fun h => e13 (q13.2 h)), if_pos (q9.1 e)]), fun e9 => ?_⟩
      have he0 : escB c = if c < 32 then [92, 117, 48, 48, b8 (48 + c.toNat / 16), hexD (c.toNat % 16)] else [c] := by
        unfold escB
        rw [if_neg n0, if_neg (fun h => e8 (q8.2 h)), if_neg (fun h => e12 (q12.2 h)), if_neg (fun h => e10 (q10.2 h)), if_neg (fun h => e13 (q13.2 h)), if_neg (fun h => e9 (q9.2 h))]
      rw [bin_lss, condW_dec]
      refine ⟨fun e => ?_, fun e => ?_⟩
      · have hlt32 : c.toNat < 32 := by omega
        rw [if_pos (show c < 32 from hlt32)] at he0
        rw [bin_quo]
        refine ⟨by decide, ?_⟩
        have ediv : ((c.toNat : Nat) : Int).tdiv 16 = ((c.toNat / 16 : Nat) : Int) := by rw [Int.tdiv_eq_ediv_of_nonneg (by omega)]; omega
        have erem : ((c.toNat : Nat) : Int).tmod 16 = ((c.toNat % 16 : Nat) : Int) := by rw [Int.tmod_eq_emod_of_nonneg (by omega)]; omega
        rw [ediv, wrap_u8 (by omega), bin_add, show (48 : Int) + ((c.toNat / 16 : Nat) : Int) = ((48 + c.toNat / 16 : Nat) : Int) by omega, wrap_u8 (by omega), bin_rem]
        refine ⟨by decide, ?_⟩
        rw [erem]
        have hh : ∀ n : Fin 16, ([48, 49, 50, 51, 52, 53, 54, 55, 56, 57, 97, 98, 99, 100, 101, 102] : Str)[n.val]? = some (hexD n.val) := by decide +kernel
        rw [ixs_str]
        refine ⟨by omega, hexD (c.toNat % 16), (by rw [Int.toNat_natCast]; exact hh ⟨c.toNat % 16, by omega⟩), ?_⟩
        have eb : ((48 + c.toNat / 16 : Nat) : Int) = ((b8 (48 + c.toNat / 16)).toNat : Int) := by
          unfold b8
          rw [UInt8.toNat_ofNat']
          omega
        rw [eb]
        refine row_b6 (a := 92) (b := 117) (c := 48) (d := 48) fun t w7 ht hx7 => ?_
        rw [he0]
        refine app_l (m := [92, 117, 48, 48, b8 (48 + c.toNat / 16), hexD (c.toNat % 16)]) hO3 hx7 ht (by simp; simp at hol; omega) hx3.size fun v' w8 hO8 hc8 => ?_
        exact ⟨v', rfl, hup hx3 hc8, hO8⟩
      · rw [if_neg (show ¬ c < 32 from fun h => e (by have h : c.toNat < 32 := h; omega))] at he0
        refine row_b fun t w7 ht hx7 => ?_
        rw [he0]
        refine app_l (m := [c]) hO3 hx7 ht (by simp; simp at hol; omega) hx3.size fun v' w8 hO8 hc8 => ?_
        exact ⟨v', rfl, hup hx3 hc8, hO8⟩
    rintro st g23 w23 ⟨v', rfl, hx23, hO23⟩
    simp only [List.getD_cons_zero]
    rw [bin_add, up1 (by omega)]
    refine ⟨⟨i + 1, v', by omega, rfl, hx23, ?_⟩, by simp only [Int.toNat_natCast]; omega⟩
    rw [eflat, ← List.append_assoc]
    exact hO23
  · obtain rfl : i = s.length := by omega
    rw [List.take_length] at hO3 hol
    refine row_b (c := 34) fun t w24 ht hx24 => ?_
    refine app_l (m := [34]) hO3 hx24 ht (by simp; simp at hol; omega) hx3.size fun v' w25 hO25 hc25 => ?_
    refine (conv_bytes (e := U8) (by kernel_rfl) (by kernel_rfl) (by kernel_rfl) hO25.sl).2 ?_
    exact hK w25 (hup hx3 hc25)
theorem show_ref (v : JV) : ∀ {cs : List Value} {w : World} {K : Value → World → Prop}, VRep w v cs → plainM v = true → knownM v = true → cntM v ≤ 2000 → (∀ w', Ext w w' → K (str (showM v)) w') → callF Tryz.prog 50 [.agg cs.toArray] w K := by
  induction v using JV.ind with
  | h k bb t xs ks ih =>
    intro cs w K h hp hkn hcnt hK
    have hsl := show_len _ hp
    rw [plainM_eq, Bool.and_eq_true] at hp
    obtain ⟨hp1, hp2⟩ := hp
    have hh := headOk_out hp1
    simp only [JV.k, JV.b, JV.t, JV.xs, JV.ks] at hh hp2
    rw [knownM_eq, Bool.and_eq_true, Bool.not_eq_true', decide_eq_false_iff_not] at hkn
    obtain ⟨hkn1, hkn2⟩ := hkn
    simp only [JV.k, JV.xs] at hkn1 hkn2
    rw [plainL_all, List.all_eq_true] at hp2
    rw [knownL_all, List.all_eq_true] at hkn2
    simp only [cntM] at hcnt hsl
    rw [showM_eq] at hK hsl
    refine W50_ok ?_
    unfold W50
    refine box_val h fun a w1 sv kv hB hx1 ha => ?_
    have hba := hB.hb
    simp only [JV.k, JV.b, JV.t, JV.xs, JV.ks] at hba
    have ld : ∀ {w' : World} {off : Nat} {v : Value} {KK : Value → Prop}, Ext w1 w' → [i64 k, .bool bb, str t, sv, kv][off]? = some v → KK v → fldW off (.pointer (some ⟨a, 0, none⟩)) fun p => ldW false 1 p w' KK := fun {w' off v KK} hx hv hk => by
      rw [fld_ptr, ld_one]
      refine ⟨v, ?_, hk⟩
      rw [add_mk, cell_eq, hx.at hba id, cellO_some, Nat.zero_add]
      simpa using hv
    have r1 : Ext w1 w1 := Chg.refl _ _
    refine ld r1 rfl ?_
    rw [bin_eql, condW_dec]
    refine ⟨fun e0 => ?_, fun e0 => ?_⟩
    · rw [if_pos e0] at hK
      exact hK w1 hx1
    rw [if_neg e0] at hK hsl
    rw [bin_eql, condW_dec]
    refine ⟨fun e2 => ?_, fun e2 => ?_⟩
    · rw [if_pos e2] at hK
      refine ld r1 rfl ?_
      rw [condW_b]
      refine ⟨fun e => ?_, fun e => ?_⟩
      · rw [e] at hK; exact hK w1 hx1
      · rw [e] at hK; exact hK w1 hx1
    rw [if_neg e2] at hK hsl
    rw [bin_eql, condW_dec]
    refine ⟨fun e3 => ?_, fun e3 => ?_⟩
    · rw [if_pos e3] at hK
      refine ld r1 rfl ?_
      exact hK w1 hx1
    rw [if_neg e3] at hK hsl
    rw [bin_eql, condW_dec]
    refine ⟨fun e4 => ?_, fun e4 => ?_⟩
    · rw [if_pos e4] at hK
      refine ld r1 rfl ?_
      have ht4 := hh.2.2.2.2.2.2.2.1 e4
      exact quote_ref (by omega) fun w2 hx2 => hK w2 (hx1.trans hx2)
    rw [if_neg e4] at hK hsl
    refine ld r1 rfl ?_
    have hlx : ∀ K, lenlW sv K ↔ K (i64 (xs.length : Nat)) := hB.lenx
    rw [hlx]
    have hcg := fun n hn => cntS_le xs n hn
    have hfx : xs.length ≤ 9223372036854775807 := hB.fits.1
    have emax : ∀ n : Nat, n ≤ 1000000000 → ((n : Nat) : Int) ≤ IntKind.i64.max := fun n hn => by
      have : IntKind.i64.max = 9223372036854775807 := by decide
      omega
    -- what is written of the items
    obtain ⟨part, hpart⟩ : ∃ part : Nat → Str, part = if k = 6 then partO xs ks else partL xs := ⟨_, rfl⟩
    have hkl : k = 6 → ks.length = xs.length := fun e => hh.2.2.2.2.2.2.2.2.1 e
    have hks := keysOk_len hh.2.2.2.2.2.2.2.2.2
    refine LoopW.go (fun st w' => ∃ i : Nat, i ≤ xs.length ∧ st = [str (sumL part i), i64 (i : Nat)] ∧ Ext w1 w' ∧ (sumL part i).length ≤ 200000 * cntS xs i) (fun st _ => match st with | [_, .int _ i] => xs.length - i.toNat | _ => 0) ⟨0, Nat.zero_le _, rfl, r1, by simp [sumL]⟩ ?_
    rintro st g w4 ⟨i, hi, rfl, hx4, hs4⟩
    simp only [List.getD_cons_zero, List.getD_cons_succ]
    rw [bin_lss, condW_dec]
    refine ⟨fun hlt => ?_, fun hge => ?_⟩
    · have hlt : i < xs.length := by omega
      obtain ⟨x, hxi⟩ : ∃ x, xs[i]? = some x := ⟨_, List.getElem?_eq_getElem hlt⟩
      have hxm := List.mem_of_getElem? hxi
      have hcs := hcg (i + 1) hlt
      rw [cntS, cntAt_get hxi] at hcs
      have hxl := show_len x (hp2 x hxm)
      have hxc := cnt_pos x
      refine JoinW.cut (fun st w' => st = [str (sumL part i ++ (if i = 0 then [] else [44]))] ∧ w' = w4) ?_ ?_
      · rw [bin_gtr, condW_dec]
        refine ⟨fun hpos => ?_, fun hz => ?_⟩
        · rw [bin_sadd]
          refine ⟨emax _ (by simp; omega), ?_⟩
          rw [if_neg (by omega)]
          exact ⟨rfl, rfl⟩
        · rw [if_pos (by omega), List.append_nil]
          exact ⟨rfl, rfl⟩
      rintro st g6 w6 ⟨rfl, rfl⟩
      simp only [List.getD_cons_zero]
      have hcl : (if i = 0 then [] else [44] : Str).length ≤ 1 := by split <;> simp
      refine JoinW.cut (fun st w' => st = [str (sumL part i ++ (if i = 0 then [] else [44]) ++ (if k = 6 then quoteM (ks.getD i []) ++ [58] else []))] ∧ Ext w6 w') ?_ ?_
      · refine ld hx4 rfl ?_
        rw [bin_eql, condW_dec]
        refine ⟨fun e6 => ?_, fun e6 => ?_⟩
        · obtain ⟨key, hki⟩ : ∃ key, ks[i]? = some key := ⟨_, List.getElem?_eq_getElem (by rw [hkl e6]; exact hlt)⟩
          have hkm := List.mem_of_getElem? hki
          have hq := quote_len key
          have hk16 := hks key hkm
          refine ld hx4 rfl ?_
          obtain ⟨T, hkv⟩ := (hB.ext hx4).keys
          refine text_ld hkv hki ?_
          refine quote_ref (by omega) fun w8 hx8 => ?_
          rw [bin_sadd]
          refine ⟨emax _ (by rw [List.length_append]; omega), ?_⟩
          rw [bin_sadd]
          refine ⟨emax _ (by rw [List.length_append, List.length_append]; simp; omega), ?_⟩
          rw [if_pos e6, List.getD_eq_getElem?_getD, hki]
          exact ⟨by simp [List.append_assoc], hx8⟩
        · rw [if_neg e6, List.append_nil]
          exact ⟨rfl, Chg.refl _ _⟩
      rintro st g9 w9 ⟨rfl, hx9⟩
      simp only [List.getD_cons_zero]
      refine ld (hx4.trans hx9) rfl ?_
      refine (hB.ext (hx4.trans hx9)).item hxi fun cs2 h2 => ?_
      have hxcnt : cntM x ≤ 2000 := by have := hcg xs.length (Nat.le_refl _); omega
      refine ih x hxm h2 (hp2 x hxm) (hkn2 x hxm) hxcnt fun w10 hx10 => ?_
      have hplen : (if k = 6 then quoteM (ks.getD i []) ++ [58] else [] : Str).length ≤ 99000 := by
        split
        · rename_i e6
          obtain ⟨key, hki⟩ : ∃ key, ks[i]? = some key := ⟨_, List.getElem?_eq_getElem (by rw [hkl e6]; exact hlt)⟩
          have hq := quote_len key
          have hk16 := hks key (List.mem_of_getElem? hki)
          rw [List.getD_eq_getElem?_getD, hki, List.length_append]
          simp
          omega
        · simp
      have hpi : part i = (if i = 0 then [] else [44]) ++ (if k = 6 then quoteM (ks.getD i []) ++ [58] else []) ++ showM x := by
        rw [hpart]
        by_cases e6 : k = 6
        · rw [if_pos e6, if_pos e6]; unfold partO; rw [hxi]; simp [List.append_assoc]
        · rw [if_neg e6, if_neg e6]; unfold partL; rw [hxi]; simp
      have hsx := hcg xs.length (Nat.le_refl _)
      rw [bin_sadd]
      refine ⟨emax _ (by rw [List.length_append, List.length_append]; omega), ?_⟩
      rw [bin_add, up1 (by omega)]
      refine ⟨⟨i + 1, by omega, ?_, hx4.trans (hx9.trans hx10), ?_⟩, by simp only [Int.toNat_natCast]; omega⟩
      · rw [sum_succ, hpi]; simp [List.append_assoc]
      · rw [sum_succ, List.length_append, cntS, cntAt_get hxi, hpi]
        simp only [List.length_append] at hplen ⊢
        omega
    obtain rfl : i = xs.length := by omega
    have hcs := hcg xs.length (Nat.le_refl _)
    refine ld hx4 rfl ?_
    rw [bin_eql, condW_dec]
    refine ⟨fun e6 => ?_, fun e6 => ?_⟩
    · rw [if_pos e6, ← obj_join (hkl e6)] at hK
      rw [hpart, if_pos e6] at hs4 ⊢
      rw [bin_sadd]
      refine ⟨emax _ (by simp; omega), ?_⟩
      rw [bin_sadd]
      refine ⟨emax _ (by simp; omega), ?_⟩
      exact hK w4 (hx1.trans hx4)
    · rw [if_neg e6, ← list_join] at hK
      rw [hpart, if_neg e6] at hs4 ⊢
      rw [bin_sadd]
      refine ⟨emax _ (by simp; omega), ?_⟩
      rw [bin_sadd]
      refine ⟨emax _ (by simp; omega), ?_⟩
      exact hK w4 (hx1.trans hx4)
theorem encode_ref {v : JV} {cs : List Value} {w : World} {K : Value → World → Prop} (h : VRep w v cs) (hK : ∀ w', Ext w w' → K (.tuple #[str (encM 1 20 31 3 v).1, i64 (encM 1 20 31 3 v).2]) w') : callF Tryz.prog 17 [.agg cs.toArray] w K := by
  refine W17_ok ?_
  unfold W17
  unfold encM at hK
  refine box_val h fun a w1 sv kv hB hx1 ha => ?_
  refine hB.ld fun cs1 h1 => ?_
  refine good_ref h1 fun w2 hx2 => ?_
  rw [un_not, condW_b]
  refine ⟨fun e => ?_, fun e => ?_⟩
  · have e : goodM v = false := by simpa using e
    rw [if_pos e] at hK
    exact hK w2 (hx1.trans hx2)
  have hg : goodM v = true := by simpa using e
  have hgv := good_v hg
  have hcnt := good_cnt hg
  rw [if_neg (by rw [hg]; simp)] at hK
  refine (hB.ext hx2).ld fun cs2 h2 => ?_
  refine known_ref v h2 fun w3 hx3 => ?_
  rw [un_not, condW_b]
  refine ⟨fun e => ?_, fun e => ?_⟩
  · have e : knownM v = false := by simpa using e
    rw [if_pos e] at hK
    exact hK w3 ((hx1.trans hx2).trans hx3)
  have hk : knownM v = true := by simpa using e
  rw [if_neg (by rw [hk]; simp)] at hK
  refine ((hB.ext hx2).ext hx3).ld fun cs3 h3 => ?_
  obtain ⟨_, _, _, hko, _⟩ := hgv.lens
  refine textsr_ref v hgv.few (fun s hs => by have := keysOk_len hko s hs; omega) h3 hgv.plain fun w4 hx4 => ?_
  rw [un_not, condW_b]
  refine ⟨fun e => ?_, fun e => ?_⟩
  · have e : textsM v = false := by simpa using e
    rw [if_pos e] at hK
    exact hK w4 (((hx1.trans hx2).trans hx3).trans hx4)
  have ht : textsM v = true := by simpa using e
  rw [if_neg (by rw [ht]; simp)] at hK
  refine (((hB.ext hx2).ext hx3).ext hx4).ld fun cs4 h4 => ?_
  refine show_ref v h4 hgv.plain hk hcnt fun w5 hx5 => ?_
  have hx05 := ((hx1.trans hx2).trans hx3).trans (hx4.trans hx5)
  rw [lens_str, bin_gtr, condW_dec]
  refine ⟨fun e => ?_, fun e => ?_⟩
  · rw [if_pos (by omega)] at hK
    exact hK w5 hx05
  · rw [if_neg (by omega)] at hK
    exact hK w5 hx05
theorem writes_true {v : JV} {cs : List Value} {w : World} {K : Value → World → Prop} (hT : TabJ w) (h : VRep w v cs) (hK : ∀ w', Ext w w' → K (.bool true) w') : callF Tryz.prog 3 [.agg cs.toArray] w K := by
  refine W3_ok ?_
  unfold W3
  refine box_val h fun a w1 sv kv hB hx1 ha => ?_
  refine awake_j (hT.ext hx1) fun w2 hx2 => ?_
  rw [un_not, Bool.not_true, condW_false]
  have hT2 := hT.ext (hx1.trans hx2)
  refine (hB.ext hx2).ld fun cs1 h1 => ?_
  refine encode_p hT2.utf (fmt_ok hT2.bru) h1 fun w3 hx3 => ?_
  simp only [ext_tuple]
  refine ⟨_, rfl, _, rfl, ?_⟩
  refine ((hB.ext hx2).ext hx3).ld fun cs2 h2 => ?_
  refine encode_ref h2 fun w4 hx4 => ?_
  simp only [ext_tuple]
  refine ⟨_, rfl, _, rfl, ?_⟩
  rw [bin_seq, decide_eq_true rfl]
  simp only [isB_t, bin_eql, GdW_pure, cond_true, List.getD_cons_zero, pick_t, decide_true]
  intro _
  exact hK w4 ((hx1.trans hx2).trans (hx3.trans hx4))
end
end Go.Proofs.YtcnjpcadejcenaaGreatDoor
namespace Go.Eng
open Go Go.Deep
theorem flat_get {k : Nat} : ∀ (L : List (List Value)) (i r : Nat) (y : List Value), (∀ z ∈ L, z.length = k) → r < k → L[i]? = some y → L.flatten[i * k + r]? = y[r]?
  | [], i, _, _, _, _, h => by simp at h
  | z :: L, 0, r, y, hl, hr, h => by
    simp only [List.getElem?_cons_zero, Option.some.injEq] at h
    subst h
    simp only [List.flatten_cons, Nat.zero_mul, Nat.zero_add]
    rw [List.getElem?_append_left (by rw [hl z List.mem_cons_self]; exact hr)]
  | z :: L, i + 1, r, y, hl, hr, h => by
    simp only [List.getElem?_cons_succ] at h
    have := flat_get L i r y (fun u hu => hl u (List.mem_cons_of_mem _ hu)) hr h
    rw [← this]
    simp only [List.flatten_cons]
    have hz := hl z List.mem_cons_self
    rw [List.getElem?_append_right (by rw [hz, Nat.add_mul]; omega)]
    congr 1
    rw [hz, Nat.add_mul]
    omega
theorem flat_len {k : Nat} : ∀ (L : List (List Value)), (∀ z ∈ L, z.length = k) → L.flatten.length = L.length * k
  | [], _ => by simp
  | z :: L, hl => by
    rw [List.flatten_cons, List.length_append, flat_len L fun u hu => hl u (List.mem_cons_of_mem _ hu), hl z List.mem_cons_self, List.length_cons, Nat.add_mul]
    omega
section
variable {H : Type} {enc : TypeId × Value → H} {P : Program} {w : World} {base : Nat} {spare : Nat → Bool} {held : Bool}
theorem open_rows {t e : TypeId} {k fuel : Nat} {v : Value} {d : DataW H} {ps : List MemPlace} (ht : P.underlying t = some (.slice e)) (hk : P.cellsOf e = k) (hk0 : 0 < k) (h : DataW.trod enc P w base spare held fuel t [v] = some (d, ps)) :
    ∃ p n c T m, ∃ (f : Nat → List Value) (D : Nat → DataW H) (Pl : Nat → List MemPlace), v = .slice p n c ∧ SlAt w T (.slice p n c) n ((List.range n).map f).flatten ∧
      (∀ i, i < n → (f i).length = k ∧ DataW.trod enc P w base spare held m e (f i) = some (D i, Pl i)) ∧ ((n = 0 ∧ d = .nil) ∨ ∃ rest, d = .slice ((List.range n).map D) rest) := by
  rcases open_slice ht h with ⟨hc, hx⟩ | ⟨a, len, cap, m, n, D, Pl, hc, _, hl, hm, hme, hx, hel⟩
  · cases hc
    cases hx
    refine ⟨none, 0, 0, 0, 0, fun _ => [], fun _ => .nil, fun _ => [], rfl, ?_, fun i hi => by omega, .inl ⟨rfl, rfl⟩⟩
    simpa using SlAt.nil w 0
  · cases hc
    cases hx
    have hlm : len ≤ m := by rw [hme]; split <;> omega
    obtain ⟨f, hf⟩ := choose_lt (n := len) fun i hi => hel i (by omega)
    have hfl : ∀ i, i < len → (f i).length = k := fun i hi => by rw [(World.cells?_some (hf i hi).1).2.1, hk]
    have hall : ∀ z ∈ (List.range len).map f, z.length = k := by
      intro z hz
      obtain ⟨i, hi, rfl⟩ := List.mem_map.1 hz
      exact hfl i (List.mem_range.1 hi)
    have hcell : ∀ i r, i < len → r < k → w.cell? (a.add (i * k + r)) = (f i)[r]? := by
      intro i r hi hr
      have := (World.cells?_some (hf i hi).1).2.2 r (by omega)
      rw [add_add, hk] at this
      exact this
    by_cases h0 : len = 0
    · subst h0
      refine ⟨some a, 0, cap, 0, n, f, D, Pl, rfl, ⟨some a, cap, rfl, Nat.zero_le _, (by intro e; cases e), (by simp)⟩, fun i hi => by omega, .inr ⟨_, rfl⟩⟩
    have h00 := hcell 0 0 (by omega) hk0
    have hf0 := hfl 0 (by omega)
    rw [List.getElem?_eq_getElem (by omega)] at h00
    obtain ⟨c, T, fr, hb, hsp⟩ : ∃ c T fr, w.heap[a.block]? = some (.cells c T fr) ∧ a.spot = none := by
      unfold World.cell? at h00
      have e1 : (a.add (0 * k + 0)).block = a.block := by unfold Addr.add; split <;> rfl
      have e2 : (a.add (0 * k + 0)) = a := by unfold Addr.add; simp
      rw [e2] at h00
      split at h00
      · rename_i c T fr hb
        refine ⟨c, T, fr, hb, ?_⟩
        cases hs : a.spot with
        | none => rfl
        | some _ => simp [hs] at h00
      · cases h00
    obtain ⟨b, off, sp⟩ := a
    simp only at hsp hb
    subst hsp
    refine ⟨some ⟨b, off, none⟩, len, cap, T, n, f, D, Pl, rfl, ⟨_, _, rfl, hl, (by intro e; cases e), fun _ => ⟨b, off, c, fr, rfl, hb, fun j hj => ?_⟩⟩, fun i hi => ⟨hfl i hi, (hf i hi).2⟩, .inr ⟨_, rfl⟩⟩
    rw [flat_len _ hall, List.length_map, List.length_range] at hj
    have hi : j / k < len := by rw [Nat.div_lt_iff_lt_mul hk0]; exact hj
    have hr : j % k < k := Nat.mod_lt _ hk0
    have hjj : j / k * k + j % k = j := by rw [Nat.mul_comm]; exact Nat.div_add_mod j k
    have h1 := hcell (j / k) (j % k) hi hr
    rw [hjj, add_mk, cell_eq, hb, cellO_some] at h1
    have h2 := flat_get ((List.range len).map f) (j / k) (j % k) (f (j / k)) hall hr (by simp [hi])
    rw [hjj] at h2
    rw [h1, h2]
end
end Go.Eng
namespace Go.Proofs.YtcnjpcadejcenaaGreatDoor
open Go Go.Eng Go.Num Go.Deep
set_option maxRecDepth 100000
instance : Inhabited JV := ⟨JV.null⟩
theorem vreps_map {w : World} {X : Nat → JV} {f : Nat → List Value} : ∀ (l : List Nat), (∀ i ∈ l, VRep w (X i) (f i)) → VReps w (l.map X) (l.map f).flatten
  | [], _ => by simp [VReps]
  | i :: l, h => by
    simp only [List.map_cons, List.flatten_cons, VReps]
    exact ⟨_, _, rfl, h i List.mem_cons_self, vreps_map l fun j hj => h j (List.mem_cons_of_mem _ hj)⟩
section
variable {H : Type} {enc : TypeId × Value → H} {w : World} {base : Nat} {spare : Nat → Bool} {held : Bool}
theorem open_len {P : Program} {t e : TypeId} {fuel : Nat} {p : Option Addr} {n c : Nat} {x : DataW H × List MemPlace} (ht : P.underlying t = some (.slice e)) (h : DataW.trod enc P w base spare held fuel t [.slice p n c] = some x) : n ≤ 9223372036854775807 := by
  rcases Deep.open_slice ht h with ⟨hc, _⟩ | ⟨a, len, cap, m, n', D, Pl, hc, _, hl, hm, _⟩
  · cases hc; omega
  · cases hc; unfold maxLen at hm; omega
theorem open_texts {P : Program} {t e : TypeId} {fuel : Nat} {v : Value} {d : DataW H} {ps : List MemPlace} (ht : P.underlying t = some (.slice e)) (he : P.underlying e = some .string) (hk : P.cellsOf e = 1) (h : DataW.trod enc P w base spare held fuel t [v] = some (d, ps)) :
    ∃ (T : TypeId) (l : List Str), SlAt w T v l.length (l.map str) ∧ l.length ≤ 9223372036854775807 ∧ ∀ s ∈ l, s.length ≤ 9223372036854775807 := by
  obtain ⟨p, n, c, T, m, f, D, Pl, rfl, hs, hf, hd⟩ := open_rows ht hk (by omega) h
  have hn := open_len ht h
  have hex : ∀ i, i < n → ∃ b : Str, f i = [str b] ∧ b.length ≤ 9223372036854775807 := by
    intro i hi
    obtain ⟨s, hx, _, hw⟩ := DataW.trod_string he (hf i hi).2
    refine ⟨s.data.toList, by rw [hx]; simp [ofL], ?_⟩
    unfold maxLen at hw
    simpa using hw
  obtain ⟨g, hg⟩ := choose_lt hex
  have hfl : ((List.range n).map f).flatten = ((List.range n).map g).map str := by
    have : (List.range n).map f = (List.range n).map fun i => [str (g i)] := List.map_congr_left fun i hi => (hg i (List.mem_range.1 hi)).1
    rw [this]
    simp only [List.map_map]
    generalize List.range n = L
    induction L with
    | nil => rfl
    | cons a L ih => simp only [List.map_cons, List.flatten_cons, ih, Function.comp_apply]; rfl
  rw [hfl] at hs
  refine ⟨T, (List.range n).map g, by simpa using hs, by simpa using hn, fun s hs => ?_⟩
  obtain ⟨i, hi, rfl⟩ := List.mem_map.1 hs
  exact (hg i (List.mem_range.1 hi)).2
theorem open_val : ∀ (N fuel : Nat) (cs : List Value) (d : DataW H) (ps : List MemPlace), SizeOf.sizeOf d < N → DataW.trod enc Tryz.prog w base spare held fuel VT cs = some (d, ps) → ∃ v : JV, VRep w v cs
  | 0, _, _, _, _, h, _ => by omega
  | N + 1, fuel, cs, d, ps, hN, h => by
    obtain ⟨xs, n, hn, hx, hl, hlen, hf⟩ := DataW.trod_struct Tryz.underlying26 h
    have hl5 : cs.length = 5 := hl.trans (show Tryz.prog.cellsOf VT = 5 by kernel_rfl)
    have k0 : Tryz.prog.cellsOf 22 = 1 := by kernel_rfl
    have k1 : Tryz.prog.cellsOf 4 = 1 := by kernel_rfl
    have k2 : Tryz.prog.cellsOf 9 = 1 := by kernel_rfl
    have k3 : Tryz.prog.cellsOf 23 = 1 := by kernel_rfl
    have k4 : Tryz.prog.cellsOf 24 = 1 := by kernel_rfl
    match cs, hl5 with
    | [c0, c1, c2, c3, c4], _ =>
    have f0 : DataW.trod enc Tryz.prog w base spare held n 22 (([c0, c1, c2, c3, c4].drop 0).take (Tryz.prog.cellsOf 22)) = xs[0]? := hf 0 _ rfl
    rw [k0] at f0
    have f0 : DataW.trod enc Tryz.prog w base spare held n 22 [c0] = xs[0]? := f0
    have f1 : DataW.trod enc Tryz.prog w base spare held n 4 (([c0, c1, c2, c3, c4].drop 1).take (Tryz.prog.cellsOf 4)) = xs[1]? := hf 1 _ rfl
    rw [k1] at f1
    have f1 : DataW.trod enc Tryz.prog w base spare held n 4 [c1] = xs[1]? := f1
    have f2 : DataW.trod enc Tryz.prog w base spare held n 9 (([c0, c1, c2, c3, c4].drop 2).take (Tryz.prog.cellsOf 9)) = xs[2]? := hf 2 _ rfl
    rw [k2] at f2
    have f2 : DataW.trod enc Tryz.prog w base spare held n 9 [c2] = xs[2]? := f2
    have f3 : DataW.trod enc Tryz.prog w base spare held n 23 (([c0, c1, c2, c3, c4].drop 3).take (Tryz.prog.cellsOf 23)) = xs[3]? := hf 3 _ rfl
    rw [k3] at f3
    have f3 : DataW.trod enc Tryz.prog w base spare held n 23 [c3] = xs[3]? := f3
    have f4 : DataW.trod enc Tryz.prog w base spare held n 24 (([c0, c1, c2, c3, c4].drop 4).take (Tryz.prog.cellsOf 24)) = xs[4]? := hf 4 _ rfl
    rw [k4] at f4
    have f4 : DataW.trod enc Tryz.prog w base spare held n 24 [c4] = xs[4]? := f4
    have hlen : xs.length = 5 := hlen
    match xs, hlen with
    | [y0, y1, y2, y3, y4], _ =>
    simp only [List.getElem?_cons_zero, List.getElem?_cons_succ] at f0 f1 f2 f3 f4
    obtain ⟨a0, h0, _, _⟩ := DataW.trod_int Tryz.underlying22 f0
    obtain ⟨a1, h1, _⟩ := DataW.trod_bool Tryz.underlying4 f1
    obtain ⟨a2, h2, _, w2⟩ := DataW.trod_string Tryz.underlying9 f2
    obtain ⟨T4, ks, h4, l4, b4⟩ := open_texts Tryz.underlying24 Tryz.underlying9 k2 f4
    obtain ⟨p, m, c, T3, m3, f, D, Pl, rfl, h3, hel, hd⟩ := open_rows (k := 5) Tryz.underlying23 (by kernel_rfl) (by omega) f3
    have l3 := open_len Tryz.underlying23 f3
    cases h0; cases h1; cases h2
    have hd3 : SizeOf.sizeOf y3.1 < SizeOf.sizeOf d := by
      have : d = .agg [y0.1, y1.1, y2.1, y3.1, y4.1] := by cases hx; rfl
      rw [this]
      simp
      omega
    have each : ∀ i, i < m → ∃ v : JV, VRep w v (f i) := fun i hi => by
      refine open_val N m3 (f i) (D i) (Pl i) ?_ (hel i hi).2
      rcases hd with ⟨e, _⟩ | ⟨rest, e⟩
      · omega
      · have hmem : D i ∈ (List.range m).map D := List.mem_map.2 ⟨i, List.mem_range.2 hi, rfl⟩
        have h1 := List.sizeOf_lt_of_mem hmem
        rw [e] at hd3
        simp at hd3
        omega
    obtain ⟨X, hX⟩ := choose_lt each
    have hreps : VReps w ((List.range m).map X) ((List.range m).map f).flatten := vreps_map _ fun i hi => hX i (List.mem_range.1 hi)
    have ea : (Value.string a2) = str a2.data.toList := by simp [ofL]
    rw [ea]
    refine ⟨.mk a0 a1 a2.data.toList ((List.range m).map X) ks, VRep.mk (v := .mk a0 a1 a2.data.toList ((List.range m).map X) ks) (by simpa [JV.xs] using h3) hreps h4 ⟨by simpa [JV.xs] using l3, l4, ?_, b4⟩⟩
    unfold maxLen at w2
    simpa [JV.t] using w2
theorem open_v {v : Value} {d : DataW H} {ps : List MemPlace} {r : Reach} {b0 : Nat} (hval : Value.okWide Tryz.prog w r b0 VT v) (h : DataW.Trod enc Tryz.prog w base spare held VT v d ps) : ∃ (j : JV) (cs : List Value), v = .agg cs.toArray ∧ VRep w j cs := by
  obtain ⟨fuel, hf⟩ := h
  obtain ⟨j, hj⟩ := open_val _ fuel _ d ps (Nat.lt_succ_self _) hf
  have hl := hj.len
  refine ⟨j, v.cells.toList, ?_, hj⟩
  cases v with
  | agg a => simp [Value.cells]
  | _ => simp [Value.cells] at hl
end
end Go.Proofs.YtcnjpcadejcenaaGreatDoor
namespace Go.Proofs.YtcnjpcadejcenaaGreatDoor
open Go.RowKit Go.Eng
set_option maxRecDepth 100000
theorem tab_reads {P : Program} {w : World} {name : String} {k : IntKind} {zs : List Int} {g : Nat} {t e : TypeId} {n : Nat} (hg : P.globalNamed name = some g) (hty : (P.globals[g]?).map (·.type) = some t) (ht : P.underlying t = some (.array n e)) (he : P.underlying e = some (.int k)) (hce : P.cellsOf e = 1) (hct : P.cellsOf t = n)
    (h : Lib.VarReads P w name (Lib.tabData k zs)) : Lib.TabIs P w name k zs := by
  obtain ⟨g', t', cs, fuel, p, hg', ht', hvar, hd⟩ := h
  obtain rfl := Option.some.inj (hg.symm.trans hg')
  obtain rfl := Option.some.inj (hty.symm.trans ht')
  unfold Lib.TabIs
  rw [hvar, ← Lib.cells_of_tab ht he hce hct hd]
def bruTab : List Int := [0, 1, 56, 2, 57, 49, 28, 3, 61, 58, 42, 50, 38, 29, 17, 4, 62, 47, 59, 36, 45, 43, 51, 22, 53, 39, 33, 30, 24, 18, 12, 5, 63, 55, 48, 27, 60, 41, 37, 16, 46, 35, 44, 21, 52, 32, 23, 11, 54, 26, 40, 15, 34, 20, 31, 10, 25, 14, 19, 9, 13, 8, 7, 6]
theorem tabs_of {w : World} (hL : laidMetH Tryz.prog Rows.reportPlacesRow.laid w) : Tabs w := by
  have h : laidMet Tryz.prog Rows.reportPlacesRow.laid w := by
    rw [Go.MakeChecks.laidMetH_plain _ _ _ (by kernel_rfl)] at hL
    exact hL
  have r : ∀ n d, (n, d) ∈ Rows.reportPlacesRow.laid → Lib.VarReads Tryz.prog w n d := fun n d hm => Lib.laidMet.reads h hm
  have r1 : Lib.VarReads Tryz.prog w "math/bits.deBruijn64tab" (Lib.tabData .u8 bruTab) := r _ _ (.tail _ (.head _))
  have r2 : Lib.VarReads Tryz.prog w "internal/strconv.uint64pow10" (Lib.tabData .u64 Lib.pow10Tab) := r _ _ (.tail _ (.tail _ (.head _)))
  have r3 : Lib.VarReads Tryz.prog w "unicode/utf8.acceptRanges" Lib.acceptData := r _ _ (.tail _ (.tail _ (.tail _ (.head _))))
  have r4 : Lib.VarReads Tryz.prog w "unicode/utf8.first" Lib.firstData := r _ _ (.tail _ (.tail _ (.tail _ (.tail _ (.tail _ (.tail _ (.head _)))))))
  refine ⟨?_, ?_, ?_⟩
  · exact Go.Proofs.utf8Tabs_of_readsT (Go.Proofs.U8Types.of196 Tryz.laysValid) ⟨by kernel_rfl, by kernel_rfl, by kernel_rfl, by kernel_rfl, by kernel_rfl, by kernel_rfl, by kernel_rfl⟩ r4 r3
  · have := tab_reads (g := 7) (t := 263) (e := U8) (n := 64) (by kernel_rfl) (by kernel_rfl) (by kernel_rfl) (by kernel_rfl) (by kernel_rfl) (by kernel_rfl) r1
    exact Lib.TabIs.cell this (by kernel_rfl) 15 (by decide)
  · exact tab_reads (g := 3) (t := 224) (e := U64) (n := 20) (by kernel_rfl) (by kernel_rfl) (by kernel_rfl) (by kernel_rfl) (by kernel_rfl) (by kernel_rfl) r2
section
variable {H : Type} {enc : TypeId × Value → H} {w : World} {base : Nat} {spare : Nat → Bool} {held : Bool}
theorem open_s {v : Value} {d : DataW H} {ps : List MemPlace} {r : Reach} {b0 : Nat} (hval : Value.okWide Tryz.prog w r b0 9 v) (h : DataW.Trod enc Tryz.prog w base spare held 9 v d ps) : ∃ s : Str, v = str s ∧ s.length ≤ 9223372036854775807 := by
  obtain ⟨s, rfl, _, _, hs⟩ := Go.ChangeMaps.open_string Tryz.underlying9 hval h
  exact ⟨s.data.toList, by simp [ofL], by unfold maxLen at hs; simpa using hs⟩
theorem open_i {v : Value} {d : DataW H} {ps : List MemPlace} {r : Reach} {b0 : Nat} (hval : Value.okWide Tryz.prog w r b0 3 v) (h : DataW.Trod enc Tryz.prog w base spare held 3 v d ps) : ∃ n : Int, v = i64 n ∧ -9223372036854775808 ≤ n ∧ n ≤ 9223372036854775807 := by
  obtain ⟨n, rfl, _, _, hw⟩ := Go.ChangeShapes.open_int Tryz.underlying3 hval h
  refine ⟨n, rfl, ?_⟩
  have e1 : IntKind.i64.min = -9223372036854775808 := by decide
  have e2 : IntKind.i64.max = 9223372036854775807 := by decide
  simp only [Lit.wf, Bool.and_eq_true, decide_eq_true_eq, e1, e2] at hw
  exact hw
end
end Go.Proofs.YtcnjpcadejcenaaGreatDoor
namespace Go.Proofs.YtcnjpcadejcenaaGreatDoor
open Go.RowKit Go.Eng
set_option maxRecDepth 100000
theorem trod_iface {P : Program} {w : World} {fuel : Nat} {t : TypeId} {cs : List Value} {s : String} {x : DataW Unit} {p : List MemPlace} {m : Array TypeId} (ht : ∃ m, P.underlying t = some (.interface m)) (h : DataW.trod (fun _ => ()) P w 0 (fun _ => true) false fuel t cs = some (.iface s x, p)) : ∃ u v, cs = [.iface u v] := by
  obtain ⟨m, ht⟩ := ht
  cases fuel with
  | zero => cases h
  | succ fuel =>
    unfold DataW.trod at h
    rw [ht] at h
    match cs, h with
    | [], h => cases h
    | [v], h =>
      cases v with
      | iface u v => exact ⟨u, v, rfl⟩
      | _ => cases h
    | a :: b :: r, h => simp at h
theorem tabe_of {w : World} {x : DataW Unit} {s : String} (h : Lib.VarReads Tryz.prog w "strconv.ErrSyntax" (.iface s x)) : TabE w := by
  obtain ⟨g', t', cs, fuel, p, hg', ht', hvar, hd⟩ := h
  have hg : Tryz.prog.globalNamed "strconv.ErrSyntax" = some 4 := by kernel_rfl
  have hty : (Tryz.prog.globals[4]?).map (·.type) = some 111 := by kernel_rfl
  obtain rfl := Option.some.inj (hg.symm.trans hg')
  obtain rfl := Option.some.inj (hty.symm.trans ht')
  obtain ⟨u, v, hcs⟩ := trod_iface (m := #[]) ⟨_, Tryz.underlying111⟩ hd
  have := World.var?_cell hg hvar 0
  refine ⟨u, v, ?_⟩
  rw [this]
  have e : cs = #[.iface u v] := by
    apply Array.ext'
    rw [hcs]
  rw [e]; rfl
theorem tabsj_of {w : World} (hL : laidMetH Tryz.prog Rows.jsoncBackRow.laid w) : TabJ w := by
  have h : laidMet Tryz.prog Rows.jsoncBackRow.laid w := by
    rw [Go.MakeChecks.laidMetH_plain _ _ _ (by kernel_rfl)] at hL
    exact hL
  have r : ∀ n d, (n, d) ∈ Rows.jsoncBackRow.laid → Lib.VarReads Tryz.prog w n d := fun n d hm => Lib.laidMet.reads h hm
  have hT := tabs_of (w := w) hL
  have r5 : Lib.VarReads Tryz.prog w "strconv.ErrSyntax" Rows.laid_strconv_ErrSyntax := r _ _ (.tail _ (.tail _ (.tail _ (.tail _ (.tail _ (.head _))))))
  exact ⟨hT.utf, hT.bru, tabe_of r5⟩
section
variable {H : Type} {enc : TypeId × Value → H} {w : World} {base : Nat} {spare : Nat → Bool} {held : Bool}
theorem open_ints {v : Value} {d : DataW H} {ps : List MemPlace} {r : Reach} {b0 : Nat} (hval : Value.okWide Tryz.prog w r b0 46 v) (h : DataW.Trod enc Tryz.prog w base spare held 46 v d ps) : ∃ (T : TypeId) (l : List Int), SlAt w T v l.length (l.map i64) ∧ l.length ≤ 9223372036854775807 := by
  obtain ⟨fuel, h⟩ := h
  obtain ⟨a, len, cap, rfl⟩ := Go.WideShapes.okWide_slice Tryz.underlying46 hval
  have hone : (Value.slice a len cap).cells.toList = [Value.slice a len cap] := rfl
  rw [hone] at h
  obtain ⟨p, n, c, T, m, f, D, Pl, he, hs, hf, hd⟩ := open_rows Tryz.underlying46 (k := 1) (by kernel_rfl) (by omega) h
  cases he
  have hn := open_len Tryz.underlying46 h
  have hex : ∀ i, i < len → ∃ b : Int, f i = [i64 b] := by
    intro i hi
    obtain ⟨a, hx, _⟩ := DataW.trod_int Tryz.underlying3 (hf i hi).2
    exact ⟨a, hx⟩
  obtain ⟨g, hg⟩ := Deep.choose_lt hex
  have hfl : ((List.range len).map f).flatten = ((List.range len).map g).map i64 := by
    have : (List.range len).map f = (List.range len).map fun i => [i64 (g i)] := List.map_congr_left fun i hi => hg i (List.mem_range.1 hi)
    rw [this]
    simp only [List.map_map]
    generalize List.range len = L
    induction L with
    | nil => rfl
    | cons a L ih => simp only [List.map_cons, List.flatten_cons, ih, Function.comp_apply]; rfl
  rw [hfl] at hs
  exact ⟨T, (List.range len).map g, by simpa using hs, by simpa using hn⟩
end
end Go.Proofs.YtcnjpcadejcenaaGreatDoor
namespace Go.Proofs.YtcnjpcadejcenaaGreatDoor
open Go Go.Eng Go.RowKit
set_option maxRecDepth 100000
theorem u8s_set {l : Str} {i : Nat} {c : UInt8} : (u8s l).set i (.int .u8 (c.toNat : Nat)) = u8s (l.set i c) := by
  unfold u8s
  rw [List.map_set]
theorem rep_u8s (n : Nat) (c : UInt8) : u8s (List.replicate n c) = List.replicate n (.int .u8 (c.toNat : Nat)) := by
  unfold u8s
  rw [List.map_replicate]
theorem set_rep {n i : Nat} {a b : UInt8} (h : i < n) : (List.replicate n a).set i b = List.replicate i a ++ [b] ++ List.replicate (n - 1 - i) a := by
  rw [List.set_eq_take_append_cons_drop, if_pos (by simpa using h), List.take_replicate, List.drop_replicate]
  rw [show min i n = i by omega, show n - (i + 1) = n - 1 - i by omega]
  simp
theorem lim_one (n : Nat) (r : RR JV) (h : r = decM En (List.replicate n 91 ++ List.replicate n 93)) (hn : n < 40) :
    (((decide ((n : Int) = 0) && !isM r 30 0) || ((decide (0 < (n : Int)) && decide ((n : Int) ≤ 24)) && (true ^^ okR r))) || (decide (24 < (n : Int)) && !isM r 7 24)) = false := by
  rcases Nat.eq_zero_or_pos n with rfl | h0
  · have e : r = .bad 30 0 := by rw [h]; exact nest_none
    rw [e]
    rfl
  rcases Nat.lt_or_ge 24 n with h1 | h1
  · have e : r = .bad 7 24 := by rw [h]; exact nest_bad h1 (by omega)
    rw [e, decide_eq_false (by omega : ¬ (n : Int) = 0), decide_eq_false (by omega : ¬ (n : Int) ≤ 24)]
    simp [isM]
  · obtain ⟨v, j, c, e⟩ := nest_ok (E := En) h0 h1
    have e : r = .ok v j c := by rw [h]; exact e
    rw [e, decide_eq_false (by omega : ¬ (n : Int) = 0), decide_eq_false (by omega : ¬ 24 < (n : Int))]
    simp [okR]
section
variable [HX]
theorem limits_true {a : Int} {w : World} {K : Value → World → Prop} (hT : TabJ w) (ha : -9223372036854775808 ≤ a ∧ a ≤ 9223372036854775807) (hK : ∀ w', Ext w w' → K (.bool true) w') : callF Tryz.prog 6 [i64 a] w K := by
  refine W6_ok ?_
  unfold W6
  refine awake_j hT fun w1 hx1 => ?_
  rw [un_not, Bool.not_true, condW_false, cvt_int]
  -- the number, below 40
  obtain ⟨u, hu⟩ : ∃ u : Nat, IntKind.u64.wrap a = (u : Int) := ⟨(IntKind.u64.wrap a).toNat, by rw [IntKind.wrap_u64]; omega⟩
  have hul : u < 18446744073709551616 := by have := hu; rw [IntKind.wrap_u64] at this; omega
  rw [hu, bin_rem]
  refine ⟨by decide, ?_⟩
  obtain ⟨n, hn, hn40⟩ : ∃ n : Nat, IntKind.i64.wrap (((u : Nat) : Int).tmod 40) = (n : Int) ∧ n < 40 := by
    refine ⟨u % 40, ?_, by omega⟩
    have e : ((u : Nat) : Int).tmod 40 = ((u % 40 : Nat) : Int) := by rw [Int.tmod_eq_emod_of_nonneg (by omega)]; omega
    rw [e, wrap_id (by omega) (by omega)]
  rw [cvt_int, hn]
  have emax : ∀ k : Nat, k ≤ 100000 → ((k : Nat) : Int) ≤ IntKind.i64.max := fun k hk => by
    have : IntKind.i64.max = 9223372036854775807 := by decide
    omega
  refine LoopW.go (fun st w' => ∃ i : Nat, i ≤ n ∧ st = [str (List.replicate i 91), str (List.replicate i 93), i64 (i : Nat)] ∧ w' = w1) (fun st _ => match st with | [_, _, .int _ i] => n - i.toNat | _ => 0) ⟨0, Nat.zero_le _, rfl, rfl⟩ ?_
  rintro st g w2 ⟨i, hi, rfl, rfl⟩
  simp only [List.getD_cons_zero, List.getD_cons_succ]
  rw [bin_lss, condW_dec]
  refine ⟨fun hlt => ?_, fun hge => ?_⟩
  · rw [bin_sadd]
    refine ⟨emax _ (by simp; omega), ?_⟩
    rw [bin_sadd]
    refine ⟨emax _ (by simp; omega), ?_⟩
    rw [bin_add, up1 (by omega)]
    refine ⟨⟨i + 1, by omega, ?_, trivial⟩, by simp only [Int.toNat_natCast]; omega⟩
    rw [List.replicate_succ', List.replicate_succ']
  obtain rfl : i = n := by omega
  rw [bin_sadd]
  refine ⟨emax _ (by simp; omega), ?_⟩
  have hT2 := hT.ext hx1
  refine decode_r hT2 (by simp; omega) fun cs d w4 hx4 hv4 hd4 => ?_
  simp only [ext_tuple]
  refine ⟨_, rfl, _, rfl, ?_⟩
  refine keep_val hv4 fun b w6 sv kv hB6 hx6 => ?_
  have hd6 := hd4.ext hx6
  have hlim := lim_one i _ rfl hn40
  generalize decM En (List.replicate i 91 ++ List.replicate i 93) = r at *
  have hx26 := hx4.trans hx6
  rw [bin_eql]
  refine GdW.act (!isM r 30 0) (fun w' => w' = w6) (fun _ => rfl) ?_ ?_
  · intro _ J hJ
    refine is_p hd6 ?_
    rw [un_not]
    exact hJ _ rfl
  rintro g7 w7 rfl
  simp only [List.getD_cons_zero, isB_t]
  rw [pick_gd_and]
  simp only [isB_t, isB_f, isB_gd_t, bin_gtr, bin_leq, hd6.eq, GdW_pure, GdW_nest_and, List.getD_cons_zero, pick_gd_or]
  intros
  refine GdW.act (!isM r 7 24) (fun w' => w' = w7) (fun _ => rfl) ?_ ?_
  · intro _ J hJ
    refine is_p hd6 ?_
    rw [un_not]
    exact hJ _ rfl
  rintro g8 w8 rfl
  simp only [List.getD_cons_zero, isB_t, isB_f, isB_gd_t, GdW_nest_and, pick_gd_or]
  intros
  rw [hlim, condW_false]
  -- 2,000 values
  refine make_b (n := 0) (m := 5000) (by omega) (by omega) fun am w9 ham hbm hx9 => ?_
  have hO9 : Own w9 w8.heap.size U8 1 (.slice (some ⟨am, 0, none⟩) 0 5000) 0 (u8s []) := ⟨rfl, .inr ⟨am, 5000, _, rfl, by omega, hbm, by omega, by simp [maxLen], by simp, by simp [u8s]⟩⟩
  have hx29 := hx26.trans hx9
  refine LoopW.go (fun st w' => ∃ (k : Nat) (v : Value), k ≤ 1999 ∧ st = [v, i64 (k : Nat)] ∧ Ext w8 w' ∧ Own w' w8.heap.size U8 1 v (manyS k).length (u8s (manyS k))) (fun st _ => match st with | [_, .int _ i] => 1999 - i.toNat | _ => 0)
    ⟨0, _, by omega, rfl, hx9, hO9⟩ ?_
  rintro st g9 w10 ⟨k, v, hk, rfl, hx10, hO10⟩
  simp only [List.getD_cons_zero, List.getD_cons_succ]
  have hml := many_len k
  rw [bin_lss, condW_dec]
  refine ⟨fun hlt => ?_, fun hge => ?_⟩
  · have hr : ∀ {w : World} {K : Value → World → Prop}, (∀ t w', SlAt w' U8 t 2 (u8s [49, 44]) → Ext w w' → K t w') → bslW U8 2 [(.int .u8 0), (.int .u8 0)] [(0, 1, .int .u8 49), (1, 1, .int .u8 44)] w K := fun {w K} hK => by
      rw [bslW]
      simp only [put_int, put_nil, List.length_cons, List.length_nil, List.set_cons_zero, List.set_cons_succ]
      refine ⟨by omega, by omega, ?_⟩
      refine hK _ _ ⟨_, _, rfl, Nat.le_refl _, fun e => (by cases e), fun _ => ⟨_, _, _, _, rfl, heap_anew _ _ _ rfl, fun i _ => by rw [Nat.zero_add]; simp [u8s]⟩⟩ (Chg.alloc (Chg.refl _ _) _)
    refine hr fun t w11 ht hx11 => ?_
    refine append_own3 elem_u8 (hO10.ext hx11) ht (m := 2) rfl (u8s_one _) (by omega) (by omega) (by have := hx10.size; have := hx11.size; omega) fun v' w12 hO12 hc12 _ => ?_
    rw [bin_add, up1 (by omega)]
    refine ⟨⟨k + 1, v', by omega, rfl, (hx10.trans hx11).then hc12 fun q hq e => by have := (own_in hO10 e).1; omega, ?_⟩, by simp only [Int.toNat_natCast]; omega⟩
    rw [many_snoc, u8s_app, List.length_append]
    exact hO12
  obtain rfl : k = 1999 := by omega
  have hsl := hO10.sl
  rw [hml] at hsl
  obtain ⟨p, cap, rfl, hcap, hpn, hcells⟩ := hsl
  have hmsplit : manyS 1999 = manyS 1998 ++ [49] ++ [44] := by rw [many_snoc 1998]; simp
  rw [lenl_sl, bin_sub, wrap_id (by omega) (by omega), sll_sl, bd_none, bd_some]
  refine ⟨by omega, by omega, ?_⟩
  rw [bd_none]
  -- the row without its last byte
  have hpre : SlAt w10 U8 (.slice (if cap = 0 then p else p.map (·.add (0 * 1))) (((2 * 1999 : Nat) : Int) - 1).toNat (cap - 0)) (manyS 1998 ++ [49]).length (u8s (manyS 1998 ++ [49])) := by
    have hne : u8s (manyS 1999) ≠ [] := fun e => by
      have := congrArg List.length e
      rw [u8s_length, hml] at this
      simp at this
    obtain ⟨b, off, c, fr, rfl, hb, hc⟩ := hcells hne
    have el : (manyS 1998 ++ [49]).length = 3997 := by rw [List.length_append, many_len]; rfl
    refine ⟨some ⟨b, off, none⟩, cap, ?_, by rw [el]; omega, fun e => (by cases e), fun _ => ⟨b, off, c, fr, rfl, hb, fun i hi => ?_⟩⟩
    · rw [el, if_neg (by omega)]
      simp [add_mk]
    · rw [u8s_length, el] at hi
      rw [hc i (by rw [u8s_length, hml]; omega), hmsplit, u8s_app, List.getElem?_append_left (by rw [u8s_length, el]; exact hi)]
  have hall : SlAt w10 U8 (.slice p (2 * 1999) cap) (manyS 1999).length (u8s (manyS 1999)) := by rw [hml]; exact ⟨p, cap, rfl, hcap, hpn, hcells⟩
  refine (conv_bytes (e := U8) (by kernel_rfl) (by kernel_rfl) (by kernel_rfl) hpre).2 ?_
  have el : (manyS 1998 ++ [49]).length = 3997 := by rw [List.length_append, many_len]; rfl
  rw [bin_sadd]
  refine ⟨emax _ (by rw [el]; decide), ?_⟩
  rw [bin_sadd]
  refine ⟨emax _ (by rw [List.length_append, el]; decide), ?_⟩
  have hT10 := hT2.ext (hx26.trans hx10)
  refine decode_r hT10 (by rw [List.length_append, List.length_append, el]; decide) fun cs1 d1 w11 hx11 hv11 hd11 => ?_
  obtain ⟨vm, jm, cm, hm1⟩ := many_ok (E := En) (n := 1998) (by omega)
  have hm1 : decM En ([91] ++ (manyS 1998 ++ [49]) ++ [93]) = .ok vm jm cm := hm1
  rw [hm1] at hv11 hd11
  simp only [ext_tuple]
  refine ⟨_, rfl, _, rfl, ?_⟩
  refine keep_val hv11 fun b1 w12 sv1 kv1 hB12 hx12 => ?_
  have hx1012 := hx11.trans hx12
  refine (conv_bytes (e := U8) (by kernel_rfl) (by kernel_rfl) (by kernel_rfl) (hall.ext hx1012)).2 ?_
  rw [bin_sadd]
  refine ⟨emax _ (by rw [hml]; decide), ?_⟩
  rw [bin_sadd]
  refine ⟨emax _ (by rw [List.length_append, hml]; decide), ?_⟩
  refine decode_r (hT10.ext hx1012) (by rw [List.length_append, List.length_append, hml]; decide) fun cs2 d2 w13 hx13 hv13 hd13 => ?_
  have hm2 : decM En ([91] ++ manyS 1999 ++ [49, 93]) = .bad 3 3999 := many_bad
  rw [hm2] at hv13 hd13
  simp only [ext_tuple]
  refine ⟨_, rfl, _, rfl, ?_⟩
  refine keep_val hv13 fun b2 w14 sv2 kv2 hB14 hx14 => ?_
  have hx1014 := hx1012.trans (hx13.trans hx14)
  -- 65,536 bytes
  refine make_b (n := 65536) (m := 65536) (Nat.le_refl _) (by omega) fun aw w15 haw hbw hx15 => ?_
  rw [lenl_sl]
  refine LoopW.go (fun st w' => ∃ k : Nat, k ≤ 65536 ∧ st = [i64 (k : Nat)] ∧ Ext w14 w' ∧ w'.heap[aw]? = some (.cells (u8s (List.replicate k 32 ++ List.replicate (65536 - k) 0)).toArray U8 (0, 0))) (fun st _ => match st with | [.int _ i] => 65536 - i.toNat | _ => 0)
    ⟨0, by omega, rfl, hx15, by rw [hbw]; simp only [List.replicate_zero, List.nil_append, Nat.sub_zero]; rw [rep_u8s]; rfl⟩ ?_
  rintro st g16 w16 ⟨k2, hk2, rfl, hx16, hb16⟩
  simp only [List.getD_cons_zero]
  have hlenk : ∀ k : Nat, k ≤ 65536 → (u8s (List.replicate k 32 ++ List.replicate (65536 - k) 0)).length = 65536 := fun k hk => by rw [u8s_length]; simp; omega
  rw [bin_lss, condW_dec]
  refine ⟨fun hlt => ?_, fun hge => ?_⟩
  · rw [ixa_slice]
    refine ⟨by omega, by omega, ?_⟩
    simp only [Int.toNat_natCast, Nat.mul_one, add_mk, Nat.zero_add]
    refine st_at hb16 rfl (by rw [List.size_toArray, hlenk k2 hk2]; omega) fun w17 hz17 hb17 hc17 => ?_
    rw [bin_add, up1 (by omega)]
    refine ⟨⟨k2 + 1, by omega, rfl, hx16.new hc17 (by omega), ?_⟩, by simp only [Int.toNat_natCast]; omega⟩
    rw [hb17, List.setIfInBounds_toArray]
    have e : (u8s (List.replicate k2 32 ++ List.replicate (65536 - k2) 0)).set k2 (.int .u8 32) = u8s (List.replicate (k2 + 1) 32 ++ List.replicate (65536 - (k2 + 1)) 0) := by
      have := u8s_set (l := List.replicate k2 32 ++ List.replicate (65536 - k2) 0) (i := k2) (c := 32)
      rw [show ((((32 : UInt8).toNat : Nat)) : Int) = 32 from rfl] at this
      rw [this]
      congr 1
      rw [List.set_append_right _ _ (by simp), List.length_replicate, Nat.sub_self, show 65536 - k2 = (65536 - (k2 + 1)) + 1 by omega, List.replicate_succ (n := 65536 - (k2 + 1)), List.set_cons_zero, List.replicate_succ' (n := k2)]
      simp
    rw [e]
  obtain rfl : k2 = 65536 := by omega
  have hb16' : w16.heap[aw]? = some (.cells (u8s (List.replicate 65536 32)).toArray U8 (0, 0)) := by
    rw [hb16, Nat.sub_self, List.replicate_zero, List.append_nil]
  rw [ixa_slice]
  refine ⟨by omega, by omega, ?_⟩
  simp only [Int.toNat_natCast, Nat.mul_one, add_mk, Nat.zero_add]
  refine st_at hb16' rfl (by rw [List.size_toArray, u8s_length, List.length_replicate]; omega) fun w17 hz17 hb17 hc17 => ?_
  have hw17 : w17.heap[aw]? = some (.cells (u8s (List.replicate i 32 ++ [55] ++ List.replicate (65535 - i) 32)).toArray U8 (0, 0)) := by
    rw [hb17, List.setIfInBounds_toArray]
    have e : (u8s (List.replicate 65536 32)).set i (.int .u8 55) = u8s (List.replicate i 32 ++ [55] ++ List.replicate (65535 - i) 32) := by
      have := u8s_set (l := List.replicate 65536 32) (i := i) (c := 55)
      rw [show ((((55 : UInt8).toNat : Nat)) : Int) = 55 from rfl] at this
      rw [this, set_rep (by omega)]
    rw [e]
  have hx1417 : Ext w14 w17 := hx16.new hc17 (by omega)
  have hwl : (List.replicate i 32 ++ [55] ++ List.replicate (65535 - i) 32 : Str).length = 65536 := by simp; omega
  have hwide : ∀ {w' : World}, Ext w17 w' → SlAt w' U8 (.slice (some ⟨aw, 0, none⟩) 65536 65536) (List.replicate i 32 ++ [55] ++ List.replicate (65535 - i) 32 : Str).length (u8s (List.replicate i 32 ++ [55] ++ List.replicate (65535 - i) 32)) := fun hx => by
    rw [hwl]
    exact ⟨_, _, rfl, Nat.le_refl _, fun e => (by cases e), fun _ => ⟨aw, 0, _, _, rfl, hx.at hw17 id, fun j hj => by rw [Nat.zero_add]; simp⟩⟩
  refine (conv_bytes (e := U8) (by kernel_rfl) (by kernel_rfl) (by kernel_rfl) (hwide (Chg.refl _ _))).2 ?_
  obtain ⟨vw, jw, cw, hw1⟩ := wide_ok (E := En) (n := i) (by omega)
  have hw2 : decM En (List.replicate i 32 ++ [55] ++ List.replicate (65535 - i) 32 ++ [32]) = .bad 3 0 := wide_bad (by rw [List.length_append, hwl]; decide)
  generalize hW : (List.replicate i 32 ++ [55] ++ List.replicate (65535 - i) 32 : Str) = W at *
  have hT17 := hT10.ext (hx1014.trans hx1417)
  refine decode_r hT17 (by omega) fun cs3 d3 w18 hx18 hv18 hd18 => ?_
  rw [hw1] at hv18 hd18
  simp only [ext_tuple]
  refine ⟨_, rfl, _, rfl, ?_⟩
  refine keep_val hv18 fun b3 w19 sv3 kv3 hB19 hx19 => ?_
  have hx1719 := hx18.trans hx19
  refine (conv_bytes (e := U8) (by kernel_rfl) (by kernel_rfl) (by kernel_rfl) (hwide hx1719)).2 ?_
  rw [bin_sadd]
  refine ⟨emax _ (by rw [hwl]; decide), ?_⟩
  refine decode_r (hT17.ext hx1719) (by rw [List.length_append, hwl]; decide) fun cs4 d4 w20 hx20 hv20 hd20 => ?_
  rw [hw2] at hv20 hd20
  simp only [ext_tuple]
  refine ⟨_, rfl, _, rfl, ?_⟩
  refine keep_val hv20 fun b4 w21 sv4 kv4 hB21 hx21 => ?_
  have hx1721 := hx1719.trans (hx20.trans hx21)
  have hd11' := hd11.ext (hx12.trans ((hx13.trans hx14).trans (hx1417.trans hx1721)))
  have hd13' := hd13.ext (hx14.trans (hx1417.trans hx1721))
  have hd18' := hd18.ext (hx19.trans (hx20.trans hx21))
  have hd20' := hd20.ext hx21
  have hfin : Ext w w21 := hx1.trans (hx26.trans (hx10.trans (hx1014.trans (hx1417.trans hx1721))))
  rw [hd11'.eq]
  simp only [okR, Bool.false_xor, isB_t]
  refine GdW.act true (fun w' => w' = w21) (fun e => by cases e) ?_ ?_
  · intro _ J hJ
    rw [lenl_sl, bin_add, wrap_id (by omega) (by omega)]
    refine is_p hd13' ?_
    exact hJ _ rfl
  rintro g22 w22 rfl
  simp only [cond_true, List.getD_cons_zero, pick_t, isB_t, hd18'.eq, okR, Bool.false_xor, GdW_pure]
  intro _
  refine GdW.act true (fun w' => w' = w22) (fun e => by cases e) ?_ ?_
  · intro _ J hJ
    refine is_p hd20' ?_
    exact hJ _ rfl
  rintro g23 w23 rfl
  simp only [cond_true, List.getD_cons_zero, pick_t]
  exact hK _ hfin
end
end Go.Proofs.YtcnjpcadejcenaaGreatDoor
