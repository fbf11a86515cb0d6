/- One plain sentence: weakest preconditions, contracts and plain laws that the claim rests on, text behind text. Conditions: those that each states. -/
import Derived.Test.YtdkikjcpgihjlaaGreatDoorNG1
import Derived.Lib.DecodeN
import Derived.Lib.RuneBytes
import Derived.Test.YtdkikjcpgihjlaaGreatDoorNG3
import Derived.Laws.Externs
import Derived.Test.YtdkikjcpgihjlaaGreatDoorNG2
import Derived.Lib.Split
import Derived.Lib.Join
import Derived.Lib.ItoaNum
set_option linter.all false
set_option linter.unusedSimpArgs false
set_option linter.unusedVariables false
set_option linter.unusedSectionVars false
namespace Go.Proofs.YtdkikjcpgihjlaaGreatDoor
open Go Go.Eng
set_option maxRecDepth 100000
variable [HX]
def plan3 : Plan := { js := [(34005, ⟨[50], [], 48⟩), (16, ⟨[5, 21], [5, 6], 21⟩), (4004, ⟨[16], [], 14⟩)], ds := [] }
def W3 (v0 v1 : Value) (w : World) (K : Value → World → Prop) : Prop :=
  callF Tryz.prog 9 [] w fun t11 w1 =>
  unW .not t11 fun t12 =>
  GdW (isB t12 false) [undef] w1 (fun J2 =>
    callF Tryz.prog 10 [v1] w1 fun t15 w3 =>
    unW .not t15 fun t16 =>
    J2 [t16] w3)
  fun s2 _ w4 =>
  pickW t12 (.bool true) (s2.getD 0 undef) fun t17 =>
  condW t17 (
    callF Tryz.prog 9 [] w4 fun t18 w5 =>
    K t18 w5) (
    lenlW v1 fun t20 =>
    LoopW [(.slice none 0 0), (.int .i64 0)] w4 fun s6 _ w7 L6 =>
      binW .lss (s6.getD 1 undef) t20 fun t22 =>
      condW t22 (
        ixaW none 5 v1 (s6.getD 1 undef) fun t27 =>
        ldW true 5 t27 w7 fun t28 =>
        bslW 28 1 [(.int .i64 0), (.bool false), (.string (ofL [])), (.slice none 0 0), (.slice none 0 0)] [(0, 5, t28)] w7 fun t29 w8 =>
        semE Tryz.prog (Builtin.append_ #[22, 22] 22 #[(s6.getD 0 undef), t29]) w8 fun t30 w9 =>
        binW .add (s6.getD 1 undef) (.int .i64 1) fun t31 =>
        L6 [t30, t31] w9) (
        callF Tryz.prog 11 [v0, (s6.getD 0 undef)] w7 fun t35 w10 =>
        extW 0 t35 fun t36 =>
        extW 1 t35 fun t37 =>
        allocW 28 [(.int .i64 0), (.bool false), (.string (ofL [])), (.slice none 0 0), (.slice none 0 0)] w10 fun t7 w11 =>
        stW 5 t7 t36 w11 fun w12 =>
        callF Tryz.prog 12 [v0, v1] w12 fun t41 w13 =>
        extW 0 t41 fun t42 =>
        extW 1 t41 fun t43 =>
        allocW 28 [(.int .i64 0), (.bool false), (.string (ofL [])), (.slice none 0 0), (.slice none 0 0)] w13 fun t9 w14 =>
        stW 5 t9 t42 w14 fun w15 =>
        binW .eql t37 t43 fun t46 =>
        GdW (isB t46 true) [undef] w15 (fun J16 =>
          ldW true 5 t7 w15 fun t48 =>
          ldW true 5 t9 w15 fun t49 =>
          callF Tryz.prog 13 [t48, t49] w15 fun t50 w17 =>
          J16 [t50] w17)
        fun s16 _ w18 =>
        pickW t46 (s16.getD 0 undef) (.bool false) fun t51 =>
        K t51 w18))
theorem W3_eq (v0 v1 : Value) (w : World) (K : Value → World → Prop) : funW Tryz.prog Tryz.f3 plan3 [v0, v1] w K = W3 v0 v1 w K := by kernel_rfl
theorem W3_chk : chkFun Tryz.prog Tryz.f3 plan3 2 = true := by kernel_rfl
theorem W3_ok {v0 v1 : Value} {w : World} {K : Value → World → Prop} (h : W3 v0 v1 w K) : callF Tryz.prog 3 [v0, v1] w K :=
  tie Tryz.prog 3 Tryz.f3 plan3 [v0, v1] w K 2 (W3 v0 v1 w K) rfl mixed Tryz.func3 W3_chk (W3_eq v0 v1 w K) Tryz.call3 h
def plan9 : Plan := { js := [(9005, ⟨[43], [], 41⟩), (9009, ⟨[38], [], 37⟩), (9013, ⟨[34], [], 33⟩), (9019, ⟨[30], [], 27⟩)], ds := [] }
def W9 (w : World) (K : Value → World → Prop) : Prop :=
  callF Tryz.prog 15 [(.string (ofL [44]))] w fun t8 w1 =>
  callF Tryz.prog 15 [(.string (ofL [97, 44, 44, 98]))] w1 fun t9 w2 =>
  bslW 28 2 [(.int .i64 0), (.bool false), (.string (ofL [])), (.slice none 0 0), (.slice none 0 0), (.int .i64 0), (.bool false), (.string (ofL [])), (.slice none 0 0), (.slice none 0 0)] [(0, 5, t8), (5, 5, t9)] w2 fun t10 w3 =>
  callF Tryz.prog 11 [(.string (ofL [115, 112, 108, 105, 116])), t10] w3 fun t11 w4 =>
  extW 0 t11 fun t12 =>
  extW 1 t11 fun t13 =>
  allocW 28 [(.int .i64 0), (.bool false), (.string (ofL [])), (.slice none 0 0), (.slice none 0 0)] w4 fun t1 w5 =>
  stW 5 t1 t12 w5 fun w6 =>
  callF Tryz.prog 11 [(.string (ofL [110, 111, 112, 101])), (.slice none 0 0)] w6 fun t15 w7 =>
  extW 0 t15 fun t16 =>
  extW 1 t15 fun t17 =>
  allocW 28 [(.int .i64 0), (.bool false), (.string (ofL [])), (.slice none 0 0), (.slice none 0 0)] w7 fun t3 w8 =>
  stW 5 t3 t16 w8 fun w9 =>
  callF Tryz.prog 26 [] w9 fun t19 w10 =>
  bslW 28 1 [(.int .i64 0), (.bool false), (.string (ofL [])), (.slice none 0 0), (.slice none 0 0)] [(0, 5, t19)] w10 fun t20 w11 =>
  callF Tryz.prog 11 [(.string (ofL [117, 112, 112, 101, 114])), t20] w11 fun t21 w12 =>
  extW 0 t21 fun t22 =>
  extW 1 t21 fun t23 =>
  allocW 28 [(.int .i64 0), (.bool false), (.string (ofL [])), (.slice none 0 0), (.slice none 0 0)] w12 fun t5 w13 =>
  stW 5 t5 t22 w13 fun w14 =>
  binW .eql t13 (.int .i64 0) fun t25 =>
  GdW (isB t25 true) [undef] w14 (fun J15 =>
    fldW 3 t1 fun t27 =>
    ldW false 1 t27 w14 fun t28 =>
    lenlW t28 fun t29 =>
    binW .eql t29 (.int .i64 3) fun t30 =>
    J15 [t30] w14)
  fun s15 _ w16 =>
  pickW t25 (s15.getD 0 undef) (.bool false) fun t31 =>
  GdW (isB t31 true) [undef] w16 (fun J17 =>
    binW .eql t17 (.int .i64 70) fun t34 =>
    J17 [t34] w16)
  fun s17 _ w18 =>
  pickW t31 (s17.getD 0 undef) (.bool false) fun t35 =>
  GdW (isB t35 true) [undef] w18 (fun J19 =>
    binW .eql t23 (.int .i64 0) fun t38 =>
    J19 [t38] w18)
  fun s19 _ w20 =>
  pickW t35 (s19.getD 0 undef) (.bool false) fun t39 =>
  GdW (isB t39 true) [undef] w20 (fun J21 =>
    fldW 0 t5 fun t41 =>
    ldW false 1 t41 w20 fun t42 =>
    binW .eql t42 (.int .i64 1) fun t43 =>
    J21 [t43] w20)
  fun s21 _ w22 =>
  pickW t39 (s21.getD 0 undef) (.bool false) fun t44 =>
  K t44 w22
theorem W9_eq (w : World) (K : Value → World → Prop) : funW Tryz.prog Tryz.f9 plan9 [] w K = W9 w K := by kernel_rfl
theorem W9_chk : chkFun Tryz.prog Tryz.f9 plan9 0 = true := by kernel_rfl
theorem W9_ok {w : World} {K : Value → World → Prop} (h : W9 w K) : callF Tryz.prog 9 [] w K :=
  tie Tryz.prog 9 Tryz.f9 plan9 [] w K 0 (W9 w K) rfl mixed Tryz.func9 W9_chk (W9_eq w K) Tryz.call9 h
def plan10 : Plan := { js := [(24003, ⟨[27], [], 26⟩), (24007, ⟨[23], [], 22⟩), (8, ⟨[3, 8], [2, 3, 4, 5], 8⟩)], ds := [] }
def W10 (v0 : Value) (w : World) (K : Value → World → Prop) : Prop :=
  lenlW v0 fun t7 =>
  LoopW [(.int .i64 0), (.int .i64 0)] w fun s1 _ w2 L1 =>
    binW .lss (s1.getD 1 undef) t7 fun t9 =>
    condW t9 (
      ixaW none 5 v0 (s1.getD 1 undef) fun t13 =>
      ldW true 5 t13 w2 fun t14 =>
      callF Tryz.prog 27 [t14] w2 fun t15 w3 =>
      binW .add (s1.getD 0 undef) t15 fun t18 =>
      binW .gtr t15 (.int .i64 2000) fun t20 =>
      GdW (isB t20 false) [undef] w3 (fun J4 =>
        binW .gtr t18 (.int .i64 4000) fun t23 =>
        J4 [t23] w3)
      fun s4 _ w5 =>
      pickW t20 (.bool true) (s4.getD 0 undef) fun t24 =>
      GdW (isB t24 false) [undef] w5 (fun J6 =>
        binW .gtr (s1.getD 1 undef) (.int .i64 50) fun t27 =>
        J6 [t27] w5)
      fun s6 _ w7 =>
      pickW t24 (.bool true) (s6.getD 0 undef) fun t28 =>
      condW t28 (
        K (.bool false) w7) (
        binW .add (s1.getD 1 undef) (.int .i64 1) fun t29 =>
        L1 [t18, t29] w7)) (
      K (.bool true) w2)
theorem W10_eq (v0 : Value) (w : World) (K : Value → World → Prop) : funW Tryz.prog Tryz.f10 plan10 [v0] w K = W10 v0 w K := by kernel_rfl
theorem W10_chk : chkFun Tryz.prog Tryz.f10 plan10 1 = true := by kernel_rfl
theorem W10_ok {v0 : Value} {w : World} {K : Value → World → Prop} (h : W10 v0 w K) : callF Tryz.prog 10 [v0] w K :=
  tie Tryz.prog 10 Tryz.f10 plan10 [v0] w K 1 (W10 v0 w K) rfl mixed Tryz.func10 W10_chk (W10_eq v0 w K) Tryz.call10 h
def plan11 : Plan := { js := [], ds := [] }
def W11 (v0 v1 : Value) (w : World) (K : Value → World → Prop) : Prop :=
  allocW 28 [(.int .i64 0), (.bool false), (.string (ofL [])), (.slice none 0 0), (.slice none 0 0)] w fun t4 w1 =>
  callF Tryz.prog 28 [v1, (.func (.func 29) #[] #[])] w1 fun t11 w2 =>
  condW t11 (
    putW [(.int .i64 0), (.bool false), (.string (ofL [])), (.slice none 0 0), (.slice none 0 0)] [] fun c3 =>
    stW 5 t4 (.agg c3.toArray) w2 fun w4 =>
    ldW true 5 t4 w4 fun r5 =>
    K (.tuple #[r5, (.int .i64 1)]) w4) (
    callF Tryz.prog 31 [] w2 fun t14 w6 =>
    semQ Tryz.prog (Instr.lookup 59 t14 v0 true) w6 fun t16 =>
    extW 0 t16 fun t17 =>
    extW 1 t16 fun t18 =>
    allocW 57 [(.string (ofL [])), (.int .i64 0), .nilFunc] w6 fun t6 w7 =>
    stW 3 t6 t17 w7 fun w8 =>
    unW .not t18 fun t20 =>
    condW t20 (
      putW [(.int .i64 0), (.bool false), (.string (ofL [])), (.slice none 0 0), (.slice none 0 0)] [] fun c9 =>
      stW 5 t4 (.agg c9.toArray) w8 fun w10 =>
      ldW true 5 t4 w10 fun r11 =>
      K (.tuple #[r11, (.int .i64 70)]) w10) (
      callF Tryz.prog 28 [v1, (.func (.func 32) #[] #[])] w8 fun t23 w12 =>
      condW t23 (
        callF Tryz.prog 34 [] w12 fun t24 w13 =>
        stW 5 t4 t24 w13 fun w14 =>
        ldW true 5 t4 w14 fun r15 =>
        K (.tuple #[r15, (.int .i64 0)]) w14) (
        ldW true 3 t6 w12 fun t25 =>
        callF Tryz.prog 35 [t25, v1] w12 fun t27 w16 =>
        unW .not t27 fun t28 =>
        condW t28 (
          putW [(.int .i64 0), (.bool false), (.string (ofL [])), (.slice none 0 0), (.slice none 0 0)] [] fun c17 =>
          stW 5 t4 (.agg c17.toArray) w16 fun w18 =>
          ldW true 5 t4 w18 fun r19 =>
          K (.tuple #[r19, (.int .i64 71)]) w18) (
          fldW 2 t6 fun t31 =>
          ldW false 1 t31 w16 fun t32 =>
          callV Tryz.prog t32 [v1] w16 fun t34 w20 =>
          extW 0 t34 fun t35 =>
          extW 1 t34 fun t36 =>
          allocW 28 [(.int .i64 0), (.bool false), (.string (ofL [])), (.slice none 0 0), (.slice none 0 0)] w20 fun t8 w21 =>
          stW 5 t8 t35 w21 fun w22 =>
          unW .not t36 fun t38 =>
          condW t38 (
            putW [(.int .i64 0), (.bool false), (.string (ofL [])), (.slice none 0 0), (.slice none 0 0)] [] fun c23 =>
            stW 5 t4 (.agg c23.toArray) w22 fun w24 =>
            ldW true 5 t4 w24 fun r25 =>
            K (.tuple #[r25, (.int .i64 71)]) w24) (
            ldW true 5 t8 w22 fun t40 =>
            callF Tryz.prog 30 [t40] w22 fun t41 w26 =>
            unW .not t41 fun t42 =>
            condW t42 (
              putW [(.int .i64 0), (.bool false), (.string (ofL [])), (.slice none 0 0), (.slice none 0 0)] [] fun c27 =>
              stW 5 t4 (.agg c27.toArray) w26 fun w28 =>
              ldW true 5 t4 w28 fun r29 =>
              K (.tuple #[r29, (.int .i64 3)]) w28) (
              ldW true 5 t8 w26 fun t44 =>
              stW 5 t4 t44 w26 fun w30 =>
              ldW true 5 t4 w30 fun r31 =>
              K (.tuple #[r31, (.int .i64 0)]) w30))))))
theorem W11_eq (v0 v1 : Value) (w : World) (K : Value → World → Prop) : funW Tryz.prog Tryz.f11 plan11 [v0, v1] w K = W11 v0 v1 w K := by kernel_rfl
theorem W11_chk : chkFun Tryz.prog Tryz.f11 plan11 2 = true := by kernel_rfl
theorem W11_ok {v0 v1 : Value} {w : World} {K : Value → World → Prop} (h : W11 v0 v1 w K) : callF Tryz.prog 11 [v0, v1] w K :=
  tie Tryz.prog 11 Tryz.f11 plan11 [v0, v1] w K 2 (W11 v0 v1 w K) rfl mixed Tryz.func11 W11_chk (W11_eq v0 v1 w K) Tryz.call11 h
def plan12 : Plan := { js := [(85, ⟨[11], [11], 73⟩), (72, ⟨[72], [5, 10, 11], 72⟩), (62002, ⟨[67], [], 61⟩), (62005, ⟨[66], [], 64⟩), (62008, ⟨[63], [], 61⟩), (62015, ⟨[58], [], 54⟩), (39, ⟨[34], [5, 8], 34⟩), (6, ⟨[16], [5, 6], 16⟩)], ds := [] }
def W12 (v0 v1 : Value) (w : World) (K : Value → World → Prop) : Prop :=
  allocW 28 [(.int .i64 0), (.bool false), (.string (ofL [])), (.slice none 0 0), (.slice none 0 0)] w fun t4 w1 =>
  lenlW v1 fun t15 =>
  LoopW [(.int .i64 0)] w1 fun s2 _ w3 L2 =>
    binW .lss (s2.getD 0 undef) t15 fun t17 =>
    condW t17 (
      ixaW none 5 v1 (s2.getD 0 undef) fun t21 =>
      ldW true 5 t21 w3 fun t22 =>
      callF Tryz.prog 20 [t22] w3 fun t23 w4 =>
      unW .not t23 fun t24 =>
      condW t24 (
        putW [(.int .i64 0), (.bool false), (.string (ofL [])), (.slice none 0 0), (.slice none 0 0)] [] fun c5 =>
        stW 5 t4 (.agg c5.toArray) w4 fun w6 =>
        ldW true 5 t4 w6 fun r7 =>
        K (.tuple #[r7, (.int .i64 1)]) w6) (
        binW .add (s2.getD 0 undef) (.int .i64 1) fun t26 =>
        L2 [t26] w4)) (
      callF Tryz.prog 25 [v0] w3 fun t28 w8 =>
      binW .eql t28 (.string (ofL [])) fun t30 =>
      condW t30 (
        putW [(.int .i64 0), (.bool false), (.string (ofL [])), (.slice none 0 0), (.slice none 0 0)] [] fun c9 =>
        stW 5 t4 (.agg c9.toArray) w8 fun w10 =>
        ldW true 5 t4 w10 fun r11 =>
        K (.tuple #[r11, (.int .i64 70)]) w10) (
        lenlW v1 fun t33 =>
        LoopW [(.int .i64 0)] w8 fun s12 _ w13 L12 =>
          binW .lss (s12.getD 0 undef) t33 fun t35 =>
          condW t35 (
            ixaW none 5 v1 (s12.getD 0 undef) fun t39 =>
            ldW true 5 t39 w13 fun t40 =>
            callF Tryz.prog 14 [t40] w13 fun t41 w14 =>
            unW .not t41 fun t42 =>
            condW t42 (
              callF Tryz.prog 26 [] w14 fun t43 w15 =>
              stW 5 t4 t43 w15 fun w16 =>
              ldW true 5 t4 w16 fun r17 =>
              K (.tuple #[r17, (.int .i64 0)]) w16) (
              binW .add (s12.getD 0 undef) (.int .i64 1) fun t44 =>
              L12 [t44] w14)) (
            lensW t28 fun t47 =>
            binW .sub t47 (.int .i64 1) fun t48 =>
            ixsW t28 t48 fun t49 =>
            binW .eql t49 (.int .u8 46) fun t50 =>
            unW .not t50 fun t52 =>
            GdW (isB t52 true) [undef] w13 (fun J18 =>
              lenlW v1 fun t55 =>
              lensW t28 fun t57 =>
              binW .neq t55 t57 fun t58 =>
              J18 [t58] w13)
            fun s18 _ w19 =>
            pickW t52 (s18.getD 0 undef) (.bool false) fun t59 =>
            GdW (isB t59 false) [undef] w19 (fun J20 =>
              binW .eql t28 (.string (ofL [110, 46])) fun t62 =>
              J20 [t62] w19)
            fun s20 _ w21 =>
            GdW (isB (s20.getD 0 undef) true) [undef] w21 (fun J22 =>
              lenlW v1 fun t65 =>
              binW .eql t65 (.int .i64 0) fun t66 =>
              J22 [t66] w21)
            fun s22 _ w23 =>
            GdW (isB t59 false) [undef] w23 (fun J24 =>
              pickW (s20.getD 0 undef) (s22.getD 0 undef) (.bool false) fun t67 =>
              J24 [t67] w23)
            fun s24 _ w25 =>
            pickW t59 (.bool true) (s24.getD 0 undef) fun t68 =>
            condW t68 (
              putW [(.int .i64 0), (.bool false), (.string (ofL [])), (.slice none 0 0), (.slice none 0 0)] [] fun c26 =>
              stW 5 t4 (.agg c26.toArray) w25 fun w27 =>
              ldW true 5 t4 w27 fun r28 =>
              K (.tuple #[r28, (.int .i64 71)]) w27) (
              lenlW v1 fun t71 =>
              LoopW [(.int .i64 0)] w25 fun s29 _ w30 L29 =>
                binW .lss (s29.getD 0 undef) t71 fun t73 =>
                condW t73 (
                  ixsW t28 (.int .i64 0) fun t76 =>
                  JoinW (fun J31 =>
                    unW .not t50 fun t78 =>
                    condW t78 (
                      ixsW t28 (s29.getD 0 undef) fun t81 =>
                      J31 [t81] w30) (
                      J31 [t76] w30))
                  fun s31 _ w32 =>
                  ixaW none 5 v1 (s29.getD 0 undef) fun t85 =>
                  ldW true 5 t85 w32 fun t86 =>
                  callF Tryz.prog 36 [(s31.getD 0 undef), t86] w32 fun t87 w33 =>
                  unW .not t87 fun t88 =>
                  condW t88 (
                    putW [(.int .i64 0), (.bool false), (.string (ofL [])), (.slice none 0 0), (.slice none 0 0)] [] fun c34 =>
                    stW 5 t4 (.agg c34.toArray) w33 fun w35 =>
                    ldW true 5 t4 w35 fun r36 =>
                    K (.tuple #[r36, (.int .i64 71)]) w35) (
                    binW .add (s29.getD 0 undef) (.int .i64 1) fun t90 =>
                    L29 [t90] w33)) (
                  callF Tryz.prog 37 [v0, v1] w30 fun t94 w37 =>
                  extW 0 t94 fun t95 =>
                  extW 1 t94 fun t96 =>
                  allocW 28 [(.int .i64 0), (.bool false), (.string (ofL [])), (.slice none 0 0), (.slice none 0 0)] w37 fun t12 w38 =>
                  stW 5 t12 t95 w38 fun w39 =>
                  unW .not t96 fun t98 =>
                  condW t98 (
                    putW [(.int .i64 0), (.bool false), (.string (ofL [])), (.slice none 0 0), (.slice none 0 0)] [] fun c40 =>
                    stW 5 t4 (.agg c40.toArray) w39 fun w41 =>
                    ldW true 5 t4 w41 fun r42 =>
                    K (.tuple #[r42, (.int .i64 71)]) w41) (
                    ldW true 5 t12 w39 fun t100 =>
                    callF Tryz.prog 20 [t100] w39 fun t101 w43 =>
                    unW .not t101 fun t102 =>
                    condW t102 (
                      putW [(.int .i64 0), (.bool false), (.string (ofL [])), (.slice none 0 0), (.slice none 0 0)] [] fun c44 =>
                      stW 5 t4 (.agg c44.toArray) w43 fun w45 =>
                      ldW true 5 t4 w45 fun r46 =>
                      K (.tuple #[r46, (.int .i64 3)]) w45) (
                      ldW true 5 t12 w43 fun t104 =>
                      stW 5 t4 t104 w43 fun w47 =>
                      ldW true 5 t4 w47 fun r48 =>
                      K (.tuple #[r48, (.int .i64 0)]) w47)))))))
theorem W12_eq (v0 v1 : Value) (w : World) (K : Value → World → Prop) : funW Tryz.prog Tryz.f12 plan12 [v0, v1] w K = W12 v0 v1 w K := by kernel_rfl
theorem W12_chk : chkFun Tryz.prog Tryz.f12 plan12 2 = true := by kernel_rfl
theorem W12_ok {v0 v1 : Value} {w : World} {K : Value → World → Prop} (h : W12 v0 v1 w K) : callF Tryz.prog 12 [v0, v1] w K :=
  tie Tryz.prog 12 Tryz.f12 plan12 [v0, v1] w K 2 (W12 v0 v1 w K) rfl mixed Tryz.func12 W12_chk (W12_eq v0 v1 w K) Tryz.call12 h
def plan25 : Plan := { js := [(88, ⟨[30], [], 0⟩), (78, ⟨[27], [], 4⟩), (68, ⟨[24], [], 4⟩), (46, ⟨[17], [], 4⟩), (6, ⟨[4], [], 4⟩)], ds := [] }
def W25 (v0 : Value) (w : World) (K : Value → World → Prop) : Prop :=
  JoinW (fun J1 =>
    binW .eql v0 (.string (ofL [117, 112, 112, 101, 114])) fun t5 =>
    condW t5 (
      J1 [t5] w) (
      binW .eql v0 (.string (ofL [108, 111, 119, 101, 114])) fun t6 =>
      J1 [t6] w))
  fun s1 _ w2 =>
  condW (s1.getD 0 undef) (
    K (.string (ofL [115])) w2) (
    binW .eql v0 (.string (ofL [115, 117, 98, 115, 116, 114])) fun t8 =>
    condW t8 (
      K (.string (ofL [115, 110, 110])) w2) (
      binW .eql v0 (.string (ofL [106, 111, 105, 110])) fun t10 =>
      condW t10 (
        K (.string (ofL [115, 108])) w2) (
        binW .eql v0 (.string (ofL [115, 112, 108, 105, 116])) fun t12 =>
        condW t12 (
          K (.string (ofL [115, 115])) w2) (
          binW .eql v0 (.string (ofL [99, 111, 110, 99, 97, 116])) fun t14 =>
          condW t14 (
            K (.string (ofL [108, 46])) w2) (
            binW .eql v0 (.string (ofL [99, 111, 110, 116, 97, 105, 110, 115])) fun t16 =>
            condW t16 (
              K (.string (ofL [108, 118])) w2) (
              JoinW (fun J3 =>
                binW .eql v0 (.string (ofL [107, 101, 121, 115])) fun t18 =>
                condW t18 (
                  J3 [t18] w2) (
                  binW .eql v0 (.string (ofL [118, 97, 108, 117, 101, 115])) fun t19 =>
                  J3 [t19] w2))
              fun s3 _ w4 =>
              condW (s3.getD 0 undef) (
                K (.string (ofL [111])) w4) (
                binW .eql v0 (.string (ofL [108, 111, 111, 107, 117, 112])) fun t21 =>
                condW t21 (
                  K (.string (ofL [111, 115, 118])) w4) (
                  binW .eql v0 (.string (ofL [109, 101, 114, 103, 101])) fun t23 =>
                  condW t23 (
                    K (.string (ofL [111, 46])) w4) (
                    JoinW (fun J5 =>
                      binW .eql v0 (.string (ofL [109, 97, 120])) fun t25 =>
                      condW t25 (
                        J5 [t25] w4) (
                        binW .eql v0 (.string (ofL [109, 105, 110])) fun t26 =>
                        J5 [t26] w4))
                    fun s5 _ w6 =>
                    condW (s5.getD 0 undef) (
                      K (.string (ofL [110, 46])) w6) (
                      JoinW (fun J7 =>
                        binW .eql v0 (.string (ofL [97, 98, 115])) fun t28 =>
                        condW t28 (
                          J7 [t28] w6) (
                          binW .eql v0 (.string (ofL [114, 97, 110, 103, 101])) fun t29 =>
                          J7 [t29] w6))
                      fun s7 _ w8 =>
                      condW (s7.getD 0 undef) (
                        K (.string (ofL [110])) w8) (
                        JoinW (fun J9 =>
                          binW .eql v0 (.string (ofL [108, 101, 110, 103, 116, 104])) fun t31 =>
                          condW t31 (
                            J9 [t31] w8) (
                            binW .eql v0 (.string (ofL [114, 101, 118, 101, 114, 115, 101])) fun t32 =>
                            condW t32 (
                              J9 [t32] w8) (
                              binW .eql v0 (.string (ofL [116, 111, 115, 116, 114, 105, 110, 103])) fun t33 =>
                              condW t33 (
                                J9 [t33] w8) (
                                binW .eql v0 (.string (ofL [116, 111, 105, 110, 116])) fun t34 =>
                                J9 [t34] w8))))
                        fun s9 _ w10 =>
                        condW (s9.getD 0 undef) (
                          K (.string (ofL [118])) w10) (
                          K (.string (ofL [])) w10))))))))))))
theorem W25_eq (v0 : Value) (w : World) (K : Value → World → Prop) : funW Tryz.prog Tryz.f25 plan25 [v0] w K = W25 v0 w K := by kernel_rfl
theorem W25_chk : chkFun Tryz.prog Tryz.f25 plan25 1 = true := by kernel_rfl
theorem W25_ok {v0 : Value} {w : World} {K : Value → World → Prop} (h : W25 v0 w K) : callF Tryz.prog 25 [v0] w K :=
  tie Tryz.prog 25 Tryz.f25 plan25 [v0] w K 1 (W25 v0 w K) rfl mixed Tryz.func25 W25_chk (W25_eq v0 w K) Tryz.call25 h
def plan29 : Plan := { js := [], ds := [] }
def W29 (v0 : Value) (w : World) (K : Value → World → Prop) : Prop :=
  boxW 28 v0 w fun t1 w1 =>
  ldW true 5 t1 w1 fun t3 =>
  callF Tryz.prog 30 [t3] w1 fun t4 w2 =>
  unW .not t4 fun t5 =>
  K t5 w2
theorem W29_eq (v0 : Value) (w : World) (K : Value → World → Prop) : funW Tryz.prog Tryz.f29 plan29 [v0] w K = W29 v0 w K := by kernel_rfl
theorem W29_chk : chkFun Tryz.prog Tryz.f29 plan29 1 = true := by kernel_rfl
theorem W29_ok {v0 : Value} {w : World} {K : Value → World → Prop} (h : W29 v0 w K) : callF Tryz.prog 29 [v0] w K :=
  tie Tryz.prog 29 Tryz.f29 plan29 [v0] w K 1 (W29 v0 w K) rfl mixed Tryz.func29 W29_chk (W29_eq v0 w K) Tryz.call29 h
def plan31 : Plan := { js := [], ds := [] }
def W31 (w : World) (K : Value → World → Prop) : Prop :=
  semE Tryz.prog (Instr.makeMap 59 none) w fun t1 w1 =>
  putW [(.string (ofL [])), (.int .i64 0), .nilFunc] [(0, 1, (.string (ofL [110]))), (1, 1, (.int .i64 0)), (2, 1, (.func (.func 46) #[] #[]))] fun c2 =>
  semU Tryz.prog (Instr.mapUpdate 59 t1 (.string (ofL [97, 98, 115])) (.agg c2.toArray)) w1 fun w3 =>
  putW [(.string (ofL [])), (.int .i64 0), .nilFunc] [(0, 1, (.string (ofL [108, 46]))), (1, 1, (.int .i64 0)), (2, 1, (.func (.func 48) #[] #[]))] fun c4 =>
  semU Tryz.prog (Instr.mapUpdate 59 t1 (.string (ofL [99, 111, 110, 99, 97, 116])) (.agg c4.toArray)) w3 fun w5 =>
  putW [(.string (ofL [])), (.int .i64 0), .nilFunc] [(0, 1, (.string (ofL [108, 118]))), (1, 1, (.int .i64 0)), (2, 1, (.func (.func 49) #[] #[]))] fun c6 =>
  semU Tryz.prog (Instr.mapUpdate 59 t1 (.string (ofL [99, 111, 110, 116, 97, 105, 110, 115])) (.agg c6.toArray)) w5 fun w7 =>
  putW [(.string (ofL [])), (.int .i64 0), .nilFunc] [(0, 1, (.string (ofL [115, 108]))), (1, 1, (.int .i64 0)), (2, 1, (.func (.func 50) #[] #[]))] fun c8 =>
  semU Tryz.prog (Instr.mapUpdate 59 t1 (.string (ofL [106, 111, 105, 110])) (.agg c8.toArray)) w7 fun w9 =>
  putW [(.string (ofL [])), (.int .i64 0), .nilFunc] [(0, 1, (.string (ofL [111]))), (1, 1, (.int .i64 0)), (2, 1, (.func (.func 51) #[] #[]))] fun c10 =>
  semU Tryz.prog (Instr.mapUpdate 59 t1 (.string (ofL [107, 101, 121, 115])) (.agg c10.toArray)) w9 fun w11 =>
  putW [(.string (ofL [])), (.int .i64 0), .nilFunc] [(0, 1, (.string (ofL [118]))), (1, 1, (.int .i64 0)), (2, 1, (.func (.func 53) #[] #[]))] fun c12 =>
  semU Tryz.prog (Instr.mapUpdate 59 t1 (.string (ofL [108, 101, 110, 103, 116, 104])) (.agg c12.toArray)) w11 fun w13 =>
  putW [(.string (ofL [])), (.int .i64 0), .nilFunc] [(0, 1, (.string (ofL [111, 115, 118]))), (1, 1, (.int .i64 0)), (2, 1, (.func (.func 54) #[] #[]))] fun c14 =>
  semU Tryz.prog (Instr.mapUpdate 59 t1 (.string (ofL [108, 111, 111, 107, 117, 112])) (.agg c14.toArray)) w13 fun w15 =>
  putW [(.string (ofL [])), (.int .i64 0), .nilFunc] [(0, 1, (.string (ofL [115]))), (1, 1, (.int .i64 0)), (2, 1, (.func (.func 55) #[] #[]))] fun c16 =>
  semU Tryz.prog (Instr.mapUpdate 59 t1 (.string (ofL [108, 111, 119, 101, 114])) (.agg c16.toArray)) w15 fun w17 =>
  putW [(.string (ofL [])), (.int .i64 0), .nilFunc] [(0, 1, (.string (ofL [110, 46]))), (1, 1, (.int .i64 1)), (2, 1, (.func (.func 58) #[] #[]))] fun c18 =>
  semU Tryz.prog (Instr.mapUpdate 59 t1 (.string (ofL [109, 97, 120])) (.agg c18.toArray)) w17 fun w19 =>
  putW [(.string (ofL [])), (.int .i64 0), .nilFunc] [(0, 1, (.string (ofL [111, 46]))), (1, 1, (.int .i64 0)), (2, 1, (.func (.func 60) #[] #[]))] fun c20 =>
  semU Tryz.prog (Instr.mapUpdate 59 t1 (.string (ofL [109, 101, 114, 103, 101])) (.agg c20.toArray)) w19 fun w21 =>
  putW [(.string (ofL [])), (.int .i64 0), .nilFunc] [(0, 1, (.string (ofL [110, 46]))), (1, 1, (.int .i64 1)), (2, 1, (.func (.func 61) #[] #[]))] fun c22 =>
  semU Tryz.prog (Instr.mapUpdate 59 t1 (.string (ofL [109, 105, 110])) (.agg c22.toArray)) w21 fun w23 =>
  putW [(.string (ofL [])), (.int .i64 0), .nilFunc] [(0, 1, (.string (ofL [110]))), (1, 1, (.int .i64 0)), (2, 1, (.func (.func 62) #[] #[]))] fun c24 =>
  semU Tryz.prog (Instr.mapUpdate 59 t1 (.string (ofL [114, 97, 110, 103, 101])) (.agg c24.toArray)) w23 fun w25 =>
  putW [(.string (ofL [])), (.int .i64 0), .nilFunc] [(0, 1, (.string (ofL [118]))), (1, 1, (.int .i64 0)), (2, 1, (.func (.func 63) #[] #[]))] fun c26 =>
  semU Tryz.prog (Instr.mapUpdate 59 t1 (.string (ofL [114, 101, 118, 101, 114, 115, 101])) (.agg c26.toArray)) w25 fun w27 =>
  putW [(.string (ofL [])), (.int .i64 0), .nilFunc] [(0, 1, (.string (ofL [115, 115]))), (1, 1, (.int .i64 0)), (2, 1, (.func (.func 64) #[] #[]))] fun c28 =>
  semU Tryz.prog (Instr.mapUpdate 59 t1 (.string (ofL [115, 112, 108, 105, 116])) (.agg c28.toArray)) w27 fun w29 =>
  putW [(.string (ofL [])), (.int .i64 0), .nilFunc] [(0, 1, (.string (ofL [115, 110, 110]))), (1, 1, (.int .i64 0)), (2, 1, (.func (.func 65) #[] #[]))] fun c30 =>
  semU Tryz.prog (Instr.mapUpdate 59 t1 (.string (ofL [115, 117, 98, 115, 116, 114])) (.agg c30.toArray)) w29 fun w31 =>
  putW [(.string (ofL [])), (.int .i64 0), .nilFunc] [(0, 1, (.string (ofL [118]))), (1, 1, (.int .i64 0)), (2, 1, (.func (.func 66) #[] #[]))] fun c32 =>
  semU Tryz.prog (Instr.mapUpdate 59 t1 (.string (ofL [116, 111, 105, 110, 116])) (.agg c32.toArray)) w31 fun w33 =>
  putW [(.string (ofL [])), (.int .i64 0), .nilFunc] [(0, 1, (.string (ofL [118]))), (1, 1, (.int .i64 0)), (2, 1, (.func (.func 67) #[] #[]))] fun c34 =>
  semU Tryz.prog (Instr.mapUpdate 59 t1 (.string (ofL [116, 111, 115, 116, 114, 105, 110, 103])) (.agg c34.toArray)) w33 fun w35 =>
  putW [(.string (ofL [])), (.int .i64 0), .nilFunc] [(0, 1, (.string (ofL [115]))), (1, 1, (.int .i64 0)), (2, 1, (.func (.func 68) #[] #[]))] fun c36 =>
  semU Tryz.prog (Instr.mapUpdate 59 t1 (.string (ofL [117, 112, 112, 101, 114])) (.agg c36.toArray)) w35 fun w37 =>
  putW [(.string (ofL [])), (.int .i64 0), .nilFunc] [(0, 1, (.string (ofL [111]))), (1, 1, (.int .i64 0)), (2, 1, (.func (.func 69) #[] #[]))] fun c38 =>
  semU Tryz.prog (Instr.mapUpdate 59 t1 (.string (ofL [118, 97, 108, 117, 101, 115])) (.agg c38.toArray)) w37 fun w39 =>
  K t1 w39
theorem W31_eq (w : World) (K : Value → World → Prop) : funW Tryz.prog Tryz.f31 plan31 [] w K = W31 w K := by kernel_rfl
theorem W31_chk : chkFun Tryz.prog Tryz.f31 plan31 0 = true := by kernel_rfl
theorem W31_ok {w : World} {K : Value → World → Prop} (h : W31 w K) : callF Tryz.prog 31 [] w K :=
  tie Tryz.prog 31 Tryz.f31 plan31 [] w K 0 (W31 w K) rfl mixed Tryz.func31 W31_chk (W31_eq w K) Tryz.call31 h
def plan32 : Plan := { js := [], ds := [] }
def W32 (v0 : Value) (w : World) (K : Value → World → Prop) : Prop :=
  boxW 28 v0 w fun t1 w1 =>
  ldW true 5 t1 w1 fun t3 =>
  callF Tryz.prog 33 [t3] w1 fun t4 w2 =>
  unW .not t4 fun t5 =>
  K t5 w2
theorem W32_eq (v0 : Value) (w : World) (K : Value → World → Prop) : funW Tryz.prog Tryz.f32 plan32 [v0] w K = W32 v0 w K := by kernel_rfl
theorem W32_chk : chkFun Tryz.prog Tryz.f32 plan32 1 = true := by kernel_rfl
theorem W32_ok {v0 : Value} {w : World} {K : Value → World → Prop} (h : W32 v0 w K) : callF Tryz.prog 32 [v0] w K :=
  tie Tryz.prog 32 Tryz.f32 plan32 [v0] w K 1 (W32 v0 w K) rfl mixed Tryz.func32 W32_chk (W32_eq v0 w K) Tryz.call32 h
def plan35 : Plan := { js := [(36005, ⟨[50], [], 47⟩), (22, ⟨[35], [4, 7, 8, 9], 35⟩), (12006, ⟨[31], [], 27⟩), (4, ⟨[5], [], 3⟩)], ds := [] }
def W35 (v0 v1 : Value) (w : World) (K : Value → World → Prop) : Prop :=
  boxW 57 v0 w fun t2 w1 =>
  fldW 0 t2 fun t11 =>
  ldW false 1 t11 w1 fun t12 =>
  callF Tryz.prog 72 [t12, (.string (ofL [46]))] w1 fun t13 w2 =>
  extW 0 t13 fun t14 =>
  extW 1 t13 fun t15 =>
  JoinW (fun J3 =>
    condW t15 (
      lenlW v1 fun t19 =>
      callF Tryz.prog 73 [t14, t19] w2 fun t20 w4 =>
      J3 [t20] w4) (
      J3 [t14] w2))
  fun s3 _ w5 =>
  lenlW v1 fun t22 =>
  lensW (s3.getD 0 undef) fun t24 =>
  binW .neq t22 t24 fun t25 =>
  GdW (isB t25 false) [undef] w5 (fun J6 =>
    lenlW v1 fun t28 =>
    fldW 1 t2 fun t29 =>
    ldW false 1 t29 w5 fun t30 =>
    binW .lss t28 t30 fun t31 =>
    J6 [t31] w5)
  fun s6 _ w7 =>
  pickW t25 (.bool true) (s6.getD 0 undef) fun t32 =>
  condW t32 (
    K (.bool false) w7) (
    lenlW v1 fun t34 =>
    LoopW [(.int .i64 0)] w7 fun s8 _ w9 L8 =>
      binW .lss (s8.getD 0 undef) t34 fun t36 =>
      condW t36 (
        ixaW none 5 v1 (s8.getD 0 undef) fun t38 =>
        ldW true 5 t38 w9 fun t39 =>
        allocW 28 [(.int .i64 0), (.bool false), (.string (ofL [])), (.slice none 0 0), (.slice none 0 0)] w9 fun t8 w10 =>
        stW 5 t8 t39 w10 fun w11 =>
        ixsW (s3.getD 0 undef) (s8.getD 0 undef) fun t42 =>
        callF Tryz.prog 74 [t42] w11 fun t43 w12 =>
        binW .geq t43 (.int .i64 0) fun t45 =>
        GdW (isB t45 true) [undef] w12 (fun J13 =>
          fldW 0 t8 fun t47 =>
          ldW false 1 t47 w12 fun t48 =>
          binW .neq t48 t43 fun t50 =>
          J13 [t50] w12)
        fun s13 _ w14 =>
        pickW t45 (s13.getD 0 undef) (.bool false) fun t51 =>
        condW t51 (
          K (.bool false) w14) (
          binW .add (s8.getD 0 undef) (.int .i64 1) fun t52 =>
          L8 [t52] w14)) (
        K (.bool true) w9))
theorem W35_eq (v0 v1 : Value) (w : World) (K : Value → World → Prop) : funW Tryz.prog Tryz.f35 plan35 [v0, v1] w K = W35 v0 v1 w K := by kernel_rfl
theorem W35_chk : chkFun Tryz.prog Tryz.f35 plan35 2 = true := by kernel_rfl
theorem W35_ok {v0 v1 : Value} {w : World} {K : Value → World → Prop} (h : W35 v0 v1 w K) : callF Tryz.prog 35 [v0, v1] w K :=
  tie Tryz.prog 35 Tryz.f35 plan35 [v0, v1] w K 2 (W35 v0 v1 w K) rfl mixed Tryz.func35 W35_chk (W35_eq v0 v1 w K) Tryz.call35 h
def plan36 : Plan := { js := [(8, ⟨[6], [4], 6⟩)], ds := [] }
def W36 (v0 v1 : Value) (w : World) (K : Value → World → Prop) : Prop :=
  boxW 28 v1 w fun t3 w1 =>
  LoopW [(.int .i64 0)] w1 fun s2 _ w3 L2 =>
    lensW (.string (ofL [110, 115, 108, 111])) fun t9 =>
    binW .lss (s2.getD 0 undef) t9 fun t10 =>
    condW t10 (
      ixsW (.string (ofL [110, 115, 108, 111])) (s2.getD 0 undef) fun t15 =>
      binW .eql t15 v0 fun t17 =>
      condW t17 (
        fldW 0 t3 fun t18 =>
        ldW false 1 t18 w3 fun t19 =>
        binW .add (.int .i64 3) (s2.getD 0 undef) fun t21 =>
        binW .eql t19 t21 fun t22 =>
        K t22 w3) (
        binW .add (s2.getD 0 undef) (.int .i64 1) fun t12 =>
        L2 [t12] w3)) (
      K (.bool true) w3)
theorem W36_eq (v0 v1 : Value) (w : World) (K : Value → World → Prop) : funW Tryz.prog Tryz.f36 plan36 [v0, v1] w K = W36 v0 v1 w K := by kernel_rfl
theorem W36_chk : chkFun Tryz.prog Tryz.f36 plan36 2 = true := by kernel_rfl
theorem W36_ok {v0 v1 : Value} {w : World} {K : Value → World → Prop} (h : W36 v0 v1 w K) : callF Tryz.prog 36 [v0, v1] w K :=
  tie Tryz.prog 36 Tryz.f36 plan36 [v0, v1] w K 2 (W36 v0 v1 w K) rfl mixed Tryz.func36 W36_chk (W36_eq v0 v1 w K) Tryz.call36 h
def plan37 : Plan := { js := [(144005, ⟨[181], [], 180⟩), (129005, ⟨[166], [], 163⟩), (95, ⟨[9, 10], [], 5⟩), (70, ⟨[79], [8], 79⟩), (39, ⟨[54], [5, 6], 54⟩)], ds := [(120, ⟨[0, 1, 2, 3, 4, 5, 6, 7, 8, 9, 10, 11, 12, 13, 14, 15, 17, 19], [[], [0], [0, 1], [0, 1, 2], [0, 1, 2, 3], [], [5], [5, 6], [5, 6, 7], [5, 6, 7, 8], [5, 6, 7, 8, 9], [5, 6, 7, 8, 9, 10], [5, 6, 7, 8, 9, 10, 11], [5, 6, 7, 8, 9, 10, 11, 12], [5, 6, 7, 8, 9, 10, 11, 12, 13], [5, 6, 7, 8, 9, 10, 11, 12, 13, 14], [5, 6, 7, 8, 9, 10, 11, 12, 13, 14, 15], [5, 6, 7, 8, 9, 10, 11, 12, 13, 14, 15, 16], [0, 1, 2, 3, 4, 5, 6, 7, 8, 9, 10, 11, 12, 13, 14, 15, 16], [0, 1, 2, 3, 4, 5, 6, 7, 8, 9, 10, 11, 12, 13, 14, 15, 16, 17, 18]]⟩), (96, ⟨[0, 1, 2, 3, 4, 5, 6, 8, 9, 10, 13], [[], [0], [0, 1], [], [3], [3, 4], [3, 4, 5], [0, 1, 2, 3, 4, 5, 6], [0, 1, 2, 3, 4, 5, 6, 7], [0, 1, 2, 3, 4, 5, 6, 7, 8], [0, 1, 2, 3, 4, 5, 6, 7, 8], [], [0, 1, 2, 3, 4, 5, 6, 7, 8, 9, 11], [0, 1, 2, 3, 4, 5, 6, 7, 8, 9, 10, 11, 12]]⟩), (81, ⟨[0, 1, 2, 3, 4, 5, 6, 7, 8, 12], [[], [0], [], [2], [2, 3], [2, 3, 4], [], [2, 3, 4, 5, 6], [2, 3, 4, 5, 6, 7], [2, 3, 4, 5, 6, 7, 8], [2, 3, 4, 5, 6, 7, 8, 9], [0, 1, 2, 3, 4, 5, 6, 7, 8, 9, 10], [0, 1, 2, 3, 4, 5, 6, 7, 8, 9, 10, 11], [0, 1, 2, 3, 4, 5, 6, 7, 8, 9, 10, 11, 12]]⟩), (51, ⟨[0, 1, 2, 3, 4, 5, 6, 7, 8, 9], [[], [0], [0, 1], [0, 1, 2], [], [0, 1, 2, 3, 4], [0, 1, 2, 3, 4, 5], [], [7], [7, 8], [0, 1, 2, 3, 4, 5, 6, 7, 8, 9]]⟩), (30, ⟨[0, 1, 2, 3, 4, 5, 6, 7, 10], [[], [0], [0, 1], [0, 1, 2], [], [4], [4, 5], [4, 5, 6], [0, 1, 2, 3, 4, 5, 6, 7], [0, 1, 2, 3, 4, 5, 6, 7, 8], [0, 1, 2, 3, 4, 5, 6, 7, 8, 9]]⟩)] }
def W37 (v0 v1 : Value) (w : World) (K : Value → World → Prop) : Prop :=
  allocW 28 [(.int .i64 0), (.bool false), (.string (ofL [])), (.slice none 0 0), (.slice none 0 0)] w fun t4 w1 =>
  binW .eql v0 (.string (ofL [117, 112, 112, 101, 114])) fun t15 =>
  condW t15 (
    ixaW none 5 v1 (.int .i64 0) fun t17 =>
    fldW 2 t17 fun t18 =>
    ldW false 1 t18 w1 fun t19 =>
    callF Tryz.prog 75 [t19, (.int .u8 97), (.int .u8 65)] w1 fun t20 w2 =>
    callF Tryz.prog 15 [t20] w2 fun t21 w3 =>
    stW 5 t4 t21 w3 fun w4 =>
    ldW true 5 t4 w4 fun r5 =>
    K (.tuple #[r5, (.bool true)]) w4) (
    binW .eql v0 (.string (ofL [108, 111, 119, 101, 114])) fun t23 =>
    condW t23 (
      ixaW none 5 v1 (.int .i64 0) fun t25 =>
      fldW 2 t25 fun t26 =>
      ldW false 1 t26 w1 fun t27 =>
      callF Tryz.prog 75 [t27, (.int .u8 65), (.int .u8 97)] w1 fun t28 w6 =>
      callF Tryz.prog 15 [t28] w6 fun t29 w7 =>
      stW 5 t4 t29 w7 fun w8 =>
      ldW true 5 t4 w8 fun r9 =>
      K (.tuple #[r9, (.bool true)]) w8) (
      binW .eql v0 (.string (ofL [115, 112, 108, 105, 116])) fun t31 =>
      condW t31 (
        ixaW none 5 v1 (.int .i64 0) fun t33 =>
        fldW 2 t33 fun t34 =>
        ldW false 1 t34 w1 fun t35 =>
        binW .eql t35 (.string (ofL [])) fun t36 =>
        condW t36 (
          putW [(.int .i64 0), (.bool false), (.string (ofL [])), (.slice none 0 0), (.slice none 0 0)] [] fun c10 =>
          stW 5 t4 (.agg c10.toArray) w1 fun w11 =>
          ldW true 5 t4 w11 fun r12 =>
          K (.tuple #[r12, (.bool false)]) w11) (
          ixaW none 5 v1 (.int .i64 0) fun t39 =>
          fldW 2 t39 fun t40 =>
          ldW false 1 t40 w1.drew fun t41 =>
          ixaW none 5 v1 (.int .i64 1) fun t43 =>
          fldW 2 t43 fun t44 =>
          ldW false 1 t44 w1.drew fun t45 =>
          callF Tryz.prog 76 [t41, t45] w1.drew fun t46 w13 =>
          stW 5 t4 t46 w13 fun w14 =>
          ldW true 5 t4 w14 fun r15 =>
          K (.tuple #[r15, (.bool true)]) w14)) (
        binW .eql v0 (.string (ofL [99, 111, 110, 116, 97, 105, 110, 115])) fun t48 =>
        condW t48 (
          ixaW none 5 v1 (.int .i64 0) fun t50 =>
          fldW 3 t50 fun t51 =>
          ldW false 1 t51 w1 fun t52 =>
          lenlW t52 fun t53 =>
          LoopW [(.int .i64 0)] w1 fun s16 _ w17 L16 =>
            binW .lss (s16.getD 0 undef) t53 fun t55 =>
            condW t55 (
              ixaW none 5 v1 (.int .i64 0) fun t58 =>
              fldW 3 t58 fun t59 =>
              ldW false 1 t59 w17.drew fun t60 =>
              ixaW none 5 t60 (s16.getD 0 undef) fun t62 =>
              ldW true 5 t62 w17.drew fun t63 =>
              ixaW none 5 v1 (.int .i64 1) fun t65 =>
              ldW true 5 t65 w17.drew fun t66 =>
              callF Tryz.prog 13 [t63, t66] w17.drew fun t67 w18 =>
              condW t67 (
                callF Tryz.prog 77 [(.bool true)] w18 fun t68 w19 =>
                stW 5 t4 t68 w19 fun w20 =>
                ldW true 5 t4 w20 fun r21 =>
                K (.tuple #[r21, (.bool true)]) w20) (
                binW .add (s16.getD 0 undef) (.int .i64 1) fun t69 =>
                L16 [t69] w18)) (
              callF Tryz.prog 77 [(.bool false)] w17 fun t70 w22 =>
              stW 5 t4 t70 w22 fun w23 =>
              ldW true 5 t4 w23 fun r24 =>
              K (.tuple #[r24, (.bool true)]) w23)) (
          binW .eql v0 (.string (ofL [107, 101, 121, 115])) fun t72 =>
          condW t72 (
            putW [(.int .i64 0), (.bool false), (.string (ofL [])), (.slice none 0 0), (.slice none 0 0)] [(0, 1, (.int .i64 5))] fun c25 =>
            allocW 28 [(.int .i64 0), (.bool false), (.string (ofL [])), (.slice none 0 0), (.slice none 0 0)] w1 fun t7 w26 =>
            stW 5 t7 (.agg c25.toArray) w26 fun w27 =>
            ixaW none 5 v1 (.int .i64 0) fun t75 =>
            fldW 4 t75 fun t76 =>
            ldW false 1 t76 w27 fun t77 =>
            lenlW t77 fun t78 =>
            LoopW [(.int .i64 0)] w27 fun s28 _ w29 L28 =>
              binW .lss (s28.getD 0 undef) t78 fun t80 =>
              condW t80 (
                fldW 3 t7 fun t82 =>
                ldW false 1 t82 w29.drew fun t83 =>
                ixaW none 5 v1 (.int .i64 0) fun t85 =>
                fldW 4 t85 fun t86 =>
                ldW false 1 t86 w29.drew fun t87 =>
                ixaW none 1 t87 (s28.getD 0 undef) fun t89 =>
                ldW false 1 t89 w29.drew fun t90 =>
                callF Tryz.prog 15 [t90] w29.drew fun t91 w30 =>
                (ldW false 1 t82 w30 fun x => x = t83) ∧
                bslW 28 1 [(.int .i64 0), (.bool false), (.string (ofL [])), (.slice none 0 0), (.slice none 0 0)] [(0, 5, t91)] w30 fun t92 w31 =>
                (ldW false 1 t82 w31 fun x => x = t83) ∧
                semE Tryz.prog (Builtin.append_ #[22, 22] 22 #[t83, t92]) w31 fun t93 w32 =>
                fldW 3 t7 fun t94 =>
                stW 1 t94 t93 w32 fun w33 =>
                binW .add (s28.getD 0 undef) (.int .i64 1) fun t95 =>
                L28 [t95] w33) (
                ldW true 5 t7 w29 fun t96 =>
                stW 5 t4 t96 w29 fun w34 =>
                ldW true 5 t4 w34 fun r35 =>
                K (.tuple #[r35, (.bool true)]) w34)) (
            binW .eql v0 (.string (ofL [118, 97, 108, 117, 101, 115])) fun t98 =>
            condW t98 (
              ixaW none 5 v1 (.int .i64 0) fun t100 =>
              fldW 3 t100 fun t101 =>
              ldW false 1 t101 w1 fun t102 =>
              callF Tryz.prog 78 [t102] w1 fun t103 w36 =>
              stW 5 t4 t103 w36 fun w37 =>
              ldW true 5 t4 w37 fun r38 =>
              K (.tuple #[r38, (.bool true)]) w37) (
              binW .eql v0 (.string (ofL [108, 111, 111, 107, 117, 112])) fun t105 =>
              condW t105 (
                JoinW (fun J39 =>
                  ixaW none 5 v1 (.int .i64 0) fun t108 =>
                  ldW true 5 t108 w1.drew fun t109 =>
                  ixaW none 5 v1 (.int .i64 1) fun t111 =>
                  fldW 2 t111 fun t112 =>
                  ldW false 1 t112 w1.drew fun t113 =>
                  (
                   callF Tryz.prog 79 [t109, t113] w1.drew fun t114 w40 =>
                   extW 0 t114 fun t115 =>
                   extW 1 t114 fun t116 =>
                   allocW 28 [(.int .i64 0), (.bool false), (.string (ofL [])), (.slice none 0 0), (.slice none 0 0)] w40 fun t9 w41 =>
                   stW 5 t9 t115 w41 fun w42 =>
                  J39 [t9, t116] w42) ∧
                  (
                   allocW 28 [(.int .i64 0), (.bool false), (.string (ofL [])), (.slice none 0 0), (.slice none 0 0)] w1.drew fun t9 w43 =>
                   (ldW false 1 t112 w43 fun x => x = t113) ∧
                   (ldW true 5 t108 w43 fun x => x = t109) ∧
                   callF Tryz.prog 79 [t109, t113] w43 fun t114 w44 =>
                   extW 0 t114 fun t115 =>
                   extW 1 t114 fun t116 =>
                   stW 5 t9 t115 w44 fun w45 =>
                  J39 [t9, t116] w45))
                fun s39 _ w46 =>
                condW (s39.getD 1 undef) (
                  ldW true 5 (s39.getD 0 undef) w46 fun t118 =>
                  stW 5 t4 t118 w46 fun w47 =>
                  ldW true 5 t4 w47 fun r48 =>
                  K (.tuple #[r48, (.bool true)]) w47) (
                  ixaW none 5 v1 (.int .i64 2) fun t120 =>
                  ldW true 5 t120 w46 fun t121 =>
                  stW 5 t4 t121 w46 fun w49 =>
                  ldW true 5 t4 w49 fun r50 =>
                  K (.tuple #[r50, (.bool true)]) w49)) (
                binW .eql v0 (.string (ofL [97, 98, 115])) fun t123 =>
                condW t123 (
                  ixaW none 5 v1 (.int .i64 0) fun t125 =>
                  fldW 2 t125 fun t126 =>
                  ldW false 1 t126 w1 fun t127 =>
                  callF Tryz.prog 80 [t127] w1 fun t128 w51 =>
                  putW [(.int .i64 0), (.bool false), (.string (ofL [])), (.slice none 0 0), (.slice none 0 0)] [(0, 1, (.int .i64 3)), (2, 1, t128)] fun c52 =>
                  stW 5 t4 (.agg c52.toArray) w51 fun w53 =>
                  ldW true 5 t4 w53 fun r54 =>
                  K (.tuple #[r54, (.bool true)]) w53) (
                  binW .eql v0 (.string (ofL [116, 111, 105, 110, 116])) fun t131 =>
                  condW t131 (
                    ixaW none 5 v1 (.int .i64 0) fun t133 =>
                    fldW 0 t133 fun t134 =>
                    ldW false 1 t134 w1 fun t135 =>
                    ixaW none 5 v1 (.int .i64 0) fun t137 =>
                    fldW 2 t137 fun t138 =>
                    ldW false 1 t138 w1.drew fun t139 =>
                    putW [(.int .i64 0), (.bool false), (.string (ofL [])), (.slice none 0 0), (.slice none 0 0)] [(0, 1, (.int .i64 3)), (2, 1, t139)] fun c55 =>
                    binW .eql t135 (.int .i64 3) fun t142 =>
                    GqW (isB t142 false) (fun k56 => k56 t135) fun t144 =>
                    GqW (isB t142 false) (fun k57 => binW .eql t144 (.int .i64 4) k57) fun t145 =>
                    pickW t142 (.bool true) t145 fun t146 =>
                    GqW (isB t146 true) (fun k58 => k58 v1) fun t148 =>
                    GqW (isB t146 true) (fun k59 => ixaW none 5 t148 (.int .i64 0) k59) fun t149 =>
                    GqW (isB t146 true) (fun k60 => fldW 2 t149 k60) fun t150 =>
                    GqW (isB t146 true) (fun k61 => ldW false 1 t150 w1.drew k61) fun t151 =>
                    GeW (isB t146 true) w1.drew (fun k62 => callF Tryz.prog 81 [t151] w1.drew k62) fun t152 w63 =>
                    (ldW false 1 t138 w63 fun x => x = t139) ∧
                    pickW t146 t152 (.bool false) fun t153 =>
                    stW 5 t4 (.agg c55.toArray) w63 fun w64 =>
                    ldW true 5 t4 w64 fun r65 =>
                    K (.tuple #[r65, t153]) w64) (
                    binW .eql v0 (.string (ofL [116, 111, 115, 116, 114, 105, 110, 103])) fun t155 =>
                    condW t155 (
                      ixaW none 5 v1 (.int .i64 0) fun t157 =>
                      fldW 0 t157 fun t158 =>
                      ldW false 1 t158 w1 fun t159 =>
                      binW .eql t159 (.int .i64 2) fun t161 =>
                      GdW (isB t161 true) [undef] w1 (fun J66 =>
                        ixaW none 5 v1 (.int .i64 0) fun t164 =>
                        fldW 1 t164 fun t165 =>
                        ldW false 1 t165 w1 fun t166 =>
                        J66 [t166] w1)
                      fun s66 _ w67 =>
                      pickW t161 (s66.getD 0 undef) (.bool false) fun t167 =>
                      condW t167 (
                        callF Tryz.prog 15 [(.string (ofL [116, 114, 117, 101]))] w67 fun t168 w68 =>
                        stW 5 t4 t168 w68 fun w69 =>
                        ldW true 5 t4 w69 fun r70 =>
                        K (.tuple #[r70, (.bool true)]) w69) (
                        binW .eql t159 (.int .i64 2) fun t170 =>
                        condW t170 (
                          callF Tryz.prog 15 [(.string (ofL [102, 97, 108, 115, 101]))] w67 fun t171 w71 =>
                          stW 5 t4 t171 w71 fun w72 =>
                          ldW true 5 t4 w72 fun r73 =>
                          K (.tuple #[r73, (.bool true)]) w72) (
                          ixaW none 5 v1 (.int .i64 0) fun t173 =>
                          fldW 2 t173 fun t174 =>
                          ldW false 1 t174 w67 fun t175 =>
                          callF Tryz.prog 15 [t175] w67 fun t176 w74 =>
                          binW .eql t159 (.int .i64 3) fun t178 =>
                          GdW (isB t178 false) [undef] w74 (fun J75 =>
                            binW .eql t159 (.int .i64 4) fun t181 =>
                            J75 [t181] w74)
                          fun s75 _ w76 =>
                          pickW t178 (.bool true) (s75.getD 0 undef) fun t182 =>
                          stW 5 t4 t176 w76 fun w77 =>
                          ldW true 5 t4 w77 fun r78 =>
                          K (.tuple #[r78, t182]) w77))) (
                      callF Tryz.prog 82 [v0, v1] w1 fun t185 w79 =>
                      extW 0 t185 fun t186 =>
                      extW 1 t185 fun t187 =>
                      stW 5 t4 t186 w79 fun w80 =>
                      ldW true 5 t4 w80 fun r81 =>
                      K (.tuple #[r81, t187]) w80))))))))))
theorem W37_eq (v0 v1 : Value) (w : World) (K : Value → World → Prop) : funW Tryz.prog Tryz.f37 plan37 [v0, v1] w K = W37 v0 v1 w K := by kernel_rfl
theorem W37_chk : chkFun Tryz.prog Tryz.f37 plan37 2 = true := by kernel_rfl
theorem W37_ok {v0 v1 : Value} {w : World} {K : Value → World → Prop} (h : W37 v0 v1 w K) : callF Tryz.prog 37 [v0, v1] w K :=
  tie Tryz.prog 37 Tryz.f37 plan37 [v0, v1] w K 2 (W37 v0 v1 w K) rfl mixed Tryz.func37 W37_chk (W37_eq v0 v1 w K) Tryz.call37 h
def plan46 : Plan := { js := [], ds := [] }
def W46 (v0 : Value) (w : World) (K : Value → World → Prop) : Prop :=
  allocW 28 [(.int .i64 0), (.bool false), (.string (ofL [])), (.slice none 0 0), (.slice none 0 0)] w fun t2 w1 =>
  ixaW none 5 v0 (.int .i64 0) fun t5 =>
  fldW 2 t5 fun t6 =>
  ldW false 1 t6 w1 fun t7 =>
  callF Tryz.prog 47 [t7, (.string (ofL [45]))] w1 fun t8 w2 =>
  putW [(.int .i64 0), (.bool false), (.string (ofL [])), (.slice none 0 0), (.slice none 0 0)] [(0, 1, (.int .i64 3)), (2, 1, t8)] fun c3 =>
  stW 5 t2 (.agg c3.toArray) w2 fun w4 =>
  ldW true 5 t2 w4 fun r5 =>
  K (.tuple #[r5, (.bool true)]) w4
theorem W46_eq (v0 : Value) (w : World) (K : Value → World → Prop) : funW Tryz.prog Tryz.f46 plan46 [v0] w K = W46 v0 w K := by kernel_rfl
theorem W46_chk : chkFun Tryz.prog Tryz.f46 plan46 1 = true := by kernel_rfl
theorem W46_ok {v0 : Value} {w : World} {K : Value → World → Prop} (h : W46 v0 w K) : callF Tryz.prog 46 [v0] w K :=
  tie Tryz.prog 46 Tryz.f46 plan46 [v0] w K 1 (W46 v0 w K) rfl mixed Tryz.func46 W46_chk (W46_eq v0 w K) Tryz.call46 h
def plan48 : Plan := { js := [(8, ⟨[10], [6], 10⟩)], ds := [(19, ⟨[0, 1, 2, 4, 6], [[], [0], [], [2], [2, 3], [0, 1, 2, 3, 4], [0, 1, 2, 3, 4, 5], [0, 1, 2, 3, 4, 5, 6]]⟩)] }
def W48 (v0 : Value) (w : World) (K : Value → World → Prop) : Prop :=
  allocW 28 [(.int .i64 0), (.bool false), (.string (ofL [])), (.slice none 0 0), (.slice none 0 0)] w fun t2 w1 =>
  putW [(.int .i64 0), (.bool false), (.string (ofL [])), (.slice none 0 0), (.slice none 0 0)] [(0, 1, (.int .i64 5))] fun c2 =>
  allocW 28 [(.int .i64 0), (.bool false), (.string (ofL [])), (.slice none 0 0), (.slice none 0 0)] w1 fun t4 w3 =>
  stW 5 t4 (.agg c2.toArray) w3 fun w4 =>
  lenlW v0 fun t9 =>
  LoopW [(.int .i64 0)] w4 fun s5 _ w6 L5 =>
    binW .lss (s5.getD 0 undef) t9 fun t11 =>
    condW t11 (
      ixaW none 5 v0 (s5.getD 0 undef) fun t12 =>
      ldW true 5 t12 w6 fun t13 =>
      allocW 28 [(.int .i64 0), (.bool false), (.string (ofL [])), (.slice none 0 0), (.slice none 0 0)] w6 fun t6 w7 =>
      stW 5 t6 t13 w7 fun w8 =>
      fldW 3 t4 fun t14 =>
      ldW false 1 t14 w8.drew fun t15 =>
      ldW true 5 t6 w8.drew fun t16 =>
      callF Tryz.prog 90 [t16] w8.drew fun t17 w9 =>
      (ldW false 1 t14 w9 fun x => x = t15) ∧
      partW false 3 1 t17 fun t18 =>
      semE Tryz.prog (Builtin.append_ #[22, 22] 22 #[t15, t18]) w9 fun t19 w10 =>
      fldW 3 t4 fun t20 =>
      stW 1 t20 t19 w10 fun w11 =>
      binW .add (s5.getD 0 undef) (.int .i64 1) fun t21 =>
      L5 [t21] w11) (
      ldW true 5 t4 w6 fun t22 =>
      stW 5 t2 t22 w6 fun w12 =>
      ldW true 5 t2 w12 fun r13 =>
      K (.tuple #[r13, (.bool true)]) w12)
theorem W48_eq (v0 : Value) (w : World) (K : Value → World → Prop) : funW Tryz.prog Tryz.f48 plan48 [v0] w K = W48 v0 w K := by kernel_rfl
theorem W48_chk : chkFun Tryz.prog Tryz.f48 plan48 1 = true := by kernel_rfl
theorem W48_ok {v0 : Value} {w : World} {K : Value → World → Prop} (h : W48 v0 w K) : callF Tryz.prog 48 [v0] w K :=
  tie Tryz.prog 48 Tryz.f48 plan48 [v0] w K 1 (W48 v0 w K) rfl mixed Tryz.func48 W48_chk (W48_eq v0 w K) Tryz.call48 h
def plan49 : Plan := { js := [], ds := [] }
def W49 (v0 : Value) (w : World) (K : Value → World → Prop) : Prop :=
  boxW 22 v0 w fun t1 w1 =>
  allocW 28 [(.int .i64 0), (.bool false), (.string (ofL [])), (.slice none 0 0), (.slice none 0 0)] w1 fun t2 w2 =>
  ldW false 1 t1 w2 fun t4 =>
  ixaW none 5 t4 (.int .i64 0) fun t5 =>
  fldW 3 t5 fun t6 =>
  ldW false 1 t6 w2 fun t7 =>
  callF Tryz.prog 28 [t7, (.func (.func 92) #[] #[t1])] w2 fun t9 w3 =>
  callF Tryz.prog 91 [t9] w3 fun t10 w4 =>
  stW 5 t2 t10 w4 fun w5 =>
  ldW true 5 t2 w5 fun r6 =>
  K (.tuple #[r6, (.bool true)]) w5
theorem W49_eq (v0 : Value) (w : World) (K : Value → World → Prop) : funW Tryz.prog Tryz.f49 plan49 [v0] w K = W49 v0 w K := by kernel_rfl
theorem W49_chk : chkFun Tryz.prog Tryz.f49 plan49 1 = true := by kernel_rfl
theorem W49_ok {v0 : Value} {w : World} {K : Value → World → Prop} (h : W49 v0 w K) : callF Tryz.prog 49 [v0] w K :=
  tie Tryz.prog 49 Tryz.f49 plan49 [v0] w K 1 (W49 v0 w K) rfl mixed Tryz.func49 W49_chk (W49_eq v0 w K) Tryz.call49 h
def plan50 : Plan := { js := [(8, ⟨[4, 12], [3, 4, 6], 12⟩)], ds := [] }
def W50 (v0 : Value) (w : World) (K : Value → World → Prop) : Prop :=
  allocW 28 [(.int .i64 0), (.bool false), (.string (ofL [])), (.slice none 0 0), (.slice none 0 0)] w fun t2 w1 =>
  ixaW none 5 v0 (.int .i64 1) fun t8 =>
  fldW 3 t8 fun t9 =>
  ldW false 1 t9 w1 fun t10 =>
  lenlW t10 fun t11 =>
  LoopW [(.slice none 0 0), (.int .i64 0)] w1 fun s2 _ w3 L2 =>
    binW .lss (s2.getD 1 undef) t11 fun t13 =>
    condW t13 (
      ixaW none 5 t10 (s2.getD 1 undef) fun t14 =>
      ldW true 5 t14 w3 fun t15 =>
      allocW 28 [(.int .i64 0), (.bool false), (.string (ofL [])), (.slice none 0 0), (.slice none 0 0)] w3 fun t6 w4 =>
      stW 5 t6 t15 w4 fun w5 =>
      fldW 0 t6 fun t16 =>
      ldW false 1 t16 w5 fun t17 =>
      binW .neq t17 (.int .i64 4) fun t18 =>
      condW t18 (
        putW [(.int .i64 0), (.bool false), (.string (ofL [])), (.slice none 0 0), (.slice none 0 0)] [] fun c6 =>
        stW 5 t2 (.agg c6.toArray) w5 fun w7 =>
        ldW true 5 t2 w7 fun r8 =>
        K (.tuple #[r8, (.bool false)]) w7) (
        fldW 2 t6 fun t21 =>
        ldW false 1 t21 w5 fun t22 =>
        bslW 9 1 [(.string (ofL []))] [(0, 1, t22)] w5 fun t23 w9 =>
        semE Tryz.prog (Builtin.append_ #[26, 26] 26 #[(s2.getD 0 undef), t23]) w9 fun t24 w10 =>
        binW .add (s2.getD 1 undef) (.int .i64 1) fun t25 =>
        L2 [t24, t25] w10)) (
      ixaW none 5 v0 (.int .i64 0) fun t28 =>
      fldW 2 t28 fun t29 =>
      ldW false 1 t29 w3 fun t30 =>
      callF Tryz.prog 94 [(s2.getD 0 undef), t30] w3 fun t31 w11 =>
      callF Tryz.prog 56 [t31] w11 fun t32 w12 =>
      stW 5 t2 t32 w12 fun w13 =>
      ldW true 5 t2 w13 fun r14 =>
      K (.tuple #[r14, (.bool true)]) w13)
theorem W50_eq (v0 : Value) (w : World) (K : Value → World → Prop) : funW Tryz.prog Tryz.f50 plan50 [v0] w K = W50 v0 w K := by kernel_rfl
theorem W50_chk : chkFun Tryz.prog Tryz.f50 plan50 1 = true := by kernel_rfl
theorem W50_ok {v0 : Value} {w : World} {K : Value → World → Prop} (h : W50 v0 w K) : callF Tryz.prog 50 [v0] w K :=
  tie Tryz.prog 50 Tryz.f50 plan50 [v0] w K 1 (W50 v0 w K) rfl mixed Tryz.func50 W50_chk (W50_eq v0 w K) Tryz.call50 h
def plan51 : Plan := { js := [], ds := [] }
def W51 (v0 : Value) (w : World) (K : Value → World → Prop) : Prop :=
  allocW 28 [(.int .i64 0), (.bool false), (.string (ofL [])), (.slice none 0 0), (.slice none 0 0)] w fun t2 w1 =>
  ixaW none 5 v0 (.int .i64 0) fun t5 =>
  fldW 4 t5 fun t6 =>
  ldW false 1 t6 w1 fun t7 =>
  callF Tryz.prog 52 [t7] w1 fun t8 w2 =>
  stW 5 t2 t8 w2 fun w3 =>
  ldW true 5 t2 w3 fun r4 =>
  K (.tuple #[r4, (.bool true)]) w3
theorem W51_eq (v0 : Value) (w : World) (K : Value → World → Prop) : funW Tryz.prog Tryz.f51 plan51 [v0] w K = W51 v0 w K := by kernel_rfl
theorem W51_chk : chkFun Tryz.prog Tryz.f51 plan51 1 = true := by kernel_rfl
theorem W51_ok {v0 : Value} {w : World} {K : Value → World → Prop} (h : W51 v0 w K) : callF Tryz.prog 51 [v0] w K :=
  tie Tryz.prog 51 Tryz.f51 plan51 [v0] w K 1 (W51 v0 w K) rfl mixed Tryz.func51 W51_chk (W51_eq v0 w K) Tryz.call51 h
def plan52 : Plan := { js := [(8, ⟨[9], [5], 9⟩)], ds := [(19, ⟨[0, 1, 2, 6], [[], [0], [], [2], [2, 3], [0, 1, 2, 3, 4], [0, 1, 2, 3, 4, 5], [0, 1, 2, 3, 4, 5, 6]]⟩)] }
def W52 (v0 : Value) (w : World) (K : Value → World → Prop) : Prop :=
  allocW 28 [(.int .i64 0), (.bool false), (.string (ofL [])), (.slice none 0 0), (.slice none 0 0)] w fun t2 w1 =>
  putW [(.int .i64 0), (.bool false), (.string (ofL [])), (.slice none 0 0), (.slice none 0 0)] [(0, 1, (.int .i64 5))] fun c2 =>
  allocW 28 [(.int .i64 0), (.bool false), (.string (ofL [])), (.slice none 0 0), (.slice none 0 0)] w1 fun t3 w3 =>
  stW 5 t3 (.agg c2.toArray) w3 fun w4 =>
  lenlW v0 fun t8 =>
  LoopW [(.int .i64 0)] w4 fun s5 _ w6 L5 =>
    binW .lss (s5.getD 0 undef) t8 fun t10 =>
    condW t10 (
      ixaW none 1 v0 (s5.getD 0 undef) fun t11 =>
      ldW false 1 t11 w6 fun t12 =>
      fldW 3 t3 fun t13 =>
      ldW false 1 t13 w6.drew fun t14 =>
      callF Tryz.prog 56 [t12] w6.drew fun t16 w7 =>
      (ldW false 1 t13 w7 fun x => x = t14) ∧
      bslW 28 1 [(.int .i64 0), (.bool false), (.string (ofL [])), (.slice none 0 0), (.slice none 0 0)] [(0, 5, t16)] w7 fun t17 w8 =>
      (ldW false 1 t13 w8 fun x => x = t14) ∧
      semE Tryz.prog (Builtin.append_ #[22, 22] 22 #[t14, t17]) w8 fun t18 w9 =>
      fldW 3 t3 fun t19 =>
      stW 1 t19 t18 w9 fun w10 =>
      binW .add (s5.getD 0 undef) (.int .i64 1) fun t20 =>
      L5 [t20] w10) (
      ldW true 5 t3 w6 fun t21 =>
      stW 5 t2 t21 w6 fun w11 =>
      ldW true 5 t2 w11 fun r12 =>
      K r12 w11)
theorem W52_eq (v0 : Value) (w : World) (K : Value → World → Prop) : funW Tryz.prog Tryz.f52 plan52 [v0] w K = W52 v0 w K := by kernel_rfl
theorem W52_chk : chkFun Tryz.prog Tryz.f52 plan52 1 = true := by kernel_rfl
theorem W52_ok {v0 : Value} {w : World} {K : Value → World → Prop} (h : W52 v0 w K) : callF Tryz.prog 52 [v0] w K :=
  tie Tryz.prog 52 Tryz.f52 plan52 [v0] w K 1 (W52 v0 w K) rfl mixed Tryz.func52 W52_chk (W52_eq v0 w K) Tryz.call52 h
def plan53 : Plan := { js := [(12, ⟨[17], [], 3⟩)], ds := [] }
def W53 (v0 : Value) (w : World) (K : Value → World → Prop) : Prop :=
  allocW 28 [(.int .i64 0), (.bool false), (.string (ofL [])), (.slice none 0 0), (.slice none 0 0)] w fun t2 w1 =>
  ixaW none 5 v0 (.int .i64 0) fun t5 =>
  fldW 0 t5 fun t6 =>
  ldW false 1 t6 w1 fun t7 =>
  binW .eql t7 (.int .i64 4) fun t9 =>
  condW t9 (
    ixaW none 5 v0 (.int .i64 0) fun t11 =>
    fldW 2 t11 fun t12 =>
    ldW false 1 t12 w1 fun t13 =>
    callF Tryz.prog 96 [t13] w1 fun t14 w2 =>
    lenlW t14 fun t15 =>
    callF Tryz.prog 95 [t15] w2 fun t16 w3 =>
    stW 5 t2 t16 w3 fun w4 =>
    ldW true 5 t2 w4 fun r5 =>
    K (.tuple #[r5, (.bool true)]) w4) (
    JoinW (fun J6 =>
      binW .eql t7 (.int .i64 5) fun t18 =>
      condW t18 (
        J6 [t18] w1) (
        binW .eql t7 (.int .i64 6) fun t19 =>
        J6 [t19] w1))
    fun s6 _ w7 =>
    condW (s6.getD 0 undef) (
      ixaW none 5 v0 (.int .i64 0) fun t21 =>
      fldW 3 t21 fun t22 =>
      ldW false 1 t22 w7 fun t23 =>
      lenlW t23 fun t24 =>
      callF Tryz.prog 95 [t24] w7 fun t25 w8 =>
      stW 5 t2 t25 w8 fun w9 =>
      ldW true 5 t2 w9 fun r10 =>
      K (.tuple #[r10, (.bool true)]) w9) (
      putW [(.int .i64 0), (.bool false), (.string (ofL [])), (.slice none 0 0), (.slice none 0 0)] [] fun c11 =>
      stW 5 t2 (.agg c11.toArray) w7 fun w12 =>
      ldW true 5 t2 w12 fun r13 =>
      K (.tuple #[r13, (.bool false)]) w12))
theorem W53_eq (v0 : Value) (w : World) (K : Value → World → Prop) : funW Tryz.prog Tryz.f53 plan53 [v0] w K = W53 v0 w K := by kernel_rfl
theorem W53_chk : chkFun Tryz.prog Tryz.f53 plan53 1 = true := by kernel_rfl
theorem W53_ok {v0 : Value} {w : World} {K : Value → World → Prop} (h : W53 v0 w K) : callF Tryz.prog 53 [v0] w K :=
  tie Tryz.prog 53 Tryz.f53 plan53 [v0] w K 1 (W53 v0 w K) rfl mixed Tryz.func53 W53_chk (W53_eq v0 w K) Tryz.call53 h
def plan54 : Plan := { js := [(3, ⟨[4, 5], [], 3⟩)], ds := [(4, ⟨[0, 1, 2, 3, 4, 5, 6, 8, 9, 10, 13], [[], [0], [0, 1], [], [3], [3, 4], [3, 4, 5], [0, 1, 2, 3, 4, 5, 6], [0, 1, 2, 3, 4, 5, 6, 7], [0, 1, 2, 3, 4, 5, 6, 7, 8], [0, 1, 2, 3, 4, 5, 6, 7, 8], [], [0, 1, 2, 3, 4, 5, 6, 7, 8, 9, 11], [0, 1, 2, 3, 4, 5, 6, 7, 8, 9, 10, 11, 12]]⟩)] }
def W54 (v0 : Value) (w : World) (K : Value → World → Prop) : Prop :=
  allocW 28 [(.int .i64 0), (.bool false), (.string (ofL [])), (.slice none 0 0), (.slice none 0 0)] w fun t2 w1 =>
  JoinW (fun J2 =>
    ixaW none 5 v0 (.int .i64 0) fun t8 =>
    ldW true 5 t8 w1.drew fun t9 =>
    ixaW none 5 v0 (.int .i64 1) fun t11 =>
    fldW 2 t11 fun t12 =>
    ldW false 1 t12 w1.drew fun t13 =>
    (
     callF Tryz.prog 97 [t9, t13] w1.drew fun t14 w3 =>
     extW 0 t14 fun t15 =>
     extW 1 t14 fun t16 =>
     allocW 28 [(.int .i64 0), (.bool false), (.string (ofL [])), (.slice none 0 0), (.slice none 0 0)] w3 fun t4 w4 =>
     stW 5 t4 t15 w4 fun w5 =>
    J2 [t4, t16] w5) ∧
    (
     allocW 28 [(.int .i64 0), (.bool false), (.string (ofL [])), (.slice none 0 0), (.slice none 0 0)] w1.drew fun t4 w6 =>
     (ldW false 1 t12 w6 fun x => x = t13) ∧
     (ldW true 5 t8 w6 fun x => x = t9) ∧
     callF Tryz.prog 97 [t9, t13] w6 fun t14 w7 =>
     extW 0 t14 fun t15 =>
     extW 1 t14 fun t16 =>
     stW 5 t4 t15 w7 fun w8 =>
    J2 [t4, t16] w8))
  fun s2 _ w9 =>
  condW (s2.getD 1 undef) (
    ldW true 5 (s2.getD 0 undef) w9 fun t18 =>
    stW 5 t2 t18 w9 fun w10 =>
    ldW true 5 t2 w10 fun r11 =>
    K (.tuple #[r11, (.bool true)]) w10) (
    ixaW none 5 v0 (.int .i64 2) fun t20 =>
    ldW true 5 t20 w9 fun t21 =>
    callF Tryz.prog 90 [t21] w9 fun t22 w12 =>
    stW 5 t2 t22 w12 fun w13 =>
    ldW true 5 t2 w13 fun r14 =>
    K (.tuple #[r14, (.bool true)]) w13)
theorem W54_eq (v0 : Value) (w : World) (K : Value → World → Prop) : funW Tryz.prog Tryz.f54 plan54 [v0] w K = W54 v0 w K := by kernel_rfl
theorem W54_chk : chkFun Tryz.prog Tryz.f54 plan54 1 = true := by kernel_rfl
theorem W54_ok {v0 : Value} {w : World} {K : Value → World → Prop} (h : W54 v0 w K) : callF Tryz.prog 54 [v0] w K :=
  tie Tryz.prog 54 Tryz.f54 plan54 [v0] w K 1 (W54 v0 w K) rfl mixed Tryz.func54 W54_chk (W54_eq v0 w K) Tryz.call54 h
def plan55 : Plan := { js := [], ds := [] }
def W55 (v0 : Value) (w : World) (K : Value → World → Prop) : Prop :=
  allocW 28 [(.int .i64 0), (.bool false), (.string (ofL [])), (.slice none 0 0), (.slice none 0 0)] w fun t2 w1 =>
  ixaW none 5 v0 (.int .i64 0) fun t5 =>
  fldW 2 t5 fun t6 =>
  ldW false 1 t6 w1 fun t7 =>
  callF Tryz.prog 57 [t7, (.int .u8 65), (.int .u8 97)] w1 fun t8 w2 =>
  callF Tryz.prog 56 [t8] w2 fun t9 w3 =>
  stW 5 t2 t9 w3 fun w4 =>
  ldW true 5 t2 w4 fun r5 =>
  K (.tuple #[r5, (.bool true)]) w4
theorem W55_eq (v0 : Value) (w : World) (K : Value → World → Prop) : funW Tryz.prog Tryz.f55 plan55 [v0] w K = W55 v0 w K := by kernel_rfl
theorem W55_chk : chkFun Tryz.prog Tryz.f55 plan55 1 = true := by kernel_rfl
theorem W55_ok {v0 : Value} {w : World} {K : Value → World → Prop} (h : W55 v0 w K) : callF Tryz.prog 55 [v0] w K :=
  tie Tryz.prog 55 Tryz.f55 plan55 [v0] w K 1 (W55 v0 w K) rfl mixed Tryz.func55 W55_chk (W55_eq v0 w K) Tryz.call55 h
def plan57 : Plan := { js := [(15, ⟨[], [8, 9], 15⟩), (20005, ⟨[26], [], 23⟩), (8, ⟨[14], [8, 9], 14⟩)], ds := [] }
def W57 (v0 v1 v2 : Value) (w : World) (K : Value → World → Prop) : Prop :=
  semE Tryz.prog (convert 9 66 v0) w fun t11 w1 =>
  lenlW t11 fun t13 =>
  LoopW [(.int .i64 0)] w1 fun s2 _ w3 L2 =>
    binW .lss (s2.getD 0 undef) t13 fun t15 =>
    condW t15 (
      JoinW (fun J4 =>
        ixaW none 1 t11 (s2.getD 0 undef) fun t17 =>
        ldW false 1 t17 w3 fun t18 =>
        binW .geq t18 v1 fun t21 =>
        GdW (isB t21 true) [undef] w3 (fun J5 =>
          binW .add v1 (.int .u8 26) fun t25 =>
          binW .lss t18 t25 fun t26 =>
          J5 [t26] w3)
        fun s5 _ w6 =>
        pickW t21 (s5.getD 0 undef) (.bool false) fun t27 =>
        condW t27 (
          binW .sub t18 v1 fun t32 =>
          binW .add t32 v2 fun t34 =>
          ixaW none 1 t11 (s2.getD 0 undef) fun t35 =>
          stW 1 t35 t34 w6 fun w7 =>
          J4 [] w7) (
          J4 [] w6))
      fun s4 _ w8 =>
      binW .add (s2.getD 0 undef) (.int .i64 1) fun t36 =>
      L2 [t36] w8) (
      semQ Tryz.prog (convert 66 9 t11) w3 fun t38 =>
      K t38 w3)
theorem W57_eq (v0 v1 v2 : Value) (w : World) (K : Value → World → Prop) : funW Tryz.prog Tryz.f57 plan57 [v0, v1, v2] w K = W57 v0 v1 v2 w K := by kernel_rfl
theorem W57_chk : chkFun Tryz.prog Tryz.f57 plan57 3 = true := by kernel_rfl
theorem W57_ok {v0 v1 v2 : Value} {w : World} {K : Value → World → Prop} (h : W57 v0 v1 v2 w K) : callF Tryz.prog 57 [v0, v1, v2] w K :=
  tie Tryz.prog 57 Tryz.f57 plan57 [v0, v1, v2] w K 3 (W57 v0 v1 v2 w K) rfl mixed Tryz.func57 W57_chk (W57_eq v0 v1 v2 w K) Tryz.call57 h
def plan58 : Plan := { js := [], ds := [] }
def W58 (v0 : Value) (w : World) (K : Value → World → Prop) : Prop :=
  allocW 28 [(.int .i64 0), (.bool false), (.string (ofL [])), (.slice none 0 0), (.slice none 0 0)] w fun t2 w1 =>
  callF Tryz.prog 59 [v0, (.int .i64 1)] w1 fun t5 w2 =>
  extW 0 t5 fun t6 =>
  extW 1 t5 fun t7 =>
  stW 5 t2 t6 w2 fun w3 =>
  ldW true 5 t2 w3 fun r4 =>
  K (.tuple #[r4, t7]) w3
theorem W58_eq (v0 : Value) (w : World) (K : Value → World → Prop) : funW Tryz.prog Tryz.f58 plan58 [v0] w K = W58 v0 w K := by kernel_rfl
theorem W58_chk : chkFun Tryz.prog Tryz.f58 plan58 1 = true := by kernel_rfl
theorem W58_ok {v0 : Value} {w : World} {K : Value → World → Prop} (h : W58 v0 w K) : callF Tryz.prog 58 [v0] w K :=
  tie Tryz.prog 58 Tryz.f58 plan58 [v0] w K 1 (W58 v0 w K) rfl mixed Tryz.func58 W58_chk (W58_eq v0 w K) Tryz.call58 h
def plan59 : Plan := { js := [(15, ⟨[], [8], 15⟩), (8, ⟨[14], [8], 14⟩)], ds := [] }
def W59 (v0 v1 : Value) (w : World) (K : Value → World → Prop) : Prop :=
  allocW 28 [(.int .i64 0), (.bool false), (.string (ofL [])), (.slice none 0 0), (.slice none 0 0)] w fun t4 w1 =>
  ixaW none 5 v0 (.int .i64 0) fun t10 =>
  ldW true 5 t10 w1 fun t11 =>
  allocW 28 [(.int .i64 0), (.bool false), (.string (ofL [])), (.slice none 0 0), (.slice none 0 0)] w1 fun t6 w2 =>
  stW 5 t6 t11 w2 fun w3 =>
  lenlW v0 fun t13 =>
  LoopW [(.int .i64 0)] w3 fun s4 _ w5 L4 =>
    binW .lss (s4.getD 0 undef) t13 fun t15 =>
    condW t15 (
      JoinW (fun J6 =>
        ixaW none 5 v0 (s4.getD 0 undef) fun t16 =>
        ldW true 5 t16 w5 fun t17 =>
        allocW 28 [(.int .i64 0), (.bool false), (.string (ofL [])), (.slice none 0 0), (.slice none 0 0)] w5 fun t8 w7 =>
        stW 5 t8 t17 w7 fun w8 =>
        fldW 2 t8 fun t18 =>
        ldW false 1 t18 w8 fun t19 =>
        fldW 2 t6 fun t20 =>
        ldW false 1 t20 w8 fun t21 =>
        callF Tryz.prog 98 [t19, t21] w8 fun t22 w9 =>
        binW .mul t22 v1 fun t24 =>
        binW .gtr t24 (.int .i64 0) fun t25 =>
        condW t25 (
          ldW true 5 t8 w9 fun t26 =>
          stW 5 t6 t26 w9 fun w10 =>
          J6 [] w10) (
          J6 [] w9))
      fun s6 _ w11 =>
      binW .add (s4.getD 0 undef) (.int .i64 1) fun t27 =>
      L4 [t27] w11) (
      ldW true 5 t6 w5 fun t28 =>
      stW 5 t4 t28 w5 fun w12 =>
      ldW true 5 t4 w12 fun r13 =>
      K (.tuple #[r13, (.bool true)]) w12)
theorem W59_eq (v0 v1 : Value) (w : World) (K : Value → World → Prop) : funW Tryz.prog Tryz.f59 plan59 [v0, v1] w K = W59 v0 v1 w K := by kernel_rfl
theorem W59_chk : chkFun Tryz.prog Tryz.f59 plan59 2 = true := by kernel_rfl
theorem W59_ok {v0 v1 : Value} {w : World} {K : Value → World → Prop} (h : W59 v0 v1 w K) : callF Tryz.prog 59 [v0, v1] w K :=
  tie Tryz.prog 59 Tryz.f59 plan59 [v0, v1] w K 2 (W59 v0 v1 w K) rfl mixed Tryz.func59 W59_chk (W59_eq v0 v1 w K) Tryz.call59 h
def plan60 : Plan := { js := [(22, ⟨[19], [7, 8], 19⟩), (8, ⟨[12], [6, 7, 8], 12⟩)], ds := [(33, ⟨[0, 1, 2, 3, 4, 5, 6], [[], [], [], [2], [], [2, 3, 4], [2, 3, 4, 5], [0, 1, 2, 3, 4, 5, 6], [0, 1, 2, 3, 4, 5, 6, 7]]⟩)] }
def W60 (v0 : Value) (w : World) (K : Value → World → Prop) : Prop :=
  allocW 28 [(.int .i64 0), (.bool false), (.string (ofL [])), (.slice none 0 0), (.slice none 0 0)] w fun t2 w1 =>
  putW [(.int .i64 0), (.bool false), (.string (ofL [])), (.slice none 0 0), (.slice none 0 0)] [(0, 1, (.int .i64 6))] fun c2 =>
  allocW 28 [(.int .i64 0), (.bool false), (.string (ofL [])), (.slice none 0 0), (.slice none 0 0)] w1 fun t4 w3 =>
  stW 5 t4 (.agg c2.toArray) w3 fun w4 =>
  lenlW v0 fun t11 =>
  LoopW [(.int .i64 0)] w4 fun s5 _ w6 L5 =>
    binW .lss (s5.getD 0 undef) t11 fun t13 =>
    condW t13 (
      ixaW none 5 v0 (s5.getD 0 undef) fun t14 =>
      ldW true 5 t14 w6 fun t15 =>
      allocW 28 [(.int .i64 0), (.bool false), (.string (ofL [])), (.slice none 0 0), (.slice none 0 0)] w6 fun t6 w7 =>
      stW 5 t6 t15 w7 fun w8 =>
      fldW 4 t6 fun t16 =>
      ldW false 1 t16 w8 fun t17 =>
      lenlW t17 fun t18 =>
      LoopW [(.int .i64 0)] w8 fun s9 _ w10 L9 =>
        binW .lss (s9.getD 0 undef) t18 fun t20 =>
        condW t20 (
          ixaW none 1 t17 (s9.getD 0 undef) fun t22 =>
          ldW false 1 t22 w10 fun t23 =>
          ldW true 5 t4 w10.drew fun t24 =>
          fldW 3 t6 fun t26 =>
          ldW false 1 t26 w10.drew fun t27 =>
          ixaW none 5 t27 (s9.getD 0 undef) fun t29 =>
          ldW true 5 t29 w10.drew fun t30 =>
          callF Tryz.prog 99 [t24, t23, t30] w10.drew fun t31 w11 =>
          stW 5 t4 t31 w11 fun w12 =>
          binW .add (s9.getD 0 undef) (.int .i64 1) fun t32 =>
          L9 [t32] w12) (
          binW .add (s5.getD 0 undef) (.int .i64 1) fun t33 =>
          L5 [t33] w10)) (
      ldW true 5 t4 w6 fun t34 =>
      stW 5 t2 t34 w6 fun w13 =>
      ldW true 5 t2 w13 fun r14 =>
      K (.tuple #[r14, (.bool true)]) w13)
theorem W60_eq (v0 : Value) (w : World) (K : Value → World → Prop) : funW Tryz.prog Tryz.f60 plan60 [v0] w K = W60 v0 w K := by kernel_rfl
theorem W60_chk : chkFun Tryz.prog Tryz.f60 plan60 1 = true := by kernel_rfl
theorem W60_ok {v0 : Value} {w : World} {K : Value → World → Prop} (h : W60 v0 w K) : callF Tryz.prog 60 [v0] w K :=
  tie Tryz.prog 60 Tryz.f60 plan60 [v0] w K 1 (W60 v0 w K) rfl mixed Tryz.func60 W60_chk (W60_eq v0 w K) Tryz.call60 h
def plan61 : Plan := { js := [], ds := [] }
def W61 (v0 : Value) (w : World) (K : Value → World → Prop) : Prop :=
  allocW 28 [(.int .i64 0), (.bool false), (.string (ofL [])), (.slice none 0 0), (.slice none 0 0)] w fun t2 w1 =>
  callF Tryz.prog 59 [v0, (.int .i64 (-1))] w1 fun t5 w2 =>
  extW 0 t5 fun t6 =>
  extW 1 t5 fun t7 =>
  stW 5 t2 t6 w2 fun w3 =>
  ldW true 5 t2 w3 fun r4 =>
  K (.tuple #[r4, t7]) w3
theorem W61_eq (v0 : Value) (w : World) (K : Value → World → Prop) : funW Tryz.prog Tryz.f61 plan61 [v0] w K = W61 v0 w K := by kernel_rfl
theorem W61_chk : chkFun Tryz.prog Tryz.f61 plan61 1 = true := by kernel_rfl
theorem W61_ok {v0 : Value} {w : World} {K : Value → World → Prop} (h : W61 v0 w K) : callF Tryz.prog 61 [v0] w K :=
  tie Tryz.prog 61 Tryz.f61 plan61 [v0] w K 1 (W61 v0 w K) rfl mixed Tryz.func61 W61_chk (W61_eq v0 w K) Tryz.call61 h
def plan62 : Plan := { js := [(18, ⟨[29], [7], 29⟩), (6003, ⟨[24], [], 23⟩), (6007, ⟨[20], [], 19⟩)], ds := [(29, ⟨[0, 1, 2, 6], [[], [0], [], [2], [2, 3], [0, 1, 2, 3, 4], [0, 1, 2, 3, 4, 5], [0, 1, 2, 3, 4, 5, 6]]⟩)] }
def W62 (v0 : Value) (w : World) (K : Value → World → Prop) : Prop :=
  allocW 28 [(.int .i64 0), (.bool false), (.string (ofL [])), (.slice none 0 0), (.slice none 0 0)] w fun t2 w1 =>
  ixaW none 5 v0 (.int .i64 0) fun t10 =>
  fldW 2 t10 fun t11 =>
  ldW false 1 t11 w1 fun t12 =>
  callF Tryz.prog 100 [t12] w1 fun t13 w2 =>
  extW 0 t13 fun t14 =>
  extW 1 t13 fun t15 =>
  unW .not t15 fun t17 =>
  GdW (isB t17 false) [undef] w2 (fun J3 =>
    binW .lss t14 (.int .i64 0) fun t20 =>
    J3 [t20] w2)
  fun s3 _ w4 =>
  pickW t17 (.bool true) (s3.getD 0 undef) fun t21 =>
  GdW (isB t21 false) [undef] w4 (fun J5 =>
    binW .gtr t14 (.int .i64 32) fun t24 =>
    J5 [t24] w4)
  fun s5 _ w6 =>
  pickW t21 (.bool true) (s5.getD 0 undef) fun t25 =>
  condW t25 (
    putW [(.int .i64 0), (.bool false), (.string (ofL [])), (.slice none 0 0), (.slice none 0 0)] [] fun c7 =>
    stW 5 t2 (.agg c7.toArray) w6 fun w8 =>
    ldW true 5 t2 w8 fun r9 =>
    K (.tuple #[r9, (.bool false)]) w8) (
    putW [(.int .i64 0), (.bool false), (.string (ofL [])), (.slice none 0 0), (.slice none 0 0)] [(0, 1, (.int .i64 5))] fun c10 =>
    allocW 28 [(.int .i64 0), (.bool false), (.string (ofL [])), (.slice none 0 0), (.slice none 0 0)] w6 fun t6 w11 =>
    stW 5 t6 (.agg c10.toArray) w11 fun w12 =>
    LoopW [(.int .i64 0)] w12 fun s13 _ w14 L13 =>
      binW .lss (s13.getD 0 undef) t14 fun t30 =>
      condW t30 (
        fldW 3 t6 fun t32 =>
        ldW false 1 t32 w14.drew fun t33 =>
        callF Tryz.prog 95 [(s13.getD 0 undef)] w14.drew fun t35 w15 =>
        (ldW false 1 t32 w15 fun x => x = t33) ∧
        bslW 28 1 [(.int .i64 0), (.bool false), (.string (ofL [])), (.slice none 0 0), (.slice none 0 0)] [(0, 5, t35)] w15 fun t36 w16 =>
        (ldW false 1 t32 w16 fun x => x = t33) ∧
        semE Tryz.prog (Builtin.append_ #[22, 22] 22 #[t33, t36]) w16 fun t37 w17 =>
        fldW 3 t6 fun t38 =>
        stW 1 t38 t37 w17 fun w18 =>
        binW .add (s13.getD 0 undef) (.int .i64 1) fun t39 =>
        L13 [t39] w18) (
        ldW true 5 t6 w14 fun t40 =>
        stW 5 t2 t40 w14 fun w19 =>
        ldW true 5 t2 w19 fun r20 =>
        K (.tuple #[r20, (.bool true)]) w19))
theorem W62_eq (v0 : Value) (w : World) (K : Value → World → Prop) : funW Tryz.prog Tryz.f62 plan62 [v0] w K = W62 v0 w K := by kernel_rfl
theorem W62_chk : chkFun Tryz.prog Tryz.f62 plan62 1 = true := by kernel_rfl
theorem W62_ok {v0 : Value} {w : World} {K : Value → World → Prop} (h : W62 v0 w K) : callF Tryz.prog 62 [v0] w K :=
  tie Tryz.prog 62 Tryz.f62 plan62 [v0] w K 1 (W62 v0 w K) rfl mixed Tryz.func62 W62_chk (W62_eq v0 w K) Tryz.call62 h
def plan63 : Plan := { js := [], ds := [] }
def W63 (v0 : Value) (w : World) (K : Value → World → Prop) : Prop :=
  allocW 28 [(.int .i64 0), (.bool false), (.string (ofL [])), (.slice none 0 0), (.slice none 0 0)] w fun t2 w1 =>
  ixaW none 5 v0 (.int .i64 0) fun t7 =>
  ldW true 5 t7 w1 fun t8 =>
  callF Tryz.prog 90 [t8] w1 fun t9 w2 =>
  allocW 28 [(.int .i64 0), (.bool false), (.string (ofL [])), (.slice none 0 0), (.slice none 0 0)] w2 fun t4 w3 =>
  stW 5 t4 t9 w3 fun w4 =>
  fldW 0 t4 fun t10 =>
  ldW false 1 t10 w4 fun t11 =>
  binW .eql t11 (.int .i64 4) fun t13 =>
  condW t13 (
    fldW 2 t4 fun t14 =>
    ldW false 1 t14 w4 fun t15 =>
    callF Tryz.prog 96 [t15] w4 fun t16 w5 =>
    callF Tryz.prog 101 [t16] w5 fun t18 w6 =>
    callF Tryz.prog 94 [t16, (.string (ofL []))] w6 fun t20 w7 =>
    callF Tryz.prog 56 [t20] w7 fun t21 w8 =>
    stW 5 t2 t21 w8 fun w9 =>
    ldW true 5 t2 w9 fun r10 =>
    K (.tuple #[r10, (.bool true)]) w9) (
    binW .eql t11 (.int .i64 5) fun t23 =>
    condW t23 (
      fldW 3 t4 fun t24 =>
      ldW false 1 t24 w4 fun t25 =>
      callF Tryz.prog 102 [t25] w4 fun t26 w11 =>
      ldW true 5 t4 w11 fun t27 =>
      stW 5 t2 t27 w11 fun w12 =>
      ldW true 5 t2 w12 fun r13 =>
      K (.tuple #[r13, (.bool true)]) w12) (
      putW [(.int .i64 0), (.bool false), (.string (ofL [])), (.slice none 0 0), (.slice none 0 0)] [] fun c14 =>
      stW 5 t2 (.agg c14.toArray) w4 fun w15 =>
      ldW true 5 t2 w15 fun r16 =>
      K (.tuple #[r16, (.bool false)]) w15))
theorem W63_eq (v0 : Value) (w : World) (K : Value → World → Prop) : funW Tryz.prog Tryz.f63 plan63 [v0] w K = W63 v0 w K := by kernel_rfl
theorem W63_chk : chkFun Tryz.prog Tryz.f63 plan63 1 = true := by kernel_rfl
theorem W63_ok {v0 : Value} {w : World} {K : Value → World → Prop} (h : W63 v0 w K) : callF Tryz.prog 63 [v0] w K :=
  tie Tryz.prog 63 Tryz.f63 plan63 [v0] w K 1 (W63 v0 w K) rfl mixed Tryz.func63 W63_chk (W63_eq v0 w K) Tryz.call63 h
def plan64 : Plan := { js := [], ds := [(11, ⟨[0, 1, 2, 3, 4, 5, 6, 7, 11], [[], [0], [0, 1], [0, 1, 2], [], [4], [4, 5], [4, 5, 6], [0, 1, 2, 3, 4, 5, 6, 7], [0, 1, 2, 3, 4, 5, 6, 7, 8], [0, 1, 2, 3, 4, 5, 6, 7, 8, 9], [0, 1, 2, 3, 4, 5, 6, 7, 8, 9, 10]]⟩)] }
def W64 (v0 : Value) (w : World) (K : Value → World → Prop) : Prop :=
  allocW 28 [(.int .i64 0), (.bool false), (.string (ofL [])), (.slice none 0 0), (.slice none 0 0)] w fun t2 w1 =>
  ixaW none 5 v0 (.int .i64 0) fun t5 =>
  fldW 2 t5 fun t6 =>
  ldW false 1 t6 w1 fun t7 =>
  binW .eql t7 (.string (ofL [])) fun t8 =>
  condW t8 (
    putW [(.int .i64 0), (.bool false), (.string (ofL [])), (.slice none 0 0), (.slice none 0 0)] [] fun c2 =>
    stW 5 t2 (.agg c2.toArray) w1 fun w3 =>
    ldW true 5 t2 w3 fun r4 =>
    K (.tuple #[r4, (.bool false)]) w3) (
    ixaW none 5 v0 (.int .i64 1) fun t11 =>
    fldW 2 t11 fun t12 =>
    ldW false 1 t12 w1.drew fun t13 =>
    ixaW none 5 v0 (.int .i64 0) fun t15 =>
    fldW 2 t15 fun t16 =>
    ldW false 1 t16 w1.drew fun t17 =>
    callF Tryz.prog 103 [t13, t17] w1.drew fun t18 w5 =>
    callF Tryz.prog 52 [t18] w5 fun t19 w6 =>
    stW 5 t2 t19 w6 fun w7 =>
    ldW true 5 t2 w7 fun r8 =>
    K (.tuple #[r8, (.bool true)]) w7)
theorem W64_eq (v0 : Value) (w : World) (K : Value → World → Prop) : funW Tryz.prog Tryz.f64 plan64 [v0] w K = W64 v0 w K := by kernel_rfl
theorem W64_chk : chkFun Tryz.prog Tryz.f64 plan64 1 = true := by kernel_rfl
theorem W64_ok {v0 : Value} {w : World} {K : Value → World → Prop} (h : W64 v0 w K) : callF Tryz.prog 64 [v0] w K :=
  tie Tryz.prog 64 Tryz.f64 plan64 [v0] w K 1 (W64 v0 w K) rfl mixed Tryz.func64 W64_chk (W64_eq v0 w K) Tryz.call64 h
def plan65 : Plan := { js := [(22, ⟨[6], [], 6⟩), (14, ⟨[5], [5], 7⟩), (6007, ⟨[28], [], 23⟩)], ds := [] }
def W65 (v0 : Value) (w : World) (K : Value → World → Prop) : Prop :=
  allocW 28 [(.int .i64 0), (.bool false), (.string (ofL [])), (.slice none 0 0), (.slice none 0 0)] w fun t2 w1 =>
  ixaW none 5 v0 (.int .i64 0) fun t12 =>
  fldW 2 t12 fun t13 =>
  ldW false 1 t13 w1 fun t14 =>
  callF Tryz.prog 96 [t14] w1 fun t15 w2 =>
  ixaW none 5 v0 (.int .i64 1) fun t17 =>
  fldW 2 t17 fun t18 =>
  ldW false 1 t18 w2 fun t19 =>
  ixsW t19 (.int .i64 0) fun t20 =>
  binW .eql t20 (.int .u8 45) fun t21 =>
  GdW (isB t21 false) [undef] w2 (fun J3 =>
    ixaW none 5 v0 (.int .i64 2) fun t24 =>
    fldW 2 t24 fun t25 =>
    ldW false 1 t25 w2 fun t26 =>
    ixsW t26 (.int .i64 0) fun t27 =>
    binW .eql t27 (.int .u8 45) fun t28 =>
    J3 [t28] w2)
  fun s3 _ w4 =>
  pickW t21 (.bool true) (s3.getD 0 undef) fun t29 =>
  condW t29 (
    putW [(.int .i64 0), (.bool false), (.string (ofL [])), (.slice none 0 0), (.slice none 0 0)] [] fun c5 =>
    stW 5 t2 (.agg c5.toArray) w4 fun w6 =>
    ldW true 5 t2 w6 fun r7 =>
    K (.tuple #[r7, (.bool false)]) w6) (
    lenlW t15 fun t32 =>
    lenlW t15 fun t34 =>
    JoinW (fun J8 =>
      ixaW none 5 v0 (.int .i64 1) fun t37 =>
      fldW 2 t37 fun t38 =>
      ldW false 1 t38 w4 fun t39 =>
      callF Tryz.prog 100 [t39] w4 fun t40 w9 =>
      extW 0 t40 fun t41 =>
      extW 1 t40 fun t42 =>
      condW t42 (
        lenlW t15 fun t46 =>
        minW t41 t46 fun t47 =>
        J8 [t47] w9) (
        J8 [t32] w9))
    fun s8 _ w10 =>
    JoinW (fun J11 =>
      ixaW none 5 v0 (.int .i64 2) fun t50 =>
      fldW 2 t50 fun t51 =>
      ldW false 1 t51 w10 fun t52 =>
      callF Tryz.prog 100 [t52] w10 fun t53 w12 =>
      extW 0 t53 fun t54 =>
      extW 1 t53 fun t55 =>
      condW t55 (
        J11 [t54] w12) (
        J11 [t34] w12))
    fun s11 _ w13 =>
    sllW 1 t15 (some (s8.getD 0 undef)) none none fun t60 =>
    lenlW t15 fun t63 =>
    binW .sub t63 (s8.getD 0 undef) fun t65 =>
    minW (s11.getD 0 undef) t65 fun t66 =>
    sllW 1 t60 none (some t66) none fun t67 =>
    callF Tryz.prog 94 [t67, (.string (ofL []))] w13 fun t68 w14 =>
    callF Tryz.prog 56 [t68] w14 fun t69 w15 =>
    stW 5 t2 t69 w15 fun w16 =>
    ldW true 5 t2 w16 fun r17 =>
    K (.tuple #[r17, (.bool true)]) w16)
theorem W65_eq (v0 : Value) (w : World) (K : Value → World → Prop) : funW Tryz.prog Tryz.f65 plan65 [v0] w K = W65 v0 w K := by kernel_rfl
theorem W65_chk : chkFun Tryz.prog Tryz.f65 plan65 1 = true := by kernel_rfl
theorem W65_ok {v0 : Value} {w : World} {K : Value → World → Prop} (h : W65 v0 w K) : callF Tryz.prog 65 [v0] w K :=
  tie Tryz.prog 65 Tryz.f65 plan65 [v0] w K 1 (W65 v0 w K) rfl mixed Tryz.func65 W65_chk (W65_eq v0 w K) Tryz.call65 h
def plan66 : Plan := { js := [(6007, ⟨[21], [], 16⟩), (6011, ⟨[13], [], 12⟩)], ds := [] }
def W66 (v0 : Value) (w : World) (K : Value → World → Prop) : Prop :=
  allocW 28 [(.int .i64 0), (.bool false), (.string (ofL [])), (.slice none 0 0), (.slice none 0 0)] w fun t2 w1 =>
  ixaW none 5 v0 (.int .i64 0) fun t6 =>
  fldW 0 t6 fun t7 =>
  ldW false 1 t7 w1 fun t8 =>
  binW .neq t8 (.int .i64 4) fun t10 =>
  GdW (isB t10 true) [undef] w1 (fun J2 =>
    binW .neq t8 (.int .i64 3) fun t13 =>
    J2 [t13] w1)
  fun s2 _ w3 =>
  pickW t10 (s2.getD 0 undef) (.bool false) fun t14 =>
  GdW (isB t14 false) [undef] w3 (fun J4 =>
    ixaW none 5 v0 (.int .i64 0) fun t17 =>
    fldW 2 t17 fun t18 =>
    ldW false 1 t18 w3 fun t19 =>
    callF Tryz.prog 87 [t19] w3 fun t20 w5 =>
    unW .not t20 fun t21 =>
    J4 [t21] w5)
  fun s4 _ w6 =>
  pickW t14 (.bool true) (s4.getD 0 undef) fun t22 =>
  condW t22 (
    putW [(.int .i64 0), (.bool false), (.string (ofL [])), (.slice none 0 0), (.slice none 0 0)] [] fun c7 =>
    stW 5 t2 (.agg c7.toArray) w6 fun w8 =>
    ldW true 5 t2 w8 fun r9 =>
    K (.tuple #[r9, (.bool false)]) w8) (
    ixaW none 5 v0 (.int .i64 0) fun t25 =>
    fldW 2 t25 fun t26 =>
    ldW false 1 t26 w6 fun t27 =>
    putW [(.int .i64 0), (.bool false), (.string (ofL [])), (.slice none 0 0), (.slice none 0 0)] [(0, 1, (.int .i64 3)), (2, 1, t27)] fun c10 =>
    stW 5 t2 (.agg c10.toArray) w6 fun w11 =>
    ldW true 5 t2 w11 fun r12 =>
    K (.tuple #[r12, (.bool true)]) w11)
theorem W66_eq (v0 : Value) (w : World) (K : Value → World → Prop) : funW Tryz.prog Tryz.f66 plan66 [v0] w K = W66 v0 w K := by kernel_rfl
theorem W66_chk : chkFun Tryz.prog Tryz.f66 plan66 1 = true := by kernel_rfl
theorem W66_ok {v0 : Value} {w : World} {K : Value → World → Prop} (h : W66 v0 w K) : callF Tryz.prog 66 [v0] w K :=
  tie Tryz.prog 66 Tryz.f66 plan66 [v0] w K 1 (W66 v0 w K) rfl mixed Tryz.func66 W66_chk (W66_eq v0 w K) Tryz.call66 h
def plan67 : Plan := { js := [(20, ⟨[16], [], 3⟩)], ds := [] }
def W67 (v0 : Value) (w : World) (K : Value → World → Prop) : Prop :=
  allocW 28 [(.int .i64 0), (.bool false), (.string (ofL [])), (.slice none 0 0), (.slice none 0 0)] w fun t2 w1 =>
  ixaW none 5 v0 (.int .i64 0) fun t5 =>
  fldW 0 t5 fun t6 =>
  ldW false 1 t6 w1 fun t7 =>
  binW .eql t7 (.int .i64 2) fun t9 =>
  condW t9 (
    ixaW none 5 v0 (.int .i64 0) fun t11 =>
    fldW 1 t11 fun t12 =>
    ldW false 1 t12 w1 fun t13 =>
    condW t13 (
      callF Tryz.prog 56 [(.string (ofL [116, 114, 117, 101]))] w1 fun t14 w2 =>
      stW 5 t2 t14 w2 fun w3 =>
      ldW true 5 t2 w3 fun r4 =>
      K (.tuple #[r4, (.bool true)]) w3) (
      callF Tryz.prog 56 [(.string (ofL [102, 97, 108, 115, 101]))] w1 fun t15 w5 =>
      stW 5 t2 t15 w5 fun w6 =>
      ldW true 5 t2 w6 fun r7 =>
      K (.tuple #[r7, (.bool true)]) w6)) (
    JoinW (fun J8 =>
      binW .eql t7 (.int .i64 3) fun t17 =>
      condW t17 (
        J8 [t17] w1) (
        binW .eql t7 (.int .i64 4) fun t18 =>
        J8 [t18] w1))
    fun s8 _ w9 =>
    condW (s8.getD 0 undef) (
      ixaW none 5 v0 (.int .i64 0) fun t20 =>
      fldW 2 t20 fun t21 =>
      ldW false 1 t21 w9 fun t22 =>
      callF Tryz.prog 56 [t22] w9 fun t23 w10 =>
      stW 5 t2 t23 w10 fun w11 =>
      ldW true 5 t2 w11 fun r12 =>
      K (.tuple #[r12, (.bool true)]) w11) (
      putW [(.int .i64 0), (.bool false), (.string (ofL [])), (.slice none 0 0), (.slice none 0 0)] [] fun c13 =>
      stW 5 t2 (.agg c13.toArray) w9 fun w14 =>
      ldW true 5 t2 w14 fun r15 =>
      K (.tuple #[r15, (.bool false)]) w14))
theorem W67_eq (v0 : Value) (w : World) (K : Value → World → Prop) : funW Tryz.prog Tryz.f67 plan67 [v0] w K = W67 v0 w K := by kernel_rfl
theorem W67_chk : chkFun Tryz.prog Tryz.f67 plan67 1 = true := by kernel_rfl
theorem W67_ok {v0 : Value} {w : World} {K : Value → World → Prop} (h : W67 v0 w K) : callF Tryz.prog 67 [v0] w K :=
  tie Tryz.prog 67 Tryz.f67 plan67 [v0] w K 1 (W67 v0 w K) rfl mixed Tryz.func67 W67_chk (W67_eq v0 w K) Tryz.call67 h
def plan68 : Plan := { js := [], ds := [] }
def W68 (v0 : Value) (w : World) (K : Value → World → Prop) : Prop :=
  allocW 28 [(.int .i64 0), (.bool false), (.string (ofL [])), (.slice none 0 0), (.slice none 0 0)] w fun t2 w1 =>
  ixaW none 5 v0 (.int .i64 0) fun t5 =>
  fldW 2 t5 fun t6 =>
  ldW false 1 t6 w1 fun t7 =>
  callF Tryz.prog 57 [t7, (.int .u8 97), (.int .u8 65)] w1 fun t8 w2 =>
  callF Tryz.prog 56 [t8] w2 fun t9 w3 =>
  stW 5 t2 t9 w3 fun w4 =>
  ldW true 5 t2 w4 fun r5 =>
  K (.tuple #[r5, (.bool true)]) w4
theorem W68_eq (v0 : Value) (w : World) (K : Value → World → Prop) : funW Tryz.prog Tryz.f68 plan68 [v0] w K = W68 v0 w K := by kernel_rfl
theorem W68_chk : chkFun Tryz.prog Tryz.f68 plan68 1 = true := by kernel_rfl
theorem W68_ok {v0 : Value} {w : World} {K : Value → World → Prop} (h : W68 v0 w K) : callF Tryz.prog 68 [v0] w K :=
  tie Tryz.prog 68 Tryz.f68 plan68 [v0] w K 1 (W68 v0 w K) rfl mixed Tryz.func68 W68_chk (W68_eq v0 w K) Tryz.call68 h
def plan69 : Plan := { js := [], ds := [] }
def W69 (v0 : Value) (w : World) (K : Value → World → Prop) : Prop :=
  allocW 28 [(.int .i64 0), (.bool false), (.string (ofL [])), (.slice none 0 0), (.slice none 0 0)] w fun t2 w1 =>
  ixaW none 5 v0 (.int .i64 0) fun t5 =>
  fldW 3 t5 fun t6 =>
  ldW false 1 t6 w1 fun t7 =>
  callF Tryz.prog 70 [t7] w1 fun t8 w2 =>
  stW 5 t2 t8 w2 fun w3 =>
  ldW true 5 t2 w3 fun r4 =>
  K (.tuple #[r4, (.bool true)]) w3
theorem W69_eq (v0 : Value) (w : World) (K : Value → World → Prop) : funW Tryz.prog Tryz.f69 plan69 [v0] w K = W69 v0 w K := by kernel_rfl
theorem W69_chk : chkFun Tryz.prog Tryz.f69 plan69 1 = true := by kernel_rfl
theorem W69_ok {v0 : Value} {w : World} {K : Value → World → Prop} (h : W69 v0 w K) : callF Tryz.prog 69 [v0] w K :=
  tie Tryz.prog 69 Tryz.f69 plan69 [v0] w K 1 (W69 v0 w K) rfl mixed Tryz.func69 W69_chk (W69_eq v0 w K) Tryz.call69 h
def plan74 : Plan := { js := [], ds := [] }
def W74 (v0 : Value) (w : World) (K : Value → World → Prop) : Prop :=
  binW .eql v0 (.int .u8 110) fun t5 =>
  condW t5 (
    K (.int .i64 3) w) (
    binW .eql v0 (.int .u8 115) fun t7 =>
    condW t7 (
      K (.int .i64 4) w) (
      binW .eql v0 (.int .u8 108) fun t9 =>
      condW t9 (
        K (.int .i64 5) w) (
        binW .eql v0 (.int .u8 111) fun t11 =>
        condW t11 (
          K (.int .i64 6) w) (
          K (.int .i64 (-1)) w))))
theorem W74_eq (v0 : Value) (w : World) (K : Value → World → Prop) : funW Tryz.prog Tryz.f74 plan74 [v0] w K = W74 v0 w K := by kernel_rfl
theorem W74_chk : chkFun Tryz.prog Tryz.f74 plan74 1 = true := by kernel_rfl
theorem W74_ok {v0 : Value} {w : World} {K : Value → World → Prop} (h : W74 v0 w K) : callF Tryz.prog 74 [v0] w K :=
  tie Tryz.prog 74 Tryz.f74 plan74 [v0] w K 1 (W74 v0 w K) rfl mixed Tryz.func74 W74_chk (W74_eq v0 w K) Tryz.call74 h
def plan75 : Plan := { js := [(19, ⟨[9], [], 9⟩), (21005, ⟨[26], [], 23⟩), (8, ⟨[7, 8], [], 3⟩)], ds := [] }
def W75 (v0 v1 v2 : Value) (w : World) (K : Value → World → Prop) : Prop :=
  LoopW [(.slice none 0 0), (.int .i64 0)] w fun s1 _ w2 L1 =>
    lensW v0 fun t12 =>
    binW .lss (s1.getD 1 undef) t12 fun t13 =>
    condW t13 (
      ixsW v0 (s1.getD 1 undef) fun t18 =>
      JoinW (fun J3 =>
        binW .geq t18 v1 fun t21 =>
        GdW (isB t21 true) [undef] w2 (fun J4 =>
          binW .add v1 (.int .u8 25) fun t25 =>
          binW .leq t18 t25 fun t26 =>
          J4 [t26] w2)
        fun s4 _ w5 =>
        pickW t21 (s4.getD 0 undef) (.bool false) fun t27 =>
        condW t27 (
          binW .sub t18 v1 fun t30 =>
          binW .add t30 v2 fun t32 =>
          J3 [t32] w5) (
          J3 [t18] w5))
      fun s3 _ w6 =>
      bslW 5 1 [(.int .u8 0)] [(0, 1, (s3.getD 0 undef))] w6 fun t35 w7 =>
      semE Tryz.prog (Builtin.append_ #[66, 66] 66 #[(s1.getD 0 undef), t35]) w7 fun t36 w8 =>
      binW .add (s1.getD 1 undef) (.int .i64 1) fun t15 =>
      L1 [t36, t15] w8) (
      semQ Tryz.prog (convert 66 9 (s1.getD 0 undef)) w2 fun t38 =>
      K t38 w2)
theorem W75_eq (v0 v1 v2 : Value) (w : World) (K : Value → World → Prop) : funW Tryz.prog Tryz.f75 plan75 [v0, v1, v2] w K = W75 v0 v1 v2 w K := by kernel_rfl
theorem W75_chk : chkFun Tryz.prog Tryz.f75 plan75 3 = true := by kernel_rfl
theorem W75_ok {v0 v1 v2 : Value} {w : World} {K : Value → World → Prop} (h : W75 v0 v1 v2 w K) : callF Tryz.prog 75 [v0, v1, v2] w K :=
  tie Tryz.prog 75 Tryz.f75 plan75 [v0, v1, v2] w K 3 (W75 v0 v1 v2 w K) rfl mixed Tryz.func75 W75_chk (W75_eq v0 v1 v2 w K) Tryz.call75 h
def plan76 : Plan := { js := [(8, ⟨[6, 7], [], 6⟩)], ds := [(30, ⟨[0, 1, 2, 3, 4, 8], [[], [0], [], [], [2, 3], [2, 3, 4], [2, 3, 4, 5], [0, 1, 2, 3, 4, 5, 6], [0, 1, 2, 3, 4, 5, 6, 7], [0, 1, 2, 3, 4, 5, 6, 7, 8]]⟩), (25, ⟨[0, 1, 2, 3, 4, 5, 9], [[], [0], [], [], [], [2, 3, 4], [2, 3, 4, 5], [2, 3, 4, 5, 6], [0, 1, 2, 3, 4, 5, 6, 7], [0, 1, 2, 3, 4, 5, 6, 7, 8], [0, 1, 2, 3, 4, 5, 6, 7, 8, 9]]⟩)] }
def W76 (v0 v1 : Value) (w : World) (K : Value → World → Prop) : Prop :=
  allocW 28 [(.int .i64 0), (.bool false), (.string (ofL [])), (.slice none 0 0), (.slice none 0 0)] w fun t4 w1 =>
  putW [(.int .i64 0), (.bool false), (.string (ofL [])), (.slice none 0 0), (.slice none 0 0)] [(0, 1, (.int .i64 5))] fun c2 =>
  allocW 28 [(.int .i64 0), (.bool false), (.string (ofL [])), (.slice none 0 0), (.slice none 0 0)] w1 fun t5 w3 =>
  stW 5 t5 (.agg c2.toArray) w3 fun w4 =>
  LoopW [(.int .i64 0), (.int .i64 0)] w4 fun s5 _ w6 L5 =>
    lensW v0 fun t11 =>
    binW .add (s5.getD 1 undef) t11 fun t12 =>
    lensW v1 fun t14 =>
    binW .leq t12 t14 fun t15 =>
    condW t15 (
      lensW v0 fun t20 =>
      binW .add (s5.getD 1 undef) t20 fun t21 =>
      slsW v1 (some (s5.getD 1 undef)) (some t21) fun t22 =>
      binW .neq t22 v0 fun t24 =>
      condW t24 (
        binW .add (s5.getD 1 undef) (.int .i64 1) fun t26 =>
        L5 [(s5.getD 0 undef), t26] w6) (
        fldW 3 t5 fun t27 =>
        ldW false 1 t27 w6.drew fun t28 =>
        slsW v1 (some (s5.getD 0 undef)) (some (s5.getD 1 undef)) fun t32 =>
        callF Tryz.prog 15 [t32] w6.drew fun t33 w7 =>
        (ldW false 1 t27 w7 fun x => x = t28) ∧
        bslW 28 1 [(.int .i64 0), (.bool false), (.string (ofL [])), (.slice none 0 0), (.slice none 0 0)] [(0, 5, t33)] w7 fun t34 w8 =>
        (ldW false 1 t27 w8 fun x => x = t28) ∧
        semE Tryz.prog (Builtin.append_ #[22, 22] 22 #[t28, t34]) w8 fun t35 w9 =>
        fldW 3 t5 fun t36 =>
        stW 1 t36 t35 w9 fun w10 =>
        lensW v0 fun t39 =>
        binW .add (s5.getD 1 undef) t39 fun t40 =>
        L5 [t40, t40] w10)) (
      fldW 3 t5 fun t42 =>
      ldW false 1 t42 w6.drew fun t43 =>
      slsW v1 (some (s5.getD 0 undef)) none fun t46 =>
      callF Tryz.prog 15 [t46] w6.drew fun t47 w11 =>
      (ldW false 1 t42 w11 fun x => x = t43) ∧
      bslW 28 1 [(.int .i64 0), (.bool false), (.string (ofL [])), (.slice none 0 0), (.slice none 0 0)] [(0, 5, t47)] w11 fun t48 w12 =>
      (ldW false 1 t42 w12 fun x => x = t43) ∧
      semE Tryz.prog (Builtin.append_ #[22, 22] 22 #[t43, t48]) w12 fun t49 w13 =>
      fldW 3 t5 fun t50 =>
      stW 1 t50 t49 w13 fun w14 =>
      ldW true 5 t5 w14 fun t51 =>
      stW 5 t4 t51 w14 fun w15 =>
      ldW true 5 t4 w15 fun r16 =>
      K r16 w15)
theorem W76_eq (v0 v1 : Value) (w : World) (K : Value → World → Prop) : funW Tryz.prog Tryz.f76 plan76 [v0, v1] w K = W76 v0 v1 w K := by kernel_rfl
theorem W76_chk : chkFun Tryz.prog Tryz.f76 plan76 2 = true := by kernel_rfl
theorem W76_ok {v0 v1 : Value} {w : World} {K : Value → World → Prop} (h : W76 v0 v1 w K) : callF Tryz.prog 76 [v0, v1] w K :=
  tie Tryz.prog 76 Tryz.f76 plan76 [v0, v1] w K 2 (W76 v0 v1 w K) rfl mixed Tryz.func76 W76_chk (W76_eq v0 v1 w K) Tryz.call76 h
def plan82 : Plan := { js := [(229, ⟨[], [28, 29], 277⟩), (236002, ⟨[299], [], 294⟩), (236004, ⟨[298], [], 297⟩), (236007, ⟨[296], [], 294⟩), (236011, ⟨[291], [], 290⟩), (222, ⟨[276], [28, 29], 276⟩), (213005, ⟨[269], [], 268⟩), (201, ⟨[26], [], 26⟩), (175, ⟨[220], [23], 220⟩), (161, ⟨[211], [22, 23], 211⟩), (136, ⟨[192], [20], 192⟩), (105, ⟨[18, 156], [5, 18, 19], 156⟩), (87003, ⟨[138], [], 137⟩), (54, ⟨[12], [], 11⟩), (37, ⟨[10, 68], [10, 11], 68⟩)], ds := [(234, ⟨[0, 1, 2, 3, 4, 5, 6, 8], [[], [], [0, 1], [0, 1, 2], [0, 1, 2, 3], [], [5], [0, 1, 2, 3, 4, 5, 6], [0, 1, 2, 3, 4, 5, 6, 7]]⟩), (210, ⟨[0, 1, 2, 6], [[], [0], [], [2], [2, 3], [0, 1, 2, 3, 4], [0, 1, 2, 3, 4, 5], [0, 1, 2, 3, 4, 5, 6]]⟩), (186, ⟨[0, 1, 2, 3, 4, 5, 6, 7, 8, 9, 10, 11, 12, 13, 14, 15, 16], [[], [], [], [1, 2], [1, 2, 3], [1, 2, 3, 4], [], [1, 2, 3, 4, 5, 6], [1, 2, 3, 4, 5, 6, 7], [], [], [9, 10], [9, 10, 11], [9, 10, 11, 12], [], [9, 10, 11, 12, 13, 14], [9, 10, 11, 12, 13, 14, 15], [0, 1, 2, 3, 4, 5, 6, 7, 8, 9, 10, 11, 12, 13, 14, 15, 16], [0, 1, 2, 3, 4, 5, 6, 7, 8, 9, 10, 11, 12, 13, 14, 15, 16, 17]]⟩), (147, ⟨[0, 1, 2, 3, 4, 5, 6, 8], [[], [0], [], [], [2, 3], [2, 3, 4], [2, 3, 4, 5], [0, 1, 2, 3, 4, 5, 6], [0, 1, 2, 3, 4, 5, 6, 7], [0, 1, 2, 3, 4, 5, 6, 7, 8]]⟩), (63, ⟨[0, 1, 2, 3, 4, 5, 6, 7, 8, 11], [[], [0], [], [2], [2, 3], [2, 3, 4], [], [2, 3, 4, 5, 6], [2, 3, 4, 5, 6, 7], [2, 3, 4, 5, 6, 7, 8], [0, 1, 2, 3, 4, 5, 6, 7, 8, 9], [0, 1, 2, 3, 4, 5, 6, 7, 8, 9, 10], [0, 1, 2, 3, 4, 5, 6, 7, 8, 9, 10, 11]]⟩)] }
def W82 (v0 v1 : Value) (w : World) (K : Value → World → Prop) : Prop :=
  allocW 28 [(.int .i64 0), (.bool false), (.string (ofL [])), (.slice none 0 0), (.slice none 0 0)] w fun t4 w1 =>
  putW [(.int .i64 0), (.bool false), (.string (ofL [])), (.slice none 0 0), (.slice none 0 0)] [(0, 1, (.int .i64 5))] fun c2 =>
  allocW 28 [(.int .i64 0), (.bool false), (.string (ofL [])), (.slice none 0 0), (.slice none 0 0)] w1 fun t6 w3 =>
  stW 5 t6 (.agg c2.toArray) w3 fun w4 =>
  binW .eql v0 (.string (ofL [108, 101, 110, 103, 116, 104])) fun t33 =>
  condW t33 (
    ixaW none 5 v1 (.int .i64 0) fun t35 =>
    fldW 0 t35 fun t36 =>
    ldW false 1 t36 w4 fun t37 =>
    binW .eql t37 (.int .i64 4) fun t39 =>
    condW t39 (
      ixaW none 5 v1 (.int .i64 0) fun t41 =>
      fldW 2 t41 fun t42 =>
      ldW false 1 t42 w4 fun t43 =>
      callF Tryz.prog 113 [t43] w4 fun t44 w5 =>
      lenlW t44 fun t45 =>
      callF Tryz.prog 18 [t45] w5 fun t46 w6 =>
      stW 5 t4 t46 w6 fun w7 =>
      ldW true 5 t4 w7 fun r8 =>
      K (.tuple #[r8, (.bool true)]) w7) (
      ixaW none 5 v1 (.int .i64 0) fun t48 =>
      fldW 3 t48 fun t49 =>
      ldW false 1 t49 w4 fun t50 =>
      lenlW t50 fun t51 =>
      callF Tryz.prog 18 [t51] w4 fun t52 w9 =>
      binW .geq t37 (.int .i64 5) fun t54 =>
      stW 5 t4 t52 w9 fun w10 =>
      ldW true 5 t4 w10 fun r11 =>
      K (.tuple #[r11, t54]) w10)) (
    binW .eql v0 (.string (ofL [114, 101, 118, 101, 114, 115, 101])) fun t56 =>
    condW t56 (
      ixaW none 5 v1 (.int .i64 0) fun t58 =>
      fldW 0 t58 fun t59 =>
      ldW false 1 t59 w4 fun t60 =>
      ixaW none 5 v1 (.int .i64 0) fun t62 =>
      fldW 2 t62 fun t63 =>
      ldW false 1 t63 w4 fun t64 =>
      callF Tryz.prog 113 [t64] w4 fun t65 w12 =>
      lenlW t65 fun t67 =>
      LoopW [(.string (ofL [])), (.int .i64 0)] w12 fun s13 _ w14 L13 =>
        binW .lss (s13.getD 1 undef) t67 fun t69 =>
        condW t69 (
          ixaW none 1 t65 (s13.getD 1 undef) fun t73 =>
          ldW false 1 t73 w14 fun t74 =>
          binW .add t74 (s13.getD 0 undef) fun t76 =>
          binW .add (s13.getD 1 undef) (.int .i64 1) fun t77 =>
          L13 [t76, t77] w14) (
          ixaW none 5 v1 (.int .i64 0) fun t79 =>
          fldW 3 t79 fun t80 =>
          ldW false 1 t80 w14 fun t81 =>
          lenlW t81 fun t82 =>
          binW .sub t82 (.int .i64 1) fun t83 =>
          LoopW [t83] w14 fun s15 _ w16 L15 =>
            binW .geq (s15.getD 0 undef) (.int .i64 0) fun t85 =>
            condW t85 (
              fldW 3 t6 fun t88 =>
              ldW false 1 t88 w16.drew fun t89 =>
              ixaW none 5 v1 (.int .i64 0) fun t91 =>
              fldW 3 t91 fun t92 =>
              ldW false 1 t92 w16.drew fun t93 =>
              ixaW none 5 t93 (s15.getD 0 undef) fun t95 =>
              ldW true 5 t95 w16.drew fun t96 =>
              bslW 28 1 [(.int .i64 0), (.bool false), (.string (ofL [])), (.slice none 0 0), (.slice none 0 0)] [(0, 5, t96)] w16.drew fun t97 w17 =>
              (ldW false 1 t88 w17 fun x => x = t89) ∧
              semE Tryz.prog (Builtin.append_ #[22, 22] 22 #[t89, t97]) w17 fun t98 w18 =>
              fldW 3 t6 fun t99 =>
              stW 1 t99 t98 w18 fun w19 =>
              binW .sub (s15.getD 0 undef) (.int .i64 1) fun t87 =>
              L15 [t87] w19) (
              binW .eql t60 (.int .i64 4) fun t101 =>
              condW t101 (
                callF Tryz.prog 15 [(s13.getD 0 undef)] w16 fun t103 w20 =>
                stW 5 t4 t103 w20 fun w21 =>
                ldW true 5 t4 w21 fun r22 =>
                K (.tuple #[r22, (.bool true)]) w21) (
                ldW true 5 t6 w16 fun t104 =>
                binW .eql t60 (.int .i64 5) fun t106 =>
                stW 5 t4 t104 w16 fun w23 =>
                ldW true 5 t4 w23 fun r24 =>
                K (.tuple #[r24, t106]) w23)))) (
      binW .eql v0 (.string (ofL [115, 117, 98, 115, 116, 114])) fun t108 =>
      condW t108 (
        ixaW none 5 v1 (.int .i64 0) fun t110 =>
        fldW 2 t110 fun t111 =>
        ldW false 1 t111 w4 fun t112 =>
        callF Tryz.prog 113 [t112] w4 fun t113 w25 =>
        ixaW none 5 v1 (.int .i64 1) fun t116 =>
        ldW true 5 t116 w25 fun t117 =>
        lenlW t113 fun t119 =>
        callF Tryz.prog 114 [t117, t119] w25 fun t120 w26 =>
        extW 0 t120 fun t121 =>
        extW 1 t120 fun t122 =>
        ixaW none 5 v1 (.int .i64 2) fun t125 =>
        ldW true 5 t125 w26 fun t126 =>
        lenlW t113 fun t128 =>
        binW .sub t128 t121 fun t130 =>
        callF Tryz.prog 114 [t126, t130] w26 fun t131 w27 =>
        extW 0 t131 fun t132 =>
        extW 1 t131 fun t133 =>
        unW .not t122 fun t135 =>
        GdW (isB t135 false) [undef] w27 (fun J28 =>
          unW .not t133 fun t138 =>
          J28 [t138] w27)
        fun s28 _ w29 =>
        pickW t135 (.bool true) (s28.getD 0 undef) fun t139 =>
        condW t139 (
          ldW true 5 t6 w29 fun t140 =>
          stW 5 t4 t140 w29 fun w30 =>
          ldW true 5 t4 w30 fun r31 =>
          K (.tuple #[r31, (.bool false)]) w30) (
          binW .add t121 t132 fun t145 =>
          sllW 1 t113 (some t121) (some t145) none fun t146 =>
          callF Tryz.prog 115 [t146, (.string (ofL []))] w29 fun t147 w32 =>
          callF Tryz.prog 15 [t147] w32 fun t148 w33 =>
          stW 5 t4 t148 w33 fun w34 =>
          ldW true 5 t4 w34 fun r35 =>
          K (.tuple #[r35, (.bool true)]) w34)) (
        binW .eql v0 (.string (ofL [106, 111, 105, 110])) fun t150 =>
        condW t150 (
          ixaW none 5 v1 (.int .i64 1) fun t152 =>
          fldW 3 t152 fun t153 =>
          ldW false 1 t153 w4 fun t154 =>
          lenlW t154 fun t155 =>
          LoopW [(.slice none 0 0), (.int .i64 0)] w4 fun s36 _ w37 L36 =>
            binW .lss (s36.getD 1 undef) t155 fun t157 =>
            condW t157 (
              ixaW none 5 v1 (.int .i64 1) fun t160 =>
              fldW 3 t160 fun t161 =>
              ldW false 1 t161 w37 fun t162 =>
              ixaW none 5 t162 (s36.getD 1 undef) fun t164 =>
              fldW 0 t164 fun t165 =>
              ldW false 1 t165 w37 fun t166 =>
              binW .neq t166 (.int .i64 4) fun t167 =>
              condW t167 (
                ldW true 5 t6 w37 fun t168 =>
                stW 5 t4 t168 w37 fun w38 =>
                ldW true 5 t4 w38 fun r39 =>
                K (.tuple #[r39, (.bool false)]) w38) (
                ixaW none 5 v1 (.int .i64 1) fun t171 =>
                fldW 3 t171 fun t172 =>
                ldW false 1 t172 w37 fun t173 =>
                ixaW none 5 t173 (s36.getD 1 undef) fun t175 =>
                fldW 2 t175 fun t176 =>
                ldW false 1 t176 w37 fun t177 =>
                bslW 9 1 [(.string (ofL []))] [(0, 1, t177)] w37 fun t178 w40 =>
                semE Tryz.prog (Builtin.append_ #[26, 26] 26 #[(s36.getD 0 undef), t178]) w40 fun t179 w41 =>
                binW .add (s36.getD 1 undef) (.int .i64 1) fun t180 =>
                L36 [t179, t180] w41)) (
              ixaW none 5 v1 (.int .i64 0) fun t183 =>
              fldW 2 t183 fun t184 =>
              ldW false 1 t184 w37 fun t185 =>
              callF Tryz.prog 115 [(s36.getD 0 undef), t185] w37 fun t186 w42 =>
              callF Tryz.prog 15 [t186] w42 fun t187 w43 =>
              stW 5 t4 t187 w43 fun w44 =>
              ldW true 5 t4 w44 fun r45 =>
              K (.tuple #[r45, (.bool true)]) w44)) (
          binW .eql v0 (.string (ofL [99, 111, 110, 99, 97, 116])) fun t189 =>
          condW t189 (
            lenlW v1 fun t191 =>
            LoopW [(.int .i64 0)] w4 fun s46 _ w47 L46 =>
              binW .lss (s46.getD 0 undef) t191 fun t193 =>
              condW t193 (
                fldW 3 t6 fun t195 =>
                ldW false 1 t195 w47.drew fun t196 =>
                ixaW none 5 v1 (s46.getD 0 undef) fun t199 =>
                fldW 3 t199 fun t200 =>
                ldW false 1 t200 w47.drew fun t201 =>
                semE Tryz.prog (Builtin.append_ #[22, 22] 22 #[t196, t201]) w47.drew fun t202 w48 =>
                fldW 3 t6 fun t203 =>
                stW 1 t203 t202 w48 fun w49 =>
                binW .add (s46.getD 0 undef) (.int .i64 1) fun t204 =>
                L46 [t204] w49) (
                ldW true 5 t6 w47 fun t205 =>
                stW 5 t4 t205 w47 fun w50 =>
                ldW true 5 t4 w50 fun r51 =>
                K (.tuple #[r51, (.bool true)]) w50)) (
            binW .eql v0 (.string (ofL [109, 101, 114, 103, 101])) fun t207 =>
            condW t207 (
              putW [(.int .i64 0), (.bool false), (.string (ofL [])), (.slice none 0 0), (.slice none 0 0)] [(0, 1, (.int .i64 6))] fun c52 =>
              allocW 28 [(.int .i64 0), (.bool false), (.string (ofL [])), (.slice none 0 0), (.slice none 0 0)] w4 fun t21 w53 =>
              stW 5 t21 (.agg c52.toArray) w53 fun w54 =>
              lenlW v1 fun t210 =>
              LoopW [(.int .i64 0)] w54 fun s55 _ w56 L55 =>
                binW .lss (s55.getD 0 undef) t210 fun t212 =>
                condW t212 (
                  ixaW none 5 v1 (s55.getD 0 undef) fun t216 =>
                  fldW 4 t216 fun t217 =>
                  ldW false 1 t217 w56 fun t218 =>
                  lenlW t218 fun t219 =>
                  LoopW [(.int .i64 0)] w56 fun s57 _ w58 L57 =>
                    binW .lss (s57.getD 0 undef) t219 fun t221 =>
                    condW t221 (
                      ldW true 5 t21 w58.drew fun t223 =>
                      ixaW none 5 v1 (s55.getD 0 undef) fun t226 =>
                      fldW 4 t226 fun t227 =>
                      ldW false 1 t227 w58.drew fun t228 =>
                      ixaW none 1 t228 (s57.getD 0 undef) fun t230 =>
                      ldW false 1 t230 w58.drew fun t231 =>
                      ixaW none 5 v1 (s55.getD 0 undef) fun t234 =>
                      fldW 3 t234 fun t235 =>
                      ldW false 1 t235 w58.drew fun t236 =>
                      ixaW none 5 t236 (s57.getD 0 undef) fun t238 =>
                      ldW true 5 t238 w58.drew fun t239 =>
                      callF Tryz.prog 116 [t223, t231, t239] w58.drew fun t240 w59 =>
                      stW 5 t21 t240 w59 fun w60 =>
                      binW .add (s57.getD 0 undef) (.int .i64 1) fun t241 =>
                      L57 [t241] w60) (
                      binW .add (s55.getD 0 undef) (.int .i64 1) fun t242 =>
                      L55 [t242] w58)) (
                  ldW true 5 t21 w56 fun t243 =>
                  stW 5 t4 t243 w56 fun w61 =>
                  ldW true 5 t4 w61 fun r62 =>
                  K (.tuple #[r62, (.bool true)]) w61)) (
              binW .eql v0 (.string (ofL [114, 97, 110, 103, 101])) fun t245 =>
              condW t245 (
                ixaW none 5 v1 (.int .i64 0) fun t248 =>
                ldW true 5 t248 w4 fun t249 =>
                callF Tryz.prog 114 [t249, (.int .i64 33)] w4 fun t250 w63 =>
                extW 0 t250 fun t251 =>
                extW 1 t250 fun t252 =>
                LoopW [(.int .i64 0)] w63 fun s64 _ w65 L64 =>
                  binW .lss (s64.getD 0 undef) t251 fun t255 =>
                  condW t255 (
                    fldW 3 t6 fun t258 =>
                    ldW false 1 t258 w65.drew fun t259 =>
                    callF Tryz.prog 18 [(s64.getD 0 undef)] w65.drew fun t261 w66 =>
                    (ldW false 1 t258 w66 fun x => x = t259) ∧
                    bslW 28 1 [(.int .i64 0), (.bool false), (.string (ofL [])), (.slice none 0 0), (.slice none 0 0)] [(0, 5, t261)] w66 fun t262 w67 =>
                    (ldW false 1 t258 w67 fun x => x = t259) ∧
                    semE Tryz.prog (Builtin.append_ #[22, 22] 22 #[t259, t262]) w67 fun t263 w68 =>
                    fldW 3 t6 fun t264 =>
                    stW 1 t264 t263 w68 fun w69 =>
                    binW .add (s64.getD 0 undef) (.int .i64 1) fun t257 =>
                    L64 [t257] w69) (
                    ldW true 5 t6 w65 fun t265 =>
                    GdW (isB t252 true) [undef] w65 (fun J70 =>
                      binW .leq t251 (.int .i64 32) fun t269 =>
                      J70 [t269] w65)
                    fun s70 _ w71 =>
                    pickW t252 (s70.getD 0 undef) (.bool false) fun t270 =>
                    stW 5 t4 t265 w71 fun w72 =>
                    ldW true 5 t4 w72 fun r73 =>
                    K (.tuple #[r73, t270]) w72)) (
                ixaW none 5 v1 (.int .i64 0) fun t272 =>
                ldW true 5 t272 w4 fun t273 =>
                allocW 28 [(.int .i64 0), (.bool false), (.string (ofL [])), (.slice none 0 0), (.slice none 0 0)] w4 fun t27 w74 =>
                stW 5 t27 t273 w74 fun w75 =>
                lenlW v1 fun t275 =>
                LoopW [(.int .i64 0)] w75 fun s76 _ w77 L76 =>
                  binW .lss (s76.getD 0 undef) t275 fun t277 =>
                  condW t277 (
                    JoinW (fun J78 =>
                      ixaW none 5 v1 (s76.getD 0 undef) fun t281 =>
                      fldW 2 t281 fun t282 =>
                      ldW false 1 t282 w77.drew fun t283 =>
                      fldW 2 t27 fun t284 =>
                      ldW false 1 t284 w77.drew fun t285 =>
                      callF Tryz.prog 117 [t283, t285] w77.drew fun t286 w79 =>
                      binW .eql v0 (.string (ofL [109, 97, 120])) fun t288 =>
                      GdW (isB t288 true) [undef] w79 (fun J80 =>
                        binW .gtr t286 (.int .i64 0) fun t291 =>
                        J80 [t291] w79)
                      fun s80 _ w81 =>
                      pickW t288 (s80.getD 0 undef) (.bool false) fun t292 =>
                      GdW (isB t292 false) [undef] w81 (fun J82 =>
                        binW .eql v0 (.string (ofL [109, 105, 110])) fun t295 =>
                        J82 [t295] w81)
                      fun s82 _ w83 =>
                      GdW (isB (s82.getD 0 undef) true) [undef] w83 (fun J84 =>
                        binW .lss t286 (.int .i64 0) fun t298 =>
                        J84 [t298] w83)
                      fun s84 _ w85 =>
                      GdW (isB t292 false) [undef] w85 (fun J86 =>
                        pickW (s82.getD 0 undef) (s84.getD 0 undef) (.bool false) fun t299 =>
                        J86 [t299] w85)
                      fun s86 _ w87 =>
                      pickW t292 (.bool true) (s86.getD 0 undef) fun t300 =>
                      condW t300 (
                        ixaW none 5 v1 (s76.getD 0 undef) fun t303 =>
                        ldW true 5 t303 w87 fun t304 =>
                        stW 5 t27 t304 w87 fun w88 =>
                        J78 [] w88) (
                        J78 [] w87))
                    fun s78 _ w89 =>
                    binW .add (s76.getD 0 undef) (.int .i64 1) fun t305 =>
                    L76 [t305] w89) (
                    ldW true 5 t27 w77 fun t306 =>
                    stW 5 t4 t306 w77 fun w90 =>
                    ldW true 5 t4 w90 fun r91 =>
                    K (.tuple #[r91, (.bool true)]) w90))))))))
theorem W82_eq (v0 v1 : Value) (w : World) (K : Value → World → Prop) : funW Tryz.prog Tryz.f82 plan82 [v0, v1] w K = W82 v0 v1 w K := by kernel_rfl
theorem W82_chk : chkFun Tryz.prog Tryz.f82 plan82 2 = true := by kernel_rfl
theorem W82_ok {v0 v1 : Value} {w : World} {K : Value → World → Prop} (h : W82 v0 v1 w K) : callF Tryz.prog 82 [v0, v1] w K :=
  tie Tryz.prog 82 Tryz.f82 plan82 [v0, v1] w K 2 (W82 v0 v1 w K) rfl mixed Tryz.func82 W82_chk (W82_eq v0 v1 w K) Tryz.call82 h
def plan92 : Plan := { js := [], ds := [(3, ⟨[0, 1, 2, 3, 5], [[], [], [1], [1, 2], [0, 1, 2, 3], [0, 1, 2, 3, 4]]⟩)] }
def W92 (v0 v1 : Value) (w : World) (K : Value → World → Prop) : Prop :=
  boxW 28 v0 w fun t2 w1 =>
  ldW true 5 t2 w1.drew fun t4 =>
  ldW false 1 v1 w1.drew fun t5 =>
  ixaW none 5 t5 (.int .i64 1) fun t6 =>
  ldW true 5 t6 w1.drew fun t7 =>
  callF Tryz.prog 93 [t4, t7] w1.drew fun t8 w2 =>
  K t8 w2
theorem W92_eq (v0 v1 : Value) (w : World) (K : Value → World → Prop) : funW Tryz.prog Tryz.f92 plan92 [v0, v1] w K = W92 v0 v1 w K := by kernel_rfl
theorem W92_chk : chkFun Tryz.prog Tryz.f92 plan92 2 = true := by kernel_rfl
theorem W92_ok {v0 v1 : Value} {w : World} {K : Value → World → Prop} (h : W92 v0 v1 w K) : callF Tryz.prog 92 [v0, v1] w K :=
  tie Tryz.prog 92 Tryz.f92 plan92 [v0, v1] w K 2 (W92 v0 v1 w K) rfl mixed Tryz.func92 W92_chk (W92_eq v0 v1 w K) Tryz.call92 h
def plan96 : Plan := { js := [(10, ⟨[3, 4], [3, 4, 5], 8⟩)], ds := [] }
def W96 (v0 : Value) (w : World) (K : Value → World → Prop) : Prop :=
  semE Tryz.prog (Instr.range 9 v0) w fun t7 w1 =>
  LoopW [(.slice none 0 0), (.int .i64 0)] w1 fun s2 _ w3 L2 =>
    semE Tryz.prog (Instr.next t7 true 0) w3 fun t8 w4 =>
    extW 0 t8 fun t9 =>
    condW t9 (
      extW 1 t8 fun t10 =>
      binW .gtr t10 (.int .i64 0) fun t12 =>
      condW t12 (
        slsW v0 (some (s2.getD 1 undef)) (some t10) fun t17 =>
        bslW 9 1 [(.string (ofL []))] [(0, 1, t17)] w4 fun t18 w5 =>
        semE Tryz.prog (Builtin.append_ #[26, 26] 26 #[(s2.getD 0 undef), t18]) w5 fun t19 w6 =>
        L2 [t19, t10] w6) (
        L2 [(s2.getD 0 undef), (s2.getD 1 undef)] w4)) (
      binW .neq v0 (.string (ofL [])) fun t22 =>
      condW t22 (
        slsW v0 (some (s2.getD 1 undef)) none fun t26 =>
        bslW 9 1 [(.string (ofL []))] [(0, 1, t26)] w4 fun t27 w7 =>
        semE Tryz.prog (Builtin.append_ #[26, 26] 26 #[(s2.getD 0 undef), t27]) w7 fun t28 w8 =>
        K t28 w8) (
        K (s2.getD 0 undef) w4))
theorem W96_eq (v0 : Value) (w : World) (K : Value → World → Prop) : funW Tryz.prog Tryz.f96 plan96 [v0] w K = W96 v0 w K := by kernel_rfl
theorem W96_chk : chkFun Tryz.prog Tryz.f96 plan96 1 = true := by kernel_rfl
theorem W96_ok {v0 : Value} {w : World} {K : Value → World → Prop} (h : W96 v0 w K) : callF Tryz.prog 96 [v0] w K :=
  tie Tryz.prog 96 Tryz.f96 plan96 [v0] w K 1 (W96 v0 w K) rfl mixed Tryz.func96 W96_chk (W96_eq v0 w K) Tryz.call96 h
def plan113 : Plan := { js := [(8, ⟨[3, 4], [], 1⟩)], ds := [] }
def W113 (v0 : Value) (w : World) (K : Value → World → Prop) : Prop :=
  LoopW [(.slice none 0 0), (.int .i64 0)] w fun s1 _ w2 L1 =>
    lensW v0 fun t8 =>
    binW .lss (s1.getD 1 undef) t8 fun t9 =>
    condW t9 (
      callF Tryz.prog 39 [v0, (s1.getD 1 undef)] w2 fun t12 w3 =>
      maxW t12 (.int .i64 1) fun t13 =>
      binW .add (s1.getD 1 undef) t13 fun t19 =>
      slsW v0 (some (s1.getD 1 undef)) (some t19) fun t20 =>
      bslW 9 1 [(.string (ofL []))] [(0, 1, t20)] w3 fun t21 w4 =>
      semE Tryz.prog (Builtin.append_ #[26, 26] 26 #[(s1.getD 0 undef), t21]) w4 fun t22 w5 =>
      binW .add (s1.getD 1 undef) t13 fun t25 =>
      L1 [t22, t25] w5) (
      K (s1.getD 0 undef) w2)
theorem W113_eq (v0 : Value) (w : World) (K : Value → World → Prop) : funW Tryz.prog Tryz.f113 plan113 [v0] w K = W113 v0 w K := by kernel_rfl
theorem W113_chk : chkFun Tryz.prog Tryz.f113 plan113 1 = true := by kernel_rfl
theorem W113_ok {v0 : Value} {w : World} {K : Value → World → Prop} (h : W113 v0 w K) : callF Tryz.prog 113 [v0] w K :=
  tie Tryz.prog 113 Tryz.f113 plan113 [v0] w K 1 (W113 v0 w K) rfl mixed Tryz.func113 W113_chk (W113_eq v0 w K) Tryz.call113 h
def plan114 : Plan := { js := [(14004, ⟨[23], [], 21⟩)], ds := [] }
def W114 (v0 v1 : Value) (w : World) (K : Value → World → Prop) : Prop :=
  boxW 28 v0 w fun t2 w1 =>
  fldW 2 t2 fun t8 =>
  ldW false 1 t8 w1 fun t9 =>
  ixsW t9 (.int .i64 0) fun t10 =>
  binW .eql t10 (.int .u8 45) fun t11 =>
  condW t11 (
    K (.tuple #[(.int .i64 0), (.bool false)]) w1) (
    fldW 2 t2 fun t13 =>
    ldW false 1 t13 w1 fun t14 =>
    callF Tryz.prog 145 [t14] w1 fun t15 w2 =>
    extW 0 t15 fun t16 =>
    extW 1 t15 fun t17 =>
    unW .not t17 fun t19 =>
    GdW (isB t19 false) [undef] w2 (fun J3 =>
      binW .gtr t16 v1 fun t23 =>
      J3 [t23] w2)
    fun s3 _ w4 =>
    pickW t19 (.bool true) (s3.getD 0 undef) fun t24 =>
    condW t24 (
      K (.tuple #[v1, (.bool true)]) w4) (
      K (.tuple #[t16, (.bool true)]) w4))
theorem W114_eq (v0 v1 : Value) (w : World) (K : Value → World → Prop) : funW Tryz.prog Tryz.f114 plan114 [v0, v1] w K = W114 v0 v1 w K := by kernel_rfl
theorem W114_chk : chkFun Tryz.prog Tryz.f114 plan114 2 = true := by kernel_rfl
theorem W114_ok {v0 v1 : Value} {w : World} {K : Value → World → Prop} (h : W114 v0 v1 w K) : callF Tryz.prog 114 [v0, v1] w K :=
  tie Tryz.prog 114 Tryz.f114 plan114 [v0, v1] w K 2 (W114 v0 v1 w K) rfl mixed Tryz.func114 W114_chk (W114_eq v0 v1 w K) Tryz.call114 h
def plan115 : Plan := { js := [(19, ⟨[5], [5], 10⟩), (8, ⟨[5, 9], [5, 6], 9⟩)], ds := [] }
def W115 (v0 v1 : Value) (w : World) (K : Value → World → Prop) : Prop :=
  lenlW v0 fun t8 =>
  LoopW [(.slice none 0 0), (.int .i64 0)] w fun s1 _ w2 L1 =>
    binW .lss (s1.getD 1 undef) t8 fun t10 =>
    condW t10 (
      JoinW (fun J3 =>
        binW .gtr (s1.getD 1 undef) (.int .i64 0) fun t13 =>
        condW t13 (
          semE Tryz.prog (Builtin.append_ #[66, 9] 66 #[(s1.getD 0 undef), v1]) w2 fun t16 w4 =>
          J3 [t16] w4) (
          J3 [(s1.getD 0 undef)] w2))
      fun s3 _ w5 =>
      ixaW none 1 v0 (s1.getD 1 undef) fun t20 =>
      ldW false 1 t20 w5 fun t21 =>
      semE Tryz.prog (Builtin.append_ #[66, 9] 66 #[(s3.getD 0 undef), t21]) w5 fun t22 w6 =>
      binW .add (s1.getD 1 undef) (.int .i64 1) fun t23 =>
      L1 [t22, t23] w6) (
      semQ Tryz.prog (convert 66 9 (s1.getD 0 undef)) w2 fun t25 =>
      K t25 w2)
theorem W115_eq (v0 v1 : Value) (w : World) (K : Value → World → Prop) : funW Tryz.prog Tryz.f115 plan115 [v0, v1] w K = W115 v0 v1 w K := by kernel_rfl
theorem W115_chk : chkFun Tryz.prog Tryz.f115 plan115 2 = true := by kernel_rfl
theorem W115_ok {v0 v1 : Value} {w : World} {K : Value → World → Prop} (h : W115 v0 v1 w K) : callF Tryz.prog 115 [v0, v1] w K :=
  tie Tryz.prog 115 Tryz.f115 plan115 [v0, v1] w K 2 (W115 v0 v1 w K) rfl mixed Tryz.func115 W115_chk (W115_eq v0 v1 w K) Tryz.call115 h
end Go.Proofs.YtdkikjcpgihjlaaGreatDoor
namespace Go.Proofs.YtdkikjcpgihjlaaGreatDoor
open Go Go.Eng
set_option maxRecDepth 100000
variable [HX]
def plan26 : Plan := { js := [], ds := [] }
def W26 (w : World) (K : Value → World → Prop) : Prop :=
  allocW 28 [(.int .i64 0), (.bool false), (.string (ofL [])), (.slice none 0 0), (.slice none 0 0)] w fun t0 w1 =>
  putW [(.int .i64 0), (.bool false), (.string (ofL [])), (.slice none 0 0), (.slice none 0 0)] [(0, 1, (.int .i64 1))] fun c2 =>
  stW 5 t0 (.agg c2.toArray) w1 fun w3 =>
  ldW true 5 t0 w3 fun r4 =>
  K r4 w3
theorem W26_eq (w : World) (K : Value → World → Prop) : funW Tryz.prog Tryz.f26 plan26 [] w K = W26 w K := by kernel_rfl
theorem W26_chk : chkFun Tryz.prog Tryz.f26 plan26 0 = true := by kernel_rfl
theorem W26_ok {w : World} {K : Value → World → Prop} (h : W26 w K) : callF Tryz.prog 26 [] w K :=
  tie Tryz.prog 26 Tryz.f26 plan26 [] w K 0 (W26 w K) rfl mixed Tryz.func26 W26_chk (W26_eq w K) Tryz.call26 h
def plan30 : Plan := { js := [], ds := [] }
def W30 (v0 : Value) (w : World) (K : Value → World → Prop) : Prop :=
  boxW 28 v0 w fun t1 w1 =>
  allocW 3 [(.int .i64 0)] w1 fun t3 w2 =>
  stW 1 t3 (.int .i64 2000) w2 fun w3 =>
  ldW true 5 t1 w3 fun t4 =>
  callF Tryz.prog 45 [t4, (.int .i64 24), t3] w3 fun t5 w4 =>
  K t5 w4
theorem W30_eq (v0 : Value) (w : World) (K : Value → World → Prop) : funW Tryz.prog Tryz.f30 plan30 [v0] w K = W30 v0 w K := by kernel_rfl
theorem W30_chk : chkFun Tryz.prog Tryz.f30 plan30 1 = true := by kernel_rfl
theorem W30_ok {v0 : Value} {w : World} {K : Value → World → Prop} (h : W30 v0 w K) : callF Tryz.prog 30 [v0] w K :=
  tie Tryz.prog 30 Tryz.f30 plan30 [v0] w K 1 (W30 v0 w K) rfl mixed Tryz.func30 W30_chk (W30_eq v0 w K) Tryz.call30 h
def plan34 : Plan := { js := [], ds := [] }
def W34 (w : World) (K : Value → World → Prop) : Prop :=
  allocW 28 [(.int .i64 0), (.bool false), (.string (ofL [])), (.slice none 0 0), (.slice none 0 0)] w fun t0 w1 =>
  putW [(.int .i64 0), (.bool false), (.string (ofL [])), (.slice none 0 0), (.slice none 0 0)] [(0, 1, (.int .i64 1))] fun c2 =>
  stW 5 t0 (.agg c2.toArray) w1 fun w3 =>
  ldW true 5 t0 w3 fun r4 =>
  K r4 w3
theorem W34_eq (w : World) (K : Value → World → Prop) : funW Tryz.prog Tryz.f34 plan34 [] w K = W34 w K := by kernel_rfl
theorem W34_chk : chkFun Tryz.prog Tryz.f34 plan34 0 = true := by kernel_rfl
theorem W34_ok {w : World} {K : Value → World → Prop} (h : W34 w K) : callF Tryz.prog 34 [] w K :=
  tie Tryz.prog 34 Tryz.f34 plan34 [] w K 0 (W34 w K) rfl mixed Tryz.func34 W34_chk (W34_eq w K) Tryz.call34 h
def plan39 : Plan := { js := [(49003, ⟨[122], [], 121⟩), (44005, ⟨[93], [], 90⟩), (44011, ⟨[87], [], 84⟩), (44017, ⟨[81], [], 78⟩), (44021, ⟨[75], [], 74⟩), (28, ⟨[], [4], 6⟩), (35002, ⟨[69], [], 64⟩), (35004, ⟨[68], [], 67⟩), (35007, ⟨[66], [], 64⟩), (30005, ⟨[43], [], 40⟩), (30011, ⟨[37], [], 34⟩), (30015, ⟨[31], [], 30⟩), (22005, ⟨[25], [], 22⟩), (22009, ⟨[19], [], 18⟩)], ds := [] }
def W39 (v0 v1 : Value) (w : World) (K : Value → World → Prop) : Prop :=
  callF Tryz.prog 83 [v0, v1] w fun t10 w1 =>
  binW .lss t10 (.int .i64 0) fun t12 =>
  condW t12 (
    K (.int .i64 0) w1) (
    binW .lss t10 (.int .i64 128) fun t14 =>
    condW t14 (
      K (.int .i64 1) w1) (
      binW .geq t10 (.int .i64 194) fun t16 =>
      GdW (isB t16 true) [undef] w1 (fun J2 =>
        binW .lss t10 (.int .i64 224) fun t19 =>
        J2 [t19] w1)
      fun s2 _ w3 =>
      pickW t16 (s2.getD 0 undef) (.bool false) fun t20 =>
      GdW (isB t20 true) [undef] w3 (fun J4 =>
        binW .add v1 (.int .i64 1) fun t24 =>
        callF Tryz.prog 84 [v0, t24] w3 fun t25 w5 =>
        J4 [t25] w5)
      fun s4 _ w6 =>
      pickW t20 (s4.getD 0 undef) (.bool false) fun t26 =>
      condW t26 (
        K (.int .i64 2) w6) (
        JoinW (fun J7 =>
          binW .geq t10 (.int .i64 224) fun t28 =>
          GdW (isB t28 true) [undef] w6 (fun J8 =>
            binW .lss t10 (.int .i64 240) fun t31 =>
            J8 [t31] w6)
          fun s8 _ w9 =>
          pickW t28 (s8.getD 0 undef) (.bool false) fun t32 =>
          GdW (isB t32 true) [undef] w9 (fun J10 =>
            binW .add v1 (.int .i64 1) fun t36 =>
            callF Tryz.prog 84 [v0, t36] w9 fun t37 w11 =>
            J10 [t37] w11)
          fun s10 _ w12 =>
          pickW t32 (s10.getD 0 undef) (.bool false) fun t38 =>
          GdW (isB t38 true) [undef] w12 (fun J13 =>
            binW .add v1 (.int .i64 2) fun t42 =>
            callF Tryz.prog 84 [v0, t42] w12 fun t43 w14 =>
            J13 [t43] w14)
          fun s13 _ w15 =>
          pickW t38 (s13.getD 0 undef) (.bool false) fun t44 =>
          condW t44 (
            binW .sub t10 (.int .i64 224) fun t46 =>
            binW .mul t46 (.int .i64 4096) fun t47 =>
            binW .add v1 (.int .i64 1) fun t50 =>
            callF Tryz.prog 83 [v0, t50] w15 fun t51 w16 =>
            binW .sub t51 (.int .i64 128) fun t52 =>
            binW .mul t52 (.int .i64 64) fun t53 =>
            binW .add t47 t53 fun t54 =>
            binW .add v1 (.int .i64 2) fun t57 =>
            callF Tryz.prog 83 [v0, t57] w16 fun t58 w17 =>
            binW .add t54 t58 fun t59 =>
            binW .sub t59 (.int .i64 128) fun t60 =>
            binW .geq t60 (.int .i64 2048) fun t62 =>
            GdW (isB t62 true) [undef] w17 (fun J18 =>
              binW .lss t60 (.int .i64 55296) fun t65 =>
              J18 [t65] w17)
            fun s18 _ w19 =>
            GdW (isB (s18.getD 0 undef) false) [undef] w19 (fun J20 =>
              binW .gtr t60 (.int .i64 57343) fun t68 =>
              J20 [t68] w19)
            fun s20 _ w21 =>
            GdW (isB t62 true) [undef] w21 (fun J22 =>
              pickW (s18.getD 0 undef) (.bool true) (s20.getD 0 undef) fun t69 =>
              J22 [t69] w21)
            fun s22 _ w23 =>
            pickW t62 (s22.getD 0 undef) (.bool false) fun t70 =>
            condW t70 (
              K (.int .i64 3) w23) (
              J7 [] w23)) (
            J7 [] w15))
        fun s7 _ w24 =>
        binW .geq t10 (.int .i64 240) fun t72 =>
        GdW (isB t72 true) [undef] w24 (fun J25 =>
          binW .lss t10 (.int .i64 245) fun t75 =>
          J25 [t75] w24)
        fun s25 _ w26 =>
        pickW t72 (s25.getD 0 undef) (.bool false) fun t76 =>
        GdW (isB t76 true) [undef] w26 (fun J27 =>
          binW .add v1 (.int .i64 1) fun t80 =>
          callF Tryz.prog 84 [v0, t80] w26 fun t81 w28 =>
          J27 [t81] w28)
        fun s27 _ w29 =>
        pickW t76 (s27.getD 0 undef) (.bool false) fun t82 =>
        GdW (isB t82 true) [undef] w29 (fun J30 =>
          binW .add v1 (.int .i64 2) fun t86 =>
          callF Tryz.prog 84 [v0, t86] w29 fun t87 w31 =>
          J30 [t87] w31)
        fun s30 _ w32 =>
        pickW t82 (s30.getD 0 undef) (.bool false) fun t88 =>
        GdW (isB t88 true) [undef] w32 (fun J33 =>
          binW .add v1 (.int .i64 3) fun t92 =>
          callF Tryz.prog 84 [v0, t92] w32 fun t93 w34 =>
          J33 [t93] w34)
        fun s33 _ w35 =>
        pickW t88 (s33.getD 0 undef) (.bool false) fun t94 =>
        condW t94 (
          binW .sub t10 (.int .i64 240) fun t96 =>
          binW .mul t96 (.int .i64 262144) fun t97 =>
          binW .add v1 (.int .i64 1) fun t100 =>
          callF Tryz.prog 83 [v0, t100] w35 fun t101 w36 =>
          binW .sub t101 (.int .i64 128) fun t102 =>
          binW .mul t102 (.int .i64 4096) fun t103 =>
          binW .add t97 t103 fun t104 =>
          binW .add v1 (.int .i64 2) fun t107 =>
          callF Tryz.prog 83 [v0, t107] w36 fun t108 w37 =>
          binW .sub t108 (.int .i64 128) fun t109 =>
          binW .mul t109 (.int .i64 64) fun t110 =>
          binW .add t104 t110 fun t111 =>
          binW .add v1 (.int .i64 3) fun t114 =>
          callF Tryz.prog 83 [v0, t114] w37 fun t115 w38 =>
          binW .add t111 t115 fun t116 =>
          binW .sub t116 (.int .i64 128) fun t117 =>
          binW .geq t117 (.int .i64 65536) fun t119 =>
          GdW (isB t119 true) [undef] w38 (fun J39 =>
            binW .leq t117 (.int .i64 1114111) fun t122 =>
            J39 [t122] w38)
          fun s39 _ w40 =>
          pickW t119 (s39.getD 0 undef) (.bool false) fun t123 =>
          condW t123 (
            K (.int .i64 4) w40) (
            K (.int .i64 0) w40)) (
          K (.int .i64 0) w35))))
theorem W39_eq (v0 v1 : Value) (w : World) (K : Value → World → Prop) : funW Tryz.prog Tryz.f39 plan39 [v0, v1] w K = W39 v0 v1 w K := by kernel_rfl
theorem W39_chk : chkFun Tryz.prog Tryz.f39 plan39 2 = true := by kernel_rfl
theorem W39_ok {v0 v1 : Value} {w : World} {K : Value → World → Prop} (h : W39 v0 v1 w K) : callF Tryz.prog 39 [v0, v1] w K :=
  tie Tryz.prog 39 Tryz.f39 plan39 [v0, v1] w K 2 (W39 v0 v1 w K) rfl mixed Tryz.func39 W39_chk (W39_eq v0 v1 w K) Tryz.call39 h
def plan45 : Plan := { js := [(89007, ⟨[130], [], 126⟩), (12, ⟨[], [], 6⟩), (78002, ⟨[119], [], 108⟩), (78010, ⟨[118], [], 111⟩), (78013, ⟨[110], [], 108⟩), (66, ⟨[99], [6, 7, 8], 99⟩), (40010, ⟨[79], [], 72⟩), (34010, ⟨[63], [], 56⟩), (28010, ⟨[48], [], 41⟩), (16, ⟨[33], [], 33⟩), (6002, ⟨[29], [], 23⟩), (6005, ⟨[28], [], 26⟩), (6008, ⟨[25], [], 23⟩), (6014, ⟨[20], [], 17⟩)], ds := [] }
def W45 (v0 v1 v2 : Value) (w : World) (K : Value → World → Prop) : Prop :=
  boxW 28 v0 w fun t3 w1 =>
  boxW 3 v1 w1 fun t4 w2 =>
  boxW 72 v2 w2 fun t5 w3 =>
  ldW false 1 t5 w3 fun t9 =>
  nilW t9 fun t10 =>
  ldW false 1 t10 w3 fun t11 =>
  binW .sub t11 (.int .i64 1) fun t12 =>
  nilW t9 fun t13 =>
  stW 1 t13 t12 w3 fun w4 =>
  ldW false 1 t4 w4 fun t14 =>
  binW .eql t14 (.int .i64 0) fun t15 =>
  GdW (isB t15 false) [undef] w4 (fun J5 =>
    ldW false 1 t5 w4 fun t17 =>
    nilW t17 fun t18 =>
    ldW false 1 t18 w4 fun t19 =>
    binW .lss t19 (.int .i64 0) fun t20 =>
    J5 [t20] w4)
  fun s5 _ w6 =>
  pickW t15 (.bool true) (s5.getD 0 undef) fun t21 =>
  GdW (isB t21 false) [undef] w6 (fun J7 =>
    fldW 1 t3 fun t23 =>
    ldW false 1 t23 w6 fun t24 =>
    J7 [t24] w6)
  fun s7 _ w8 =>
  GdW (isB (s7.getD 0 undef) true) [undef] w8 (fun J9 =>
    fldW 0 t3 fun t26 =>
    ldW false 1 t26 w8 fun t27 =>
    binW .neq t27 (.int .i64 2) fun t28 =>
    J9 [t28] w8)
  fun s9 _ w10 =>
  GdW (isB t21 false) [undef] w10 (fun J11 =>
    pickW (s7.getD 0 undef) (s9.getD 0 undef) (.bool false) fun t29 =>
    J11 [t29] w10)
  fun s11 _ w12 =>
  pickW t21 (.bool true) (s11.getD 0 undef) fun t30 =>
  condW t30 (
    K (.bool false) w12) (
    JoinW (fun J13 =>
      fldW 0 t3 fun t31 =>
      ldW false 1 t31 w12 fun t32 =>
      JoinW (fun J14 =>
        binW .eql t32 (.int .i64 0) fun t34 =>
        condW t34 (
          J14 [t34] w12) (
          binW .eql t32 (.int .i64 1) fun t35 =>
          condW t35 (
            J14 [t35] w12) (
            binW .eql t32 (.int .i64 2) fun t36 =>
            J14 [t36] w12)))
      fun s14 _ w15 =>
      condW (s14.getD 0 undef) (
        fldW 2 t3 fun t37 =>
        ldW false 1 t37 w15 fun t38 =>
        binW .eql t38 (.string (ofL [])) fun t39 =>
        GdW (isB t39 true) [undef] w15 (fun J16 =>
          fldW 3 t3 fun t41 =>
          ldW false 1 t41 w15 fun t42 =>
          lenlW t42 fun t43 =>
          fldW 4 t3 fun t44 =>
          ldW false 1 t44 w15 fun t45 =>
          lenlW t45 fun t46 =>
          binW .add t43 t46 fun t47 =>
          binW .eql t47 (.int .i64 0) fun t48 =>
          J16 [t48] w15)
        fun s16 _ w17 =>
        pickW t39 (s16.getD 0 undef) (.bool false) fun t49 =>
        K t49 w17) (
        binW .eql t32 (.int .i64 3) fun t51 =>
        condW t51 (
          fldW 2 t3 fun t52 =>
          ldW false 1 t52 w15 fun t53 =>
          callF Tryz.prog 87 [t53] w15 fun t54 w18 =>
          GdW (isB t54 true) [undef] w18 (fun J19 =>
            fldW 3 t3 fun t56 =>
            ldW false 1 t56 w18 fun t57 =>
            lenlW t57 fun t58 =>
            fldW 4 t3 fun t59 =>
            ldW false 1 t59 w18 fun t60 =>
            lenlW t60 fun t61 =>
            binW .add t58 t61 fun t62 =>
            binW .eql t62 (.int .i64 0) fun t63 =>
            J19 [t63] w18)
          fun s19 _ w20 =>
          pickW t54 (s19.getD 0 undef) (.bool false) fun t64 =>
          K t64 w20) (
          binW .eql t32 (.int .i64 4) fun t66 =>
          condW t66 (
            fldW 2 t3 fun t67 =>
            ldW false 1 t67 w15 fun t68 =>
            lensW t68 fun t69 =>
            binW .leq t69 (.int .i64 16384) fun t70 =>
            GdW (isB t70 true) [undef] w15 (fun J21 =>
              fldW 3 t3 fun t72 =>
              ldW false 1 t72 w15 fun t73 =>
              lenlW t73 fun t74 =>
              fldW 4 t3 fun t75 =>
              ldW false 1 t75 w15 fun t76 =>
              lenlW t76 fun t77 =>
              binW .add t74 t77 fun t78 =>
              binW .eql t78 (.int .i64 0) fun t79 =>
              J21 [t79] w15)
            fun s21 _ w22 =>
            pickW t70 (s21.getD 0 undef) (.bool false) fun t80 =>
            K t80 w22) (
            binW .eql t32 (.int .i64 5) fun t82 =>
            condW t82 (
              fldW 4 t3 fun t83 =>
              ldW false 1 t83 w15 fun t84 =>
              lenlW t84 fun t85 =>
              binW .gtr t85 (.int .i64 0) fun t86 =>
              condW t86 (
                K (.bool false) w15) (
                J13 [] w15)) (
              binW .eql t32 (.int .i64 6) fun t88 =>
              condW t88 (
                fldW 4 t3 fun t89 =>
                ldW false 1 t89 w15 fun t90 =>
                lenlW t90 fun t91 =>
                fldW 3 t3 fun t92 =>
                ldW false 1 t92 w15 fun t93 =>
                lenlW t93 fun t94 =>
                binW .neq t91 t94 fun t95 =>
                condW t95 (
                  K (.bool false) w15) (
                  fldW 4 t3 fun t96 =>
                  ldW false 1 t96 w15 fun t97 =>
                  lenlW t97 fun t98 =>
                  LoopW [(.int .i64 0)] w15 fun s23 _ w24 L23 =>
                    binW .lss (s23.getD 0 undef) t98 fun t100 =>
                    condW t100 (
                      ixaW none 1 t97 (s23.getD 0 undef) fun t102 =>
                      ldW false 1 t102 w24 fun t103 =>
                      lensW t103 fun t105 =>
                      binW .gtr t105 (.int .i64 16384) fun t106 =>
                      GdW (isB t106 false) [undef] w24 (fun J25 =>
                        binW .gtr (s23.getD 0 undef) (.int .i64 0) fun t109 =>
                        J25 [t109] w24)
                      fun s25 _ w26 =>
                      GdW (isB (s25.getD 0 undef) true) [undef] w26 (fun J27 =>
                        fldW 4 t3 fun t111 =>
                        ldW false 1 t111 w26 fun t112 =>
                        binW .sub (s23.getD 0 undef) (.int .i64 1) fun t114 =>
                        ixaW none 1 t112 t114 fun t115 =>
                        ldW false 1 t115 w26 fun t116 =>
                        binW .geq t116 t103 fun t118 =>
                        J27 [t118] w26)
                      fun s27 _ w28 =>
                      GdW (isB t106 false) [undef] w28 (fun J29 =>
                        pickW (s25.getD 0 undef) (s27.getD 0 undef) (.bool false) fun t119 =>
                        J29 [t119] w28)
                      fun s29 _ w30 =>
                      pickW t106 (.bool true) (s29.getD 0 undef) fun t120 =>
                      condW t120 (
                        K (.bool false) w30) (
                        binW .add (s23.getD 0 undef) (.int .i64 1) fun t121 =>
                        L23 [t121] w30)) (
                      J13 [] w24))) (
                K (.bool false) w15))))))
    fun s13 _ w31 =>
    fldW 2 t3 fun t122 =>
    ldW false 1 t122 w31 fun t123 =>
    binW .eql t123 (.string (ofL [])) fun t124 =>
    GdW (isB t124 true) [undef] w31 (fun J32 =>
      fldW 3 t3 fun t126 =>
      ldW false 1 t126 w31 fun t127 =>
      callF Tryz.prog 28 [t127, (.func (.func 88) #[] #[t4, t5])] w31 fun t129 w33 =>
      unW .not t129 fun t130 =>
      J32 [t130] w33)
    fun s32 _ w34 =>
    pickW t124 (s32.getD 0 undef) (.bool false) fun t131 =>
    K t131 w34)
theorem W45_eq (v0 v1 v2 : Value) (w : World) (K : Value → World → Prop) : funW Tryz.prog Tryz.f45 plan45 [v0, v1, v2] w K = W45 v0 v1 v2 w K := by kernel_rfl
theorem W45_chk : chkFun Tryz.prog Tryz.f45 plan45 3 = true := by kernel_rfl
theorem W45_ok {v0 v1 v2 : Value} {w : World} {K : Value → World → Prop} (h : W45 v0 v1 v2 w K) : callF Tryz.prog 45 [v0, v1, v2] w K :=
  tie Tryz.prog 45 Tryz.f45 plan45 [v0, v1, v2] w K 3 (W45 v0 v1 v2 w K) rfl mixed Tryz.func45 W45_chk (W45_eq v0 v1 v2 w K) Tryz.call45 h
def plan56 : Plan := { js := [], ds := [] }
def W56 (v0 : Value) (w : World) (K : Value → World → Prop) : Prop :=
  allocW 28 [(.int .i64 0), (.bool false), (.string (ofL [])), (.slice none 0 0), (.slice none 0 0)] w fun t2 w1 =>
  putW [(.int .i64 0), (.bool false), (.string (ofL [])), (.slice none 0 0), (.slice none 0 0)] [(0, 1, (.int .i64 4)), (2, 1, v0)] fun c2 =>
  stW 5 t2 (.agg c2.toArray) w1 fun w3 =>
  ldW true 5 t2 w3 fun r4 =>
  K r4 w3
theorem W56_eq (v0 : Value) (w : World) (K : Value → World → Prop) : funW Tryz.prog Tryz.f56 plan56 [v0] w K = W56 v0 w K := by kernel_rfl
theorem W56_chk : chkFun Tryz.prog Tryz.f56 plan56 1 = true := by kernel_rfl
theorem W56_ok {v0 : Value} {w : World} {K : Value → World → Prop} (h : W56 v0 w K) : callF Tryz.prog 56 [v0] w K :=
  tie Tryz.prog 56 Tryz.f56 plan56 [v0] w K 1 (W56 v0 w K) rfl mixed Tryz.func56 W56_chk (W56_eq v0 w K) Tryz.call56 h
def plan70 : Plan := { js := [], ds := [] }
def W70 (v0 : Value) (w : World) (K : Value → World → Prop) : Prop :=
  allocW 28 [(.int .i64 0), (.bool false), (.string (ofL [])), (.slice none 0 0), (.slice none 0 0)] w fun t2 w1 =>
  callF Tryz.prog 104 [v0] w1 fun t4 w2 =>
  putW [(.int .i64 0), (.bool false), (.string (ofL [])), (.slice none 0 0), (.slice none 0 0)] [(0, 1, (.int .i64 5)), (3, 1, t4)] fun c3 =>
  stW 5 t2 (.agg c3.toArray) w2 fun w4 =>
  ldW true 5 t2 w4 fun r5 =>
  K r5 w4
theorem W70_eq (v0 : Value) (w : World) (K : Value → World → Prop) : funW Tryz.prog Tryz.f70 plan70 [v0] w K = W70 v0 w K := by kernel_rfl
theorem W70_chk : chkFun Tryz.prog Tryz.f70 plan70 1 = true := by kernel_rfl
theorem W70_ok {v0 : Value} {w : World} {K : Value → World → Prop} (h : W70 v0 w K) : callF Tryz.prog 70 [v0] w K :=
  tie Tryz.prog 70 Tryz.f70 plan70 [v0] w K 1 (W70 v0 w K) rfl mixed Tryz.func70 W70_chk (W70_eq v0 w K) Tryz.call70 h
def plan77 : Plan := { js := [], ds := [] }
def W77 (v0 : Value) (w : World) (K : Value → World → Prop) : Prop :=
  allocW 28 [(.int .i64 0), (.bool false), (.string (ofL [])), (.slice none 0 0), (.slice none 0 0)] w fun t2 w1 =>
  putW [(.int .i64 0), (.bool false), (.string (ofL [])), (.slice none 0 0), (.slice none 0 0)] [(0, 1, (.int .i64 2)), (1, 1, v0)] fun c2 =>
  stW 5 t2 (.agg c2.toArray) w1 fun w3 =>
  ldW true 5 t2 w3 fun r4 =>
  K r4 w3
theorem W77_eq (v0 : Value) (w : World) (K : Value → World → Prop) : funW Tryz.prog Tryz.f77 plan77 [v0] w K = W77 v0 w K := by kernel_rfl
theorem W77_chk : chkFun Tryz.prog Tryz.f77 plan77 1 = true := by kernel_rfl
theorem W77_ok {v0 : Value} {w : World} {K : Value → World → Prop} (h : W77 v0 w K) : callF Tryz.prog 77 [v0] w K :=
  tie Tryz.prog 77 Tryz.f77 plan77 [v0] w K 1 (W77 v0 w K) rfl mixed Tryz.func77 W77_chk (W77_eq v0 w K) Tryz.call77 h
def plan78 : Plan := { js := [], ds := [] }
def W78 (v0 : Value) (w : World) (K : Value → World → Prop) : Prop :=
  allocW 28 [(.int .i64 0), (.bool false), (.string (ofL [])), (.slice none 0 0), (.slice none 0 0)] w fun t2 w1 =>
  putW [(.int .i64 0), (.bool false), (.string (ofL [])), (.slice none 0 0), (.slice none 0 0)] [(0, 1, (.int .i64 5)), (3, 1, v0)] fun c2 =>
  stW 5 t2 (.agg c2.toArray) w1 fun w3 =>
  ldW true 5 t2 w3 fun r4 =>
  K r4 w3
theorem W78_eq (v0 : Value) (w : World) (K : Value → World → Prop) : funW Tryz.prog Tryz.f78 plan78 [v0] w K = W78 v0 w K := by kernel_rfl
theorem W78_chk : chkFun Tryz.prog Tryz.f78 plan78 1 = true := by kernel_rfl
theorem W78_ok {v0 : Value} {w : World} {K : Value → World → Prop} (h : W78 v0 w K) : callF Tryz.prog 78 [v0] w K :=
  tie Tryz.prog 78 Tryz.f78 plan78 [v0] w K 1 (W78 v0 w K) rfl mixed Tryz.func78 W78_chk (W78_eq v0 w K) Tryz.call78 h
def plan80 : Plan := { js := [], ds := [] }
def W80 (v0 : Value) (w : World) (K : Value → World → Prop) : Prop :=
  callF Tryz.prog 112 [v0] w fun t4 w1 =>
  condW t4 (
    slsW v0 (some (.int .i64 1)) none fun t6 =>
    K t6 w1) (
    K v0 w1)
theorem W80_eq (v0 : Value) (w : World) (K : Value → World → Prop) : funW Tryz.prog Tryz.f80 plan80 [v0] w K = W80 v0 w K := by kernel_rfl
theorem W80_chk : chkFun Tryz.prog Tryz.f80 plan80 1 = true := by kernel_rfl
theorem W80_ok {v0 : Value} {w : World} {K : Value → World → Prop} (h : W80 v0 w K) : callF Tryz.prog 80 [v0] w K :=
  tie Tryz.prog 80 Tryz.f80 plan80 [v0] w K 1 (W80 v0 w K) rfl mixed Tryz.func80 W80_chk (W80_eq v0 w K) Tryz.call80 h
def plan83 : Plan := { js := [], ds := [] }
def W83 (v0 v1 : Value) (w : World) (K : Value → World → Prop) : Prop :=
  lensW v0 fun t7 =>
  binW .geq v1 t7 fun t8 =>
  condW t8 (
    K (.int .i64 (-1)) w) (
    ixsW v0 v1 fun t11 =>
    cvtW .i64 t11 fun t12 =>
    K t12 w)
theorem W83_eq (v0 v1 : Value) (w : World) (K : Value → World → Prop) : funW Tryz.prog Tryz.f83 plan83 [v0, v1] w K = W83 v0 v1 w K := by kernel_rfl
theorem W83_chk : chkFun Tryz.prog Tryz.f83 plan83 2 = true := by kernel_rfl
theorem W83_ok {v0 v1 : Value} {w : World} {K : Value → World → Prop} (h : W83 v0 v1 w K) : callF Tryz.prog 83 [v0, v1] w K :=
  tie Tryz.prog 83 Tryz.f83 plan83 [v0, v1] w K 2 (W83 v0 v1 w K) rfl mixed Tryz.func83 W83_chk (W83_eq v0 v1 w K) Tryz.call83 h
def plan84 : Plan := { js := [(3006, ⟨[13], [], 10⟩)], ds := [] }
def W84 (v0 v1 : Value) (w : World) (K : Value → World → Prop) : Prop :=
  callF Tryz.prog 83 [v0, v1] w fun t7 w1 =>
  binW .geq t7 (.int .i64 128) fun t8 =>
  GdW (isB t8 true) [undef] w1 (fun J2 =>
    callF Tryz.prog 83 [v0, v1] w1 fun t12 w3 =>
    binW .lss t12 (.int .i64 192) fun t13 =>
    J2 [t13] w3)
  fun s2 _ w4 =>
  pickW t8 (s2.getD 0 undef) (.bool false) fun t14 =>
  K t14 w4
theorem W84_eq (v0 v1 : Value) (w : World) (K : Value → World → Prop) : funW Tryz.prog Tryz.f84 plan84 [v0, v1] w K = W84 v0 v1 w K := by kernel_rfl
theorem W84_chk : chkFun Tryz.prog Tryz.f84 plan84 2 = true := by kernel_rfl
theorem W84_ok {v0 v1 : Value} {w : World} {K : Value → World → Prop} (h : W84 v0 v1 w K) : callF Tryz.prog 84 [v0, v1] w K :=
  tie Tryz.prog 84 Tryz.f84 plan84 [v0, v1] w K 2 (W84 v0 v1 w K) rfl mixed Tryz.func84 W84_chk (W84_eq v0 v1 w K) Tryz.call84 h
def plan88 : Plan := { js := [], ds := [] }
def W88 (v0 v1 v2 : Value) (w : World) (K : Value → World → Prop) : Prop :=
  boxW 28 v0 w fun t3 w1 =>
  ldW true 5 t3 w1 fun t5 =>
  ldW false 1 v1 w1 fun t6 =>
  binW .sub t6 (.int .i64 1) fun t7 =>
  ldW false 1 v2 w1 fun t8 =>
  callF Tryz.prog 45 [t5, t7, t8] w1 fun t9 w2 =>
  unW .not t9 fun t10 =>
  K t10 w2
theorem W88_eq (v0 v1 v2 : Value) (w : World) (K : Value → World → Prop) : funW Tryz.prog Tryz.f88 plan88 [v0, v1, v2] w K = W88 v0 v1 v2 w K := by kernel_rfl
theorem W88_chk : chkFun Tryz.prog Tryz.f88 plan88 3 = true := by kernel_rfl
theorem W88_ok {v0 v1 v2 : Value} {w : World} {K : Value → World → Prop} (h : W88 v0 v1 v2 w K) : callF Tryz.prog 88 [v0, v1, v2] w K :=
  tie Tryz.prog 88 Tryz.f88 plan88 [v0, v1, v2] w K 3 (W88 v0 v1 v2 w K) rfl mixed Tryz.func88 W88_chk (W88_eq v0 v1 v2 w K) Tryz.call88 h
def plan91 : Plan := { js := [], ds := [] }
def W91 (v0 : Value) (w : World) (K : Value → World → Prop) : Prop :=
  allocW 28 [(.int .i64 0), (.bool false), (.string (ofL [])), (.slice none 0 0), (.slice none 0 0)] w fun t2 w1 =>
  putW [(.int .i64 0), (.bool false), (.string (ofL [])), (.slice none 0 0), (.slice none 0 0)] [(0, 1, (.int .i64 2)), (1, 1, v0)] fun c2 =>
  stW 5 t2 (.agg c2.toArray) w1 fun w3 =>
  ldW true 5 t2 w3 fun r4 =>
  K r4 w3
theorem W91_eq (v0 : Value) (w : World) (K : Value → World → Prop) : funW Tryz.prog Tryz.f91 plan91 [v0] w K = W91 v0 w K := by kernel_rfl
theorem W91_chk : chkFun Tryz.prog Tryz.f91 plan91 1 = true := by kernel_rfl
theorem W91_ok {v0 : Value} {w : World} {K : Value → World → Prop} (h : W91 v0 w K) : callF Tryz.prog 91 [v0] w K :=
  tie Tryz.prog 91 Tryz.f91 plan91 [v0] w K 1 (W91 v0 w K) rfl mixed Tryz.func91 W91_chk (W91_eq v0 w K) Tryz.call91 h
def plan95 : Plan := { js := [], ds := [] }
def W95 (v0 : Value) (w : World) (K : Value → World → Prop) : Prop :=
  allocW 28 [(.int .i64 0), (.bool false), (.string (ofL [])), (.slice none 0 0), (.slice none 0 0)] w fun t2 w1 =>
  callF Tryz.prog 132 [v0] w1 fun t4 w2 =>
  putW [(.int .i64 0), (.bool false), (.string (ofL [])), (.slice none 0 0), (.slice none 0 0)] [(0, 1, (.int .i64 3)), (2, 1, t4)] fun c3 =>
  stW 5 t2 (.agg c3.toArray) w2 fun w4 =>
  ldW true 5 t2 w4 fun r5 =>
  K r5 w4
theorem W95_eq (v0 : Value) (w : World) (K : Value → World → Prop) : funW Tryz.prog Tryz.f95 plan95 [v0] w K = W95 v0 w K := by kernel_rfl
theorem W95_chk : chkFun Tryz.prog Tryz.f95 plan95 1 = true := by kernel_rfl
theorem W95_ok {v0 : Value} {w : World} {K : Value → World → Prop} (h : W95 v0 w K) : callF Tryz.prog 95 [v0] w K :=
  tie Tryz.prog 95 Tryz.f95 plan95 [v0] w K 1 (W95 v0 w K) rfl mixed Tryz.func95 W95_chk (W95_eq v0 w K) Tryz.call95 h
def plan99 : Plan := { js := [(2, ⟨[], [], 7⟩)], ds := [(9, ⟨[0, 2, 3], [[], [0], [], [], [0, 1, 3], [0, 1, 2, 3, 4], [0, 1, 2, 3, 4, 5]]⟩)] }
def W99 (v0 v1 v2 : Value) (w : World) (K : Value → World → Prop) : Prop :=
  boxW 28 v0 w fun t3 w1 =>
  boxW 28 v2 w1 fun t5 w2 =>
  allocW 28 [(.int .i64 0), (.bool false), (.string (ofL [])), (.slice none 0 0), (.slice none 0 0)] w2 fun t6 w3 =>
  JoinW (fun J4 =>
    fldW 0 t3 fun t7 =>
    ldW false 1 t7 w3 fun t8 =>
    binW .neq t8 (.int .i64 6) fun t9 =>
    condW t9 (
      putW [(.int .i64 0), (.bool false), (.string (ofL [])), (.slice none 0 0), (.slice none 0 0)] [(0, 1, (.int .i64 6))] fun c5 =>
      stW 5 t3 (.agg c5.toArray) w3 fun w6 =>
      J4 [] w6) (
      J4 [] w3))
  fun s4 _ w7 =>
  ldW true 5 t3 w7.drew fun t11 =>
  ldW true 5 t5 w7.drew fun t14 =>
  callF Tryz.prog 90 [t11] w7.drew fun t12 w8 =>
  (ldW true 5 t5 w8 fun x => x = t14) ∧
  callF Tryz.prog 90 [t14] w8 fun t15 w9 =>
  callF Tryz.prog 137 [t12, v1, t15] w9 fun t16 w10 =>
  stW 5 t6 t16 w10 fun w11 =>
  ldW true 5 t6 w11 fun r12 =>
  K r12 w11
theorem W99_eq (v0 v1 v2 : Value) (w : World) (K : Value → World → Prop) : funW Tryz.prog Tryz.f99 plan99 [v0, v1, v2] w K = W99 v0 v1 v2 w K := by kernel_rfl
theorem W99_chk : chkFun Tryz.prog Tryz.f99 plan99 3 = true := by kernel_rfl
theorem W99_ok {v0 v1 v2 : Value} {w : World} {K : Value → World → Prop} (h : W99 v0 v1 v2 w K) : callF Tryz.prog 99 [v0, v1, v2] w K :=
  tie Tryz.prog 99 Tryz.f99 plan99 [v0, v1, v2] w K 3 (W99 v0 v1 v2 w K) rfl mixed Tryz.func99 W99_chk (W99_eq v0 v1 v2 w K) Tryz.call99 h
def plan100 : Plan := { js := [(6004, ⟨[16], [], 14⟩)], ds := [] }
def W100 (v0 : Value) (w : World) (K : Value → World → Prop) : Prop :=
  callF Tryz.prog 138 [v0] w fun t8 w1 =>
  extW 0 t8 fun t9 =>
  extW 1 t8 fun t10 =>
  eqQ Tryz.prog .neq 106 false true t10 .nilIface w1 fun t12 =>
  GdW (isB t12 false) [undef] w1 (fun J2 =>
    callF Tryz.prog 87 [v0] w1 fun t15 w3 =>
    unW .not t15 fun t16 =>
    J2 [t16] w3)
  fun s2 _ w4 =>
  pickW t12 (.bool true) (s2.getD 0 undef) fun t17 =>
  condW t17 (
    K (.tuple #[(.int .i64 0), (.bool false)]) w4) (
    K (.tuple #[t9, (.bool true)]) w4)
theorem W100_eq (v0 : Value) (w : World) (K : Value → World → Prop) : funW Tryz.prog Tryz.f100 plan100 [v0] w K = W100 v0 w K := by kernel_rfl
theorem W100_chk : chkFun Tryz.prog Tryz.f100 plan100 1 = true := by kernel_rfl
theorem W100_ok {v0 : Value} {w : World} {K : Value → World → Prop} (h : W100 v0 w K) : callF Tryz.prog 100 [v0] w K :=
  tie Tryz.prog 100 Tryz.f100 plan100 [v0] w K 1 (W100 v0 w K) rfl mixed Tryz.func100 W100_chk (W100_eq v0 w K) Tryz.call100 h
def plan102 : Plan := { js := [(3, ⟨[2, 3], [], 1⟩)], ds := [(12, ⟨[0, 1, 2, 3, 4, 5, 6, 7, 8, 9, 10, 11, 12, 14], [[], [], [], [], [], [], [4, 5], [4, 5, 6], [], [], [8, 9], [8, 9, 10], [0, 1, 4, 5, 6, 7, 8, 9, 10, 11], [0, 1, 4, 5, 6, 7, 8, 9, 10, 11, 12], [0, 1, 2, 3, 4, 5, 6, 7, 8, 9, 10, 11, 12, 13], [0, 1, 2, 3, 4, 5, 6, 7, 8, 9, 10, 11, 12, 13, 14]]⟩)] }
def W102 (v0 : Value) (w : World) (K : Value → World → Prop) : Prop :=
  lenlW v0 fun t5 =>
  binW .sub t5 (.int .i64 1) fun t6 =>
  LoopW [(.int .i64 0), t6] w fun s1 _ w2 L1 =>
    binW .lss (s1.getD 0 undef) (s1.getD 1 undef) fun t9 =>
    condW t9 (
      ixaW none 5 v0 (s1.getD 1 undef) fun t20 =>
      ldW true 5 t20 w2.drew fun t21 =>
      ixaW none 5 v0 (s1.getD 0 undef) fun t24 =>
      ldW true 5 t24 w2.drew fun t25 =>
      ixaW none 5 v0 (s1.getD 0 undef) fun t26 =>
      stW 5 t26 t21 w2.drew fun w3 =>
      ixaW none 5 v0 (s1.getD 1 undef) fun t27 =>
      stW 5 t27 t25 w3 fun w4 =>
      binW .add (s1.getD 0 undef) (.int .i64 1) fun t11 =>
      binW .sub (s1.getD 1 undef) (.int .i64 1) fun t13 =>
      L1 [t11, t13] w4) (
      K (.tuple #[]) w2)
theorem W102_eq (v0 : Value) (w : World) (K : Value → World → Prop) : funW Tryz.prog Tryz.f102 plan102 [v0] w K = W102 v0 w K := by kernel_rfl
theorem W102_chk : chkFun Tryz.prog Tryz.f102 plan102 1 = true := by kernel_rfl
theorem W102_ok {v0 : Value} {w : World} {K : Value → World → Prop} (h : W102 v0 w K) : callF Tryz.prog 102 [v0] w K :=
  tie Tryz.prog 102 Tryz.f102 plan102 [v0] w K 1 (W102 v0 w K) rfl mixed Tryz.func102 W102_chk (W102_eq v0 w K) Tryz.call102 h
def plan112 : Plan := { js := [], ds := [] }
def W112 (v0 : Value) (w : World) (K : Value → World → Prop) : Prop :=
  ixsW v0 (.int .i64 0) fun t4 =>
  binW .eql t4 (.int .u8 45) fun t5 =>
  K t5 w
theorem W112_eq (v0 : Value) (w : World) (K : Value → World → Prop) : funW Tryz.prog Tryz.f112 plan112 [v0] w K = W112 v0 w K := by kernel_rfl
theorem W112_chk : chkFun Tryz.prog Tryz.f112 plan112 1 = true := by kernel_rfl
theorem W112_ok {v0 : Value} {w : World} {K : Value → World → Prop} (h : W112 v0 w K) : callF Tryz.prog 112 [v0] w K :=
  tie Tryz.prog 112 Tryz.f112 plan112 [v0] w K 1 (W112 v0 w K) rfl mixed Tryz.func112 W112_chk (W112_eq v0 w K) Tryz.call112 h
def plan117 : Plan := { js := [], ds := [] }
def W117 (v0 v1 : Value) (w : World) (K : Value → World → Prop) : Prop :=
  callF Tryz.prog 148 [v1] w fun t8 w1 =>
  callF Tryz.prog 147 [v0, t8] w1 fun t9 w2 =>
  binW .eql t9 (.string (ofL [48])) fun t11 =>
  condW t11 (
    K (.int .i64 0) w2) (
    callF Tryz.prog 112 [t9] w2 fun t13 w3 =>
    condW t13 (
      K (.int .i64 (-1)) w3) (
      K (.int .i64 1) w3))
theorem W117_eq (v0 v1 : Value) (w : World) (K : Value → World → Prop) : funW Tryz.prog Tryz.f117 plan117 [v0, v1] w K = W117 v0 v1 w K := by kernel_rfl
theorem W117_chk : chkFun Tryz.prog Tryz.f117 plan117 2 = true := by kernel_rfl
theorem W117_ok {v0 v1 : Value} {w : World} {K : Value → World → Prop} (h : W117 v0 v1 w K) : callF Tryz.prog 117 [v0, v1] w K :=
  tie Tryz.prog 117 Tryz.f117 plan117 [v0, v1] w K 2 (W117 v0 v1 w K) rfl mixed Tryz.func117 W117_chk (W117_eq v0 v1 w K) Tryz.call117 h
def plan132 : Plan := { js := [], ds := [] }
def W132 (v0 : Value) (w : World) (K : Value → World → Prop) : Prop :=
  callF Tryz.prog 162 [v0] w fun t4 w1 =>
  K t4 w1
theorem W132_eq (v0 : Value) (w : World) (K : Value → World → Prop) : funW Tryz.prog Tryz.f132 plan132 [v0] w K = W132 v0 w K := by kernel_rfl
theorem W132_chk : chkFun Tryz.prog Tryz.f132 plan132 1 = true := by kernel_rfl
theorem W132_ok {v0 : Value} {w : World} {K : Value → World → Prop} (h : W132 v0 w K) : callF Tryz.prog 132 [v0] w K :=
  tie Tryz.prog 132 Tryz.f132 plan132 [v0] w K 1 (W132 v0 w K) rfl mixed Tryz.func132 W132_chk (W132_eq v0 w K) Tryz.call132 h
def plan137 : Plan := { js := [(14, ⟨[], [], 7⟩)], ds := [(15, ⟨[0, 1, 2, 3, 6, 7, 8, 9, 12, 14], [[], [0], [], [], [3], [0, 1, 2, 3, 4], [], [6], [], [], [9], [0, 1, 2, 3, 4, 5, 6, 7, 8, 9, 10], [0, 1, 2, 3, 4, 5, 6, 7], [0, 1, 2, 3, 4, 5, 6, 7, 8, 9, 10, 11, 12], [0, 1, 2, 3, 4, 5, 6, 7, 8, 9, 10, 11, 12, 13], [0, 1, 2, 3, 4, 5, 6, 7, 8, 9, 10, 11, 12, 13, 14]]⟩)] }
def W137 (v0 v1 v2 : Value) (w : World) (K : Value → World → Prop) : Prop :=
  boxW 28 v0 w fun t3 w1 =>
  boxW 28 v2 w1 fun t5 w2 =>
  allocW 28 [(.int .i64 0), (.bool false), (.string (ofL [])), (.slice none 0 0), (.slice none 0 0)] w2 fun t6 w3 =>
  fldW 4 t3 fun t10 =>
  ldW false 1 t10 w3 fun t11 =>
  callF Tryz.prog 133 [t11, v1] w3 fun t13 w4 =>
  extW 0 t13 fun t14 =>
  extW 1 t13 fun t15 =>
  condW t15 (
    fldW 3 t3 fun t17 =>
    ldW false 1 t17 w4 fun t18 =>
    ldW true 5 t5 w4 fun t20 =>
    ixaW none 5 t18 t14 fun t21 =>
    stW 5 t21 t20 w4 fun w5 =>
    ldW true 5 t3 w5 fun t22 =>
    stW 5 t6 t22 w5 fun w6 =>
    ldW true 5 t6 w6 fun r7 =>
    K r7 w6) (
    JoinW (fun J8 =>
      fldW 4 t3 fun t23 =>
      ldW false 1 t23 w4.drew fun t24 =>
      fldW 3 t3 fun t29 =>
      ldW false 1 t29 w4.drew fun t30 =>
      ldW true 5 t5 w4.drew fun t32 =>
      (
       bslW 9 1 [(.string (ofL []))] [(0, 1, v1)] w4.drew fun t27 w9 =>
       (ldW true 5 t5 w9 fun x => x = t32) ∧
       (ldW false 1 t29 w9 fun x => x = t30) ∧
       (ldW false 1 t23 w9 fun x => x = t24) ∧
       (
        callF Tryz.prog 170 [t24, t14, t27] w9 fun t28 w10 =>
        (ldW true 5 t5 w10 fun x => x = t32) ∧
        (ldW false 1 t29 w10 fun x => x = t30) ∧
        fldW 4 t3 fun t35 =>
        bslW 28 1 [(.int .i64 0), (.bool false), (.string (ofL [])), (.slice none 0 0), (.slice none 0 0)] [(0, 5, t32)] w10 fun t33 w11 =>
        (ldW false 1 t29 w11 fun x => x = t30) ∧
        callF Tryz.prog 171 [t30, t14, t33] w11 fun t34 w12 =>
        stW 1 t35 t28 w12 fun w13 =>
        fldW 3 t3 fun t36 =>
        stW 1 t36 t34 w13 fun w14 =>
      J8 [] w14) ∧
       (
        bslW 28 1 [(.int .i64 0), (.bool false), (.string (ofL [])), (.slice none 0 0), (.slice none 0 0)] [(0, 5, t32)] w9 fun t33 w15 =>
        (ldW false 1 t29 w15 fun x => x = t30) ∧
        (ldW false 1 t23 w15 fun x => x = t24) ∧
        callF Tryz.prog 170 [t24, t14, t27] w15 fun t28 w16 =>
        (ldW false 1 t29 w16 fun x => x = t30) ∧
        fldW 4 t3 fun t35 =>
        callF Tryz.prog 171 [t30, t14, t33] w16 fun t34 w17 =>
        stW 1 t35 t28 w17 fun w18 =>
        fldW 3 t3 fun t36 =>
        stW 1 t36 t34 w18 fun w19 =>
      J8 [] w19)) ∧
      (
       bslW 28 1 [(.int .i64 0), (.bool false), (.string (ofL [])), (.slice none 0 0), (.slice none 0 0)] [(0, 5, t32)] w4.drew fun t33 w20 =>
       (ldW false 1 t29 w20 fun x => x = t30) ∧
       (ldW false 1 t23 w20 fun x => x = t24) ∧
       bslW 9 1 [(.string (ofL []))] [(0, 1, v1)] w20 fun t27 w21 =>
       (ldW false 1 t29 w21 fun x => x = t30) ∧
       (ldW false 1 t23 w21 fun x => x = t24) ∧
       callF Tryz.prog 170 [t24, t14, t27] w21 fun t28 w22 =>
       (ldW false 1 t29 w22 fun x => x = t30) ∧
       fldW 4 t3 fun t35 =>
       callF Tryz.prog 171 [t30, t14, t33] w22 fun t34 w23 =>
       stW 1 t35 t28 w23 fun w24 =>
       fldW 3 t3 fun t36 =>
       stW 1 t36 t34 w24 fun w25 =>
      J8 [] w25))
    fun s8 _ w26 =>
    ldW true 5 t3 w26 fun t37 =>
    stW 5 t6 t37 w26 fun w27 =>
    ldW true 5 t6 w27 fun r28 =>
    K r28 w27)
theorem W137_eq (v0 v1 v2 : Value) (w : World) (K : Value → World → Prop) : funW Tryz.prog Tryz.f137 plan137 [v0, v1, v2] w K = W137 v0 v1 v2 w K := by kernel_rfl
theorem W137_chk : chkFun Tryz.prog Tryz.f137 plan137 3 = true := by kernel_rfl
theorem W137_ok {v0 v1 v2 : Value} {w : World} {K : Value → World → Prop} (h : W137 v0 v1 v2 w K) : callF Tryz.prog 137 [v0, v1, v2] w K :=
  tie Tryz.prog 137 Tryz.f137 plan137 [v0, v1, v2] w K 3 (W137 v0 v1 v2 w K) rfl mixed Tryz.func137 W137_chk (W137_eq v0 v1 v2 w K) Tryz.call137 h
def plan138 : Plan := { js := [], ds := [] }
def W138 (v0 : Value) (w : World) (K : Value → World → Prop) : Prop :=
  callF Tryz.prog 172 [v0] w fun t8 w1 =>
  extW 0 t8 fun t9 =>
  extW 1 t8 fun t10 =>
  eqQ Tryz.prog .neq 106 false true t10 .nilIface w1 fun t12 =>
  condW t12 (
    callF Tryz.prog 173 [(.string (ofL [65, 116, 111, 105])), v0, (.int .i64 0), (.int .i64 0), t10] w1 fun t16 w2 =>
    K (.tuple #[t9, t16]) w2) (
    K (.tuple #[t9, .nilIface]) w1)
theorem W138_eq (v0 : Value) (w : World) (K : Value → World → Prop) : funW Tryz.prog Tryz.f138 plan138 [v0] w K = W138 v0 w K := by kernel_rfl
theorem W138_chk : chkFun Tryz.prog Tryz.f138 plan138 1 = true := by kernel_rfl
theorem W138_ok {v0 : Value} {w : World} {K : Value → World → Prop} (h : W138 v0 w K) : callF Tryz.prog 138 [v0] w K :=
  tie Tryz.prog 138 Tryz.f138 plan138 [v0] w K 1 (W138 v0 w K) rfl mixed Tryz.func138 W138_chk (W138_eq v0 w K) Tryz.call138 h
def plan145 : Plan := { js := [(23, ⟨[4], [4], 6⟩), (33, ⟨[6], [], 6⟩), (16, ⟨[4, 5], [], 1⟩), (4004, ⟨[18], [], 16⟩), (4009, ⟨[13], [], 11⟩)], ds := [] }
def W145 (v0 : Value) (w : World) (K : Value → World → Prop) : Prop :=
  callF Tryz.prog 81 [v0] w fun t8 w1 =>
  unW .not t8 fun t9 =>
  GdW (isB t9 false) [undef] w1 (fun J2 =>
    callF Tryz.prog 117 [v0, (.string (ofL [57, 50, 50, 51, 51, 55, 50, 48, 51, 54, 56, 53, 52, 55, 55, 53, 56, 48, 55]))] w1 fun t12 w3 =>
    binW .gtr t12 (.int .i64 0) fun t13 =>
    J2 [t13] w3)
  fun s2 _ w4 =>
  pickW t9 (.bool true) (s2.getD 0 undef) fun t14 =>
  GdW (isB t14 false) [undef] w4 (fun J5 =>
    callF Tryz.prog 117 [v0, (.string (ofL [45, 57, 50, 50, 51, 51, 55, 50, 48, 51, 54, 56, 53, 52, 55, 55, 53, 56, 48, 56]))] w4 fun t17 w6 =>
    binW .lss t17 (.int .i64 0) fun t18 =>
    J5 [t18] w6)
  fun s5 _ w7 =>
  pickW t14 (.bool true) (s5.getD 0 undef) fun t19 =>
  condW t19 (
    K (.tuple #[(.int .i64 0), (.bool false)]) w7) (
    LoopW [(.int .i64 0), (.int .i64 0)] w7 fun s8 _ w9 L8 =>
      lensW v0 fun t22 =>
      binW .lss (s8.getD 1 undef) t22 fun t23 =>
      condW t23 (
        JoinW (fun J10 =>
          ixsW v0 (s8.getD 1 undef) fun t28 =>
          binW .eql t28 (.int .u8 45) fun t29 =>
          condW t29 (
            J10 [(s8.getD 0 undef)] w9) (
            ixsW v0 (s8.getD 1 undef) fun t32 =>
            binW .sub t32 (.int .u8 48) fun t33 =>
            cvtW .i64 t33 fun t34 =>
            JoinW (fun J11 =>
              callF Tryz.prog 112 [v0] w9 fun t36 w12 =>
              condW t36 (
                unW .neg t34 fun t38 =>
                J11 [t38] w12) (
                J11 [t34] w12))
            fun s11 _ w13 =>
            binW .mul (.int .i64 10) (s8.getD 0 undef) fun t40 =>
            binW .add t40 (s11.getD 0 undef) fun t42 =>
            J10 [t42] w13))
        fun s10 _ w14 =>
        binW .add (s8.getD 1 undef) (.int .i64 1) fun t25 =>
        L8 [(s10.getD 0 undef), t25] w14) (
        K (.tuple #[(s8.getD 0 undef), (.bool true)]) w9))
theorem W145_eq (v0 : Value) (w : World) (K : Value → World → Prop) : funW Tryz.prog Tryz.f145 plan145 [v0] w K = W145 v0 w K := by kernel_rfl
theorem W145_chk : chkFun Tryz.prog Tryz.f145 plan145 1 = true := by kernel_rfl
theorem W145_ok {v0 : Value} {w : World} {K : Value → World → Prop} (h : W145 v0 w K) : callF Tryz.prog 145 [v0] w K :=
  tie Tryz.prog 145 Tryz.f145 plan145 [v0] w K 1 (W145 v0 w K) rfl mixed Tryz.func145 W145_chk (W145_eq v0 w K) Tryz.call145 h
def plan147 : Plan := { js := [], ds := [] }
def W147 (v0 v1 : Value) (w : World) (K : Value → World → Prop) : Prop :=
  callF Tryz.prog 112 [v0] w fun t6 w1 =>
  callF Tryz.prog 112 [v1] w1 fun t8 w2 =>
  eqW .bool false t6 t8 fun t9 =>
  condW t9 (
    callF Tryz.prog 112 [v0] w2 fun t11 w3 =>
    callF Tryz.prog 80 [v0] w3 fun t13 w4 =>
    callF Tryz.prog 80 [v1] w4 fun t15 w5 =>
    callF Tryz.prog 179 [t13, t15] w5 fun t16 w6 =>
    callF Tryz.prog 40 [t11, t16] w6 fun t17 w7 =>
    K t17 w7) (
    callF Tryz.prog 80 [v0] w2 fun t19 w8 =>
    callF Tryz.prog 80 [v1] w8 fun t21 w9 =>
    callF Tryz.prog 180 [t19, t21] w9 fun t22 w10 =>
    condW t22 (
      callF Tryz.prog 112 [v1] w10 fun t24 w11 =>
      callF Tryz.prog 80 [v1] w11 fun t26 w12 =>
      callF Tryz.prog 80 [v0] w12 fun t28 w13 =>
      callF Tryz.prog 181 [t26, t28] w13 fun t29 w14 =>
      callF Tryz.prog 40 [t24, t29] w14 fun t30 w15 =>
      K t30 w15) (
      callF Tryz.prog 112 [v0] w10 fun t32 w16 =>
      callF Tryz.prog 80 [v0] w16 fun t34 w17 =>
      callF Tryz.prog 80 [v1] w17 fun t36 w18 =>
      callF Tryz.prog 181 [t34, t36] w18 fun t37 w19 =>
      callF Tryz.prog 40 [t32, t37] w19 fun t38 w20 =>
      K t38 w20))
theorem W147_eq (v0 v1 : Value) (w : World) (K : Value → World → Prop) : funW Tryz.prog Tryz.f147 plan147 [v0, v1] w K = W147 v0 v1 w K := by kernel_rfl
theorem W147_chk : chkFun Tryz.prog Tryz.f147 plan147 2 = true := by kernel_rfl
theorem W147_ok {v0 v1 : Value} {w : World} {K : Value → World → Prop} (h : W147 v0 v1 w K) : callF Tryz.prog 147 [v0, v1] w K :=
  tie Tryz.prog 147 Tryz.f147 plan147 [v0, v1] w K 2 (W147 v0 v1 w K) rfl mixed Tryz.func147 W147_chk (W147_eq v0 v1 w K) Tryz.call147 h
def plan148 : Plan := { js := [], ds := [] }
def W148 (v0 : Value) (w : World) (K : Value → World → Prop) : Prop :=
  callF Tryz.prog 112 [v0] w fun t4 w1 =>
  unW .not t4 fun t5 =>
  callF Tryz.prog 80 [v0] w1 fun t7 w2 =>
  callF Tryz.prog 40 [t5, t7] w2 fun t8 w3 =>
  K t8 w3
theorem W148_eq (v0 : Value) (w : World) (K : Value → World → Prop) : funW Tryz.prog Tryz.f148 plan148 [v0] w K = W148 v0 w K := by kernel_rfl
theorem W148_chk : chkFun Tryz.prog Tryz.f148 plan148 1 = true := by kernel_rfl
theorem W148_ok {v0 : Value} {w : World} {K : Value → World → Prop} (h : W148 v0 w K) : callF Tryz.prog 148 [v0] w K :=
  tie Tryz.prog 148 Tryz.f148 plan148 [v0] w K 1 (W148 v0 w K) rfl mixed Tryz.func148 W148_chk (W148_eq v0 w K) Tryz.call148 h
def plan170 : Plan := { js := [], ds := [(45, ⟨[0, 1, 2, 3, 4, 5, 6, 7], [[], [], [], [1, 2], [0, 1, 2, 3], [], [], [5, 6], [0, 1, 2, 3, 4, 5, 6, 7]]⟩), (33, ⟨[0, 1, 2, 3, 4, 5, 6, 7], [[], [], [], [1, 2], [0, 1, 2, 3], [], [], [5, 6], [0, 1, 2, 3, 4, 5, 6, 7]]⟩)] }
def W170 (v0 v1 v2 : Value) (w : World) (K : Value → World → Prop) : Prop :=
  sllW 1 v0 (some v1) none none fun t12 =>
  lenlW v2 fun t14 =>
  binW .eql t14 (.int .i64 0) fun t16 =>
  condW t16 (
    K v0 w) (
    lenlW v0 fun t19 =>
    binW .eql v1 t19 fun t22 =>
    condW t22 (
      semE Tryz.prog (Builtin.append_ #[26, 26] 26 #[v0, v2]) w fun t25 w1 =>
      K t25 w1) (
      binW .add t19 t14 fun t28 =>
      capW v0 fun t30 =>
      binW .gtr t28 t30 fun t31 =>
      condW t31 (
        sllW 1 v0 none (some v1) none fun t34 =>
        binW .add t19 t14 fun t37 =>
        binW .sub t37 v1 fun t39 =>
        semE Tryz.prog (Builtin.append_ #[26, 3] 26 #[t34, t39]) w fun t40 w2 =>
        sllW 1 t40 (some v1) none none fun t43 =>
        semE Tryz.prog (Builtin.copy_ #[26, 26] 3 #[t43, v2]) w2 fun t45 w3 =>
        binW .add v1 t14 fun t49 =>
        sllW 1 t40 (some t49) none none fun t50 =>
        sllW 1 v0 (some v1) none none fun t53 =>
        semE Tryz.prog (Builtin.copy_ #[26, 26] 3 #[t50, t53]) w3.drew fun t54 w4 =>
        K t40 w4) (
        binW .add t19 t14 fun t59 =>
        sllW 1 v0 none (some t59) none fun t60 =>
        binW .add v1 t14 fun t65 =>
        sllW 1 t60 (some t65) none none fun t66 =>
        callF Tryz.prog 191 [v2, t66] w fun t67 w5 =>
        unW .not t67 fun t68 =>
        condW t68 (
          binW .add v1 t14 fun t72 =>
          sllW 1 t60 (some t72) none none fun t73 =>
          sllW 1 t60 (some v1) none none fun t76 =>
          semE Tryz.prog (Builtin.copy_ #[26, 26] 3 #[t73, t76]) w5.drew fun t77 w6 =>
          sllW 1 t60 (some v1) none none fun t80 =>
          semE Tryz.prog (Builtin.copy_ #[26, 26] 3 #[t80, v2]) w6 fun t82 w7 =>
          K t60 w7) (
          sllW 1 t60 (some t19) none none fun t86 =>
          semE Tryz.prog (Builtin.copy_ #[26, 26] 3 #[t86, v2]) w5 fun t88 w8 =>
          sllW 1 t60 (some v1) none none fun t91 =>
          callF Tryz.prog 192 [t91, t14] w8 fun t93 w9 =>
          K t60 w9))))
theorem W170_eq (v0 v1 v2 : Value) (w : World) (K : Value → World → Prop) : funW Tryz.prog Tryz.f170 plan170 [v0, v1, v2] w K = W170 v0 v1 v2 w K := by kernel_rfl
theorem W170_chk : chkFun Tryz.prog Tryz.f170 plan170 3 = true := by kernel_rfl
theorem W170_ok {v0 v1 v2 : Value} {w : World} {K : Value → World → Prop} (h : W170 v0 v1 v2 w K) : callF Tryz.prog 170 [v0, v1, v2] w K :=
  tie Tryz.prog 170 Tryz.f170 plan170 [v0, v1, v2] w K 3 (W170 v0 v1 v2 w K) rfl mixed Tryz.func170 W170_chk (W170_eq v0 v1 v2 w K) Tryz.call170 h
def plan171 : Plan := { js := [], ds := [(45, ⟨[0, 1, 2, 3, 4, 5, 6, 7], [[], [], [], [1, 2], [0, 1, 2, 3], [], [], [5, 6], [0, 1, 2, 3, 4, 5, 6, 7]]⟩), (33, ⟨[0, 1, 2, 3, 4, 5, 6, 7], [[], [], [], [1, 2], [0, 1, 2, 3], [], [], [5, 6], [0, 1, 2, 3, 4, 5, 6, 7]]⟩)] }
def W171 (v0 v1 v2 : Value) (w : World) (K : Value → World → Prop) : Prop :=
  sllW 5 v0 (some v1) none none fun t12 =>
  lenlW v2 fun t14 =>
  binW .eql t14 (.int .i64 0) fun t16 =>
  condW t16 (
    K v0 w) (
    lenlW v0 fun t19 =>
    binW .eql v1 t19 fun t22 =>
    condW t22 (
      semE Tryz.prog (Builtin.append_ #[22, 22] 22 #[v0, v2]) w fun t25 w1 =>
      K t25 w1) (
      binW .add t19 t14 fun t28 =>
      capW v0 fun t30 =>
      binW .gtr t28 t30 fun t31 =>
      condW t31 (
        sllW 5 v0 none (some v1) none fun t34 =>
        binW .add t19 t14 fun t37 =>
        binW .sub t37 v1 fun t39 =>
        semE Tryz.prog (Builtin.append_ #[22, 3] 22 #[t34, t39]) w fun t40 w2 =>
        sllW 5 t40 (some v1) none none fun t43 =>
        semE Tryz.prog (Builtin.copy_ #[22, 22] 3 #[t43, v2]) w2 fun t45 w3 =>
        binW .add v1 t14 fun t49 =>
        sllW 5 t40 (some t49) none none fun t50 =>
        sllW 5 v0 (some v1) none none fun t53 =>
        semE Tryz.prog (Builtin.copy_ #[22, 22] 3 #[t50, t53]) w3.drew fun t54 w4 =>
        K t40 w4) (
        binW .add t19 t14 fun t59 =>
        sllW 5 v0 none (some t59) none fun t60 =>
        binW .add v1 t14 fun t65 =>
        sllW 5 t60 (some t65) none none fun t66 =>
        callF Tryz.prog 193 [v2, t66] w fun t67 w5 =>
        unW .not t67 fun t68 =>
        condW t68 (
          binW .add v1 t14 fun t72 =>
          sllW 5 t60 (some t72) none none fun t73 =>
          sllW 5 t60 (some v1) none none fun t76 =>
          semE Tryz.prog (Builtin.copy_ #[22, 22] 3 #[t73, t76]) w5.drew fun t77 w6 =>
          sllW 5 t60 (some v1) none none fun t80 =>
          semE Tryz.prog (Builtin.copy_ #[22, 22] 3 #[t80, v2]) w6 fun t82 w7 =>
          K t60 w7) (
          sllW 5 t60 (some t19) none none fun t86 =>
          semE Tryz.prog (Builtin.copy_ #[22, 22] 3 #[t86, v2]) w5 fun t88 w8 =>
          sllW 5 t60 (some v1) none none fun t91 =>
          callF Tryz.prog 194 [t91, t14] w8 fun t93 w9 =>
          K t60 w9))))
theorem W171_eq (v0 v1 v2 : Value) (w : World) (K : Value → World → Prop) : funW Tryz.prog Tryz.f171 plan171 [v0, v1, v2] w K = W171 v0 v1 v2 w K := by kernel_rfl
theorem W171_chk : chkFun Tryz.prog Tryz.f171 plan171 3 = true := by kernel_rfl
theorem W171_ok {v0 v1 v2 : Value} {w : World} {K : Value → World → Prop} (h : W171 v0 v1 v2 w K) : callF Tryz.prog 171 [v0, v1, v2] w K :=
  tie Tryz.prog 171 Tryz.f171 plan171 [v0, v1, v2] w K 3 (W171 v0 v1 v2 w K) rfl mixed Tryz.func171 W171_chk (W171_eq v0 v1 v2 w K) Tryz.call171 h
def plan179 : Plan := { js := [(13003, ⟨[21], [], 20⟩), (13009, ⟨[17], [], 14⟩), (10, ⟨[5, 6, 7], [], 2⟩)], ds := [] }
def W179 (v0 v1 : Value) (w : World) (K : Value → World → Prop) : Prop :=
  LoopW [(.string (ofL [])), (.int .i64 0), (.int .i64 0)] w fun s1 _ w2 L1 =>
    lensW v0 fun t11 =>
    binW .lss (s1.getD 2 undef) t11 fun t12 =>
    GdW (isB t12 false) [undef] w2 (fun J3 =>
      lensW v1 fun t16 =>
      binW .lss (s1.getD 2 undef) t16 fun t17 =>
      J3 [t17] w2)
    fun s3 _ w4 =>
    pickW t12 (.bool true) (s3.getD 0 undef) fun t18 =>
    GdW (isB t18 false) [undef] w4 (fun J5 =>
      binW .gtr (s1.getD 1 undef) (.int .i64 0) fun t21 =>
      J5 [t21] w4)
    fun s5 _ w6 =>
    pickW t18 (.bool true) (s5.getD 0 undef) fun t22 =>
    condW t22 (
      callF Tryz.prog 204 [v0, (s1.getD 2 undef)] w6 fun t27 w7 =>
      callF Tryz.prog 204 [v1, (s1.getD 2 undef)] w7 fun t30 w8 =>
      binW .add t27 t30 fun t31 =>
      binW .add t31 (s1.getD 1 undef) fun t33 =>
      binW .rem t33 (.int .i64 10) fun t35 =>
      binW .add (.int .i64 48) t35 fun t36 =>
      cvtW .u8 t36 fun t37 =>
      bslW 5 1 [(.int .u8 0)] [(0, 1, t37)] w8 fun t38 w9 =>
      semQ Tryz.prog (convert 66 9 t38) w9 fun t39 =>
      binW .add t39 (s1.getD 0 undef) fun t41 =>
      binW .quo t33 (.int .i64 10) fun t43 =>
      binW .add (s1.getD 2 undef) (.int .i64 1) fun t24 =>
      L1 [t41, t43, t24] w9) (
      callF Tryz.prog 205 [(s1.getD 0 undef)] w6 fun t45 w10 =>
      K t45 w10)
theorem W179_eq (v0 v1 : Value) (w : World) (K : Value → World → Prop) : funW Tryz.prog Tryz.f179 plan179 [v0, v1] w K = W179 v0 v1 w K := by kernel_rfl
theorem W179_chk : chkFun Tryz.prog Tryz.f179 plan179 2 = true := by kernel_rfl
theorem W179_ok {v0 v1 : Value} {w : World} {K : Value → World → Prop} (h : W179 v0 v1 w K) : callF Tryz.prog 179 [v0, v1] w K :=
  tie Tryz.prog 179 Tryz.f179 plan179 [v0, v1] w K 2 (W179 v0 v1 w K) rfl mixed Tryz.func179 W179_chk (W179_eq v0 v1 w K) Tryz.call179 h
def plan180 : Plan := { js := [], ds := [] }
def W180 (v0 v1 : Value) (w : World) (K : Value → World → Prop) : Prop :=
  lensW v0 fun t6 =>
  lensW v1 fun t8 =>
  binW .neq t6 t8 fun t9 =>
  condW t9 (
    lensW v0 fun t11 =>
    lensW v1 fun t13 =>
    binW .lss t11 t13 fun t14 =>
    K t14 w) (
    binW .lss v0 v1 fun t17 =>
    K t17 w)
theorem W180_eq (v0 v1 : Value) (w : World) (K : Value → World → Prop) : funW Tryz.prog Tryz.f180 plan180 [v0, v1] w K = W180 v0 v1 w K := by kernel_rfl
theorem W180_chk : chkFun Tryz.prog Tryz.f180 plan180 2 = true := by kernel_rfl
theorem W180_ok {v0 v1 : Value} {w : World} {K : Value → World → Prop} (h : W180 v0 v1 w K) : callF Tryz.prog 180 [v0, v1] w K :=
  tie Tryz.prog 180 Tryz.f180 plan180 [v0, v1] w K 2 (W180 v0 v1 w K) rfl mixed Tryz.func180 W180_chk (W180_eq v0 v1 w K) Tryz.call180 h
def plan181 : Plan := { js := [(23, ⟨[6, 8], [6], 8⟩), (10, ⟨[5, 6, 7], [], 2⟩)], ds := [] }
def W181 (v0 v1 : Value) (w : World) (K : Value → World → Prop) : Prop :=
  LoopW [(.string (ofL [])), (.int .i64 0), (.int .i64 0)] w fun s1 _ w2 L1 =>
    lensW v0 fun t11 =>
    binW .lss (s1.getD 2 undef) t11 fun t12 =>
    condW t12 (
      callF Tryz.prog 204 [v0, (s1.getD 2 undef)] w2 fun t17 w3 =>
      callF Tryz.prog 204 [v1, (s1.getD 2 undef)] w3 fun t20 w4 =>
      binW .sub t17 t20 fun t21 =>
      binW .sub t21 (s1.getD 1 undef) fun t23 =>
      JoinW (fun J5 =>
        binW .lss t23 (.int .i64 0) fun t25 =>
        condW t25 (
          binW .add t23 (.int .i64 10) fun t27 =>
          J5 [(.int .i64 1), t27] w4) (
          J5 [(.int .i64 0), t23] w4))
      fun s5 _ w6 =>
      binW .add (.int .i64 48) (s5.getD 1 undef) fun t29 =>
      cvtW .u8 t29 fun t30 =>
      bslW 5 1 [(.int .u8 0)] [(0, 1, t30)] w6 fun t31 w7 =>
      semQ Tryz.prog (convert 66 9 t31) w7 fun t32 =>
      binW .add t32 (s1.getD 0 undef) fun t34 =>
      binW .add (s1.getD 2 undef) (.int .i64 1) fun t14 =>
      L1 [t34, (s5.getD 0 undef), t14] w7) (
      callF Tryz.prog 205 [(s1.getD 0 undef)] w2 fun t36 w8 =>
      K t36 w8)
theorem W181_eq (v0 v1 : Value) (w : World) (K : Value → World → Prop) : funW Tryz.prog Tryz.f181 plan181 [v0, v1] w K = W181 v0 v1 w K := by kernel_rfl
theorem W181_chk : chkFun Tryz.prog Tryz.f181 plan181 2 = true := by kernel_rfl
theorem W181_ok {v0 v1 : Value} {w : World} {K : Value → World → Prop} (h : W181 v0 v1 w K) : callF Tryz.prog 181 [v0, v1] w K :=
  tie Tryz.prog 181 Tryz.f181 plan181 [v0, v1] w K 2 (W181 v0 v1 w K) rfl mixed Tryz.func181 W181_chk (W181_eq v0 v1 w K) Tryz.call181 h
def plan204 : Plan := { js := [], ds := [] }
def W204 (v0 v1 : Value) (w : World) (K : Value → World → Prop) : Prop :=
  lensW v0 fun t7 =>
  binW .geq v1 t7 fun t8 =>
  condW t8 (
    K (.int .i64 0) w) (
    lensW v0 fun t11 =>
    binW .sub t11 (.int .i64 1) fun t12 =>
    binW .sub t12 v1 fun t14 =>
    ixsW v0 t14 fun t15 =>
    binW .sub t15 (.int .u8 48) fun t16 =>
    cvtW .i64 t16 fun t17 =>
    K t17 w)
theorem W204_eq (v0 v1 : Value) (w : World) (K : Value → World → Prop) : funW Tryz.prog Tryz.f204 plan204 [v0, v1] w K = W204 v0 v1 w K := by kernel_rfl
theorem W204_chk : chkFun Tryz.prog Tryz.f204 plan204 2 = true := by kernel_rfl
theorem W204_ok {v0 v1 : Value} {w : World} {K : Value → World → Prop} (h : W204 v0 v1 w K) : callF Tryz.prog 204 [v0, v1] w K :=
  tie Tryz.prog 204 Tryz.f204 plan204 [v0, v1] w K 2 (W204 v0 v1 w K) rfl mixed Tryz.func204 W204_chk (W204_eq v0 v1 w K) Tryz.call204 h
def plan205 : Plan := { js := [(7004, ⟨[9], [], 7⟩), (4, ⟨[0], [], 0⟩)], ds := [] }
def W205 (v0 : Value) (w : World) (K : Value → World → Prop) : Prop :=
  LoopW [v0] w fun s1 _ w2 L1 =>
    lensW (s1.getD 0 undef) fun t4 =>
    binW .gtr t4 (.int .i64 1) fun t5 =>
    GdW (isB t5 true) [undef] w2 (fun J3 =>
      ixsW (s1.getD 0 undef) (.int .i64 0) fun t8 =>
      binW .eql t8 (.int .u8 48) fun t9 =>
      J3 [t9] w2)
    fun s3 _ w4 =>
    pickW t5 (s3.getD 0 undef) (.bool false) fun t10 =>
    condW t10 (
      slsW (s1.getD 0 undef) (some (.int .i64 1)) none fun t12 =>
      L1 [t12] w4) (
      K (s1.getD 0 undef) w4)
theorem W205_eq (v0 : Value) (w : World) (K : Value → World → Prop) : funW Tryz.prog Tryz.f205 plan205 [v0] w K = W205 v0 w K := by kernel_rfl
theorem W205_chk : chkFun Tryz.prog Tryz.f205 plan205 1 = true := by kernel_rfl
theorem W205_ok {v0 : Value} {w : World} {K : Value → World → Prop} (h : W205 v0 w K) : callF Tryz.prog 205 [v0] w K :=
  tie Tryz.prog 205 Tryz.f205 plan205 [v0] w K 1 (W205 v0 w K) rfl mixed Tryz.func205 W205_chk (W205_eq v0 w K) Tryz.call205 h
end Go.Proofs.YtdkikjcpgihjlaaGreatDoor

namespace Go.Eng
open Go
def byteM (s : Str) (i : Nat) : Int := match s[i]? with | some b => (b.toNat : Int) | none => -1
def moreM (s : Str) (i : Nat) : Bool := decide (128 ≤ byteM s i) && decide (byteM s i < 192)
def runeM (s : Str) (i : Nat) : Nat :=
  let c := byteM s i
  if c < 0 then 0 else if c < 128 then 1
  else if 194 ≤ c ∧ c < 224 ∧ moreM s (i + 1) = true then 2
  else if 224 ≤ c ∧ c < 240 ∧ moreM s (i + 1) = true ∧ moreM s (i + 2) = true ∧
    2048 ≤ (c - 224) * 4096 + (byteM s (i + 1) - 128) * 64 + byteM s (i + 2) - 128 ∧ ((c - 224) * 4096 + (byteM s (i + 1) - 128) * 64 + byteM s (i + 2) - 128 < 55296 ∨ 57343 < (c - 224) * 4096 + (byteM s (i + 1) - 128) * 64 + byteM s (i + 2) - 128) then 3
  else if 240 ≤ c ∧ c < 245 ∧ moreM s (i + 1) = true ∧ moreM s (i + 2) = true ∧ moreM s (i + 3) = true ∧
    65536 ≤ (c - 240) * 262144 + (byteM s (i + 1) - 128) * 4096 + (byteM s (i + 2) - 128) * 64 + byteM s (i + 3) - 128 ∧ (c - 240) * 262144 + (byteM s (i + 1) - 128) * 4096 + (byteM s (i + 2) - 128) * 64 + byteM s (i + 3) - 128 ≤ 1114111 then 4
  else 0
def b8 (n : Nat) : UInt8 := UInt8.ofNat n
def hexD (n : Nat) : UInt8 := if n < 10 then b8 (48 + n) else b8 (87 + n)
def escB (c : UInt8) : Str :=
  if c = 34 ∨ c = 92 then [92, c] else if c = 8 then [92, 98] else if c = 12 then [92, 102] else if c = 10 then [92, 110] else if c = 13 then [92, 114] else if c = 9 then [92, 116]
  else if c < 32 then [92, 117, 48, 48, b8 (48 + c.toNat / 16), hexD (c.toNat % 16)] else [c]
def isBlank (c : Int) : Bool := decide (c = 32) || decide (c = 9) || decide (c = 10) || decide (c = 13)
def isDig (c : Int) : Bool := decide (48 ≤ c) && decide (c ≤ 57)
end Go.Eng
namespace Go.Eng
open Go
mutual
/-- how many values it has -/
def cntM : JV → Nat
  | .mk _ _ _ xs _ => 1 + cntL xs
def cntL : List JV → Nat
  | [] => 0
  | x :: xs => cntM x + cntL xs
end
theorem cnt_pos (v : JV) : 1 ≤ cntM v := by cases v; simp only [cntM]; omega
theorem byte_at {s r : Str} {i : Nat} {c : UInt8} (h : s.drop i = c :: r) : byteM s i = c.toNat := by
  unfold byteM
  have : s[i]? = some c := by
    have := List.getElem?_drop (xs := s) (i := i) (j := 0)
    rw [h] at this
    simpa using this.symm
  rw [this]
end Go.Eng
namespace Go.Eng
open Go
def bt (s : Str) (i : Nat) : Nat := (s.getD i 0).toNat
theorem bt_lt (s : Str) (i : Nat) : bt s i < 256 := UInt8.toNat_lt _
theorem byteM_in {s : Str} {i : Nat} (h : i < s.length) : byteM s i = (bt s i : Int) := by
  unfold byteM bt
  rw [List.getElem?_eq_getElem h, List.getD_eq_getElem?_getD, List.getElem?_eq_getElem h]; rfl
theorem byteM_out {s : Str} {i : Nat} (h : s.length ≤ i) : byteM s i = -1 := by
  unfold byteM
  rw [List.getElem?_eq_none h]
theorem get_bt (s : Str) (i : Nat) : ((ofL s).get! i).toNat = bt s i := by
  unfold bt
  congr 1
  show (s.toArray)[i]! = s.getD i 0
  rw [List.getElem!_toArray, List.getElem!_eq_getElem?_getD, List.getD_eq_getElem?_getD]; rfl
theorem dec_ofL (s : Str) (i : Nat) : Utf8.decode (ofL s) i = Lib.decodeN (s.length - i) (bt s i) (bt s (i + 1)) (bt s (i + 2)) (bt s (i + 3)) := by
  rw [Lib.decode_at, get_bt, get_bt, get_bt, get_bt, ofL_size]
abbrev mor (L k b : Nat) : Prop := k < L ∧ 128 ≤ b ∧ b < 192
abbrev c3 (b0 b1 b2 : Nat) : Nat := (b0 - 224) * 4096 + (b1 - 128) * 64 + (b2 - 128)
abbrev c4 (b0 b1 b2 b3 : Nat) : Nat := (b0 - 240) * 262144 + (b1 - 128) * 4096 + (b2 - 128) * 64 + (b3 - 128)
def decR (L b0 b1 b2 b3 : Nat) : Nat × Nat :=
  if b0 < 128 then (b0, 1)
  else if 194 ≤ b0 ∧ b0 < 224 ∧ mor L 1 b1 then ((b0 - 192) * 64 + (b1 - 128), 2)
  else if 224 ≤ b0 ∧ b0 < 240 ∧ mor L 1 b1 ∧ mor L 2 b2 ∧ 2048 ≤ c3 b0 b1 b2 ∧ (c3 b0 b1 b2 < 55296 ∨ 57343 < c3 b0 b1 b2) then (c3 b0 b1 b2, 3)
  else if 240 ≤ b0 ∧ b0 < 245 ∧ mor L 1 b1 ∧ mor L 2 b2 ∧ mor L 3 b3 ∧ 65536 ≤ c4 b0 b1 b2 b3 ∧ c4 b0 b1 b2 b3 ≤ 1114111 then (c4 b0 b1 b2 b3, 4)
  else (65533, 1)
theorem dec_decR {L b0 b1 b2 b3 : Nat} (h0 : b0 < 256) (h1 : b1 < 256) (h2 : b2 < 256) (h3 : b3 < 256) : Lib.decodeN L b0 b1 b2 b3 = decR L b0 b1 b2 b3 := by
  have m1 : (1 < L ∧ b1 / 64 = 2) ↔ mor L 1 b1 := by unfold mor; omega
  have m2 : (2 < L ∧ b2 / 64 = 2) ↔ mor L 2 b2 := by unfold mor; omega
  have m3 : (3 < L ∧ b3 / 64 = 2) ↔ mor L 3 b3 := by unfold mor; omega
  unfold Lib.decodeN decR
  simp only [m1, m2, m3]
  by_cases a0 : b0 < 128
  · rw [if_pos a0, if_pos a0]
  rw [if_neg a0, if_neg a0]
  by_cases a1 : b0 < 194
  · rw [if_neg (show ¬ (194 ≤ b0 ∧ b0 < 224 ∧ mor L 1 b1) from fun h => by omega), if_neg (show ¬ (224 ≤ b0 ∧ b0 < 240 ∧ _) from fun h => by omega), if_neg (show ¬ (240 ≤ b0 ∧ b0 < 245 ∧ _) from fun h => by omega)]
    rw [if_neg (show ¬ (b0 / 16 = 14 ∧ _) from fun h => by omega), if_neg (show ¬ (b0 / 8 = 30 ∧ _) from fun h => by omega)]
    by_cases a2 : b0 / 32 = 6 ∧ mor L 1 b1
    · rw [if_pos a2, if_neg (by omega)]
    · rw [if_neg a2]
  by_cases a2 : b0 < 224
  · rw [if_neg (show ¬ (224 ≤ b0 ∧ b0 < 240 ∧ _) from fun h => by omega), if_neg (show ¬ (240 ≤ b0 ∧ b0 < 245 ∧ _) from fun h => by omega)]
    rw [if_neg (show ¬ (b0 / 16 = 14 ∧ _) from fun h => by omega), if_neg (show ¬ (b0 / 8 = 30 ∧ _) from fun h => by omega)]
    by_cases q : mor L 1 b1
    · have q' := q
      unfold mor at q'
      rw [if_pos ⟨by omega, q⟩, if_pos (by omega), if_pos ⟨by omega, a2, q⟩]
      apply Prod.ext
      · show b0 % 32 * 64 + b1 % 64 = (b0 - 192) * 64 + (b1 - 128); omega
      · rfl
    · rw [if_neg (fun h => q h.2), if_neg (fun h => q h.2.2)]
  by_cases a3 : b0 < 240
  · rw [if_neg (show ¬ (194 ≤ b0 ∧ b0 < 224 ∧ mor L 1 b1) from fun h => by omega), if_neg (show ¬ (240 ≤ b0 ∧ b0 < 245 ∧ _) from fun h => by omega)]
    rw [if_neg (show ¬ (b0 / 32 = 6 ∧ _) from fun h => by omega), if_neg (show ¬ (b0 / 8 = 30 ∧ _) from fun h => by omega)]
    by_cases q : mor L 1 b1 ∧ mor L 2 b2
    · have q' := q
      unfold mor at q'
      have e : b0 % 16 * 4096 + b1 % 64 * 64 + b2 % 64 = c3 b0 b1 b2 := by unfold c3; omega
      have e2 : c3 b0 b1 b2 ≤ 65535 := by unfold c3; omega
      rw [if_pos ⟨by omega, q.1, q.2⟩]
      simp only [e]
      by_cases r : 2048 ≤ c3 b0 b1 b2 ∧ (c3 b0 b1 b2 < 55296 ∨ 57343 < c3 b0 b1 b2)
      · rw [if_pos ⟨r.1, by omega⟩, if_pos ⟨by omega, a3, q.1, q.2, r.1, r.2⟩]
      · rw [if_neg (by omega), if_neg (fun h => r ⟨h.2.2.2.2.1, h.2.2.2.2.2⟩)]
    · rw [if_neg (fun h => q ⟨h.2.1, h.2.2⟩), if_neg (fun h => q ⟨h.2.2.1, h.2.2.2.1⟩)]
  · rw [if_neg (show ¬ (194 ≤ b0 ∧ b0 < 224 ∧ mor L 1 b1) from fun h => by omega), if_neg (show ¬ (224 ≤ b0 ∧ b0 < 240 ∧ _) from fun h => by omega)]
    rw [if_neg (show ¬ (b0 / 32 = 6 ∧ _) from fun h => by omega), if_neg (show ¬ (b0 / 16 = 14 ∧ _) from fun h => by omega)]
    by_cases q : mor L 1 b1 ∧ mor L 2 b2 ∧ mor L 3 b3
    · have q' := q
      unfold mor at q'
      by_cases a4 : b0 < 248
      · have e : b0 % 8 * 262144 + b1 % 64 * 4096 + b2 % 64 * 64 + b3 % 64 = c4 b0 b1 b2 b3 := by unfold c4; omega
        rw [if_pos ⟨by omega, q.1, q.2.1, q.2.2⟩]
        simp only [e]
        by_cases r : 65536 ≤ c4 b0 b1 b2 b3 ∧ c4 b0 b1 b2 b3 ≤ 1114111
        · rw [if_pos ⟨r.1, by omega⟩, if_pos ⟨by omega, by have := r.2; unfold c4 at this; omega, q.1, q.2.1, q.2.2, r.1, r.2⟩]
        · rw [if_neg (by omega), if_neg (fun h => r ⟨h.2.2.2.2.2.1, h.2.2.2.2.2.2⟩)]
      · rw [if_neg (show ¬ (b0 / 8 = 30 ∧ _) from fun h => by omega), if_neg (show ¬ (240 ≤ b0 ∧ b0 < 245 ∧ _) from fun h => by omega)]
    · rw [if_neg (fun h => q ⟨h.2.1, h.2.2.1, h.2.2.2⟩), if_neg (fun h => q ⟨h.2.2.1, h.2.2.2.1, h.2.2.2.2.1⟩)]
theorem moreM_iff {s : Str} {i k : Nat} : moreM s (i + k) = true ↔ mor (s.length - i) k (bt s (i + k)) := by
  unfold moreM mor
  rw [Bool.and_eq_true, decide_eq_true_iff, decide_eq_true_iff]
  rcases Nat.lt_or_ge (i + k) s.length with h | h
  · rw [byteM_in h]; omega
  · rw [byteM_out h]; omega
def runR (L b0 b1 b2 b3 : Nat) : Nat :=
  if b0 < 128 then 1
  else if 194 ≤ b0 ∧ b0 < 224 ∧ mor L 1 b1 then 2
  else if 224 ≤ b0 ∧ b0 < 240 ∧ mor L 1 b1 ∧ mor L 2 b2 ∧ 2048 ≤ c3 b0 b1 b2 ∧ (c3 b0 b1 b2 < 55296 ∨ 57343 < c3 b0 b1 b2) then 3
  else if 240 ≤ b0 ∧ b0 < 245 ∧ mor L 1 b1 ∧ mor L 2 b2 ∧ mor L 3 b3 ∧ 65536 ≤ c4 b0 b1 b2 b3 ∧ c4 b0 b1 b2 b3 ≤ 1114111 then 4
  else 0
set_option maxHeartbeats 4000000 in
theorem runeM_runR {s : Str} {i : Nat} (h : i < s.length) : runeM s i = runR (s.length - i) (bt s i) (bt s (i + 1)) (bt s (i + 2)) (bt s (i + 3)) := by
  unfold runeM runR
  simp only [moreM_iff, byteM_in h]
  by_cases h1 : i + 1 < s.length
  · by_cases h2 : i + 2 < s.length
    · by_cases h3 : i + 3 < s.length
      · simp only [byteM_in h1, byteM_in h2, byteM_in h3, mor, c3, c4]
        repeat' split
        all_goals first | rfl | (exfalso; omega)
      · simp only [byteM_in h1, byteM_in h2, mor, c3, c4]
        repeat' split
        all_goals first | rfl | (exfalso; omega)
    · simp only [byteM_in h1, mor, c3, c4]
      repeat' split
      all_goals first | rfl | (exfalso; omega)
  · simp only [mor, c3, c4]
    repeat' split
    all_goals first | rfl | (exfalso; omega)
theorem b8_bt (s : Str) (i : Nat) (h : i < s.length) : UInt8.ofNat (bt s i) = s[i] := by
  unfold bt
  rw [List.getD_eq_getElem?_getD, List.getElem?_eq_getElem h]; simp
theorem take_one {s : Str} {i : Nat} (h : i < s.length) : (s.drop i).take 1 = [UInt8.ofNat (bt s i)] := by
  rw [b8_bt s i h, List.drop_eq_getElem_cons h]; rfl
theorem take_step {s : Str} {i n : Nat} (h : i < s.length) : (s.drop i).take (n + 1) = UInt8.ofNat (bt s i) :: (s.drop (i + 1)).take n := by
  rw [b8_bt s i h, List.drop_eq_getElem_cons h]; rfl
set_option maxHeartbeats 4000000 in
theorem rune_bad {s : Str} {i : Nat} (h : i < s.length) (h0 : runeM s i = 0) : Utf8.decode (ofL s) i = (65533, 1) := by
  rw [dec_ofL, dec_decR (bt_lt _ _) (bt_lt _ _) (bt_lt _ _) (bt_lt _ _)]
  rw [runeM_runR h] at h0
  unfold runR at h0
  unfold decR
  repeat' split at h0
  all_goals first | (exfalso; omega) | skip
  all_goals (repeat rw [if_neg (by assumption)])
structure RuneAt (s : Str) (i n c : Nat) : Prop where
  dec : Utf8.decode (ofL s) i = (c, n)
  fits : i + n ≤ s.length
  small : n ≤ 4
  bytes : Lib.encodeRune c = (s.drop i).take n
  low : n = 1 → c = bt s i ∧ c < 128
  high : 2 ≤ n → 128 ≤ c ∧ 128 ≤ bt s i
  top : c ≤ 1114111
  val : c < 55296 ∨ 57343 < c
theorem enc_map (l : List Int) : (l.map fun x => x.toNat.toUInt8) = l.map fun x => UInt8.ofNat x.toNat := rfl
set_option maxHeartbeats 8000000 in
theorem rune_good {s : Str} {i : Nat} (h : i < s.length) (h0 : runeM s i ≠ 0) : ∃ c, RuneAt s i (runeM s i) c := by
  have e := dec_ofL s i
  rw [dec_decR (bt_lt _ _) (bt_lt _ _) (bt_lt _ _) (bt_lt _ _)] at e
  have hr := runeM_runR h
  have l0 := bt_lt s i
  generalize hn : runeM s i = n at *
  unfold runR at hr
  unfold decR at e
  by_cases a1 : bt s i < 128
  · rw [if_pos a1] at hr e
    subst hr
    refine ⟨_, e, by omega, by omega, ?_, fun _ => ⟨rfl, a1⟩, fun h => by omega, by omega, by omega⟩
    rw [take_one h, Lib.encodeRune, Lib.encodeRuneZ_one (by omega) (by omega)]
    simp
  rw [if_neg a1] at hr e
  by_cases a2 : 194 ≤ bt s i ∧ bt s i < 224 ∧ mor (s.length - i) 1 (bt s (i + 1))
  · rw [if_pos a2] at hr e
    subst hr
    obtain ⟨a2, a3, a4, a5, a6⟩ := a2
    refine ⟨_, e, by omega, by omega, ?_, fun h => by omega, fun h => by omega, by omega, by omega⟩
    rw [take_step h, take_one (by omega), Lib.encodeRune, Lib.encodeRuneZ_two (by omega) (by omega)]
    simp only [List.map_cons, List.map_nil, enc_map]
    rw [show ((192 : Int) + (((bt s i - 192) * 64 + (bt s (i + 1) - 128) : Nat) : Int) / 64).toNat = bt s i by omega, show ((128 : Int) + (((bt s i - 192) * 64 + (bt s (i + 1) - 128) : Nat) : Int) % 64).toNat = bt s (i + 1) by omega]
  rw [if_neg a2] at hr e
  by_cases a3 : 224 ≤ bt s i ∧ bt s i < 240 ∧ mor (s.length - i) 1 (bt s (i + 1)) ∧ mor (s.length - i) 2 (bt s (i + 2)) ∧ 2048 ≤ c3 (bt s i) (bt s (i + 1)) (bt s (i + 2)) ∧ (c3 (bt s i) (bt s (i + 1)) (bt s (i + 2)) < 55296 ∨ 57343 < c3 (bt s i) (bt s (i + 1)) (bt s (i + 2)))
  · rw [if_pos a3] at hr e
    subst hr
    obtain ⟨p1, p2, ⟨p3, p4, p5⟩, ⟨p6, p7, p8⟩, p9, p10⟩ := a3
    have q3 : c3 (bt s i) (bt s (i + 1)) (bt s (i + 2)) = (bt s i - 224) * 4096 + (bt s (i + 1) - 128) * 64 + (bt s (i + 2) - 128) := rfl
    refine ⟨_, e, by omega, by omega, ?_, fun h => by omega, fun h => by omega, by omega, by omega⟩
    rw [take_step h, take_step (by omega), take_one (by omega), Lib.encodeRune, Lib.encodeRuneZ_three (by omega)]
    simp only [List.map_cons, List.map_nil, enc_map]
    rw [show ((224 : Int) + ((c3 (bt s i) (bt s (i + 1)) (bt s (i + 2)) : Nat) : Int) / 4096).toNat = bt s i by unfold c3; omega, show ((128 : Int) + ((c3 (bt s i) (bt s (i + 1)) (bt s (i + 2)) : Nat) : Int) / 64 % 64).toNat = bt s (i + 1) by unfold c3; omega, show ((128 : Int) + ((c3 (bt s i) (bt s (i + 1)) (bt s (i + 2)) : Nat) : Int) % 64).toNat = bt s (i + 2) by unfold c3; omega]
  rw [if_neg a3] at hr e
  by_cases a4 : 240 ≤ bt s i ∧ bt s i < 245 ∧ mor (s.length - i) 1 (bt s (i + 1)) ∧ mor (s.length - i) 2 (bt s (i + 2)) ∧ mor (s.length - i) 3 (bt s (i + 3)) ∧ 65536 ≤ c4 (bt s i) (bt s (i + 1)) (bt s (i + 2)) (bt s (i + 3)) ∧ c4 (bt s i) (bt s (i + 1)) (bt s (i + 2)) (bt s (i + 3)) ≤ 1114111
  · rw [if_pos a4] at hr e
    subst hr
    obtain ⟨p1, p2, ⟨p3, p4, p5⟩, ⟨p6, p7, p8⟩, ⟨p9, p10, p11⟩, p12, p13⟩ := a4
    refine ⟨_, e, by omega, by omega, ?_, fun h => by omega, fun h => by omega, by omega, by omega⟩
    rw [take_step h, take_step (by omega), take_step (by omega), take_one (by omega), Lib.encodeRune, Lib.encodeRuneZ_four (by omega) (by omega)]
    simp only [List.map_cons, List.map_nil, enc_map]
    rw [show ((240 : Int) + ((c4 (bt s i) (bt s (i + 1)) (bt s (i + 2)) (bt s (i + 3)) : Nat) : Int) / 262144).toNat = bt s i by unfold c4; omega, show ((128 : Int) + ((c4 (bt s i) (bt s (i + 1)) (bt s (i + 2)) (bt s (i + 3)) : Nat) : Int) / 4096 % 64).toNat = bt s (i + 1) by unfold c4; omega, show ((128 : Int) + ((c4 (bt s i) (bt s (i + 1)) (bt s (i + 2)) (bt s (i + 3)) : Nat) : Int) / 64 % 64).toNat = bt s (i + 2) by unfold c4; omega, show ((128 : Int) + ((c4 (bt s i) (bt s (i + 1)) (bt s (i + 2)) (bt s (i + 3)) : Nat) : Int) % 64).toNat = bt s (i + 3) by unfold c4; omega]
  rw [if_neg a4] at hr
  exact absurd hr h0
def stepM (s : Str) (i : Nat) : Nat := max (runeM s i) 1
theorem dec_step {s : Str} {i : Nat} (h : i < s.length) : (Utf8.decode (ofL s) i).2 = stepM s i := by
  unfold stepM
  by_cases h0 : runeM s i = 0
  · rw [rune_bad h h0, h0]; rfl
  · obtain ⟨c, hc⟩ := rune_good h h0
    rw [hc.dec]
    show runeM s i = max (runeM s i) 1
    omega
theorem step_fits {s : Str} {i : Nat} (h : i < s.length) : i + stepM s i ≤ s.length := by
  unfold stepM
  by_cases h0 : runeM s i = 0
  · rw [h0]; show i + 1 ≤ _; omega
  · obtain ⟨c, hc⟩ := rune_good h h0
    have := hc.fits
    omega
theorem step_pos (s : Str) (i : Nat) : 1 ≤ stepM s i := by unfold stepM; omega
theorem rune_end {s : Str} {i : Nat} (h : s.length ≤ i) : runeM s i = 0 := by
  unfold runeM
  simp only [byteM_out h]
  rfl
end Go.Eng
namespace Go.Eng
open Go
theorem byte_pref {s u r : Str} {i j : Nat} (h : s.drop i = u ++ r) (hj : j < u.length) : byteM s (i + j) = u[j].toNat := by
  have : s.drop (i + j) = u[j] :: (u.drop (j + 1) ++ r) := by
    rw [← List.drop_drop, h, List.drop_append_of_le_length (by omega), List.drop_eq_getElem_cons hj]; rfl
  exact byte_at this
theorem rune_same {s t : Str} {i k m : Nat} (hm : 0 < m) (h : runeM s i = m) (hb : ∀ j, j < m → byteM t (k + j) = byteM s (i + j)) : runeM t k = m := by
  have e0 : byteM t k = byteM s i := hb 0 hm
  unfold runeM at h ⊢
  dsimp only at h
  simp only [e0]
  by_cases h1 : m = 1
  · subst h1
    split at h
    · omega
    rename_i a
    split at h
    · rename_i b; rw [if_neg a, if_pos b]
    split at h
    · omega
    split at h
    · omega
    split at h <;> omega
  by_cases h2 : m = 2
  · subst h2
    have e1 := hb 1 (by omega)
    have m1 : moreM t (k + 1) = moreM s (i + 1) := by unfold moreM; rw [e1]
    simp only [m1]
    split at h
    · omega
    rename_i a
    split at h
    · omega
    rename_i b
    split at h
    · rename_i c; rw [if_neg a, if_neg b, if_pos c]
    split at h
    · omega
    split at h <;> omega
  by_cases h3 : m = 3
  · subst h3
    have e1 := hb 1 (by omega)
    have e2 := hb 2 (by omega)
    have m1 : moreM t (k + 1) = moreM s (i + 1) := by unfold moreM; rw [e1]
    have m2 : moreM t (k + 2) = moreM s (i + 2) := by unfold moreM; rw [e2]
    simp only [m1, m2, e1, e2]
    split at h
    · omega
    rename_i a
    split at h
    · omega
    rename_i b
    split at h
    · omega
    rename_i c
    split at h
    · rename_i d; rw [if_neg a, if_neg b, if_neg c, if_pos d]
    split at h <;> omega
  by_cases h4 : m = 4
  · subst h4
    have e1 := hb 1 (by omega)
    have e2 := hb 2 (by omega)
    have e3 := hb 3 (by omega)
    simp only [moreM, e1, e2, e3] at h ⊢
    exact h
  · exfalso
    split at h
    · omega
    split at h
    · omega
    split at h
    · omega
    split at h
    · omega
    split at h <;> omega
theorem rune_lt {s : Str} {i : Nat} (h : runeM s i ≠ 0) : i < s.length := by
  apply Nat.lt_of_not_le
  intro hle
  exact h (rune_end hle)
theorem rune_fits {s : Str} {i : Nat} (h : runeM s i ≠ 0) : i + runeM s i ≤ s.length := by
  obtain ⟨c, hc⟩ := rune_good (rune_lt h) h
  exact hc.fits
def Rn (u : Str) : Prop := u ≠ [] ∧ runeM u 0 = u.length
theorem Rn.pos {u : Str} (h : Rn u) : 0 < u.length := List.length_pos_iff.2 h.1
theorem Rn.at {u s r : Str} {i : Nat} (h : Rn u) (hs : s.drop i = u ++ r) : runeM s i = u.length := by
  refine rune_same (s := u) (i := 0) h.pos h.2 fun j hj => ?_
  rw [byte_pref hs hj, byte_pref (s := u) (i := 0) (u := u) (r := []) (by simp) hj]
theorem Rn.of {s : Str} {i : Nat} (h : runeM s i ≠ 0) : Rn ((s.drop i).take (runeM s i)) := by
  have hf := rune_fits h
  have hl : ((s.drop i).take (runeM s i)).length = runeM s i := by rw [List.length_take, List.length_drop]; omega
  refine ⟨fun e => by rw [e] at hl; simp at hl; omega, ?_⟩
  rw [hl]
  refine rune_same (s := s) (i := i) (by omega) rfl fun j hj => ?_
  rw [byte_pref (s := s) (i := i) (u := (s.drop i).take (runeM s i)) (r := (s.drop i).drop (runeM s i)) (List.take_append_drop _ _).symm (by omega), byte_pref (s := (s.drop i).take (runeM s i)) (i := 0) (u := (s.drop i).take (runeM s i)) (r := []) (by simp) (by omega)]
inductive Utf : Str → Prop where
  | nil : Utf []
  | cons {u r : Str} : Rn u → Utf r → Utf (u ++ r)
theorem Utf.app {a b : Str} (h : Utf a) (h' : Utf b) : Utf (a ++ b) := by
  induction h with
  | nil => exact h'
  | cons hu _ ih => rw [List.append_assoc]; exact .cons hu ih
theorem Utf.one {u : Str} (h : Rn u) : Utf u := by have := Utf.cons h .nil; rwa [List.append_nil] at this
theorem Rn.cases {u : Str} (h : Rn u) : (∃ c : UInt8, u = [c] ∧ c.toNat < 128) ∨ (∀ c ∈ u, 128 ≤ c.toNat) := by
  have hr := h.2
  have hp := h.pos
  have hb : ∀ j, (hj : j < u.length) → byteM u j = u[j].toNat := fun j hj => by
    have := byte_pref (s := u) (i := 0) (u := u) (r := []) (by simp) hj
    rwa [Nat.zero_add] at this
  have hm : ∀ j, (hj : j < u.length) → moreM u j = true → 128 ≤ u[j].toNat := fun j hj hm => by
    unfold moreM at hm
    rw [hb j hj, Bool.and_eq_true, decide_eq_true_iff, decide_eq_true_iff] at hm
    omega
  unfold runeM at hr
  rw [hb 0 hp] at hr
  simp only [Nat.zero_add] at hr
  have hall : (∀ j, (hj : j < u.length) → 128 ≤ u[j].toNat) → ∀ c ∈ u, 128 ≤ c.toNat := fun hj c hc => by
    obtain ⟨j, h1, rfl⟩ := List.getElem_of_mem hc
    exact hj j h1
  split at hr
  · omega
  split at hr
  · rename_i hlt
    left
    obtain ⟨c, rfl⟩ := List.length_eq_one_iff.1 hr.symm
    refine ⟨c, rfl, ?_⟩
    have e : ([c] : Str)[0].toNat = c.toNat := rfl
    omega
  right
  refine hall fun j hj => ?_
  split at hr
  · rename_i c
    obtain ⟨c1, _, c2⟩ := c
    obtain rfl | rfl : j = 0 ∨ j = 1 := by omega
    · omega
    · exact hm 1 hj c2
  split at hr
  · rename_i c
    obtain ⟨c1, _, c2, c3, _⟩ := c
    obtain rfl | rfl | rfl : j = 0 ∨ j = 1 ∨ j = 2 := by omega
    · omega
    · exact hm 1 hj c2
    · exact hm 2 hj c3
  split at hr
  · rename_i c
    obtain ⟨c1, _, c2, c3, c4, _⟩ := c
    obtain rfl | rfl | rfl | rfl : j = 0 ∨ j = 1 ∨ j = 2 ∨ j = 3 := by omega
    · omega
    · exact hm 1 hj c2
    · exact hm 2 hj c3
    · exact hm 3 hj c4
  · omega
end Go.Eng
namespace Go.Eng
open Go
theorem escB_le (c : UInt8) : (escB c).length ≤ 6 := by unfold escB; repeat' split
                                                        all_goals simp
end Go.Eng
namespace Go.Eng
open Go Go.Num
def BL (l : Str) : Prop := ∀ c ∈ l, isBlank (c.toNat : Int) = true
theorem BL.nil : BL [] := fun _ h => by cases h
def Stop (r : Str) : Prop := r = [] ∨ ∃ c r', r = c :: r' ∧ (isBlank (c.toNat : Int) = true ∨ c = 44 ∨ c = 93 ∨ c = 125)
theorem Stop.one {c : UInt8} {r : Str} (h : c = 44 ∨ c = 93 ∨ c = 125) : Stop (c :: r) := .inr ⟨c, r, rfl, .inr h⟩
end Go.Eng

namespace Go.Eng
open Go Go.Num
theorem ins_mem {l : List (Str × JV)} {k : Str} {t : JV} : ∀ p, p ∈ insP l k t ↔ p = (k, t) ∨ p ∈ l := by
  induction l with
  | nil => intro p; simp [insP]
  | cons q r ih =>
    obtain ⟨a, y⟩ := q
    intro p
    simp only [insP]
    split
    · rw [List.mem_cons]
    · rw [List.mem_cons, ih p, List.mem_cons]
      constructor
      · rintro (h | h | h)
        · exact .inr (.inl h)
        · exact .inl h
        · exact .inr (.inr h)
      · rintro (h | h | h)
        · exact .inr (.inl h)
        · exact .inl h
        · exact .inr (.inr h)
theorem ins_len (l : List (Str × JV)) (k : Str) (x : JV) : (insP l k x).length = l.length + 1 := by
  induction l with
  | nil => rfl
  | cons q r ih =>
    obtain ⟨a, y⟩ := q
    simp only [insP]
    split
    · rfl
    · simp only [List.length_cons, ih]
theorem rise_ins {l : List (Str × JV)} {k : Str} {x : JV} (h : Rise (l.map (·.1))) (hk : k ∉ l.map (·.1)) : Rise ((insP l k x).map (·.1)) := by
  induction l with
  | nil => exact List.pairwise_singleton _ _
  | cons q r ih =>
    obtain ⟨a, y⟩ := q
    simp only [List.map_cons] at h hk
    have hp := List.pairwise_cons.1 h
    simp only [insP]
    split
    · rename_i hlt
      simp only [List.map_cons]
      refine List.Pairwise.cons (fun c hc => ?_) h
      rcases List.mem_cons.1 hc with rfl | hc
      · exact hlt
      · exact less_trans hlt (hp.1 c hc)
    · rename_i hlt
      have hka : k ≠ a := fun e => hk (by rw [e]; exact List.mem_cons_self)
      have hak : Op.bytesLess a k = true := by
        rcases less_tri k a with h | h | h
        · exact absurd h hlt
        · exact absurd h hka
        · exact h
      simp only [List.map_cons]
      refine List.Pairwise.cons (fun c hc => ?_) (ih hp.2 fun h => hk (List.mem_cons_of_mem _ h))
      obtain ⟨p, hp1, rfl⟩ := List.mem_map.1 hc
      rcases (ins_mem p).1 hp1 with rfl | hp1
      · exact hak
      · exact hp.1 _ (List.mem_map.2 ⟨p, hp1, rfl⟩)
theorem zip_maps (l : List (Str × JV)) : (l.map (·.1)).zip (l.map (·.2)) = l := by
  induction l with
  | nil => rfl
  | cons q r ih => simp only [List.map_cons, List.zip_cons_cons, ih]
theorem put_mkO {l : List (Str × JV)} {k : Str} {x : JV} (h : k ∉ l.map (·.1)) : putM (mkO l) k x = mkO (insP l k x) := by
  unfold putM
  have e1 : (mkO l).k = 6 := rfl
  have e2 : (mkO l).ks = l.map (·.1) := rfl
  have e3 : (mkO l).xs = l.map (·.2) := rfl
  rw [if_pos e1, e2, e3, zip_maps]
  congr 2
  unfold dropP
  rw [List.filter_eq_self]
  intro p hp
  rw [Bool.not_eq_true', decide_eq_false_iff_not]
  intro e
  exact h (List.mem_map.2 ⟨p, hp, e⟩)
end Go.Eng
namespace Go.Eng
open Go Go.Num
theorem BL.app {a b : Str} (h : BL a) (h' : BL b) : BL (a ++ b) := fun c hc => by
  rcases List.mem_append.1 hc with h1 | h1
  · exact h c h1
  · exact h' c h1
end Go.Eng

namespace Go.Proofs.YtdkikjcpgihjlaaGreatDoor
open Go Go.Eng
set_option maxRecDepth 100000
section
variable [HX]
theorem shape_of {w : World} {a : Nat} {x : List Value} {T : TypeId} (h : w.heap[a]? = some (.cells x.toArray T (0, 0))) : w.shape? a = some (T, x.length) := by simp [World.shape?, h]
theorem ov_s {w : World} {a b oa ob la ca lb cb : Nat} {x y : List Value} {T1 T2 : TypeId} {K : Value → World → Prop} (hne : a ≠ b) (ha : w.heap[a]? = some (.cells x.toArray T1 (0, 0))) (hb : w.heap[b]? = some (.cells y.toArray T2 (0, 0))) (hy : y ≠ []) (hK : K (.bool false) w) :
    callF Tryz.prog 191 [.slice (some ⟨a, oa, none⟩) la ca, .slice (some ⟨b, ob, none⟩) lb cb] w K := by
  unfold callF
  rw [run_callFunc_extern Tryz.func191 (by kernel_rfl) (by kernel_rfl) (by kernel_rfl) (e := Extern.SlicesOverlaps.overlaps #[26, 26] #[4]) (by kernel_rfl),
    Lib.run_overlaps_apart w 26 4 ST (by kernel_rfl) 1 (fun w => by kernel_rfl) ⟨a, oa, none⟩ ⟨b, ob, none⟩ la ca lb cb hne T1 T2 x.length y.length (shape_of ha) (shape_of hb) (fun e => hy (List.eq_nil_of_length_eq_zero e)) (by rw [frozen_eq, ha, frO_zero]) (by rw [frozen_eq, ha, frO_zero])]
  exact hK
theorem ov_v {w : World} {a b oa ob la ca lb cb : Nat} {x y : List Value} {T1 T2 : TypeId} {K : Value → World → Prop} (hne : a ≠ b) (ha : w.heap[a]? = some (.cells x.toArray T1 (0, 0))) (hb : w.heap[b]? = some (.cells y.toArray T2 (0, 0))) (hy : y ≠ []) (hK : K (.bool false) w) :
    callF Tryz.prog 193 [.slice (some ⟨a, oa, none⟩) la ca, .slice (some ⟨b, ob, none⟩) lb cb] w K := by
  unfold callF
  rw [run_callFunc_extern Tryz.func193 (by kernel_rfl) (by kernel_rfl) (by kernel_rfl) (e := Extern.SlicesOverlaps.overlaps #[22, 22] #[4]) (by kernel_rfl),
    Lib.run_overlaps_apart w 22 4 VT (by kernel_rfl) 5 (fun w => by kernel_rfl) ⟨a, oa, none⟩ ⟨b, ob, none⟩ la ca lb cb hne T1 T2 x.length y.length (shape_of ha) (shape_of hb) (fun e => hy (List.eq_nil_of_length_eq_zero e)) (by rw [frozen_eq, ha, frO_zero]) (by rw [frozen_eq, ha, frO_zero])]
  exact hK
theorem insert_s {w : World} {base tb n i : Nat} {v : Value} {xs c : List Value} {T2 : TypeId} {K : Value → World → Prop} (hown : Own w base ST 1 v n xs) (ht : w.heap[tb]? = some (.cells c.toArray T2 (0, 0))) (hc : c.length = 1) (h1 : ∀ u ∈ c, one1 u = true) (hx1 : ∀ u ∈ xs, one1 u = true)
    (hne : v.ownBlock ≠ some tb) (hi : i ≤ n) (hn : n ≤ 1000000) (hbase : base ≤ w.heap.size)
    (hK : ∀ v' w', Own w' base ST 1 v' (n + 1) (xs.take (i * 1) ++ c ++ xs.drop (i * 1)) → Chg (fun k => v.ownBlock = some k) w w' → (∀ k, v'.ownBlock = some k → v.ownBlock = some k ∨ w.heap.size ≤ k) → K v' w') :
    callF Tryz.prog 170 [v, i64 (i : Nat), .slice (some ⟨tb, 0, none⟩) 1 1] w K := by
  refine W170_ok ?_
  show InsW Tryz.prog 1 26 3 191 192 _ _ _ _ _
  exact insert_q elem_s (by kernel_rfl) ov_s hown ht hc h1 hx1 hne hi hn (by decide) hbase hK
theorem insert_v {w : World} {base tb n i : Nat} {v : Value} {xs c : List Value} {T2 : TypeId} {K : Value → World → Prop} (hown : Own w base VT 5 v n xs) (ht : w.heap[tb]? = some (.cells c.toArray T2 (0, 0))) (hc : c.length = 5) (h1 : ∀ u ∈ c, one1 u = true) (hx1 : ∀ u ∈ xs, one1 u = true)
    (hne : v.ownBlock ≠ some tb) (hi : i ≤ n) (hn : n ≤ 1000000) (hbase : base ≤ w.heap.size)
    (hK : ∀ v' w', Own w' base VT 5 v' (n + 1) (xs.take (i * 5) ++ c ++ xs.drop (i * 5)) → Chg (fun k => v.ownBlock = some k) w w' → (∀ k, v'.ownBlock = some k → v.ownBlock = some k ∨ w.heap.size ≤ k) → K v' w') :
    callF Tryz.prog 171 [v, i64 (i : Nat), .slice (some ⟨tb, 0, none⟩) 1 1] w K := by
  refine W171_ok ?_
  show InsW Tryz.prog 5 22 3 193 194 _ _ _ _ _
  exact insert_q elem_v (by kernel_rfl) ov_v hown ht hc h1 hx1 hne hi hn (by decide) hbase hK
end
end Go.Proofs.YtdkikjcpgihjlaaGreatDoor
namespace Go.Proofs.YtdkikjcpgihjlaaGreatDoor
open Go Go.Eng
set_option maxRecDepth 100000
theorem VRepsP.len {G : Nat → Prop} {w : World} {xs : List JV} {L : List Value} (h : VRepsP G w xs L) : L.length = xs.length * 5 := (VRepsP.rep h).len
theorem VRepsP.app {G : Nat → Prop} {w : World} : ∀ {xs ys : List JV} {L M : List Value}, VRepsP G w xs L → VRepsP G w ys M → VRepsP G w (xs ++ ys) (L ++ M)
  | [], ys, L, M, h, h' => by simp only [VRepsP] at h; subst h; exact h'
  | x :: xs, ys, L, M, h, h' => by
    simp only [VRepsP] at h
    obtain ⟨c, r, rfl, hc, hr⟩ := h
    simp only [List.cons_append, VRepsP]
    exact ⟨c, r ++ M, by simp, hc, VRepsP.app hr h'⟩
theorem VRepsP.cut {G : Nat → Prop} {w : World} : ∀ (i : Nat) {xs : List JV} {L : List Value}, VRepsP G w xs L → VRepsP G w (xs.take i) (L.take (i * 5)) ∧ VRepsP G w (xs.drop i) (L.drop (i * 5))
  | 0, xs, L, h => by simp only [Nat.zero_mul, List.take_zero, List.drop_zero, VRepsP]; exact ⟨trivial, h⟩
  | i + 1, [], L, h => by simp only [VRepsP] at h; subst h; simp [VRepsP]
  | i + 1, x :: xs, L, h => by
    simp only [VRepsP] at h
    obtain ⟨c, r, rfl, hc, hr⟩ := h
    have h5 := hc.rep.len
    obtain ⟨h1, h2⟩ := VRepsP.cut i hr
    have e1 : (c ++ r).take ((i + 1) * 5) = c ++ r.take (i * 5) := by
      rw [show (i + 1) * 5 = c.length + i * 5 by omega, List.take_append, List.take_of_length_le (by omega), Nat.add_sub_cancel_left]
    have e2 : (c ++ r).drop ((i + 1) * 5) = r.drop (i * 5) := by
      rw [show (i + 1) * 5 = c.length + i * 5 by omega, List.drop_append]
      simp
    rw [e1, e2]
    simp only [List.take_succ_cons, List.drop_succ_cons, VRepsP]
    exact ⟨⟨c, _, rfl, hc, h1⟩, h2⟩
theorem VRepsP.one' {G : Nat → Prop} {w : World} {x : JV} {cs : List Value} (h : VRepP G w x cs) : VRepsP G w [x] cs := by
  simp only [VRepsP]; exact ⟨cs, [], by simp, h, rfl⟩
theorem ins_split {l : List (Str × JV)} {k : Str} {x : JV} {i : Nat} (hk : k ∉ l.map (·.1)) (h1 : ∀ j a, j < i → (l.map (·.1))[j]? = some a → Op.bytesLess a k = true) (h2 : ∀ j a, i ≤ j → (l.map (·.1))[j]? = some a → Op.bytesLess a k = false) : insP l k x = l.take i ++ (k, x) :: l.drop i := by
  induction l generalizing i with
  | nil => simp [insP]
  | cons q r ih =>
    obtain ⟨a, y⟩ := q
    simp only [List.map_cons, List.mem_cons, not_or] at hk
    simp only [insP]
    cases i with
    | zero =>
      have := h2 0 a (Nat.zero_le _) rfl
      have hka : Op.bytesLess k a = true := by
        rcases less_tri k a with h | h | h
        · exact h
        · exact absurd h hk.1
        · rw [this] at h; cases h
      rw [if_pos hka]; rfl
    | succ i =>
      have := h1 0 a (by omega) rfl
      rw [if_neg (by rw [less_anti this]; simp), ih (i := i) hk.2 (fun j b hj hb => h1 (j + 1) b (by omega) hb) (fun j b hj hb => h2 (j + 1) b (by omega) hb)]
      rfl
theorem own_chg {w w' : World} {B : Nat} {e : TypeId} {size : Nat} {v : Value} {n : Nat} {xs : List Value} {S : Nat → Prop} (h : Own w B e size v n xs) (hc : Chg S w w') (hS : ∀ k, v.ownBlock = some k → ¬ S k) : Own w' B e size v n xs := by
  obtain ⟨hl, h | ⟨g, cap, cur, rfl, h1, h2, h3⟩⟩ := h
  · exact ⟨hl, .inl h⟩
  · exact ⟨hl, .inr ⟨g, cap, cur, rfl, h1, hc.at h2 (hS g rfl), h3⟩⟩
theorem own_in {w : World} {B : Nat} {e : TypeId} {size : Nat} {v : Value} {n k : Nat} {xs : List Value} (h : Own w B e size v n xs) (hk : v.ownBlock = some k) : B ≤ k ∧ k < w.heap.size ∧ ∃ c, w.heap[k]? = some (.cells c e (0, 0)) := by
  obtain ⟨hl, ⟨rfl, _⟩ | ⟨g, cap, cur, rfl, h1, h2, h3⟩⟩ := h
  · cases hk
  · simp only [Value.ownBlock, Option.some.injEq] at hk
    subst hk
    exact ⟨h1, at_lt h2, _, h2⟩
theorem own_one {w : World} {B : Nat} {e : TypeId} {size : Nat} {v : Value} {n : Nat} {xs : List Value} (h : Own w B e size v n xs) : one1 v = true := by obtain ⟨p, c, rfl, _⟩ := h.sl.shape; rfl
theorem strs_one (l : List Str) : ∀ u ∈ l.map str, one1 u = true := fun u hu => by
  obtain ⟨s, _, rfl⟩ := List.mem_map.1 hu
  rfl
section
variable [HX]
theorem clone_so {v : Value} {T : TypeId} {l : List Str} {w : World} {K : Value → World → Prop} (h : SlAt w T v l.length (l.map str)) (hl : l.length ≤ 1000000)
    (hK : ∀ v' w', Ext w w' → Own w' w.heap.size ST 1 v' l.length (l.map str) → K v' w') : callF Tryz.prog 130 [v] w K := by
  refine W130_ok ?_
  unfold W130
  obtain ⟨p, cap, rfl, hcap, hp, hc⟩ := h
  cases p with
  | none =>
    obtain ⟨h0, rfl⟩ := hp rfl
    have : l = [] := List.eq_nil_of_length_eq_zero h0
    subst this
    have e : ∀ K : Value → Prop, eqW .slice false (.slice none ([] : List Str).length 0) (.slice none 0 0) K ↔ K (.bool true) := fun K => Iff.rfl
    rw [e]
    simp only [wsv, wsg, wsh, wsl, cond_true, cond_false, exists_eq_left', Option.some.injEq, Option.isSome_some, List.getElem?_toArray, List.getElem?_cons_zero, List.getElem?_cons_succ, List.length_cons, List.length_nil, List.set_cons_zero, List.set_cons_succ, List.getD_cons_zero, List.getD_cons_succ, Nat.zero_add, Nat.add_zero, Nat.reduceAdd, Nat.reduceLT, Nat.lt_add_one, Nat.zero_lt_succ, decide_true, decide_false, ne_eq, reduceCtorEq]
    exact hK _ w (Chg.refl _ _) ⟨rfl, .inl ⟨rfl, rfl⟩⟩
  | some a =>
    have e : ∀ K : Value → Prop, eqW .slice false (.slice (some a) l.length cap) (.slice none 0 0) K ↔ K (.bool false) := fun K => Iff.rfl
    rw [e]
    unfold bslW
    simp only [wsv, wsg, wsh, wsl, cond_true, cond_false, exists_eq_left', Option.some.injEq, Option.isSome_some, List.getElem?_toArray, List.getElem?_cons_zero, List.getElem?_cons_succ, List.length_cons, List.length_nil, List.set_cons_zero, List.set_cons_succ, List.getD_cons_zero, List.getD_cons_succ, Nat.zero_add, Nat.add_zero, Nat.reduceAdd, Nat.reduceLT, Nat.lt_add_one, Nat.zero_lt_succ, decide_true, decide_false, ne_eq, reduceCtorEq]
    refine append_own3 elem_s (base := w.heap.size) (own_new (w := w) (base := w.heap.size) (e := ST) (size := 1) (n := 0) (cs := []) (Nat.le_refl _) rfl (by omega)) (x := .slice (some a) l.length cap) (T := T) (m := l.length) (news := l.map str) ?_ (by simp) ?_ (by omega) (by omega) (by rw [size_alloc]; omega) fun v' w' h' hc' hb' => ?_
    · have hx : Ext w (w.alloc (.cells ([] : List Value).toArray ST)) := (by repeat (first | assumption | exact Chg.refl _ _ | refine Chg.drew ?_ | refine Chg.alloc ?_ _ | refine Chg.set ?_ (by first | exact .inl rfl | exact .inr (by omega) | exact .inr (by simp only [size_set, size_alloc, size_drew]; omega) | (left; simp; done)) _ | exact Chg.of_ext (by assumption)))
      exact SlAt.ext ⟨some a, cap, rfl, hcap, hp, hc⟩ hx
    · exact strs_one l
    · have hx : Ext w (w.alloc (.cells ([] : List Value).toArray ST)) := (by repeat (first | assumption | exact Chg.refl _ _ | refine Chg.drew ?_ | refine Chg.alloc ?_ _ | refine Chg.set ?_ (by first | exact .inl rfl | exact .inr (by omega) | exact .inr (by simp only [size_set, size_alloc, size_drew]; omega) | (left; simp; done)) _ | exact Chg.of_ext (by assumption)))
      refine hK v' w' (hx.then hc' fun k hk e => ?_) (by simpa using h')
      simp only [Value.ownBlock, Option.some.injEq] at e
      omega
theorem clones_o {xs : List JV} (hf : ∀ x ∈ xs, fewM x = true)
    {sv : Value} {w : World} {K : Value → World → Prop} (h : ItemsAt w sv xs) (hl : xs.length ≤ 1000000)
    (hK : ∀ sv' w' L, Ext w w' → Own w' w.heap.size VT 5 sv' xs.length L → VRepsP (fun k => w.heap.size ≤ k ∧ sv'.ownBlock ≠ some k) w' xs L → K sv' w') : callF Tryz.prog 104 [sv] w K := by
  refine W104_ok ?_
  unfold W104
  rw [h.len]
  refine ⟨fun s w' => ∃ i v L, i ≤ xs.length ∧ s = [v, i64 (i : Nat)] ∧ Ext w w' ∧ Own w' w.heap.size VT 5 v i L ∧ VRepsP (fun k => w.heap.size ≤ k ∧ v.ownBlock ≠ some k) w' (xs.take i) L,
    fun s _ => match s with | [_, .int _ i] => xs.length - i.toNat | _ => 0, ⟨0, _, [], by omega, rfl, Chg.refl _ _, ⟨by simp, .inl ⟨rfl, rfl⟩⟩, by simp [VRepsP]⟩, ?_⟩
  rintro s g w2 ⟨i, v, L, hi, rfl, hx2, hO, hr⟩
  rcases Nat.lt_or_ge i xs.length with hlt | hge
  · obtain ⟨x, hxi⟩ : ∃ x, xs[i]? = some x := ⟨_, List.getElem?_eq_getElem hlt⟩
    have hltI : (i : Int) < (xs.length : Int) := by omega
    simp only [wsv, wsg, wsh, wsl, cond_true, cond_false, exists_eq_left', Option.some.injEq, Option.isSome_some, List.getElem?_toArray, List.getElem?_cons_zero, List.getElem?_cons_succ, List.length_cons, List.length_nil, List.set_cons_zero, List.set_cons_succ, List.getD_cons_zero, List.getD_cons_succ, Nat.zero_add, Nat.add_zero, Nat.reduceAdd, Nat.reduceLT, Nat.lt_add_one, Nat.zero_lt_succ, decide_true, decide_false, ne_eq, reduceCtorEq, hltI]
    refine (h.ext hx2).at hxi fun cs hcs => ?_
    refine copy_new hcs fun p w3 sp kp hP hx3 => ?_
    refine hP.ld fun cs2 h2 => ?_
    refine clone_p x (hf x (List.mem_of_getElem? hxi)) h2 fun cs3 w4 hx4 h3 => ?_
    refine row_v h3.rep.len fun t w5 ht hx5 => ?_
    have hx25 := hx3.trans (hx4.trans hx5)
    have hO5 := hO.ext hx25
    have s0 := hx2.size
    have s3 := hx3.size
    have s25 := hx25.size
    have hglt : ∀ k, v.ownBlock = some k → k < w2.heap.size := fun k hk => (World.ownsRow.lt hO k hk).2
    refine append_own3 elem_v hO5 ht (m := 1) (by rw [h3.rep.len]) h3.rep.one (by omega) (by omega) (by omega) fun v' w6 h6 hc6 hb6 => ?_
    have hx6 : Ext w w6 := (hx2.trans hx25).then hc6 fun k hk e => by
      have := (own_ge hO5 e).1; omega
    rw [up1 (by omega)]
    refine ⟨⟨i + 1, v', L ++ cs3, hlt, rfl, hx6, h6, ?_⟩, by simp only [Int.toNat_natCast]; omega⟩
    have e : xs.take (i + 1) = xs.take i ++ [x] := by rw [List.take_add_one, hxi]; rfl
    rw [e]
    have hr5 := VRepsP.chg hx25 (fun _ _ _ e => e) hr
    have h35 := VRepP.chg hx5 (fun _ _ _ e => e) h3
    have hall : VRepsP (fun k => w.heap.size ≤ k ∧ v.ownBlock ≠ some k) w5 (xs.take i ++ [x]) (L ++ cs3) :=
      hr5.snoc (h35.mono fun k _ hk => ⟨by have : w3.heap.size ≤ k := hk; omega, fun e => by have := hglt k e; have : w3.heap.size ≤ k := hk; omega⟩)
    have hall2 : VRepsP (fun k => (w.heap.size ≤ k ∧ v.ownBlock ≠ some k) ∧ k < w5.heap.size) w5 (xs.take i ++ [x]) (L ++ cs3) := hall.mono fun k hlt hk => ⟨hk, hlt⟩
    have hall3 := VRepsP.chg hc6 (fun k hk _ e => hk.1.2 e) hall2
    exact hall3.mono fun k _ hk => ⟨hk.1.1, fun e => by
      rcases hb6 k e with h | h
      · exact hk.1.2 h
      · omega⟩
  · obtain rfl : i = xs.length := by omega
    simp only [wsv, wsg, wsh, wsl, cond_true, cond_false, exists_eq_left', Option.some.injEq, Option.isSome_some, List.getElem?_toArray, List.getElem?_cons_zero, List.getElem?_cons_succ, List.length_cons, List.length_nil, List.set_cons_zero, List.set_cons_succ, List.getD_cons_zero, List.getD_cons_succ, Nat.zero_add, Nat.add_zero, Nat.reduceAdd, Nat.reduceLT, Nat.lt_add_one, Nat.zero_lt_succ, decide_true, decide_false, ne_eq, reduceCtorEq, Int.lt_irrefl]
    rw [List.take_length] at hr
    exact hK v w2 L hx2 hO hr
structure OwnP (w : World) (B : Nat) (v : JV) (sv kv : Value) (L : List Value) : Prop where
  items : Own w B VT 5 sv v.xs.length L
  reps : VRepsP (fun q => B ≤ q ∧ sv.ownBlock ≠ some q ∧ kv.ownBlock ≠ some q) w v.xs L
  keys : Own w B ST 1 kv v.ks.length (v.ks.map str)
  fits : Fits v.xs.length v.ks v.t
theorem OwnP.ext {w w' : World} {B : Nat} {v : JV} {sv kv : Value} {L : List Value} (h : OwnP w B v sv kv L) (hx : Ext w w') : OwnP w' B v sv kv L := ⟨own_chg h.items hx fun _ _ e => e, VRepsP.chg hx (fun _ _ _ e => e) h.reps, own_chg h.keys hx fun _ _ e => e, h.fits⟩
theorem OwnP.rep {w : World} {B : Nat} {v : JV} {sv kv : Value} {L : List Value} (h : OwnP w B v sv kv L) : VRepP (From B) w v [i64 v.k, .bool v.b, str v.t, sv, kv] :=
  VRepP.mk h.items.sl (h.reps.mono fun k _ hk => hk.1) h.keys.sl h.fits (fun _ k hk => (own_in h.items hk).1) (fun _ k hk => (own_in h.keys hk).1)
theorem clone_o {v : JV} {cs : List Value} {w : World} {K : Value → World → Prop} (hfew : fewM v = true) (h : VRep w v cs) (hK : ∀ sv kv L w', Ext w w' → OwnP w' w.heap.size v sv kv L → K (.agg [i64 v.k, .bool v.b, str v.t, sv, kv].toArray) w') :
    callF Tryz.prog 90 [.agg cs.toArray] w K := by
  rw [fewM_eq, fewL_all] at hfew
  simp only [Bool.and_eq_true, decide_eq_true_eq, List.all_eq_true] at hfew
  obtain ⟨⟨f1, f2⟩, f3⟩ := hfew
  refine W90_ok ?_
  unfold W90
  refine box_val h fun a w1 sv kv hB hx ha => ?_
  refine alloc_new fun b w2 hb hz2 hbb hx2 => ?_
  have hxd : Ext w2 w2.drew := Chg.drew (Chg.refl (fun _ => False) w2)
  have hB2 := hB.ext hx2
  have hBd := hB2.ext hxd
  have hbd := hxd.at hbb id
  have sd : w2.drew.heap.size = w2.heap.size := rfl
  simp only [wsv, wsg, wsh, wsl, cond_true, cond_false, exists_eq_left', Option.some.injEq, Option.isSome_some, List.getElem?_toArray, List.getElem?_cons_zero, List.getElem?_cons_succ, List.length_cons, List.length_nil, List.set_cons_zero, List.set_cons_succ, List.getD_cons_zero, List.getD_cons_succ, Nat.zero_add, Nat.add_zero, Nat.reduceAdd, Nat.reduceLT, Nat.lt_add_one, Nat.zero_lt_succ, decide_true, decide_false, ne_eq, reduceCtorEq, wsh, hB2.hb]
  obtain ⟨T1, k1⟩ := hBd.keys
  refine clone_so k1 (by omega) fun kv' w3 hx3 hk3 => ?_
  have hB3 := hBd.ext hx3
  have hb3 := hx3.at hbd id
  have s3 := hx3.size
  simp only [wsv, wsg, wsh, wsl, cond_true, cond_false, exists_eq_left', Option.some.injEq, Option.isSome_some, List.getElem?_toArray, List.getElem?_cons_zero, List.getElem?_cons_succ, List.length_cons, List.length_nil, List.set_cons_zero, List.set_cons_succ, List.getD_cons_zero, List.getD_cons_succ, Nat.zero_add, Nat.add_zero, Nat.reduceAdd, Nat.reduceLT, Nat.lt_add_one, Nat.zero_lt_succ, decide_true, decide_false, ne_eq, reduceCtorEq, wsh, hB3.hb]
  refine clones_o f3 hB3.itemsAt (by omega) fun sv' w4 L hx4 hL1 hL2 => ?_
  have hB4 := hB3.ext hx4
  have hb4 := hx4.at hb3 id
  have s1 := hx.size
  have hak := at_lt hB.hb
  have one1 : one1 sv' = true ∧ one1 kv' = true := ⟨own_one hL1, own_one hk3⟩
  refine st_at hB4.hb one1.2 (by simp) fun w5 hz5 ha5 hc5 => ?_
  have ha5 : w5.heap[a]? = some (.cells [i64 v.k, .bool v.b, str v.t, sv, kv'].toArray VT (0, 0)) := by rw [ha5]; simp
  refine st_at ha5 one1.1 (by simp) fun w6 hz6 ha6 hc6 => ?_
  have ha6 : w6.heap[a]? = some (.cells [i64 v.k, .bool v.b, str v.t, sv', kv'].toArray VT (0, 0)) := by rw [ha6]; simp
  refine ld_all ha6 rfl ?_
  have hb6 := hc6.at (hc5.at hb4 (by omega)) (by omega)
  refine ret_agg hb6 rfl rfl (obj_one one1.1 one1.2) fun w7 hc7 => ?_
  have hx1 : Ext w w4 := hx.trans (hx2.trans (hxd.trans (hx3.trans hx4)))
  have hx5 : Ext w w7 := ((hx1.new hc5 (by omega)).new hc6 (by omega)).new hc7 (by omega)
  have hch : Chg (fun k => k = a ∨ k = b) w4 w7 := ((hc5.mono fun k _ e => .inl e).trans (hc6.mono fun k _ e => .inl e)).trans (hc7.mono fun k _ e => .inr e)
  have hkb : ∀ k, kv'.ownBlock = some k → w2.drew.heap.size ≤ k ∧ k < w3.heap.size := fun k hk => ⟨(own_in hk3 hk).1, (own_in hk3 hk).2.1⟩
  have hib : ∀ k, sv'.ownBlock = some k → w3.heap.size ≤ k := fun k hk => (own_in hL1 hk).1
  have lower : ∀ {e : TypeId} {size n : Nat} {v : Value} {xs : List Value} {B B' : Nat} {w : World}, B' ≤ B → Own w B e size v n xs → Own w B' e size v n xs := fun hle h => by
    obtain ⟨hl, h | ⟨g, cap, cur, he, h1, h2⟩⟩ := h
    · exact ⟨hl, .inl h⟩
    · exact ⟨hl, .inr ⟨g, cap, cur, he, by omega, h2⟩⟩
  refine hK sv' kv' L w7 hx5 ⟨lower (by omega) (own_chg hL1 hch fun k hk e => by have := hib k hk; omega), ?_, lower (by omega) (own_chg (hk3.ext hx4) hch fun k hk e => by have := hkb k hk; omega), hB.fits⟩
  refine VRepsP.mono (fun k _ hk => ?_) (VRepsP.chg (G := fun k => w3.heap.size ≤ k ∧ sv'.ownBlock ≠ some k) hch (fun k hk _ e => by have := hk.1; omega) hL2)
  exact ⟨by have := hk.1; omega, hk.2, fun e => by have := hkb k e; have := hk.1; omega⟩
end
end Go.Proofs.YtdkikjcpgihjlaaGreatDoor
namespace Go.Proofs.YtdkikjcpgihjlaaGreatDoor
open Go Go.Eng
set_option maxRecDepth 100000
def Free (B : Nat) (sv kv : Value) (q : Nat) : Prop := B ≤ q ∧ sv.ownBlock ≠ some q ∧ kv.ownBlock ≠ some q
section
variable [HX]
theorem rows_ne {w : World} {B n m : Nat} {sv kv : Value} {L M : List Value} (h : Own w B VT 5 sv n L) (h' : Own w B ST 1 kv m M) {q : Nat} (h1 : sv.ownBlock = some q) : kv.ownBlock ≠ some q := fun e => by
  obtain ⟨_, _, c, hc⟩ := own_in h h1
  obtain ⟨_, _, c', hc'⟩ := own_in h' e
  rw [hc] at hc'
  simp only [Option.some.injEq, Obj.cells.injEq] at hc'
  exact absurd hc'.2.1 (by decide)
theorem rowS {w : World} {x : Str} {K : Value → World → Prop} (hK : ∀ a w', a = w.heap.size → w'.heap.size = w.heap.size + 1 → w'.heap[a]? = some (.cells [str x].toArray ST (0, 0)) → Ext w w' → K (.slice (some ⟨a, 0, none⟩) 1 1) w') : bslW ST 1 [.string (ofL [])] [(0, 1, str x)] w K := by
  unfold bslW
  simp only [wsv, wsg, wsh, wsl, cond_true, cond_false, exists_eq_left', Option.some.injEq, Option.isSome_some, List.getElem?_toArray, List.getElem?_cons_zero, List.getElem?_cons_succ, List.length_cons, List.length_nil, List.set_cons_zero, List.set_cons_succ, List.getD_cons_zero, List.getD_cons_succ, Nat.zero_add, Nat.add_zero, Nat.reduceAdd, Nat.reduceLT, Nat.lt_add_one, Nat.zero_lt_succ, decide_true, decide_false, ne_eq, reduceCtorEq]
  exact row_new fun a w' h1 h2 h3 h4 _ => hK a w' h1 h2 h3 h4
theorem rowV {w : World} {cs : List Value} {K : Value → World → Prop} (hc : cs.length = 5) (hK : ∀ a w', a = w.heap.size → w'.heap.size = w.heap.size + 1 → w'.heap[a]? = some (.cells cs.toArray VT (0, 0)) → Ext w w' → K (.slice (some ⟨a, 0, none⟩) 1 1) w') : bslW VT 1 [(.int .i64 0), (.bool false), (.string (ofL [])), (.slice none 0 0), (.slice none 0 0)] [(0, 5, .agg cs.toArray)] w K := by
  unfold bslW
  have hp : ∀ K : List Value → Prop, K cs → putW [(.int .i64 0), (.bool false), (.string (ofL [])), (.slice none 0 0), (.slice none 0 0)] [(0, 5, .agg cs.toArray)] K := by
    intro K hK
    refine ⟨by simp [Value.cells, hc], by simp, ?_⟩
    have : List.take 0 [(Value.int .i64 0), (.bool false), (.string (ofL [])), (.slice none 0 0), (.slice none 0 0)] ++ ((Value.agg cs.toArray).cells.toList ++ List.drop (0 + 5) [(Value.int .i64 0), (.bool false), (.string (ofL [])), (.slice none 0 0), (.slice none 0 0)]) = cs := by simp [Value.cells]
    rw [this]
    exact hK
  refine hp _ ?_
  exact row_new fun a w' h1 h2 h3 h4 _ => hK a w' h1 h2 h3 h4
theorem put_p {l : List (Str × JV)} {k : Str} {x : JV} {sv kv : Value} {L cs : List Value} {B : Nat} {w : World} {K : Value → World → Prop} (h : OwnP w B (mkO l) sv kv L) (hx : VRepP (Free B sv kv) w x cs) (hr : Rise (l.map (·.1))) (hk : k ∉ l.map (·.1)) (hl : l.length ≤ 99999) (hkl : k.length ≤ 9223372036854775807)
    (hB : B ≤ w.heap.size) (hK : ∀ es w', Chg (fun q => sv.ownBlock = some q ∨ kv.ownBlock = some q) w w' → VRepP (From B) w' (mkO (insP l k x)) es → K (.agg es.toArray) w') :
    callF Tryz.prog 137 [.agg [i64 6, .bool false, str [], sv, kv].toArray, str k, .agg cs.toArray] w K := by
  have hkeys : (mkO l).ks = l.map (·.1) := rfl
  have hxs : (mkO l).xs = l.map (·.2) := rfl
  have hO := h.items
  have hM := h.keys
  rw [hxs] at hO
  rw [hkeys] at hM
  have hn1 : (l.map (·.2)).length = l.length := List.length_map _
  have hn2 : (l.map (·.1)).length = l.length := List.length_map _
  rw [hn1] at hO
  rw [hn2] at hM
  have hrp := h.reps
  rw [hxs] at hrp
  have hcs5 := hx.rep.len
  have hone := hx.rep.one
  obtain ⟨f1, f2, f3, f4⟩ := h.fits
  refine W137_ok ?_
  unfold W137
  have o1 := own_one hO
  have o2 := own_one hM
  refine box_new (z := [i64 6, .bool false, str [], sv, kv]) fun a3 w1 ha3 hz1 hb3 hx1 => ?_
  refine box_new (z := cs) fun a5 w2 ha5 hz2 hb5 hx2 => ?_
  refine alloc_new fun a6 w3 ha6 hz3 hb6 hx3 => ?_
  have hb3 := (hx2.trans hx3).at hb3 id
  have hb5 := hx3.at hb5 id
  have hx03 := (hx1.trans hx2).trans hx3
  rw [fld_ptr, ld_one]
  refine ⟨kv, by rw [add_mk, cell_eq, hb3]; rfl, ?_⟩
  have hsk : SlAt w3 ST kv (l.map (·.1)).length ((l.map (·.1)).map str) := by rw [hn2]; exact hM.sl.ext hx03
  refine search_p hsk (by rw [hn2]; omega) hr fun i _ hlo hhi hile => ?_
  rw [hn2] at hile
  have hnone : (idxK (l.map (·.1)) k).isSome = false := by rw [idxK_none.2 hk]; rfl
  rw [hnone]
  simp only [ext_tuple]
  refine ⟨_, rfl, _, rfl, ?_⟩
  rw [condW_false]
  have hins := ins_split hk hlo hhi (x := x)
  have hsvlt : ∀ q, sv.ownBlock = some q → q < w.heap.size := fun q hq => (own_in hO hq).2.1
  have hkvlt : ∀ q, kv.ownBlock = some q → q < w.heap.size := fun q hq => (own_in hM hq).2.1
  -- the key's row
  have insK : ∀ {w4 : World} {tb : Nat} {K' : Value → World → Prop}, Chg (fun q => False) w w4 → w.heap.size ≤ tb → w4.heap[tb]? = some (.cells [str k].toArray ST (0, 0)) →
      (∀ kv' w5, Own w5 B ST 1 kv' (l.length + 1) (((l.map (·.1)).map str).take (i * 1) ++ [str k] ++ ((l.map (·.1)).map str).drop (i * 1)) → Chg (fun q => kv.ownBlock = some q) w4 w5 → (∀ q, kv'.ownBlock = some q → kv.ownBlock = some q ∨ w4.heap.size ≤ q) → K' kv' w5) →
      callF Tryz.prog 170 [kv, i64 (i : Nat), .slice (some ⟨tb, 0, none⟩) 1 1] w4 K' := fun {w4 tb K'} hc htb ht hK' =>
    insert_s (own_chg hM hc fun _ _ e => e) ht rfl (fun u hu => by rw [List.mem_singleton.1 hu]; rfl) (strs_one _) (fun e => by have := hkvlt _ e; omega) hile (by omega) (by have := hc.size; omega) hK'
  have insV : ∀ {w4 : World} {tb : Nat} {K' : Value → World → Prop}, Chg (fun q => kv.ownBlock = some q) w w4 → w.heap.size ≤ tb → w4.heap[tb]? = some (.cells cs.toArray VT (0, 0)) →
      (∀ sv' w5, Own w5 B VT 5 sv' (l.length + 1) (L.take (i * 5) ++ cs ++ L.drop (i * 5)) → Chg (fun q => sv.ownBlock = some q) w4 w5 → (∀ q, sv'.ownBlock = some q → sv.ownBlock = some q ∨ w4.heap.size ≤ q) → K' sv' w5) →
      callF Tryz.prog 171 [sv, i64 (i : Nat), .slice (some ⟨tb, 0, none⟩) 1 1] w4 K' := fun {w4 tb K'} hc htb ht hK' =>
    insert_v (own_chg hO hc fun q hq e => rows_ne hO hM hq e) ht hcs5 hone hrp.rep.one (fun e => by have := hsvlt _ e; omega) hile (by omega) (by have := hc.size; omega) hK'
  obtain ⟨J, hJ⟩ : ∃ J : List Value → World → Prop, ∀ st w', J st w' ↔ ∃ sv' kv', w'.heap[a3]? = some (.cells [i64 6, .bool false, str [], sv', kv'].toArray VT (0, 0)) ∧ w'.heap[a6]? = some (.cells [i64 0, .bool false, str [], .slice none 0 0, .slice none 0 0].toArray VT (0, 0)) ∧ Chg (fun q => sv.ownBlock = some q ∨ kv.ownBlock = some q) w w' ∧ a6 < w'.heap.size ∧
      one1 sv' = true ∧ one1 kv' = true ∧ VRepP (fun q => B ≤ q ∧ q ≠ a6) w' (mkO (insP l k x)) [i64 6, .bool false, str [], sv', kv'] := ⟨_, fun _ _ => Iff.rfl⟩
  refine JoinW.cut J ?_ ?_
  · have hxd : Ext w3 w3.drew := Chg.drew (Chg.refl (fun _ => False) w3)
    have e3 : ∀ {w4 : World}, Chg (fun q => kv.ownBlock = some q) w3 w4 → w4.heap[a3]? = some (.cells [i64 6, .bool false, str [], sv, kv].toArray VT (0, 0)) := fun hc => hc.at hb3 fun e => by have := hkvlt _ e; omega
    have e5 : ∀ {w4 : World}, Chg (fun q => kv.ownBlock = some q) w3 w4 → w4.heap[a5]? = some (.cells cs.toArray VT (0, 0)) := fun hc => hc.at hb5 fun e => by have := hkvlt _ e; omega
    have up : ∀ {w4 : World}, Ext w3 w4 → Chg (fun q => kv.ownBlock = some q) w3 w4 := fun hx => Chg.of_ext hx
    have ldk : ∀ {w4 : World} {K : Value → Prop}, Chg (fun q => kv.ownBlock = some q) w3 w4 → K kv → ldW false 1 (.pointer (some ((⟨a3, 0, none⟩ : Addr).add 4))) w4 K := fun hc hk => by
      rw [ld_one]; exact ⟨_, by rw [add_mk, cell_eq, e3 hc]; rfl, hk⟩
    have lds : ∀ {w4 : World} {K : Value → Prop}, Chg (fun q => kv.ownBlock = some q) w3 w4 → K sv → ldW false 1 (.pointer (some ((⟨a3, 0, none⟩ : Addr).add 3))) w4 K := fun hc hk => by
      rw [ld_one]; exact ⟨_, by rw [add_mk, cell_eq, e3 hc]; rfl, hk⟩
    have ldx : ∀ {w4 : World} {K : Value → Prop}, Chg (fun q => kv.ownBlock = some q) w3 w4 → K (.agg cs.toArray) → ldW true 5 (.pointer (some ⟨a5, 0, none⟩)) w4 K := fun hc hk => ld_all (e5 hc) hcs5 hk
    -- both are in: the two stores
    have fin : ∀ {w4 w5 : World} {sv' kv' : Value}, Chg (fun q => kv.ownBlock = some q) w3 w4 → Own w4 B ST 1 kv' (l.length + 1) (((l.map (·.1)).map str).take (i * 1) ++ [str k] ++ ((l.map (·.1)).map str).drop (i * 1)) → (∀ q, kv'.ownBlock = some q → kv.ownBlock = some q ∨ w3.heap.size ≤ q) →
        Chg (fun q => sv.ownBlock = some q) w4 w5 → Own w5 B VT 5 sv' (l.length + 1) (L.take (i * 5) ++ cs ++ L.drop (i * 5)) → (∀ q, sv'.ownBlock = some q → sv.ownBlock = some q ∨ w3.heap.size ≤ q) →
        stW 1 (.pointer (some ((⟨a3, 0, none⟩ : Addr).add 4))) kv' w5 fun w6 => fldW 3 (.pointer (some ⟨a3, 0, none⟩)) fun t36 => stW 1 t36 sv' w6 fun w7 => J [] w7 := fun {w4 w5 sv' kv'} hc4 hOk hkb hc5 hOs hsb => by
      have hb3' := hc5.at (e3 hc4) fun e => by have := hsvlt _ e; omega
      have hb6' := hc5.at (hc4.at hb6 fun e => by have := hkvlt _ e; omega) fun e => by have := hsvlt _ e; omega
      rw [add_mk]
      refine st_at hb3' (own_one hOk) (by simp) fun w6 hz6 hb36 hc6 => ?_
      have hb36 : w6.heap[a3]? = some (.cells [i64 6, .bool false, str [], sv, kv'].toArray VT (0, 0)) := by rw [hb36]; simp
      rw [fld_ptr, add_mk]
      refine st_at hb36 (own_one hOs) (by simp) fun w7 hz7 hb37 hc7 => ?_
      have hb37 : w7.heap[a3]? = some (.cells [i64 6, .bool false, str [], sv', kv'].toArray VT (0, 0)) := by rw [hb37]; simp
      have hc67 : Chg (fun q => q = a3) w5 w7 := hc6.trans hc7
      have s45 := hc5.size
      have s34 := hc4.size
      have s57 := hc67.size
      have hcw : Chg (fun q => sv.ownBlock = some q ∨ kv.ownBlock = some q) w w7 := by
        have h1 : Chg (fun q => sv.ownBlock = some q ∨ kv.ownBlock = some q) w w5 := (((Chg.of_ext hx03).trans (hc4.mono fun _ _ e => .inr e)).trans (hc5.mono fun _ _ e => .inl e))
        exact h1.then hc67 fun q hq e => by omega
      have n3 : ∀ q, kv'.ownBlock = some q → q ≠ a3 := fun q hq e => by
        rcases hkb q hq with h | h
        · have := hkvlt _ h; omega
        · omega
      have n3' : ∀ q, sv'.ownBlock = some q → q ≠ a3 := fun q hq e => by
        rcases hsb q hq with h | h
        · have := hsvlt _ h; omega
        · omega
      have hOk5 : Own w5 B ST 1 kv' (l.length + 1) (((l.map (·.1)).map str).take (i * 1) ++ [str k] ++ ((l.map (·.1)).map str).drop (i * 1)) := own_chg hOk hc5 fun q hq e => by
        obtain ⟨_, _, c, hc⟩ := own_in hOk hq
        obtain ⟨_, _, c', hc'⟩ := own_in (own_chg hO ((Chg.of_ext hx03).trans hc4) fun q hq e => rows_ne hO hM hq e) e
        rw [hc] at hc'
        simp only [Option.some.injEq, Obj.cells.injEq] at hc'
        exact absurd hc'.2.1 (by decide)
      have hOk7 := own_chg hOk5 hc67 fun q hq e => n3 q hq e
      have hOs7 := own_chg hOs hc67 fun q hq e => n3' q hq e
      refine (hJ _ w7).2 ⟨sv', kv', hb37, hc67.at hb6' (by omega), hcw, by have := at_lt hb6; omega, own_one hOs, own_one hOk, ?_⟩
      have hfree : ∀ q, Free B sv kv q → q < w.heap.size → ¬ (sv.ownBlock = some q ∨ kv.ownBlock = some q) := fun q hq _ e => by
        rcases e with e | e
        · exact hq.2.1 e
        · exact hq.2.2 e
      have hrp0 : VRepsP (fun q => Free B sv kv q ∧ q < w.heap.size) w (l.map (·.2)) L := hrp.mono fun q hq h => ⟨h, hq⟩
      have hx0 : VRepP (fun q => Free B sv kv q ∧ q < w.heap.size) w x cs := hx.mono fun q hq h => ⟨h, hq⟩
      have hrp7 := VRepsP.chg hcw (fun q hq h => hfree q hq.1 h) hrp0
      have hx7 := VRepP.chg hcw (fun q hq h => hfree q hq.1 h) hx0
      have m3 : ∀ q, kv'.ownBlock = some q → q ≠ a6 := fun q hq e => by
        rcases hkb q hq with h | h
        · have := hkvlt _ h; omega
        · omega
      have m3' : ∀ q, sv'.ownBlock = some q → q ≠ a6 := fun q hq e => by
        rcases hsb q hq with h | h
        · have := hsvlt _ h; omega
        · omega
      obtain ⟨c1, c2⟩ := hrp7.cut i
      have hall := (c1.app (VRepsP.one' hx7)).app c2
      have ex : (mkO (insP l k x)).xs = (l.map (·.2)).take i ++ [x] ++ (l.map (·.2)).drop i := by
        rw [hins]
        show ((l.take i ++ (k, x) :: l.drop i).map (·.2)) = _
        simp
      have ek : (mkO (insP l k x)).ks = (l.map (·.1)).take i ++ [k] ++ (l.map (·.1)).drop i := by
        rw [hins]
        show ((l.take i ++ (k, x) :: l.drop i).map (·.1)) = _
        simp
      have exl : (mkO (insP l k x)).xs.length = l.length + 1 := by
        rw [hins]
        show ((l.take i ++ (k, x) :: l.drop i).map (·.2)).length = _
        simp; omega
      have ekl : (mkO (insP l k x)).ks.length = l.length + 1 := by
        rw [hins]
        show ((l.take i ++ (k, x) :: l.drop i).map (·.1)).length = _
        simp; omega
      have ekm : (mkO (insP l k x)).ks.map str = ((l.map (·.1)).map str).take (i * 1) ++ [str k] ++ ((l.map (·.1)).map str).drop (i * 1) := by
        rw [ek, Nat.mul_one]
        simp
      refine VRepP.mk (v := mkO (insP l k x)) (T1 := VT) (T2 := ST) (L := L.take (i * 5) ++ cs ++ L.drop (i * 5)) ?_ ?_ ?_ ⟨by rw [exl]; omega, by rw [ekl]; omega, by simp [mkO, JV.t], fun s hs => ?_⟩ (fun _ q hq => ⟨(own_in hOs7 hq).1, m3' q hq⟩) (fun _ q hq => ⟨(own_in hOk7 hq).1, m3 q hq⟩)
      · rw [exl]; exact hOs7.sl
      · rw [ex]; exact hall.mono fun q _ hq => ⟨hq.1.1, by have := hq.2; omega⟩
      · rw [ekl, ekm]; exact hOk7.sl
      · rw [ek] at hs
        rcases List.mem_append.1 hs with hs | hs
        · rcases List.mem_append.1 hs with hs | hs
          · exact f4 s (List.mem_of_mem_take hs)
          · rw [List.mem_singleton.1 hs]; exact hkl
        · exact f4 s (List.mem_of_mem_drop hs)
    rw [fld_ptr]
    refine ldk (up hxd) ?_
    rw [fld_ptr]
    refine lds (up hxd) ?_
    refine ldx (up hxd) ⟨?_, ?_⟩
    · refine rowS fun b27 w4 hb27 hz4 ht27 hx4 => ?_
      have hx4 := hxd.trans hx4
      have sd : w3.drew.heap.size = w3.heap.size := rfl
      refine ⟨ldx (up hx4) rfl, lds (up hx4) rfl, ldk (up hx4) rfl, ?_, ?_⟩
      · refine insK (hx03.trans hx4) (by omega) ht27 fun kv' w5 hOk hc5 hkb => ?_
        have hc35 : Chg (fun q => kv.ownBlock = some q) w3 w5 := (up hx4).trans hc5
        refine ⟨ldx hc35 rfl, lds hc35 rfl, ?_⟩
        rw [fld_ptr]
        refine rowV hcs5 fun b33 w6 hb33 hz6 ht33 hx6 => ?_
        have hc36 : Chg (fun q => kv.ownBlock = some q) w3 w6 := hc35.then hx6 fun _ _ e => e.elim
        have s35 := hc35.size
        refine ⟨lds hc36 rfl, ?_⟩
        refine insV ((Chg.of_ext hx03).trans hc36) (by omega) ht33 fun sv' w7 hOs hc7 hsb => ?_
        exact fin hc36 (own_chg hOk hx6 fun _ _ e => e) (fun q hq => (hkb q hq).imp id fun h => by omega) hc7 hOs (fun q hq => (hsb q hq).imp id fun h => by omega)
      · refine rowV hcs5 fun b33 w5 hb33 hz5 ht33 hx5 => ?_
        have hx35 := hx4.trans hx5
        refine ⟨lds (up hx35) rfl, ldk (up hx35) rfl, ?_⟩
        refine insK (hx03.trans hx35) (by omega) (hx5.at ht27 id) fun kv' w6 hOk hc6 hkb => ?_
        have hc36 : Chg (fun q => kv.ownBlock = some q) w3 w6 := (up hx35).trans hc6
        refine ⟨lds hc36 rfl, ?_⟩
        rw [fld_ptr]
        have s36 := hc36.size
        refine insV ((Chg.of_ext hx03).trans hc36) (by omega) (hc6.at ht33 fun e => by have := hkvlt _ e; omega) fun sv' w7 hOs hc7 hsb => ?_
        exact fin hc36 hOk (fun q hq => (hkb q hq).imp id fun h => by omega) hc7 hOs (fun q hq => (hsb q hq).imp id fun h => by omega)
    · refine rowV hcs5 fun b33 w4 hb33 hz4 ht33 hx4 => ?_
      have hx4 := hxd.trans hx4
      have sd : w3.drew.heap.size = w3.heap.size := rfl
      refine ⟨lds (up hx4) rfl, ldk (up hx4) rfl, ?_⟩
      refine rowS fun b27 w5 hb27 hz5 ht27 hx5 => ?_
      have hx35 := hx4.trans hx5
      refine ⟨lds (up hx35) rfl, ldk (up hx35) rfl, ?_⟩
      refine insK (hx03.trans hx35) (by omega) ht27 fun kv' w6 hOk hc6 hkb => ?_
      have hc36 : Chg (fun q => kv.ownBlock = some q) w3 w6 := (up hx35).trans hc6
      refine ⟨lds hc36 rfl, ?_⟩
      rw [fld_ptr]
      have s36 := hc36.size
      refine insV ((Chg.of_ext hx03).trans hc36) (by omega) (hc6.at (hx5.at ht33 id) fun e => by have := hkvlt _ e; omega) fun sv' w7 hOs hc7 hsb => ?_
      exact fin hc36 hOk (fun q hq => (hkb q hq).imp id fun h => by omega) hc7 hOs (fun q hq => (hsb q hq).imp id fun h => by omega)
  rintro st g w4 hJ4
  obtain ⟨sv', kv', hb3, hb6, hc, hlt6, o1', o2', hrep⟩ := (hJ _ _).1 hJ4
  refine ld_all hb3 rfl ?_
  refine ret_agg hb6 rfl rfl (obj_one o1' o2') fun w5 hc5 => ?_
  exact hK _ w5 (hc.then hc5 fun q hq e => by omega) ((VRepP.chg hc5 (fun q hq _ e => hq.2 e) hrep).mono fun q _ hq => hq.1)
end
end Go.Proofs.YtdkikjcpgihjlaaGreatDoor



namespace Go.Proofs.YtdkikjcpgihjlaaGreatDoor
open Go Go.Eng
set_option maxRecDepth 100000
section
variable [HX]
theorem byteM_lo (s : Str) (i : Nat) : -1 ≤ byteM s i ∧ byteM s i ≤ 255 := by
  rcases Nat.lt_or_ge i s.length with h | h
  · rw [byteM_in h]; have := bt_lt s i; omega
  · rw [byteM_out h]; omega
theorem one_ref {s : Str} {i : Nat} {w : World} {K : Value → World → Prop} (hl : s.length ≤ 4611686018427387904) (hK : K (i64 (byteM s i)) w) : callF Tryz.prog 83 [str s, i64 (i : Int)] w K := by
  refine W83_ok ?_
  unfold W83
  rw [lens_str, bin_geq]
  rcases Nat.lt_or_ge i s.length with h | h
  · rw [decide_eq_false (by omega), condW_false, ixs_str]
    refine ⟨by omega, s[i], by simp [h], ?_⟩
    rw [cvt_int]
    have e : byteM s i = (s[i].toNat : Int) := by
      rw [byteM_in h]; unfold bt
      rw [List.getD_eq_getElem?_getD, List.getElem?_eq_getElem h]; rfl
    rw [e] at hK
    have := UInt8.toNat_lt s[i]
    rw [wrap_id (by omega) (by omega)]
    exact hK
  · rw [decide_eq_true (by omega), condW_true]
    rw [byteM_out h] at hK
    exact hK
theorem more_ref {s : Str} {i : Nat} {w : World} {K : Value → World → Prop} (hl : s.length ≤ 4611686018427387904) (hK : K (.bool (moreM s i)) w) : callF Tryz.prog 84 [str s, i64 (i : Int)] w K := by
  refine W84_ok ?_
  unfold W84
  refine one_ref hl ?_
  rw [bin_geq]
  refine GdW.look (decide (byteM s i < 192)) (fun _ J hJ => ?_) fun g => ?_
  · refine one_ref hl ?_
    rw [bin_lss]
    exact hJ
  · simp only [wsv, wsg, wsh, wsl, cond_true, cond_false, exists_eq_left', Option.some.injEq, Option.isSome_some, List.getElem?_toArray, List.getElem?_cons_zero, List.getElem?_cons_succ, List.length_cons, List.length_nil, List.set_cons_zero, List.set_cons_succ, List.getD_cons_zero, List.getD_cons_succ, Nat.zero_add, Nat.add_zero, Nat.reduceAdd, Nat.reduceLT, Nat.lt_add_one, Nat.zero_lt_succ, decide_true, decide_false, ne_eq, reduceCtorEq]
    exact hK
theorem add1 {i k : Nat} (h : i ≤ 4611686018427387904) (hk : k ≤ 10) : IntKind.i64.wrap ((i : Int) + (k : Nat)) = ((i + k : Nat) : Int) := by rw [wrap_id (by omega) (by omega)]; omega
theorem rune_ref {s : Str} {i : Nat} {w : World} {K : Value → World → Prop} (hl : s.length ≤ 4611686018427387904) (hi : i ≤ 4611686018427387904) (hK : K (i64 (runeM s i)) w) : callF Tryz.prog 39 [str s, i64 (i : Int)] w K := by
  have b0 := byteM_lo s i
  have b1 := byteM_lo s (i + 1)
  have b2 := byteM_lo s (i + 2)
  have b3 := byteM_lo s (i + 3)
  have a1 : IntKind.i64.wrap ((i : Int) + 1) = ((i + 1 : Nat) : Int) := add1 (k := 1) hi (by omega)
  have a2 : IntKind.i64.wrap ((i : Int) + 2) = ((i + 2 : Nat) : Int) := add1 (k := 2) hi (by omega)
  have a3 : IntKind.i64.wrap ((i : Int) + 3) = ((i + 3 : Nat) : Int) := add1 (k := 3) hi (by omega)
  refine W39_ok ?_
  unfold W39
  refine one_ref hl ?_
  unfold runeM at hK
  dsimp only at hK
  rw [bin_lss, condW_dec]
  refine ⟨fun c0 => by rw [if_pos c0] at hK; exact hK, fun c0 => ?_⟩
  rw [if_neg c0] at hK
  rw [bin_lss, condW_dec]
  refine ⟨fun c1 => by rw [if_pos c1] at hK; exact hK, fun c1 => ?_⟩
  rw [if_neg c1] at hK
  simp only [wsv, wsg, wsh, wsl, cond_true, cond_false, exists_eq_left', Option.some.injEq, Option.isSome_some, List.getElem?_toArray, List.getElem?_cons_zero, List.getElem?_cons_succ, List.length_cons, List.length_nil, List.set_cons_zero, List.set_cons_succ, List.getD_cons_zero, List.getD_cons_succ, Nat.zero_add, Nat.add_zero, Nat.reduceAdd, Nat.reduceLT, Nat.lt_add_one, Nat.zero_lt_succ, decide_true, decide_false, ne_eq, reduceCtorEq]
  intros
  refine GdW.look (moreM s (i + 1)) (fun _ J hJ => ?_) fun g => ?_
  · rw [a1]; exact more_ref hl hJ
  simp only [wsv, wsg, wsh, wsl, cond_true, cond_false, exists_eq_left', Option.some.injEq, Option.isSome_some, List.getElem?_toArray, List.getElem?_cons_zero, List.getElem?_cons_succ, List.length_cons, List.length_nil, List.set_cons_zero, List.set_cons_succ, List.getD_cons_zero, List.getD_cons_succ, Nat.zero_add, Nat.add_zero, Nat.reduceAdd, Nat.reduceLT, Nat.lt_add_one, Nat.zero_lt_succ, decide_true, decide_false, ne_eq, reduceCtorEq]
  rw [condW_b]
  refine ⟨fun c2 => ?_, fun c2 => ?_⟩
  · simp only [Bool.and_eq_true, decide_eq_true_eq] at c2
    rw [if_pos ⟨c2.1.1, c2.1.2, c2.2⟩] at hK
    exact hK
  have c2' : ¬ (194 ≤ byteM s i ∧ byteM s i < 224 ∧ moreM s (i + 1) = true) := fun h => by
    rw [decide_eq_true h.1, decide_eq_true h.2.1, h.2.2] at c2; cases c2
  rw [if_neg c2'] at hK
  have four : (¬ (224 ≤ byteM s i ∧ byteM s i < 240 ∧ moreM s (i + 1) = true ∧ moreM s (i + 2) = true ∧
    2048 ≤ (byteM s i - 224) * 4096 + (byteM s (i + 1) - 128) * 64 + byteM s (i + 2) - 128 ∧ ((byteM s i - 224) * 4096 + (byteM s (i + 1) - 128) * 64 + byteM s (i + 2) - 128 < 55296 ∨ 57343 < (byteM s i - 224) * 4096 + (byteM s (i + 1) - 128) * 64 + byteM s (i + 2) - 128))) → K (.int .i64 (if 240 ≤ byteM s i ∧ byteM s i < 245 ∧ moreM s (i + 1) = true ∧ moreM s (i + 2) = true ∧ moreM s (i + 3) = true ∧
    65536 ≤ (byteM s i - 240) * 262144 + (byteM s (i + 1) - 128) * 4096 + (byteM s (i + 2) - 128) * 64 + byteM s (i + 3) - 128 ∧ (byteM s i - 240) * 262144 + (byteM s (i + 1) - 128) * 4096 + (byteM s (i + 2) - 128) * 64 + byteM s (i + 3) - 128 ≤ 1114111 then 4 else 0 : Nat)) w := fun h => by
    rw [if_neg h] at hK; exact hK
  refine JoinW.cut (fun s' w' => s' = [] ∧ w' = w ∧ (¬ (224 ≤ byteM s i ∧ byteM s i < 240 ∧ moreM s (i + 1) = true ∧ moreM s (i + 2) = true ∧
    2048 ≤ (byteM s i - 224) * 4096 + (byteM s (i + 1) - 128) * 64 + byteM s (i + 2) - 128 ∧ ((byteM s i - 224) * 4096 + (byteM s (i + 1) - 128) * 64 + byteM s (i + 2) - 128 < 55296 ∨ 57343 < (byteM s i - 224) * 4096 + (byteM s (i + 1) - 128) * 64 + byteM s (i + 2) - 128)))) ?_ ?_
  · simp only [wsv, wsg, wsh, wsl, cond_true, cond_false, exists_eq_left', Option.some.injEq, Option.isSome_some, List.getElem?_toArray, List.getElem?_cons_zero, List.getElem?_cons_succ, List.length_cons, List.length_nil, List.set_cons_zero, List.set_cons_succ, List.getD_cons_zero, List.getD_cons_succ, Nat.zero_add, Nat.add_zero, Nat.reduceAdd, Nat.reduceLT, Nat.lt_add_one, Nat.zero_lt_succ, decide_true, decide_false, ne_eq, reduceCtorEq]
    intros
    refine GdW.look (moreM s (i + 1)) (fun _ J hJ => ?_) fun g => ?_
    · rw [a1]; exact more_ref hl hJ
    simp only [wsv, wsg, wsh, wsl, cond_true, cond_false, exists_eq_left', Option.some.injEq, Option.isSome_some, List.getElem?_toArray, List.getElem?_cons_zero, List.getElem?_cons_succ, List.length_cons, List.length_nil, List.set_cons_zero, List.set_cons_succ, List.getD_cons_zero, List.getD_cons_succ, Nat.zero_add, Nat.add_zero, Nat.reduceAdd, Nat.reduceLT, Nat.lt_add_one, Nat.zero_lt_succ, decide_true, decide_false, ne_eq, reduceCtorEq]
    refine GdW.look (moreM s (i + 2)) (fun _ J hJ => ?_) fun g => ?_
    · rw [a2]; exact more_ref hl hJ
    simp only [wsv, wsg, wsh, wsl, cond_true, cond_false, exists_eq_left', Option.some.injEq, Option.isSome_some, List.getElem?_toArray, List.getElem?_cons_zero, List.getElem?_cons_succ, List.length_cons, List.length_nil, List.set_cons_zero, List.set_cons_succ, List.getD_cons_zero, List.getD_cons_succ, Nat.zero_add, Nat.add_zero, Nat.reduceAdd, Nat.reduceLT, Nat.lt_add_one, Nat.zero_lt_succ, decide_true, decide_false, ne_eq, reduceCtorEq]
    rw [condW_b]
    refine ⟨fun c3 => ?_, fun c3 h => ?_⟩
    · simp only [Bool.and_eq_true, decide_eq_true_eq] at c3
      obtain ⟨⟨⟨d1, d2⟩, d3⟩, d4⟩ := c3
      rw [a1]
      refine one_ref hl ?_
      simp only [wsv, wsg, wsh, wsl, cond_true, cond_false, exists_eq_left', Option.some.injEq, Option.isSome_some, List.getElem?_toArray, List.getElem?_cons_zero, List.getElem?_cons_succ, List.length_cons, List.length_nil, List.set_cons_zero, List.set_cons_succ, List.getD_cons_zero, List.getD_cons_succ, Nat.zero_add, Nat.add_zero, Nat.reduceAdd, Nat.reduceLT, Nat.lt_add_one, Nat.zero_lt_succ, decide_true, decide_false, ne_eq, reduceCtorEq]
      rw [a2]
      refine one_ref hl ?_
      simp only [wsv, wsg, wsh, wsl, cond_true, cond_false, exists_eq_left', Option.some.injEq, Option.isSome_some, List.getElem?_toArray, List.getElem?_cons_zero, List.getElem?_cons_succ, List.length_cons, List.length_nil, List.set_cons_zero, List.set_cons_succ, List.getD_cons_zero, List.getD_cons_succ, Nat.zero_add, Nat.add_zero, Nat.reduceAdd, Nat.reduceLT, Nat.lt_add_one, Nat.zero_lt_succ, decide_true, decide_false, ne_eq, reduceCtorEq]
      have e1 : IntKind.i64.wrap (byteM s i - 224) = byteM s i - 224 := wrap_id (by omega) (by omega)
      have e2 : IntKind.i64.wrap ((byteM s i - 224) * 4096) = (byteM s i - 224) * 4096 := wrap_id (by omega) (by omega)
      have e3 : IntKind.i64.wrap (byteM s (i + 1) - 128) = byteM s (i + 1) - 128 := wrap_id (by omega) (by omega)
      have e4 : IntKind.i64.wrap ((byteM s (i + 1) - 128) * 64) = (byteM s (i + 1) - 128) * 64 := wrap_id (by omega) (by omega)
      have e5 : IntKind.i64.wrap ((byteM s i - 224) * 4096 + (byteM s (i + 1) - 128) * 64) = (byteM s i - 224) * 4096 + (byteM s (i + 1) - 128) * 64 := wrap_id (by omega) (by omega)
      have e6 : IntKind.i64.wrap ((byteM s i - 224) * 4096 + (byteM s (i + 1) - 128) * 64 + byteM s (i + 2)) = (byteM s i - 224) * 4096 + (byteM s (i + 1) - 128) * 64 + byteM s (i + 2) := wrap_id (by omega) (by omega)
      have e7 : IntKind.i64.wrap ((byteM s i - 224) * 4096 + (byteM s (i + 1) - 128) * 64 + byteM s (i + 2) - 128) = (byteM s i - 224) * 4096 + (byteM s (i + 1) - 128) * 64 + byteM s (i + 2) - 128 := wrap_id (by omega) (by omega)
      simp only [e1, e2, e3, e4, e5, e6, e7]
      intro _ _ _
      rw [condW_b]
      refine ⟨fun c4 => ?_, fun c4 h => ?_⟩
      · simp only [Bool.and_eq_true, Bool.or_eq_true, decide_eq_true_eq] at c4
        rw [if_pos ⟨d1, d2, d3, d4, c4.1, c4.2⟩] at hK
        exact hK
      · have : (decide (2048 ≤ (byteM s i - 224) * 4096 + (byteM s (i + 1) - 128) * 64 + byteM s (i + 2) - 128) && (decide ((byteM s i - 224) * 4096 + (byteM s (i + 1) - 128) * 64 + byteM s (i + 2) - 128 < 55296) || decide (57343 < (byteM s i - 224) * 4096 + (byteM s (i + 1) - 128) * 64 + byteM s (i + 2) - 128))) = true := by
          simp only [Bool.and_eq_true, Bool.or_eq_true, decide_eq_true_eq]
          exact h.2.2.2.2
        rw [c4] at this; cases this
    · rw [decide_eq_true h.1, decide_eq_true h.2.1, h.2.2.1, h.2.2.2.1] at c3; cases c3
  · rintro s' g w' ⟨rfl, rfl, hno⟩
    have hK := four hno
    intro g2
    refine GdW.look (moreM s (i + 1)) (fun _ J hJ => ?_) fun g => ?_
    · rw [a1]; exact more_ref hl hJ
    simp only [wsv, wsg, wsh, wsl, cond_true, cond_false, exists_eq_left', Option.some.injEq, Option.isSome_some, List.getElem?_toArray, List.getElem?_cons_zero, List.getElem?_cons_succ, List.length_cons, List.length_nil, List.set_cons_zero, List.set_cons_succ, List.getD_cons_zero, List.getD_cons_succ, Nat.zero_add, Nat.add_zero, Nat.reduceAdd, Nat.reduceLT, Nat.lt_add_one, Nat.zero_lt_succ, decide_true, decide_false, ne_eq, reduceCtorEq]
    refine GdW.look (moreM s (i + 2)) (fun _ J hJ => ?_) fun g => ?_
    · rw [a2]; exact more_ref hl hJ
    simp only [wsv, wsg, wsh, wsl, cond_true, cond_false, exists_eq_left', Option.some.injEq, Option.isSome_some, List.getElem?_toArray, List.getElem?_cons_zero, List.getElem?_cons_succ, List.length_cons, List.length_nil, List.set_cons_zero, List.set_cons_succ, List.getD_cons_zero, List.getD_cons_succ, Nat.zero_add, Nat.add_zero, Nat.reduceAdd, Nat.reduceLT, Nat.lt_add_one, Nat.zero_lt_succ, decide_true, decide_false, ne_eq, reduceCtorEq]
    refine GdW.look (moreM s (i + 3)) (fun _ J hJ => ?_) fun g => ?_
    · rw [a3]; exact more_ref hl hJ
    simp only [wsv, wsg, wsh, wsl, cond_true, cond_false, exists_eq_left', Option.some.injEq, Option.isSome_some, List.getElem?_toArray, List.getElem?_cons_zero, List.getElem?_cons_succ, List.length_cons, List.length_nil, List.set_cons_zero, List.set_cons_succ, List.getD_cons_zero, List.getD_cons_succ, Nat.zero_add, Nat.add_zero, Nat.reduceAdd, Nat.reduceLT, Nat.lt_add_one, Nat.zero_lt_succ, decide_true, decide_false, ne_eq, reduceCtorEq]
    rw [condW_b]
    refine ⟨fun c3 => ?_, fun c3 => ?_⟩
    · simp only [Bool.and_eq_true, decide_eq_true_eq] at c3
      obtain ⟨⟨⟨⟨d1, d2⟩, d3⟩, d4⟩, d5⟩ := c3
      rw [a1]
      refine one_ref hl ?_
      simp only [wsv, wsg, wsh, wsl, cond_true, cond_false, exists_eq_left', Option.some.injEq, Option.isSome_some, List.getElem?_toArray, List.getElem?_cons_zero, List.getElem?_cons_succ, List.length_cons, List.length_nil, List.set_cons_zero, List.set_cons_succ, List.getD_cons_zero, List.getD_cons_succ, Nat.zero_add, Nat.add_zero, Nat.reduceAdd, Nat.reduceLT, Nat.lt_add_one, Nat.zero_lt_succ, decide_true, decide_false, ne_eq, reduceCtorEq]
      rw [a2]
      refine one_ref hl ?_
      simp only [wsv, wsg, wsh, wsl, cond_true, cond_false, exists_eq_left', Option.some.injEq, Option.isSome_some, List.getElem?_toArray, List.getElem?_cons_zero, List.getElem?_cons_succ, List.length_cons, List.length_nil, List.set_cons_zero, List.set_cons_succ, List.getD_cons_zero, List.getD_cons_succ, Nat.zero_add, Nat.add_zero, Nat.reduceAdd, Nat.reduceLT, Nat.lt_add_one, Nat.zero_lt_succ, decide_true, decide_false, ne_eq, reduceCtorEq]
      rw [a3]
      refine one_ref hl ?_
      simp only [wsv, wsg, wsh, wsl, cond_true, cond_false, exists_eq_left', Option.some.injEq, Option.isSome_some, List.getElem?_toArray, List.getElem?_cons_zero, List.getElem?_cons_succ, List.length_cons, List.length_nil, List.set_cons_zero, List.set_cons_succ, List.getD_cons_zero, List.getD_cons_succ, Nat.zero_add, Nat.add_zero, Nat.reduceAdd, Nat.reduceLT, Nat.lt_add_one, Nat.zero_lt_succ, decide_true, decide_false, ne_eq, reduceCtorEq]
      have e1 : IntKind.i64.wrap (byteM s i - 240) = byteM s i - 240 := wrap_id (by omega) (by omega)
      have e2 : IntKind.i64.wrap ((byteM s i - 240) * 262144) = (byteM s i - 240) * 262144 := wrap_id (by omega) (by omega)
      have e3 : IntKind.i64.wrap (byteM s (i + 1) - 128) = byteM s (i + 1) - 128 := wrap_id (by omega) (by omega)
      have e4 : IntKind.i64.wrap ((byteM s (i + 1) - 128) * 4096) = (byteM s (i + 1) - 128) * 4096 := wrap_id (by omega) (by omega)
      have e5 : IntKind.i64.wrap ((byteM s i - 240) * 262144 + (byteM s (i + 1) - 128) * 4096) = (byteM s i - 240) * 262144 + (byteM s (i + 1) - 128) * 4096 := wrap_id (by omega) (by omega)
      have e6 : IntKind.i64.wrap (byteM s (i + 2) - 128) = byteM s (i + 2) - 128 := wrap_id (by omega) (by omega)
      have e7 : IntKind.i64.wrap ((byteM s (i + 2) - 128) * 64) = (byteM s (i + 2) - 128) * 64 := wrap_id (by omega) (by omega)
      have e8 : IntKind.i64.wrap ((byteM s i - 240) * 262144 + (byteM s (i + 1) - 128) * 4096 + (byteM s (i + 2) - 128) * 64) = (byteM s i - 240) * 262144 + (byteM s (i + 1) - 128) * 4096 + (byteM s (i + 2) - 128) * 64 := wrap_id (by omega) (by omega)
      have e9 : IntKind.i64.wrap ((byteM s i - 240) * 262144 + (byteM s (i + 1) - 128) * 4096 + (byteM s (i + 2) - 128) * 64 + byteM s (i + 3)) = (byteM s i - 240) * 262144 + (byteM s (i + 1) - 128) * 4096 + (byteM s (i + 2) - 128) * 64 + byteM s (i + 3) := wrap_id (by omega) (by omega)
      have e10 : IntKind.i64.wrap ((byteM s i - 240) * 262144 + (byteM s (i + 1) - 128) * 4096 + (byteM s (i + 2) - 128) * 64 + byteM s (i + 3) - 128) = (byteM s i - 240) * 262144 + (byteM s (i + 1) - 128) * 4096 + (byteM s (i + 2) - 128) * 64 + byteM s (i + 3) - 128 := wrap_id (by omega) (by omega)
      simp only [e1, e2, e3, e4, e5, e6, e7, e8, e9, e10]
      intro _
      rw [condW_b]
      refine ⟨fun c4 => ?_, fun c4 => ?_⟩
      · simp only [Bool.and_eq_true, decide_eq_true_eq] at c4
        rw [if_pos ⟨d1, d2, d3, d4, d5, c4.1, c4.2⟩] at hK
        exact hK
      · rw [if_neg (fun h => by rw [decide_eq_true h.2.2.2.2.2.1, decide_eq_true h.2.2.2.2.2.2] at c4; cases c4)] at hK
        exact hK
    · rw [if_neg (fun h => by rw [decide_eq_true h.1, decide_eq_true h.2.1, h.2.2.1, h.2.2.2.1, h.2.2.2.2.1] at c3; cases c3)] at hK
      exact hK
def pieceGo (s : Str) : Nat → Nat → List Str
  | 0, _ => []
  | n + 1, i => if i < s.length then (s.drop i).take (stepM s i) :: pieceGo s n (i + stepM s i) else []
theorem piece_end {s : Str} {n i : Nat} (h : s.length ≤ i) : pieceGo s n i = [] := by
  cases n with
  | zero => rfl
  | succ n => rw [pieceGo, if_neg (by omega)]
theorem max_step (s : Str) (i : Nat) : (if ((runeM s i : Nat) : Int) < 1 then (1 : Int) else ((runeM s i : Nat) : Int)) = ((stepM s i : Nat) : Int) := by
  unfold stepM
  split <;> omega
theorem runes_ref {s : Str} {w : World} {K : Value → World → Prop} (hl : s.length ≤ 100000) (hK : ∀ v w', Ext w w' → SlAt w' ST v (pieceGo s s.length 0).length ((pieceGo s s.length 0).map str) → K v w') : callF Tryz.prog 113 [str s] w K := by
  refine W113_ok ?_
  unfold W113
  refine ⟨fun s' w' => ∃ (i n : Nat) (v : Value) (l : List Str), i ≤ s.length ∧ s.length ≤ i + n ∧ s' = [v, i64 (i : Int)] ∧ l.length ≤ i ∧ l ++ pieceGo s n i = pieceGo s s.length 0 ∧ Ext w w' ∧ Own w' w.heap.size ST 1 v l.length (l.map str),
    fun s' _ => match s' with | [_, .int _ i] => s.length - i.toNat | _ => 0, ⟨0, s.length, _, [], Nat.zero_le _, by omega, rfl, Nat.le_refl _, rfl, Chg.refl _ _, ⟨by simp, .inl ⟨rfl, by simp⟩⟩⟩, ?_⟩
  rintro s' g w1 ⟨i, n, v, l, hi, hn, rfl, hll, he, hx, hO⟩
  simp only [List.getD_cons_zero, List.getD_cons_succ]
  rw [lens_str, bin_lss]
  rcases Nat.lt_or_ge i s.length with hlt | hge
  · rw [decide_eq_true (by omega), condW_true]
    refine rune_ref (by omega) (by omega) ?_
    rw [max_int, max_step]
    have hf := step_fits hlt
    have hp := step_pos s i
    have e1 : IntKind.i64.wrap ((i : Int) + (stepM s i : Nat)) = ((i + stepM s i : Nat) : Int) := by rw [wrap_id (by omega) (by omega)]; omega
    simp only [bin_add, e1]
    rw [sls_str, bd_some]
    refine ⟨by omega, by omega, ?_⟩
    rw [bd_some]
    refine ⟨by omega, by simp only [Int.toNat_natCast]; omega, ?_⟩
    simp only [Int.toNat_natCast]
    have e2 : (s.take (i + stepM s i)).drop i = (s.drop i).take (stepM s i) := by rw [List.drop_take]; congr 1; omega
    rw [e2]
    refine row_s fun t w2 ht hx2 => ?_
    refine append_own2 elem_s (hO.ext hx2) ht (m := 1) rfl (fun u hu => by simp only [List.mem_singleton] at hu; subst hu; rfl) (by omega) (by omega) (hx.trans hx2).size fun v' w3 h' hc _ => ?_
    cases n with
    | zero => omega
    | succ n =>
      rw [pieceGo, if_pos hlt] at he
      refine ⟨⟨i + stepM s i, n, v', l ++ [(s.drop i).take (stepM s i)], hf, by omega, rfl, by simp; omega, by simpa using he, (hx.trans hx2).then hc fun k hk e => ?_, by simpa using h'⟩, ?_⟩
      · have := (own_ge (hO.ext hx2) e).1; omega
      · show s.length - (((i + stepM s i : Nat) : Int)).toNat < s.length - ((i : Int)).toNat
        omega
  · rw [decide_eq_false (by omega), condW_false]
    rw [piece_end hge, List.append_nil] at he
    rw [← he] at hK
    exact hK _ w1 hx hO.sl
end
end Go.Proofs.YtdkikjcpgihjlaaGreatDoor
namespace Go.Eng
open Go Go.Num
def pieceM (s : Str) : Nat → Nat → List Str
  | 0, _ => []
  | n + 1, i => if i < s.length then (s.drop i).take (stepM s i) :: pieceM s n (i + stepM s i) else []
def runesM (s : Str) : List Str := pieceM s s.length 0
abbrev tV (s : Str) : JV := .mk 4 false s [] []
abbrev nV (s : Str) : JV := .mk 3 false s [] []
abbrev iV (n : Int) : JV := nV (Lib.itoa n)
abbrev bV (b : Bool) : JV := .mk 2 b [] [] []
abbrev lV (xs : List JV) : JV := .mk 5 false [] xs []
abbrev uV : JV := .mk 1 false [] [] []
def caseB (lo tb : Nat) (c : UInt8) : UInt8 := if lo ≤ c.toNat ∧ c.toNat < lo + 26 then UInt8.ofNat (c.toNat - lo + tb) else c
def casedM (lo tb : Nat) (s : Str) : Str := s.map (caseB lo tb)
def lengthM (a : JV) : Option JV := if a.k = 4 then some (iV (runesM a.t).length) else if a.k = 5 ∨ a.k = 6 then some (iV a.xs.length) else none
def reverseM (a : JV) : Option JV := if a.k = 4 then some (tV (runesM a.t).reverse.flatten) else if a.k = 5 then some (lV a.xs.reverse) else none
def substrM (s f n : Str) : Option JV :=
  if neg f || neg n then none else
  let l := runesM s
  let at0 := min (dec f) l.length
  some (tV ((l.drop at0).take (min (dec n) (l.length - at0))).flatten)
def joinFM (by_ : Str) (xs : List JV) : Option JV := if xs.any (fun x => !decide (x.k = 4)) then none else some (tV (Lib.join (xs.map (·.t)) by_))
def splitFM (by_ s : Str) : Option JV := if by_ = [] then none else some (lV ((Lib.split s by_).map tV))
def concatM (a : List JV) : JV := lV (a.map (·.xs)).flatten
def mergeM (a : List JV) : JV := a.foldl (fun v x => (x.ks.zip x.xs).foldl (fun v p => putM v p.1 p.2) v) (.mk 6 false [] [] [])
def mostM (sg : Int) (a : List JV) : JV := a.foldl (fun b x => if 0 < cmpS x.t b.t * sg then x else b) (a.headD JV.null)
def rangeM (s : Str) : Option JV := if neg s || decide (32 < dec s) then none else some (lV ((List.range (dec s)).map fun i : Nat => iV (i : Int)))
def tostrM (a : JV) : Option JV :=
  if a.k = 2 then some (tV (if a.b then [116, 114, 117, 101] else [102, 97, 108, 115, 101])) else if a.k = 3 ∨ a.k = 4 then some (tV a.t) else none
def tointM (a : JV) : Option JV := if (a.k = 3 ∨ a.k = 4) ∧ goodN a.t = true then some (nV a.t) else none
structure FnM where
  takes : Str
  least : Nat
  act : List JV → Option JV
abbrev arg (a : List JV) (i : Nat) : JV := a.getD i JV.null
def fn_abs : FnM := ⟨[110], 0, fun a => some (nV (dig (arg a 0).t))⟩
def fn_concat : FnM := ⟨[108, 46], 0, fun a => some (concatM a)⟩
def fn_contains : FnM := ⟨[108, 118], 0, fun a => some (bV ((arg a 0).xs.any fun x => decide (cmpM x (arg a 1) = 0)))⟩
def fn_join : FnM := ⟨[115, 108], 0, fun a => joinFM (arg a 0).t (arg a 1).xs⟩
def fn_keys : FnM := ⟨[111], 0, fun a => some (lV ((arg a 0).ks.map tV))⟩
def fn_length : FnM := ⟨[118], 0, fun a => lengthM (arg a 0)⟩
def fn_lookup : FnM := ⟨[111, 115, 118], 0, fun a => some ((getM (arg a 0) (arg a 1).t).getD (arg a 2))⟩
def fn_lower : FnM := ⟨[115], 0, fun a => some (tV (casedM 65 97 (arg a 0).t))⟩
def fn_max : FnM := ⟨[110, 46], 1, fun a => some (mostM 1 a)⟩
def fn_merge : FnM := ⟨[111, 46], 0, fun a => some (mergeM a)⟩
def fn_min : FnM := ⟨[110, 46], 1, fun a => some (mostM (-1) a)⟩
def fn_range : FnM := ⟨[110], 0, fun a => rangeM (arg a 0).t⟩
def fn_reverse : FnM := ⟨[118], 0, fun a => reverseM (arg a 0)⟩
def fn_split : FnM := ⟨[115, 115], 0, fun a => splitFM (arg a 0).t (arg a 1).t⟩
def fn_substr : FnM := ⟨[115, 110, 110], 0, fun a => substrM (arg a 0).t (arg a 1).t (arg a 2).t⟩
def fn_toint : FnM := ⟨[118], 0, fun a => tointM (arg a 0)⟩
def fn_tostring : FnM := ⟨[118], 0, fun a => tostrM (arg a 0)⟩
def fn_upper : FnM := ⟨[115], 0, fun a => some (tV (casedM 97 65 (arg a 0).t))⟩
def fn_values : FnM := ⟨[111], 0, fun a => some (lV (arg a 0).xs)⟩
def fnT : List (Str × FnM) := [([97, 98, 115], fn_abs), ([99, 111, 110, 99, 97, 116], fn_concat), ([99, 111, 110, 116, 97, 105, 110, 115], fn_contains), ([106, 111, 105, 110], fn_join), ([107, 101, 121, 115], fn_keys), ([108, 101, 110, 103, 116, 104], fn_length), ([108, 111, 111, 107, 117, 112], fn_lookup), ([108, 111, 119, 101, 114], fn_lower), ([109, 97, 120], fn_max), ([109, 101, 114, 103, 101], fn_merge), ([109, 105, 110], fn_min), ([114, 97, 110, 103, 101], fn_range), ([114, 101, 118, 101, 114, 115, 101], fn_reverse), ([115, 112, 108, 105, 116], fn_split), ([115, 117, 98, 115, 116, 114], fn_substr), ([116, 111, 105, 110, 116], fn_toint), ([116, 111, 115, 116, 114, 105, 110, 103], fn_tostring), ([117, 112, 112, 101, 114], fn_upper), ([118, 97, 108, 117, 101, 115], fn_values)]
def lookF : List (Str × FnM) → Str → Option FnM
  | [], _ => none
  | (a, v) :: m, k => if k = a then some v else lookF m k
def kindM (c : UInt8) : Int := if c = 110 then 3 else if c = 115 then 4 else if c = 108 then 5 else if c = 111 then 6 else -1
def manyM (t : Str) : Bool := t.getLast? == some 46
def kindsM (t : Str) (n : Nat) : Str := if manyM t then (List.replicate n t.dropLast).flatten else t
def fitsM (f : FnM) (a : List JV) : Bool :=
  decide (a.length = (kindsM f.takes a.length).length) && decide (f.least ≤ a.length) && (a.zip (kindsM f.takes a.length)).all fun p => decide (kindM p.2 < 0) || decide (p.1.k = kindM p.2)
def callM (name : Str) (a : List JV) : JV × Int :=
  if a.any (fun x => !goodM x) then (JV.null, 1) else
  match lookF fnT name with
  | none => (JV.null, 70)
  | some f =>
    if a.any (fun x => !knownM x) then (uV, 0) else
    if !fitsM f a then (JV.null, 71) else
    match f.act a with
    | none => (JV.null, 71)
    | some v => if goodM v then (v, 0) else (JV.null, 3)
end Go.Eng
