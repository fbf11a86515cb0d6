/- One plain sentence: weakest preconditions of functions of the program, printed by a program of ours, and that calls meet them. Conditions: none. -/
import Derived.Test.YtonblcbpoilndaaGreatDoorBase
set_option linter.all false
set_option linter.unusedSimpArgs false
set_option linter.unusedVariables false
set_option linter.unusedSectionVars false
namespace Go.Proofs.YtonblcbpoilndaaGreatDoor
open Go Go.Eng
set_option maxRecDepth 100000
variable [HX]

/- purlin_diff.Choose -/
def plan14 : Plan := { js := [], ds := [] }
def W14 (v0 v1 v2 v3 : Value) (w : World) (K : Value → World → Prop) : Prop :=
  boxW 49 v1 w fun t5 w1 =>
  boxW 49 v2 w1 fun t6 w2 =>
  unW .not v0 fun t11 =>
  condW t11 (
    K (.int .i64 1) w2) (
    ldW true 5 t5 w2 fun t12 =>
    ldW true 5 t6 w2 fun t13 =>
    callF Tryz.prog 16 [t12, t13] w2 fun t14 w3 =>
    lenlW t14 fun t17 =>
    binW .eql t17 (.int .i64 0) fun t18 =>
    condW t18 (
      K (.int .i64 0) w3) (
      callF Tryz.prog 40 [t14, (.func (.func 41) #[] #[])] w3 fun t21 w4 =>
      unW .not t21 fun t22 =>
      condW t22 (
        K (.int .i64 2) w4) (
        condW v3 (
          K (.int .i64 4) w4) (
          K (.int .i64 3) w4))))
theorem W14_eq (v0 v1 v2 v3 : Value) (w : World) (K : Value → World → Prop) : funW Tryz.prog Tryz.f14 plan14 [v0, v1, v2, v3] w K = W14 v0 v1 v2 v3 w K := by kernel_rfl
theorem W14_chk : chkFun Tryz.prog Tryz.f14 plan14 4 = true := by kernel_rfl
theorem W14_ok {v0 v1 v2 v3 : Value} {w : World} {K : Value → World → Prop} (h : W14 v0 v1 v2 v3 w K) : callF Tryz.prog 14 [v0, v1, v2, v3] w K :=
  tie Tryz.prog 14 Tryz.f14 plan14 [v0, v1, v2, v3] w K 4 (W14 v0 v1 v2 v3 w K) rfl mixed Tryz.func14 W14_chk (W14_eq v0 v1 v2 v3 w K) Tryz.call14 h

/- purlin_diff.Keys -/
def plan16 : Plan := { js := [(27, ⟨[6], [6, 8, 9, 10, 11, 12], 33⟩), (36004, ⟨[60], [], 58⟩), (36010, ⟨[55], [], 52⟩), (20, ⟨[6, 32], [6, 8, 9, 10, 11, 12], 32⟩), (4004, ⟨[19], [], 17⟩)], ds := [] }
def W16 (v0 v1 : Value) (w : World) (K : Value → World → Prop) : Prop :=
  boxW 49 v0 w fun t2 w1 =>
  boxW 49 v1 w1 fun t3 w2 =>
  fldW 0 t2 fun t13 =>
  ldW false 1 t13 w2 fun t14 =>
  binW .neq t14 (.int .i64 6) fun t15 =>
  GdW (isB t15 false) [undef] w2 (fun J3 =>
    fldW 0 t3 fun t17 =>
    ldW false 1 t17 w2 fun t18 =>
    binW .neq t18 (.int .i64 6) fun t19 =>
    J3 [t19] w2)
  fun s3 _ w4 =>
  pickW t15 (.bool true) (s3.getD 0 undef) fun t20 =>
  condW t20 (
    K (.slice none 0 0) w4) (
    fldW 4 t2 fun t21 =>
    ldW false 1 t21 w4 fun t22 =>
    fldW 4 t3 fun t23 =>
    ldW false 1 t23 w4 fun t24 =>
    bslW 33 2 [(.slice none 0 0), (.slice none 0 0)] [(0, 1, t22), (1, 1, t24)] w4 fun t25 w5 =>
    callF Tryz.prog 45 [t25] w5 fun t26 w6 =>
    callF Tryz.prog 46 [t26] w6 fun t28 w7 =>
    callF Tryz.prog 47 [t26] w7 fun t30 w8 =>
    lenlW t30 fun t31 =>
    LoopW [(.slice none 0 0), (.int .i64 0)] w8 fun s9 _ w10 L9 =>
      binW .lss (s9.getD 1 undef) t31 fun t33 =>
      condW t33 (
        JoinW (fun J11 =>
          ixaW none 1 t30 (s9.getD 1 undef) fun t34 =>
          ldW false 1 t34 w10 fun t35 =>
          ldW true 5 t2 w10 fun t37 =>
          callF Tryz.prog 48 [t37, t35] w10 fun t39 w12 =>
          extW 0 t39 fun t40 =>
          extW 1 t39 fun t41 =>
          allocW 49 [(.int .i64 0), (.bool false), (.string (ofL [])), (.slice none 0 0), (.slice none 0 0)] w12 fun t9 w13 =>
          stW 5 t9 t40 w13 fun w14 =>
          ldW true 5 t3 w14 fun t43 =>
          callF Tryz.prog 48 [t43, t35] w14 fun t45 w15 =>
          extW 0 t45 fun t46 =>
          extW 1 t45 fun t47 =>
          allocW 49 [(.int .i64 0), (.bool false), (.string (ofL [])), (.slice none 0 0), (.slice none 0 0)] w15 fun t11 w16 =>
          stW 5 t11 t46 w16 fun w17 =>
          eqW .bool true t41 t47 fun t50 =>
          GdW (isB t50 false) [undef] w17 (fun J18 =>
            ldW true 5 t9 w17 fun t52 =>
            ldW true 5 t11 w17 fun t53 =>
            callF Tryz.prog 49 [t52, t53] w17 fun t54 w19 =>
            unW .not t54 fun t55 =>
            J18 [t55] w19)
          fun s18 _ w20 =>
          pickW t50 (.bool true) (s18.getD 0 undef) fun t56 =>
          GdW (isB t56 false) [undef] w20 (fun J21 =>
            ldW true 5 t9 w20 fun t58 =>
            callF Tryz.prog 50 [t58] w20 fun t59 w22 =>
            unW .not t59 fun t60 =>
            J21 [t60] w22)
          fun s21 _ w23 =>
          pickW t56 (.bool true) (s21.getD 0 undef) fun t61 =>
          condW t61 (
            bslW 9 1 [(.string (ofL []))] [(0, 1, t35)] w23 fun t64 w24 =>
            semE Tryz.prog (Builtin.append_ #[33, 33] 33 #[(s9.getD 0 undef), t64]) w24 fun t65 w25 =>
            J11 [t65] w25) (
            J11 [(s9.getD 0 undef)] w23))
        fun s11 _ w26 =>
        binW .add (s9.getD 1 undef) (.int .i64 1) fun t66 =>
        L9 [(s11.getD 0 undef), t66] w26) (
        K (s9.getD 0 undef) w10))
theorem W16_eq (v0 v1 : Value) (w : World) (K : Value → World → Prop) : funW Tryz.prog Tryz.f16 plan16 [v0, v1] w K = W16 v0 v1 w K := by kernel_rfl
theorem W16_chk : chkFun Tryz.prog Tryz.f16 plan16 2 = true := by kernel_rfl
theorem W16_ok {v0 v1 : Value} {w : World} {K : Value → World → Prop} (h : W16 v0 v1 w K) : callF Tryz.prog 16 [v0, v1] w K :=
  tie Tryz.prog 16 Tryz.f16 plan16 [v0, v1] w K 2 (W16 v0 v1 w K) rfl mixed Tryz.func16 W16_chk (W16_eq v0 v1 w K) Tryz.call16 h

/- slices.ContainsFunc___string_string_ -/
def plan40 : Plan := { js := [], ds := [] }
def W40 (v0 v1 : Value) (w : World) (K : Value → World → Prop) : Prop :=
  callF Tryz.prog 79 [v0, v1] w fun t7 w1 =>
  binW .geq t7 (.int .i64 0) fun t8 =>
  K t8 w1
theorem W40_eq (v0 v1 : Value) (w : World) (K : Value → World → Prop) : funW Tryz.prog Tryz.f40 plan40 [v0, v1] w K = W40 v0 v1 w K := by kernel_rfl
theorem W40_chk : chkFun Tryz.prog Tryz.f40 plan40 2 = true := by kernel_rfl
theorem W40_ok {v0 v1 : Value} {w : World} {K : Value → World → Prop} (h : W40 v0 v1 w K) : callF Tryz.prog 40 [v0, v1] w K :=
  tie Tryz.prog 40 Tryz.f40 plan40 [v0, v1] w K 2 (W40 v0 v1 w K) rfl mixed Tryz.func40 W40_chk (W40_eq v0 v1 w K) Tryz.call40 h

/- purlin_diff.Choose_1 -/
def plan41 : Plan := { js := [], ds := [] }
def W41 (v0 : Value) (w : World) (K : Value → World → Prop) : Prop :=
  callF Tryz.prog 42 [v0, (.string (ofL [110, 101, 119, 95]))] w fun t4 w1 =>
  K t4 w1
theorem W41_eq (v0 : Value) (w : World) (K : Value → World → Prop) : funW Tryz.prog Tryz.f41 plan41 [v0] w K = W41 v0 w K := by kernel_rfl
theorem W41_chk : chkFun Tryz.prog Tryz.f41 plan41 1 = true := by kernel_rfl
theorem W41_ok {v0 : Value} {w : World} {K : Value → World → Prop} (h : W41 v0 w K) : callF Tryz.prog 41 [v0] w K :=
  tie Tryz.prog 41 Tryz.f41 plan41 [v0] w K 1 (W41 v0 w K) rfl mixed Tryz.func41 W41_chk (W41_eq v0 w K) Tryz.call41 h

/- strings.HasPrefix -/
def plan42 : Plan := { js := [], ds := [] }
def W42 (v0 v1 : Value) (w : World) (K : Value → World → Prop) : Prop :=
  callF Tryz.prog 80 [v0, v1] w fun t7 w1 =>
  K t7 w1
theorem W42_eq (v0 v1 : Value) (w : World) (K : Value → World → Prop) : funW Tryz.prog Tryz.f42 plan42 [v0, v1] w K = W42 v0 v1 w K := by kernel_rfl
theorem W42_chk : chkFun Tryz.prog Tryz.f42 plan42 2 = true := by kernel_rfl
theorem W42_ok {v0 v1 : Value} {w : World} {K : Value → World → Prop} (h : W42 v0 v1 w K) : callF Tryz.prog 42 [v0, v1] w K :=
  tie Tryz.prog 42 Tryz.f42 plan42 [v0, v1] w K 2 (W42 v0 v1 w K) rfl mixed Tryz.func42 W42_chk (W42_eq v0 v1 w K) Tryz.call42 h

/- internal_stringslite.HasPrefix -/
def plan80 : Plan := { js := [(3008, ⟨[16], [], 11⟩)], ds := [] }
def W80 (v0 v1 : Value) (w : World) (K : Value → World → Prop) : Prop :=
  lensW v0 fun t6 =>
  lensW v1 fun t8 =>
  binW .geq t6 t8 fun t9 =>
  GdW (isB t9 true) [undef] w (fun J1 =>
    lensW v1 fun t13 =>
    slsW v0 none (some t13) fun t14 =>
    binW .eql t14 v1 fun t16 =>
    J1 [t16] w)
  fun s1 _ w2 =>
  pickW t9 (s1.getD 0 undef) (.bool false) fun t17 =>
  K t17 w2
theorem W80_eq (v0 v1 : Value) (w : World) (K : Value → World → Prop) : funW Tryz.prog Tryz.f80 plan80 [v0, v1] w K = W80 v0 v1 w K := by kernel_rfl
theorem W80_chk : chkFun Tryz.prog Tryz.f80 plan80 2 = true := by kernel_rfl
theorem W80_ok {v0 v1 : Value} {w : World} {K : Value → World → Prop} (h : W80 v0 v1 w K) : callF Tryz.prog 80 [v0, v1] w K :=
  tie Tryz.prog 80 Tryz.f80 plan80 [v0, v1] w K 2 (W80 v0 v1 w K) rfl mixed Tryz.func80 W80_chk (W80_eq v0 v1 w K) Tryz.call80 h

/- slices.Concat___string_string_ -/
def plan45 : Plan := { js := [(33, ⟨[6, 27], [6, 8], 27⟩), (15, ⟨[3], [3, 5], 12⟩), (8, ⟨[3, 11], [3, 5], 11⟩)], ds := [] }
def W45 (v0 : Value) (w : World) (K : Value → World → Prop) : Prop :=
  lenlW v0 fun t10 =>
  LoopW [(.int .i64 0), (.int .i64 0)] w fun s1 _ w2 L1 =>
    binW .lss (s1.getD 1 undef) t10 fun t12 =>
    condW t12 (
      JoinW (fun J3 =>
        ixaW none 1 v0 (s1.getD 1 undef) fun t13 =>
        ldW false 1 t13 w2 fun t14 =>
        lenlW t14 fun t17 =>
        binW .add (s1.getD 0 undef) t17 fun t18 =>
        binW .lss t18 (.int .i64 0) fun t20 =>
        condW t20 (
          pncW (.iface 9 (.string (ofL [108, 101, 110, 32, 111, 117, 116, 32, 111, 102, 32, 114, 97, 110, 103, 101]))) w2) (
          J3 [t18] w2))
      fun s3 _ w4 =>
      binW .add (s1.getD 1 undef) (.int .i64 1) fun t22 =>
      L1 [(s3.getD 0 undef), t22] w4) (
      callF Tryz.prog 82 [(.slice none 0 0), (s1.getD 0 undef)] w2 fun t24 w5 =>
      lenlW v0 fun t26 =>
      LoopW [t24, (.int .i64 0)] w5 fun s6 _ w7 L6 =>
        binW .lss (s6.getD 1 undef) t26 fun t28 =>
        condW t28 (
          ixaW none 1 v0 (s6.getD 1 undef) fun t29 =>
          ldW false 1 t29 w7 fun t30 =>
          semE Tryz.prog (Builtin.append_ #[33, 33] 33 #[(s6.getD 0 undef), t30]) w7 fun t33 w8 =>
          binW .add (s6.getD 1 undef) (.int .i64 1) fun t34 =>
          L6 [t33, t34] w8) (
          K (s6.getD 0 undef) w7))
theorem W45_eq (v0 : Value) (w : World) (K : Value → World → Prop) : funW Tryz.prog Tryz.f45 plan45 [v0] w K = W45 v0 w K := by kernel_rfl
theorem W45_chk : chkFun Tryz.prog Tryz.f45 plan45 1 = true := by kernel_rfl
theorem W45_ok {v0 : Value} {w : World} {K : Value → World → Prop} (h : W45 v0 w K) : callF Tryz.prog 45 [v0] w K :=
  tie Tryz.prog 45 Tryz.f45 plan45 [v0] w K 1 (W45 v0 w K) rfl mixed Tryz.func45 W45_chk (W45_eq v0 w K) Tryz.call45 h

/- slices.Compact___string_string_ -/
def plan47 : Plan := { js := [(39, ⟨[3], [3], 6⟩), (32, ⟨[3, 5], [3], 5⟩), (14, ⟨[3], [], 1⟩)], ds := [(42, ⟨[0, 1, 2, 3, 4, 5, 6, 7, 8, 9], [[], [], [0, 1], [0, 1, 2], [], [], [5], [4, 5, 6], [4, 5, 6, 7], [0, 1, 2, 3, 4, 5, 6, 7, 8]]⟩), (24, ⟨[0, 1, 2, 3, 4, 5, 6, 7, 8, 9], [[], [], [0, 1], [0, 1, 2], [], [], [5], [4, 5, 6], [4, 5, 6, 7], [0, 1, 2, 3, 4, 5, 6, 7, 8]]⟩)] }
def W47 (v0 : Value) (w : World) (K : Value → World → Prop) : Prop :=
  lenlW v0 fun t7 =>
  binW .lss t7 (.int .i64 2) fun t8 =>
  condW t8 (
    K v0 w) (
    LoopW [(.int .i64 1)] w fun s1 _ w2 L1 =>
      lenlW v0 fun t12 =>
      binW .lss (s1.getD 0 undef) t12 fun t13 =>
      condW t13 (
        ixaW none 1 v0 (s1.getD 0 undef) fun t18 =>
        ldW false 1 t18 w2.drew fun t19 =>
        binW .sub (s1.getD 0 undef) (.int .i64 1) fun t22 =>
        ixaW none 1 v0 t22 fun t23 =>
        ldW false 1 t23 w2.drew fun t24 =>
        binW .eql t19 t24 fun t25 =>
        condW t25 (
          sllW 1 v0 (some (s1.getD 0 undef)) none none fun t28 =>
          LoopW [(s1.getD 0 undef), (.int .i64 1)] w2.drew fun s3 _ w4 L3 =>
            lenlW t28 fun t31 =>
            binW .lss (s3.getD 1 undef) t31 fun t32 =>
            condW t32 (
              JoinW (fun J5 =>
                ixaW none 1 t28 (s3.getD 1 undef) fun t37 =>
                ldW false 1 t37 w4.drew fun t38 =>
                binW .sub (s3.getD 1 undef) (.int .i64 1) fun t41 =>
                ixaW none 1 t28 t41 fun t42 =>
                ldW false 1 t42 w4.drew fun t43 =>
                binW .neq t38 t43 fun t44 =>
                condW t44 (
                  ixaW none 1 t28 (s3.getD 1 undef) fun t49 =>
                  ldW false 1 t49 w4.drew fun t50 =>
                  ixaW none 1 v0 (s3.getD 0 undef) fun t51 =>
                  stW 1 t51 t50 w4.drew fun w6 =>
                  binW .add (s3.getD 0 undef) (.int .i64 1) fun t53 =>
                  J5 [t53] w6) (
                  J5 [(s3.getD 0 undef)] w4.drew))
              fun s5 _ w7 =>
              binW .add (s3.getD 1 undef) (.int .i64 1) fun t34 =>
              L3 [(s5.getD 0 undef), t34] w7) (
              sllW 1 v0 (some (s3.getD 0 undef)) none none fun t56 =>
              semE Tryz.prog (Builtin.clear_ #[33] 0 #[t56]) w4 fun _ w8 =>
              sllW 1 v0 none (some (s3.getD 0 undef)) none fun t59 =>
              K t59 w8)) (
          binW .add (s1.getD 0 undef) (.int .i64 1) fun t15 =>
          L1 [t15] w2.drew)) (
        K v0 w2))
theorem W47_eq (v0 : Value) (w : World) (K : Value → World → Prop) : funW Tryz.prog Tryz.f47 plan47 [v0] w K = W47 v0 w K := by kernel_rfl
theorem W47_chk : chkFun Tryz.prog Tryz.f47 plan47 1 = true := by kernel_rfl
theorem W47_ok {v0 : Value} {w : World} {K : Value → World → Prop} (h : W47 v0 w K) : callF Tryz.prog 47 [v0] w K :=
  tie Tryz.prog 47 Tryz.f47 plan47 [v0] w K 1 (W47 v0 w K) rfl mixed Tryz.func47 W47_chk (W47_eq v0 w K) Tryz.call47 h

/- purlin_value.Get -/
def plan48 : Plan := { js := [(6004, ⟨[19], [], 17⟩)], ds := [] }
def W48 (v0 v1 : Value) (w : World) (K : Value → World → Prop) : Prop :=
  boxW 49 v0 w fun t2 w1 =>
  allocW 49 [(.int .i64 0), (.bool false), (.string (ofL [])), (.slice none 0 0), (.slice none 0 0)] w1 fun t4 w2 =>
  fldW 4 t2 fun t9 =>
  ldW false 1 t9 w2 fun t10 =>
  callF Tryz.prog 85 [t10, v1] w2 fun t12 w3 =>
  extW 0 t12 fun t13 =>
  extW 1 t12 fun t14 =>
  GdW (isB t14 true) [undef] w3 (fun J4 =>
    fldW 0 t2 fun t17 =>
    ldW false 1 t17 w3 fun t18 =>
    binW .eql t18 (.int .i64 6) fun t19 =>
    J4 [t19] w3)
  fun s4 _ w5 =>
  pickW t14 (s4.getD 0 undef) (.bool false) fun t20 =>
  condW t20 (
    fldW 3 t2 fun t21 =>
    ldW false 1 t21 w5 fun t22 =>
    ixaW none 5 t22 t13 fun t24 =>
    ldW true 5 t24 w5 fun t25 =>
    callF Tryz.prog 86 [t25] w5 fun t26 w6 =>
    stW 5 t4 t26 w6 fun w7 =>
    ldW true 5 t4 w7 fun r8 =>
    K (.tuple #[r8, (.bool true)]) w7) (
    putW [(.int .i64 0), (.bool false), (.string (ofL [])), (.slice none 0 0), (.slice none 0 0)] [] fun c9 =>
    stW 5 t4 (.agg c9.toArray) w5 fun w10 =>
    ldW true 5 t4 w10 fun r11 =>
    K (.tuple #[r11, (.bool false)]) w10)
theorem W48_eq (v0 v1 : Value) (w : World) (K : Value → World → Prop) : funW Tryz.prog Tryz.f48 plan48 [v0, v1] w K = W48 v0 v1 w K := by kernel_rfl
theorem W48_chk : chkFun Tryz.prog Tryz.f48 plan48 2 = true := by kernel_rfl
theorem W48_ok {v0 v1 : Value} {w : World} {K : Value → World → Prop} (h : W48 v0 v1 w K) : callF Tryz.prog 48 [v0, v1] w K :=
  tie Tryz.prog 48 Tryz.f48 plan48 [v0, v1] w K 2 (W48 v0 v1 w K) rfl mixed Tryz.func48 W48_chk (W48_eq v0 v1 w K) Tryz.call48 h

/- purlin_value.Equal -/
def plan49 : Plan := { js := [], ds := [] }
def W49 (v0 v1 : Value) (w : World) (K : Value → World → Prop) : Prop :=
  boxW 49 v0 w fun t2 w1 =>
  boxW 49 v1 w1 fun t3 w2 =>
  ldW true 5 t2 w2 fun t5 =>
  ldW true 5 t3 w2 fun t6 =>
  callF Tryz.prog 87 [t5, t6] w2 fun t7 w3 =>
  binW .eql t7 (.int .i64 0) fun t8 =>
  K t8 w3
theorem W49_eq (v0 v1 : Value) (w : World) (K : Value → World → Prop) : funW Tryz.prog Tryz.f49 plan49 [v0, v1] w K = W49 v0 v1 w K := by kernel_rfl
theorem W49_chk : chkFun Tryz.prog Tryz.f49 plan49 2 = true := by kernel_rfl
theorem W49_ok {v0 v1 : Value} {w : World} {K : Value → World → Prop} (h : W49 v0 v1 w K) : callF Tryz.prog 49 [v0, v1] w K :=
  tie Tryz.prog 49 Tryz.f49 plan49 [v0, v1] w K 2 (W49 v0 v1 w K) rfl mixed Tryz.func49 W49_chk (W49_eq v0 v1 w K) Tryz.call49 h

/- purlin_value.Known -/
def plan50 : Plan := { js := [(3006, ⟨[10], [], 7⟩)], ds := [] }
def W50 (v0 : Value) (w : World) (K : Value → World → Prop) : Prop :=
  boxW 49 v0 w fun t1 w1 =>
  fldW 0 t1 fun t3 =>
  ldW false 1 t3 w1 fun t4 =>
  binW .neq t4 (.int .i64 1) fun t5 =>
  GdW (isB t5 true) [undef] w1 (fun J2 =>
    fldW 3 t1 fun t7 =>
    ldW false 1 t7 w1 fun t8 =>
    callF Tryz.prog 88 [t8, (.func (.func 89) #[] #[])] w1 fun t9 w3 =>
    unW .not t9 fun t10 =>
    J2 [t10] w3)
  fun s2 _ w4 =>
  pickW t5 (s2.getD 0 undef) (.bool false) fun t11 =>
  K t11 w4
theorem W50_eq (v0 : Value) (w : World) (K : Value → World → Prop) : funW Tryz.prog Tryz.f50 plan50 [v0] w K = W50 v0 w K := by kernel_rfl
theorem W50_chk : chkFun Tryz.prog Tryz.f50 plan50 1 = true := by kernel_rfl
theorem W50_ok {v0 : Value} {w : World} {K : Value → World → Prop} (h : W50 v0 w K) : callF Tryz.prog 50 [v0] w K :=
  tie Tryz.prog 50 Tryz.f50 plan50 [v0] w K 1 (W50 v0 w K) rfl mixed Tryz.func50 W50_chk (W50_eq v0 w K) Tryz.call50 h

/- slices.IndexFunc___string_string_ -/
def plan79 : Plan := { js := [(6, ⟨[8], [4, 5], 8⟩)], ds := [] }
def W79 (v0 v1 : Value) (w : World) (K : Value → World → Prop) : Prop :=
  lenlW v0 fun t7 =>
  LoopW [(.int .i64 0)] w fun s1 _ w2 L1 =>
    binW .lss (s1.getD 0 undef) t7 fun t9 =>
    condW t9 (
      ixaW none 1 v0 (s1.getD 0 undef) fun t14 =>
      ldW false 1 t14 w2 fun t15 =>
      callV Tryz.prog v1 [t15] w2 fun t16 w3 =>
      condW t16 (
        K (s1.getD 0 undef) w3) (
        binW .add (s1.getD 0 undef) (.int .i64 1) fun t18 =>
        L1 [t18] w3)) (
      K (.int .i64 (-1)) w2)
theorem W79_eq (v0 v1 : Value) (w : World) (K : Value → World → Prop) : funW Tryz.prog Tryz.f79 plan79 [v0, v1] w K = W79 v0 v1 w K := by kernel_rfl
theorem W79_chk : chkFun Tryz.prog Tryz.f79 plan79 2 = true := by kernel_rfl
theorem W79_ok {v0 v1 : Value} {w : World} {K : Value → World → Prop} (h : W79 v0 v1 w K) : callF Tryz.prog 79 [v0, v1] w K :=
  tie Tryz.prog 79 Tryz.f79 plan79 [v0, v1] w K 2 (W79 v0 v1 w K) rfl mixed Tryz.func79 W79_chk (W79_eq v0 v1 w K) Tryz.call79 h

/- slices.Grow___string_string_ -/
def plan82 : Plan := { js := [(2, ⟨[], [], 2⟩)], ds := [] }
def W82 (v0 v1 : Value) (w : World) (K : Value → World → Prop) : Prop :=
  JoinW (fun J1 =>
    binW .lss v1 (.int .i64 0) fun t6 =>
    condW t6 (
      pncW (.iface 9 (.string (ofL [99, 97, 110, 110, 111, 116, 32, 98, 101, 32, 110, 101, 103, 97, 116, 105, 118, 101]))) w) (
      J1 [] w))
  fun s1 _ w2 =>
  capW v0 fun t10 =>
  lenlW v0 fun t12 =>
  binW .sub t10 t12 fun t13 =>
  binW .sub v1 t13 fun t14 =>
  binW .gtr t14 (.int .i64 0) fun t16 =>
  condW t16 (
    capW v0 fun t19 =>
    sllW 1 v0 none (some t19) none fun t20 =>
    semE Tryz.prog (Builtin.append_ #[33, 3] 33 #[t20, t14]) w2 fun t22 w3 =>
    lenlW v0 fun t24 =>
    sllW 1 t22 none (some t24) none fun t25 =>
    K t25 w3) (
    K v0 w2)
theorem W82_eq (v0 v1 : Value) (w : World) (K : Value → World → Prop) : funW Tryz.prog Tryz.f82 plan82 [v0, v1] w K = W82 v0 v1 w K := by kernel_rfl
theorem W82_chk : chkFun Tryz.prog Tryz.f82 plan82 2 = true := by kernel_rfl
theorem W82_ok {v0 v1 : Value} {w : World} {K : Value → World → Prop} (h : W82 v0 v1 w K) : callF Tryz.prog 82 [v0, v1] w K :=
  tie Tryz.prog 82 Tryz.f82 plan82 [v0, v1] w K 2 (W82 v0 v1 w K) rfl mixed Tryz.func82 W82_chk (W82_eq v0 v1 w K) Tryz.call82 h

/- slices.BinarySearch___string_string_ -/
def plan85 : Plan := { js := [(24004, ⟨[52], [], 36⟩), (24005, ⟨[51], [], 43⟩), (24007, ⟨[50], [], 49⟩), (24013, ⟨[48], [], 43⟩), (24020, ⟨[42], [], 36⟩), (8, ⟨[7, 8], [], 7⟩)], ds := [] }
def W85 (v0 v1 : Value) (w : World) (K : Value → World → Prop) : Prop :=
  lenlW v0 fun t11 =>
  LoopW [(.int .i64 0), t11] w fun s1 _ w2 L1 =>
    binW .lss (s1.getD 0 undef) (s1.getD 1 undef) fun t15 =>
    condW t15 (
      binW .add (s1.getD 0 undef) (s1.getD 1 undef) fun t18 =>
      cvtW .u64 t18 fun t19 =>
      binW .shr t19 (.int .u64 1) fun t20 =>
      cvtW .i64 t20 fun t21 =>
      ixaW none 1 v0 t21 fun t24 =>
      ldW false 1 t24 w2 fun t25 =>
      callF Tryz.prog 121 [t25, v1] w2 fun t27 w3 =>
      condW t27 (
        binW .add t21 (.int .i64 1) fun t29 =>
        L1 [t29, (s1.getD 1 undef)] w3) (
        L1 [(s1.getD 0 undef), t21] w3)) (
      binW .lss (s1.getD 0 undef) t11 fun t34 =>
      GdW (isB t34 true) [undef] w2 (fun J4 =>
        ixaW none 1 v0 (s1.getD 0 undef) fun t38 =>
        ldW false 1 t38 w2 fun t39 =>
        binW .eql t39 v1 fun t41 =>
        J4 [t41] w2)
      fun s4 _ w5 =>
      GdW (isB (s4.getD 0 undef) false) [undef] w5 (fun J6 =>
        ixaW none 1 v0 (s1.getD 0 undef) fun t45 =>
        ldW false 1 t45 w5 fun t46 =>
        callF Tryz.prog 126 [t46] w5 fun t47 w7 =>
        J6 [t47] w7)
      fun s6 _ w8 =>
      GdW (isB (s6.getD 0 undef) true) [undef] w8 (fun J9 =>
        callF Tryz.prog 126 [v1] w8 fun t50 w10 =>
        J9 [t50] w10)
      fun s9 _ w11 =>
      GdW (isB (s4.getD 0 undef) false) [undef] w11 (fun J12 =>
        pickW (s6.getD 0 undef) (s9.getD 0 undef) (.bool false) fun t51 =>
        J12 [t51] w11)
      fun s12 _ w13 =>
      GdW (isB t34 true) [undef] w13 (fun J14 =>
        pickW (s4.getD 0 undef) (.bool true) (s12.getD 0 undef) fun t52 =>
        J14 [t52] w13)
      fun s14 _ w15 =>
      pickW t34 (s14.getD 0 undef) (.bool false) fun t53 =>
      K (.tuple #[(s1.getD 0 undef), t53]) w15)
theorem W85_eq (v0 v1 : Value) (w : World) (K : Value → World → Prop) : funW Tryz.prog Tryz.f85 plan85 [v0, v1] w K = W85 v0 v1 w K := by kernel_rfl
theorem W85_chk : chkFun Tryz.prog Tryz.f85 plan85 2 = true := by kernel_rfl
theorem W85_ok {v0 v1 : Value} {w : World} {K : Value → World → Prop} (h : W85 v0 v1 w K) : callF Tryz.prog 85 [v0, v1] w K :=
  tie Tryz.prog 85 Tryz.f85 plan85 [v0, v1] w K 2 (W85 v0 v1 w K) rfl mixed Tryz.func85 W85_chk (W85_eq v0 v1 w K) Tryz.call85 h

/- purlin_value.Clone -/
def plan86 : Plan := { js := [], ds := [(3, ⟨[0, 1, 3, 4, 6, 8], [[], [0], [0, 1], [], [3], [0, 1, 2, 3, 4], [0, 1, 2, 3, 4], [0, 1, 2, 3, 4, 5, 6], [0, 1, 2, 3, 4, 5, 6, 7], [0, 1, 2, 3, 4, 5, 6, 7, 8]]⟩)] }
def W86 (v0 : Value) (w : World) (K : Value → World → Prop) : Prop :=
  boxW 49 v0 w fun t1 w1 =>
  allocW 49 [(.int .i64 0), (.bool false), (.string (ofL [])), (.slice none 0 0), (.slice none 0 0)] w1 fun t2 w2 =>
  fldW 4 t1 fun t3 =>
  ldW false 1 t3 w2.drew fun t4 =>
  fldW 3 t1 fun t6 =>
  ldW false 1 t6 w2.drew fun t7 =>
  callF Tryz.prog 127 [t4] w2.drew fun t5 w3 =>
  (ldW false 1 t6 w3 fun x => x = t7) ∧
  fldW 4 t1 fun t9 =>
  callF Tryz.prog 128 [t7] w3 fun t8 w4 =>
  stW 1 t9 t5 w4 fun w5 =>
  fldW 3 t1 fun t10 =>
  stW 1 t10 t8 w5 fun w6 =>
  ldW true 5 t1 w6 fun t11 =>
  stW 5 t2 t11 w6 fun w7 =>
  ldW true 5 t2 w7 fun r8 =>
  K r8 w7
theorem W86_eq (v0 : Value) (w : World) (K : Value → World → Prop) : funW Tryz.prog Tryz.f86 plan86 [v0] w K = W86 v0 w K := by kernel_rfl
theorem W86_chk : chkFun Tryz.prog Tryz.f86 plan86 1 = true := by kernel_rfl
theorem W86_ok {v0 : Value} {w : World} {K : Value → World → Prop} (h : W86 v0 w K) : callF Tryz.prog 86 [v0] w K :=
  tie Tryz.prog 86 Tryz.f86 plan86 [v0] w K 1 (W86 v0 w K) rfl mixed Tryz.func86 W86_chk (W86_eq v0 w K) Tryz.call86 h

/- purlin_value.Cmp -/
def plan87 : Plan := { js := [], ds := [(36, ⟨[0, 1, 2, 3, 5, 6, 7, 8, 12], [[], [0], [], [2], [0, 1, 2, 3], [], [5], [], [7], [0, 1, 2, 3, 4, 5, 6, 7, 8], [0, 1, 2, 3, 4, 5, 6, 7, 8, 9], [0, 1, 2, 3, 4, 5, 6, 7, 8, 9, 10], [0, 1, 2, 3, 4, 5, 6, 7, 8, 9, 10, 11]]⟩), (20, ⟨[0, 1, 3, 4, 7], [[], [0], [0, 1], [], [3], [0, 1, 2, 3, 4], [0, 1, 2, 3, 4, 5], [0, 1, 2, 3, 4, 5, 6]]⟩)] }
def W87 (v0 v1 : Value) (w : World) (K : Value → World → Prop) : Prop :=
  boxW 49 v0 w fun t2 w1 =>
  boxW 49 v1 w1 fun t3 w2 =>
  fldW 0 t2 fun t6 =>
  ldW false 1 t6 w2 fun t7 =>
  fldW 0 t3 fun t8 =>
  ldW false 1 t8 w2 fun t9 =>
  callF Tryz.prog 129 [t7, t9] w2 fun t10 w3 =>
  binW .neq t10 (.int .i64 0) fun t12 =>
  condW t12 (
    K t10 w3) (
    fldW 0 t2 fun t14 =>
    ldW false 1 t14 w3 fun t15 =>
    binW .eql t15 (.int .i64 2) fun t17 =>
    condW t17 (
      fldW 1 t2 fun t18 =>
      ldW false 1 t18 w3.drew fun t19 =>
      fldW 1 t3 fun t21 =>
      ldW false 1 t21 w3.drew fun t22 =>
      callF Tryz.prog 131 [t19] w3.drew fun t20 w4 =>
      (ldW false 1 t21 w4 fun x => x = t22) ∧
      callF Tryz.prog 131 [t22] w4 fun t23 w5 =>
      callF Tryz.prog 130 [t20, t23] w5 fun t24 w6 =>
      K t24 w6) (
      binW .eql t15 (.int .i64 3) fun t26 =>
      condW t26 (
        fldW 2 t2 fun t27 =>
        ldW false 1 t27 w3 fun t28 =>
        fldW 2 t3 fun t29 =>
        ldW false 1 t29 w3 fun t30 =>
        callF Tryz.prog 132 [t28, t30] w3 fun t31 w7 =>
        K t31 w7) (
        binW .eql t15 (.int .i64 4) fun t33 =>
        condW t33 (
          fldW 2 t2 fun t34 =>
          ldW false 1 t34 w3 fun t35 =>
          fldW 2 t3 fun t36 =>
          ldW false 1 t36 w3 fun t37 =>
          callF Tryz.prog 133 [t35, t37] w3 fun t38 w8 =>
          K t38 w8) (
          fldW 4 t2 fun t39 =>
          ldW false 1 t39 w3.drew fun t40 =>
          fldW 4 t3 fun t41 =>
          ldW false 1 t41 w3.drew fun t42 =>
          fldW 3 t2 fun t44 =>
          ldW false 1 t44 w3.drew fun t45 =>
          fldW 3 t3 fun t46 =>
          ldW false 1 t46 w3.drew fun t47 =>
          callF Tryz.prog 135 [t40, t42] w3.drew fun t43 w9 =>
          (ldW false 1 t46 w9 fun x => x = t47) ∧
          (ldW false 1 t44 w9 fun x => x = t45) ∧
          callF Tryz.prog 136 [t45, t47, (.func (.func 87) #[] #[])] w9 fun t48 w10 =>
          bslW 3 2 [(.int .i64 0), (.int .i64 0)] [(0, 1, t43), (1, 1, t48)] w10 fun t49 w11 =>
          callF Tryz.prog 134 [t49] w11 fun t50 w12 =>
          K t50 w12))))
theorem W87_eq (v0 v1 : Value) (w : World) (K : Value → World → Prop) : funW Tryz.prog Tryz.f87 plan87 [v0, v1] w K = W87 v0 v1 w K := by kernel_rfl
theorem W87_chk : chkFun Tryz.prog Tryz.f87 plan87 2 = true := by kernel_rfl
theorem W87_ok {v0 v1 : Value} {w : World} {K : Value → World → Prop} (h : W87 v0 v1 w K) : callF Tryz.prog 87 [v0, v1] w K :=
  tie Tryz.prog 87 Tryz.f87 plan87 [v0, v1] w K 2 (W87 v0 v1 w K) rfl mixed Tryz.func87 W87_chk (W87_eq v0 v1 w K) Tryz.call87 h

/- slices.ContainsFunc___purlin_api.Value_purlin_api.Value_ -/
def plan88 : Plan := { js := [], ds := [] }
def W88 (v0 v1 : Value) (w : World) (K : Value → World → Prop) : Prop :=
  callF Tryz.prog 137 [v0, v1] w fun t7 w1 =>
  binW .geq t7 (.int .i64 0) fun t8 =>
  K t8 w1
theorem W88_eq (v0 v1 : Value) (w : World) (K : Value → World → Prop) : funW Tryz.prog Tryz.f88 plan88 [v0, v1] w K = W88 v0 v1 w K := by kernel_rfl
theorem W88_chk : chkFun Tryz.prog Tryz.f88 plan88 2 = true := by kernel_rfl
theorem W88_ok {v0 v1 : Value} {w : World} {K : Value → World → Prop} (h : W88 v0 v1 w K) : callF Tryz.prog 88 [v0, v1] w K :=
  tie Tryz.prog 88 Tryz.f88 plan88 [v0, v1] w K 2 (W88 v0 v1 w K) rfl mixed Tryz.func88 W88_chk (W88_eq v0 v1 w K) Tryz.call88 h

/- purlin_value.Known_1 -/
def plan89 : Plan := { js := [], ds := [] }
def W89 (v0 : Value) (w : World) (K : Value → World → Prop) : Prop :=
  boxW 49 v0 w fun t1 w1 =>
  ldW true 5 t1 w1 fun t3 =>
  callF Tryz.prog 50 [t3] w1 fun t4 w2 =>
  unW .not t4 fun t5 =>
  K t5 w2
theorem W89_eq (v0 : Value) (w : World) (K : Value → World → Prop) : funW Tryz.prog Tryz.f89 plan89 [v0] w K = W89 v0 w K := by kernel_rfl
theorem W89_chk : chkFun Tryz.prog Tryz.f89 plan89 1 = true := by kernel_rfl
theorem W89_ok {v0 : Value} {w : World} {K : Value → World → Prop} (h : W89 v0 w K) : callF Tryz.prog 89 [v0] w K :=
  tie Tryz.prog 89 Tryz.f89 plan89 [v0] w K 1 (W89 v0 w K) rfl mixed Tryz.func89 W89_chk (W89_eq v0 w K) Tryz.call89 h

/- purlin_num.Good -/
def plan98 : Plan := { js := [(28003, ⟨[36], [], 35⟩), (16, ⟨[28], [2, 5], 28⟩), (6002, ⟨[23], [], 17⟩), (6004, ⟨[22], [], 21⟩), (6008, ⟨[20], [], 17⟩), (6013, ⟨[14], [], 12⟩)], ds := [] }
def W98 (v0 : Value) (w : World) (K : Value → World → Prop) : Prop :=
  callF Tryz.prog 140 [v0, (.string (ofL [45]))] w fun t7 w1 =>
  lensW t7 fun t9 =>
  binW .lss t9 (.int .i64 1) fun t10 =>
  GdW (isB t10 false) [undef] w1 (fun J2 =>
    lensW t7 fun t13 =>
    binW .gtr t13 (.int .i64 100) fun t14 =>
    J2 [t14] w1)
  fun s2 _ w3 =>
  pickW t10 (.bool true) (s2.getD 0 undef) fun t15 =>
  GdW (isB t15 false) [undef] w3 (fun J4 =>
    ixsW t7 (.int .i64 0) fun t18 =>
    binW .eql t18 (.int .u8 48) fun t19 =>
    J4 [t19] w3)
  fun s4 _ w5 =>
  GdW (isB (s4.getD 0 undef) true) [undef] w5 (fun J6 =>
    binW .neq v0 (.string (ofL [48])) fun t22 =>
    J6 [t22] w5)
  fun s6 _ w7 =>
  GdW (isB t15 false) [undef] w7 (fun J8 =>
    pickW (s4.getD 0 undef) (s6.getD 0 undef) (.bool false) fun t23 =>
    J8 [t23] w7)
  fun s8 _ w9 =>
  pickW t15 (.bool true) (s8.getD 0 undef) fun t24 =>
  condW t24 (
    K (.bool false) w9) (
    semE Tryz.prog (convert 9 152 t7) w9 fun t26 w10 =>
    lenlW t26 fun t27 =>
    LoopW [(.int .i64 0)] w10 fun s11 _ w12 L11 =>
      binW .lss (s11.getD 0 undef) t27 fun t29 =>
      condW t29 (
        ixaW none 1 t26 (s11.getD 0 undef) fun t30 =>
        ldW false 1 t30 w12 fun t31 =>
        binW .lss t31 (.int .u8 48) fun t33 =>
        GdW (isB t33 false) [undef] w12 (fun J13 =>
          binW .gtr t31 (.int .u8 57) fun t36 =>
          J13 [t36] w12)
        fun s13 _ w14 =>
        pickW t33 (.bool true) (s13.getD 0 undef) fun t37 =>
        condW t37 (
          K (.bool false) w14) (
          binW .add (s11.getD 0 undef) (.int .i64 1) fun t38 =>
          L11 [t38] w14)) (
        K (.bool true) w12))
theorem W98_eq (v0 : Value) (w : World) (K : Value → World → Prop) : funW Tryz.prog Tryz.f98 plan98 [v0] w K = W98 v0 w K := by kernel_rfl
theorem W98_chk : chkFun Tryz.prog Tryz.f98 plan98 1 = true := by kernel_rfl
theorem W98_ok {v0 : Value} {w : World} {K : Value → World → Prop} (h : W98 v0 w K) : callF Tryz.prog 98 [v0] w K :=
  tie Tryz.prog 98 Tryz.f98 plan98 [v0] w K 1 (W98 v0 w K) rfl mixed Tryz.func98 W98_chk (W98_eq v0 w K) Tryz.call98 h

/- slices.Clone___string_string_ -/
def plan127 : Plan := { js := [], ds := [] }
def W127 (v0 : Value) (w : World) (K : Value → World → Prop) : Prop :=
  eqW .slice false v0 (.slice none 0 0) fun t4 =>
  condW t4 (
    K (.slice none 0 0) w) (
    bslW 9 0 [] [] w fun t5 w1 =>
    semE Tryz.prog (Builtin.append_ #[33, 33] 33 #[t5, v0]) w1 fun t7 w2 =>
    K t7 w2)
theorem W127_eq (v0 : Value) (w : World) (K : Value → World → Prop) : funW Tryz.prog Tryz.f127 plan127 [v0] w K = W127 v0 w K := by kernel_rfl
theorem W127_chk : chkFun Tryz.prog Tryz.f127 plan127 1 = true := by kernel_rfl
theorem W127_ok {v0 : Value} {w : World} {K : Value → World → Prop} (h : W127 v0 w K) : callF Tryz.prog 127 [v0] w K :=
  tie Tryz.prog 127 Tryz.f127 plan127 [v0] w K 1 (W127 v0 w K) rfl mixed Tryz.func127 W127_chk (W127_eq v0 w K) Tryz.call127 h

/- purlin_value.clones -/
def plan128 : Plan := { js := [(8, ⟨[3, 8], [3, 5], 8⟩)], ds := [] }
def W128 (v0 : Value) (w : World) (K : Value → World → Prop) : Prop :=
  lenlW v0 fun t7 =>
  LoopW [(.slice none 0 0), (.int .i64 0)] w fun s1 _ w2 L1 =>
    binW .lss (s1.getD 1 undef) t7 fun t9 =>
    condW t9 (
      ixaW none 5 v0 (s1.getD 1 undef) fun t10 =>
      ldW true 5 t10 w2 fun t11 =>
      allocW 49 [(.int .i64 0), (.bool false), (.string (ofL [])), (.slice none 0 0), (.slice none 0 0)] w2 fun t5 w3 =>
      stW 5 t5 t11 w3 fun w4 =>
      ldW true 5 t5 w4 fun t13 =>
      callF Tryz.prog 86 [t13] w4 fun t14 w5 =>
      bslW 49 1 [(.int .i64 0), (.bool false), (.string (ofL [])), (.slice none 0 0), (.slice none 0 0)] [(0, 5, t14)] w5 fun t15 w6 =>
      semE Tryz.prog (Builtin.append_ #[47, 47] 47 #[(s1.getD 0 undef), t15]) w6 fun t16 w7 =>
      binW .add (s1.getD 1 undef) (.int .i64 1) fun t17 =>
      L1 [t16, t17] w7) (
      K (s1.getD 0 undef) w2)
theorem W128_eq (v0 : Value) (w : World) (K : Value → World → Prop) : funW Tryz.prog Tryz.f128 plan128 [v0] w K = W128 v0 w K := by kernel_rfl
theorem W128_chk : chkFun Tryz.prog Tryz.f128 plan128 1 = true := by kernel_rfl
theorem W128_ok {v0 : Value} {w : World} {K : Value → World → Prop} (h : W128 v0 w K) : callF Tryz.prog 128 [v0] w K :=
  tie Tryz.prog 128 Tryz.f128 plan128 [v0] w K 1 (W128 v0 w K) rfl mixed Tryz.func128 W128_chk (W128_eq v0 w K) Tryz.call128 h

/- cmp.Compare_purlin_api.Kind_ -/
def plan129 : Plan := { js := [], ds := [] }
def W129 (v0 v1 : Value) (w : World) (K : Value → World → Prop) : Prop :=
  callF Tryz.prog 168 [v0] w fun t8 w1 =>
  callF Tryz.prog 168 [v1] w1 fun t10 w2 =>
  condW t8 (
    condW t10 (
      K (.int .i64 0) w2) (
      K (.int .i64 (-1)) w2)) (
    condW t10 (
      K (.int .i64 1) w2) (
      binW .lss v0 v1 fun t16 =>
      condW t16 (
        K (.int .i64 (-1)) w2) (
        binW .gtr v0 v1 fun t19 =>
        condW t19 (
          K (.int .i64 1) w2) (
          K (.int .i64 0) w2))))
theorem W129_eq (v0 v1 : Value) (w : World) (K : Value → World → Prop) : funW Tryz.prog Tryz.f129 plan129 [v0, v1] w K = W129 v0 v1 w K := by kernel_rfl
theorem W129_chk : chkFun Tryz.prog Tryz.f129 plan129 2 = true := by kernel_rfl
theorem W129_ok {v0 v1 : Value} {w : World} {K : Value → World → Prop} (h : W129 v0 v1 w K) : callF Tryz.prog 129 [v0, v1] w K :=
  tie Tryz.prog 129 Tryz.f129 plan129 [v0, v1] w K 2 (W129 v0 v1 w K) rfl mixed Tryz.func129 W129_chk (W129_eq v0 v1 w K) Tryz.call129 h

/- cmp.Compare_int_ -/
def plan130 : Plan := { js := [], ds := [] }
def W130 (v0 v1 : Value) (w : World) (K : Value → World → Prop) : Prop :=
  callF Tryz.prog 169 [v0] w fun t8 w1 =>
  callF Tryz.prog 169 [v1] w1 fun t10 w2 =>
  condW t8 (
    condW t10 (
      K (.int .i64 0) w2) (
      K (.int .i64 (-1)) w2)) (
    condW t10 (
      K (.int .i64 1) w2) (
      binW .lss v0 v1 fun t16 =>
      condW t16 (
        K (.int .i64 (-1)) w2) (
        binW .gtr v0 v1 fun t19 =>
        condW t19 (
          K (.int .i64 1) w2) (
          K (.int .i64 0) w2))))
theorem W130_eq (v0 v1 : Value) (w : World) (K : Value → World → Prop) : funW Tryz.prog Tryz.f130 plan130 [v0, v1] w K = W130 v0 v1 w K := by kernel_rfl
theorem W130_chk : chkFun Tryz.prog Tryz.f130 plan130 2 = true := by kernel_rfl
theorem W130_ok {v0 v1 : Value} {w : World} {K : Value → World → Prop} (h : W130 v0 v1 w K) : callF Tryz.prog 130 [v0, v1] w K :=
  tie Tryz.prog 130 Tryz.f130 plan130 [v0, v1] w K 2 (W130 v0 v1 w K) rfl mixed Tryz.func130 W130_chk (W130_eq v0 v1 w K) Tryz.call130 h

/- purlin_value.truth -/
def plan131 : Plan := { js := [], ds := [] }
def W131 (v0 : Value) (w : World) (K : Value → World → Prop) : Prop :=
  condW v0 (
    K (.int .i64 1) w) (
    K (.int .i64 0) w)
theorem W131_eq (v0 : Value) (w : World) (K : Value → World → Prop) : funW Tryz.prog Tryz.f131 plan131 [v0] w K = W131 v0 w K := by kernel_rfl
theorem W131_chk : chkFun Tryz.prog Tryz.f131 plan131 1 = true := by kernel_rfl
theorem W131_ok {v0 : Value} {w : World} {K : Value → World → Prop} (h : W131 v0 w K) : callF Tryz.prog 131 [v0] w K :=
  tie Tryz.prog 131 Tryz.f131 plan131 [v0] w K 1 (W131 v0 w K) rfl mixed Tryz.func131 W131_chk (W131_eq v0 w K) Tryz.call131 h

/- purlin_num.Cmp -/
def plan132 : Plan := { js := [(4004, ⟨[12], [], 10⟩)], ds := [] }
def W132 (v0 v1 : Value) (w : World) (K : Value → World → Prop) : Prop :=
  callF Tryz.prog 98 [v0] w fun t7 w1 =>
  unW .not t7 fun t8 =>
  GdW (isB t8 false) [undef] w1 (fun J2 =>
    callF Tryz.prog 98 [v1] w1 fun t11 w3 =>
    unW .not t11 fun t12 =>
    J2 [t12] w3)
  fun s2 _ w4 =>
  pickW t8 (.bool true) (s2.getD 0 undef) fun t13 =>
  condW t13 (
    K (.int .i64 0) w4) (
    callF Tryz.prog 171 [v0] w4 fun t15 w5 =>
    callF Tryz.prog 171 [v1] w5 fun t17 w6 =>
    callF Tryz.prog 172 [t17] w6 fun t18 w7 =>
    callF Tryz.prog 170 [t15, t18] w7 fun t19 w8 =>
    allocW 203 [(.bool false), (.slice none 0 0)] w8 fun t5 w9 =>
    stW 2 t5 t19 w9 fun w10 =>
    fldW 1 t5 fun t21 =>
    ldW false 1 t21 w10 fun t22 =>
    lenlW t22 fun t23 =>
    binW .eql t23 (.int .i64 0) fun t24 =>
    condW t24 (
      K (.int .i64 0) w10) (
      fldW 0 t5 fun t26 =>
      ldW false 1 t26 w10 fun t27 =>
      condW t27 (
        K (.int .i64 (-1)) w10) (
        K (.int .i64 1) w10)))
theorem W132_eq (v0 v1 : Value) (w : World) (K : Value → World → Prop) : funW Tryz.prog Tryz.f132 plan132 [v0, v1] w K = W132 v0 v1 w K := by kernel_rfl
theorem W132_chk : chkFun Tryz.prog Tryz.f132 plan132 2 = true := by kernel_rfl
theorem W132_ok {v0 v1 : Value} {w : World} {K : Value → World → Prop} (h : W132 v0 v1 w K) : callF Tryz.prog 132 [v0, v1] w K :=
  tie Tryz.prog 132 Tryz.f132 plan132 [v0, v1] w K 2 (W132 v0 v1 w K) rfl mixed Tryz.func132 W132_chk (W132_eq v0 v1 w K) Tryz.call132 h

/- cmp.Or_int_ -/
def plan134 : Plan := { js := [(8, ⟨[8], [2, 5], 8⟩)], ds := [] }
def W134 (v0 : Value) (w : World) (K : Value → World → Prop) : Prop :=
  lenlW v0 fun t7 =>
  LoopW [(.int .i64 0)] w fun s1 _ w2 L1 =>
    binW .lss (s1.getD 0 undef) t7 fun t9 =>
    condW t9 (
      ixaW none 1 v0 (s1.getD 0 undef) fun t10 =>
      ldW false 1 t10 w2 fun t11 =>
      binW .neq t11 (.int .i64 0) fun t14 =>
      condW t14 (
        K t11 w2) (
        binW .add (s1.getD 0 undef) (.int .i64 1) fun t16 =>
        L1 [t16] w2)) (
      K (.int .i64 0) w2)
theorem W134_eq (v0 : Value) (w : World) (K : Value → World → Prop) : funW Tryz.prog Tryz.f134 plan134 [v0] w K = W134 v0 w K := by kernel_rfl
theorem W134_chk : chkFun Tryz.prog Tryz.f134 plan134 1 = true := by kernel_rfl
theorem W134_ok {v0 : Value} {w : World} {K : Value → World → Prop} (h : W134 v0 w K) : callF Tryz.prog 134 [v0] w K :=
  tie Tryz.prog 134 Tryz.f134 plan134 [v0] w K 1 (W134 v0 w K) rfl mixed Tryz.func134 W134_chk (W134_eq v0 w K) Tryz.call134 h

/- slices.Compare___string_string_ -/
def plan135 : Plan := { js := [(6, ⟨[11], [4, 5, 6, 7, 8], 11⟩)], ds := [] }
def W135 (v0 v1 : Value) (w : World) (K : Value → World → Prop) : Prop :=
  lenlW v0 fun t10 =>
  LoopW [(.int .i64 0)] w fun s1 _ w2 L1 =>
    binW .lss (s1.getD 0 undef) t10 fun t12 =>
    condW t12 (
      ixaW none 1 v0 (s1.getD 0 undef) fun t14 =>
      ldW false 1 t14 w2 fun t15 =>
      lenlW v1 fun t18 =>
      binW .geq (s1.getD 0 undef) t18 fun t19 =>
      condW t19 (
        K (.int .i64 1) w2) (
        ixaW none 1 v1 (s1.getD 0 undef) fun t22 =>
        ldW false 1 t22 w2 fun t23 =>
        callF Tryz.prog 174 [t15, t23] w2 fun t26 w3 =>
        binW .neq t26 (.int .i64 0) fun t28 =>
        condW t28 (
          K t26 w3) (
          binW .add (s1.getD 0 undef) (.int .i64 1) fun t30 =>
          L1 [t30] w3))) (
      lenlW v0 fun t32 =>
      lenlW v1 fun t34 =>
      binW .lss t32 t34 fun t35 =>
      condW t35 (
        K (.int .i64 (-1)) w2) (
        K (.int .i64 0) w2))
theorem W135_eq (v0 v1 : Value) (w : World) (K : Value → World → Prop) : funW Tryz.prog Tryz.f135 plan135 [v0, v1] w K = W135 v0 v1 w K := by kernel_rfl
theorem W135_chk : chkFun Tryz.prog Tryz.f135 plan135 2 = true := by kernel_rfl
theorem W135_ok {v0 v1 : Value} {w : World} {K : Value → World → Prop} (h : W135 v0 v1 w K) : callF Tryz.prog 135 [v0, v1] w K :=
  tie Tryz.prog 135 Tryz.f135 plan135 [v0, v1] w K 2 (W135 v0 v1 w K) rfl mixed Tryz.func135 W135_chk (W135_eq v0 v1 w K) Tryz.call135 h

/- slices.CompareFunc___purlin_api.Value___purlin_api.Value_purlin_api.Value_purlin_api.Value_ -/
def plan136 : Plan := { js := [(6, ⟨[13], [6, 7, 8, 9, 10], 13⟩)], ds := [] }
def W136 (v0 v1 v2 : Value) (w : World) (K : Value → World → Prop) : Prop :=
  lenlW v0 fun t12 =>
  LoopW [(.int .i64 0)] w fun s1 _ w2 L1 =>
    binW .lss (s1.getD 0 undef) t12 fun t14 =>
    condW t14 (
      ixaW none 5 v0 (s1.getD 0 undef) fun t16 =>
      ldW true 5 t16 w2 fun t17 =>
      allocW 49 [(.int .i64 0), (.bool false), (.string (ofL [])), (.slice none 0 0), (.slice none 0 0)] w2 fun t8 w3 =>
      stW 5 t8 t17 w3 fun w4 =>
      lenlW v1 fun t20 =>
      binW .geq (s1.getD 0 undef) t20 fun t21 =>
      condW t21 (
        K (.int .i64 1) w4) (
        ixaW none 5 v1 (s1.getD 0 undef) fun t24 =>
        ldW true 5 t24 w4 fun t25 =>
        allocW 49 [(.int .i64 0), (.bool false), (.string (ofL [])), (.slice none 0 0), (.slice none 0 0)] w4 fun t9 w5 =>
        stW 5 t9 t25 w5 fun w6 =>
        ldW true 5 t8 w6 fun t27 =>
        ldW true 5 t9 w6 fun t28 =>
        callV Tryz.prog v2 [t27, t28] w6 fun t29 w7 =>
        binW .neq t29 (.int .i64 0) fun t31 =>
        condW t31 (
          K t29 w7) (
          binW .add (s1.getD 0 undef) (.int .i64 1) fun t33 =>
          L1 [t33] w7))) (
      lenlW v0 fun t35 =>
      lenlW v1 fun t37 =>
      binW .lss t35 t37 fun t38 =>
      condW t38 (
        K (.int .i64 (-1)) w2) (
        K (.int .i64 0) w2))
theorem W136_eq (v0 v1 v2 : Value) (w : World) (K : Value → World → Prop) : funW Tryz.prog Tryz.f136 plan136 [v0, v1, v2] w K = W136 v0 v1 v2 w K := by kernel_rfl
theorem W136_chk : chkFun Tryz.prog Tryz.f136 plan136 3 = true := by kernel_rfl
theorem W136_ok {v0 v1 v2 : Value} {w : World} {K : Value → World → Prop} (h : W136 v0 v1 v2 w K) : callF Tryz.prog 136 [v0, v1, v2] w K :=
  tie Tryz.prog 136 Tryz.f136 plan136 [v0, v1, v2] w K 3 (W136 v0 v1 v2 w K) rfl mixed Tryz.func136 W136_chk (W136_eq v0 v1 v2 w K) Tryz.call136 h

/- slices.IndexFunc___purlin_api.Value_purlin_api.Value_ -/
def plan137 : Plan := { js := [(6, ⟨[8], [4, 5], 8⟩)], ds := [] }
def W137 (v0 v1 : Value) (w : World) (K : Value → World → Prop) : Prop :=
  lenlW v0 fun t7 =>
  LoopW [(.int .i64 0)] w fun s1 _ w2 L1 =>
    binW .lss (s1.getD 0 undef) t7 fun t9 =>
    condW t9 (
      ixaW none 5 v0 (s1.getD 0 undef) fun t14 =>
      ldW true 5 t14 w2 fun t15 =>
      callV Tryz.prog v1 [t15] w2 fun t16 w3 =>
      condW t16 (
        K (s1.getD 0 undef) w3) (
        binW .add (s1.getD 0 undef) (.int .i64 1) fun t18 =>
        L1 [t18] w3)) (
      K (.int .i64 (-1)) w2)
theorem W137_eq (v0 v1 : Value) (w : World) (K : Value → World → Prop) : funW Tryz.prog Tryz.f137 plan137 [v0, v1] w K = W137 v0 v1 w K := by kernel_rfl
theorem W137_chk : chkFun Tryz.prog Tryz.f137 plan137 2 = true := by kernel_rfl
theorem W137_ok {v0 v1 : Value} {w : World} {K : Value → World → Prop} (h : W137 v0 v1 w K) : callF Tryz.prog 137 [v0, v1] w K :=
  tie Tryz.prog 137 Tryz.f137 plan137 [v0, v1] w K 2 (W137 v0 v1 w K) rfl mixed Tryz.func137 W137_chk (W137_eq v0 v1 w K) Tryz.call137 h

/- cmp.isNaN_purlin_api.Kind_ -/
def plan168 : Plan := { js := [], ds := [] }
def W168 (v0 : Value) (w : World) (K : Value → World → Prop) : Prop :=
  binW .neq v0 v0 fun t5 =>
  K t5 w
theorem W168_eq (v0 : Value) (w : World) (K : Value → World → Prop) : funW Tryz.prog Tryz.f168 plan168 [v0] w K = W168 v0 w K := by kernel_rfl
theorem W168_chk : chkFun Tryz.prog Tryz.f168 plan168 1 = true := by kernel_rfl
theorem W168_ok {v0 : Value} {w : World} {K : Value → World → Prop} (h : W168 v0 w K) : callF Tryz.prog 168 [v0] w K :=
  tie Tryz.prog 168 Tryz.f168 plan168 [v0] w K 1 (W168 v0 w K) rfl mixed Tryz.func168 W168_chk (W168_eq v0 w K) Tryz.call168 h

/- cmp.isNaN_int_ -/
def plan169 : Plan := { js := [], ds := [] }
def W169 (v0 : Value) (w : World) (K : Value → World → Prop) : Prop :=
  binW .neq v0 v0 fun t5 =>
  K t5 w
theorem W169_eq (v0 : Value) (w : World) (K : Value → World → Prop) : funW Tryz.prog Tryz.f169 plan169 [v0] w K = W169 v0 w K := by kernel_rfl
theorem W169_chk : chkFun Tryz.prog Tryz.f169 plan169 1 = true := by kernel_rfl
theorem W169_ok {v0 : Value} {w : World} {K : Value → World → Prop} (h : W169 v0 w K) : callF Tryz.prog 169 [v0] w K :=
  tie Tryz.prog 169 Tryz.f169 plan169 [v0] w K 1 (W169 v0 w K) rfl mixed Tryz.func169 W169_chk (W169_eq v0 w K) Tryz.call169 h

/- purlin_num.sum -/
def plan170 : Plan := { js := [], ds := [(18, ⟨[0, 1, 2, 3, 5], [[], [0], [], [], [2, 3], [0, 1, 2, 3, 4], [0, 1, 2, 3, 4, 5], [0, 1, 2, 3, 4, 5, 6]]⟩), (14, ⟨[0, 1, 2, 3, 5], [[], [0], [], [], [2, 3], [0, 1, 2, 3, 4], [0, 1, 2, 3, 4, 5], [0, 1, 2, 3, 4, 5, 6]]⟩), (8, ⟨[0, 1, 2, 3, 5], [[], [0], [], [], [2, 3], [0, 1, 2, 3, 4], [0, 1, 2, 3, 4, 5], [0, 1, 2, 3, 4, 5, 6]]⟩)] }
def W170 (v0 v1 : Value) (w : World) (K : Value → World → Prop) : Prop :=
  boxW 203 v0 w fun t2 w1 =>
  boxW 203 v1 w1 fun t3 w2 =>
  allocW 203 [(.bool false), (.slice none 0 0)] w2 fun t4 w3 =>
  fldW 0 t2 fun t6 =>
  ldW false 1 t6 w3 fun t7 =>
  fldW 0 t3 fun t8 =>
  ldW false 1 t8 w3 fun t9 =>
  eqW .bool false t7 t9 fun t10 =>
  condW t10 (
    fldW 0 t2 fun t11 =>
    ldW false 1 t11 w3.drew fun t12 =>
    ldW true 2 t2 w3.drew fun t13 =>
    ldW true 2 t3 w3.drew fun t14 =>
    callF Tryz.prog 193 [t13, t14] w3.drew fun t15 w4 =>
    (ldW false 1 t11 w4 fun x => x = t12) ∧
    putW [(.bool false), (.slice none 0 0)] [(0, 1, t12), (1, 1, t15)] fun c5 =>
    callF Tryz.prog 194 [(.agg c5.toArray)] w4 fun t17 w6 =>
    stW 2 t4 t17 w6 fun w7 =>
    ldW true 2 t4 w7 fun r8 =>
    K r8 w7) (
    ldW true 2 t2 w3 fun t19 =>
    ldW true 2 t3 w3 fun t20 =>
    callF Tryz.prog 195 [t19, t20] w3 fun t21 w9 =>
    binW .geq t21 (.int .i64 0) fun t22 =>
    condW t22 (
      fldW 0 t2 fun t23 =>
      ldW false 1 t23 w9.drew fun t24 =>
      ldW true 2 t2 w9.drew fun t25 =>
      ldW true 2 t3 w9.drew fun t26 =>
      callF Tryz.prog 196 [t25, t26] w9.drew fun t27 w10 =>
      (ldW false 1 t23 w10 fun x => x = t24) ∧
      putW [(.bool false), (.slice none 0 0)] [(0, 1, t24), (1, 1, t27)] fun c11 =>
      callF Tryz.prog 194 [(.agg c11.toArray)] w10 fun t29 w12 =>
      stW 2 t4 t29 w12 fun w13 =>
      ldW true 2 t4 w13 fun r14 =>
      K r14 w13) (
      fldW 0 t3 fun t30 =>
      ldW false 1 t30 w9.drew fun t31 =>
      ldW true 2 t3 w9.drew fun t32 =>
      ldW true 2 t2 w9.drew fun t33 =>
      callF Tryz.prog 196 [t32, t33] w9.drew fun t34 w15 =>
      (ldW false 1 t30 w15 fun x => x = t31) ∧
      putW [(.bool false), (.slice none 0 0)] [(0, 1, t31), (1, 1, t34)] fun c16 =>
      callF Tryz.prog 194 [(.agg c16.toArray)] w15 fun t36 w17 =>
      stW 2 t4 t36 w17 fun w18 =>
      ldW true 2 t4 w18 fun r19 =>
      K r19 w18))
theorem W170_eq (v0 v1 : Value) (w : World) (K : Value → World → Prop) : funW Tryz.prog Tryz.f170 plan170 [v0, v1] w K = W170 v0 v1 w K := by kernel_rfl
theorem W170_chk : chkFun Tryz.prog Tryz.f170 plan170 2 = true := by kernel_rfl
theorem W170_ok {v0 v1 : Value} {w : World} {K : Value → World → Prop} (h : W170 v0 v1 w K) : callF Tryz.prog 170 [v0, v1] w K :=
  tie Tryz.prog 170 Tryz.f170 plan170 [v0, v1] w K 2 (W170 v0 v1 w K) rfl mixed Tryz.func170 W170_chk (W170_eq v0 v1 w K) Tryz.call170 h

/- purlin_num.read -/
def plan171 : Plan := { js := [(10, ⟨[6], [], 6⟩)], ds := [] }
def W171 (v0 : Value) (w : World) (K : Value → World → Prop) : Prop :=
  allocW 203 [(.bool false), (.slice none 0 0)] w fun t2 w1 =>
  callF Tryz.prog 197 [v0, (.string (ofL [45]))] w1 fun t11 w2 =>
  extW 0 t11 fun t12 =>
  extW 1 t11 fun t13 =>
  putW [(.bool false), (.slice none 0 0)] [(0, 1, t13)] fun c3 =>
  allocW 203 [(.bool false), (.slice none 0 0)] w2 fun t5 w4 =>
  stW 2 t5 (.agg c3.toArray) w4 fun w5 =>
  lensW t12 fun t17 =>
  LoopW [t17] w5 fun s6 _ w7 L6 =>
    binW .gtr (s6.getD 0 undef) (.int .i64 0) fun t19 =>
    condW t19 (
      binW .sub (s6.getD 0 undef) (.int .i64 9) fun t25 =>
      maxW (.int .i64 0) t25 fun t26 =>
      slsW t12 (some t26) (some (s6.getD 0 undef)) fun t28 =>
      callF Tryz.prog 198 [t28, (.int .i64 10), (.int .i64 64)] w7 fun t29 w8 =>
      extW 0 t29 fun t30 =>
      extW 1 t29 fun t31 =>
      fldW 1 t5 fun t32 =>
      ldW false 1 t32 w8 fun t33 =>
      bslW 164 1 [(.int .u64 0)] [(0, 1, t30)] w8 fun t35 w9 =>
      semE Tryz.prog (Builtin.append_ #[201, 201] 201 #[t33, t35]) w9 fun t36 w10 =>
      fldW 1 t5 fun t37 =>
      stW 1 t37 t36 w10 fun w11 =>
      binW .sub (s6.getD 0 undef) (.int .i64 9) fun t21 =>
      L6 [t21] w11) (
      ldW true 2 t5 w7 fun t38 =>
      callF Tryz.prog 194 [t38] w7 fun t39 w12 =>
      stW 2 t2 t39 w12 fun w13 =>
      ldW true 2 t2 w13 fun r14 =>
      K r14 w13)
theorem W171_eq (v0 : Value) (w : World) (K : Value → World → Prop) : funW Tryz.prog Tryz.f171 plan171 [v0] w K = W171 v0 w K := by kernel_rfl
theorem W171_chk : chkFun Tryz.prog Tryz.f171 plan171 1 = true := by kernel_rfl
theorem W171_ok {v0 : Value} {w : World} {K : Value → World → Prop} (h : W171 v0 w K) : callF Tryz.prog 171 [v0] w K :=
  tie Tryz.prog 171 Tryz.f171 plan171 [v0] w K 1 (W171 v0 w K) rfl mixed Tryz.func171 W171_chk (W171_eq v0 w K) Tryz.call171 h

/- _purlin_num.big_.turned -/
def plan172 : Plan := { js := [], ds := [] }
def W172 (v0 : Value) (w : World) (K : Value → World → Prop) : Prop :=
  boxW 203 v0 w fun t1 w1 =>
  allocW 203 [(.bool false), (.slice none 0 0)] w1 fun t2 w2 =>
  fldW 0 t1 fun t3 =>
  ldW false 1 t3 w2 fun t4 =>
  unW .not t4 fun t5 =>
  fldW 1 t1 fun t6 =>
  ldW false 1 t6 w2 fun t7 =>
  putW [(.bool false), (.slice none 0 0)] [(0, 1, t5), (1, 1, t7)] fun c3 =>
  callF Tryz.prog 194 [(.agg c3.toArray)] w2 fun t9 w4 =>
  stW 2 t2 t9 w4 fun w5 =>
  ldW true 2 t2 w5 fun r6 =>
  K r6 w5
theorem W172_eq (v0 : Value) (w : World) (K : Value → World → Prop) : funW Tryz.prog Tryz.f172 plan172 [v0] w K = W172 v0 w K := by kernel_rfl
theorem W172_chk : chkFun Tryz.prog Tryz.f172 plan172 1 = true := by kernel_rfl
theorem W172_ok {v0 : Value} {w : World} {K : Value → World → Prop} (h : W172 v0 w K) : callF Tryz.prog 172 [v0] w K :=
  tie Tryz.prog 172 Tryz.f172 plan172 [v0] w K 1 (W172 v0 w K) rfl mixed Tryz.func172 W172_chk (W172_eq v0 w K) Tryz.call172 h

/- cmp.Compare_string_ -/
def plan174 : Plan := { js := [], ds := [] }
def W174 (v0 v1 : Value) (w : World) (K : Value → World → Prop) : Prop :=
  callF Tryz.prog 167 [v0] w fun t8 w1 =>
  callF Tryz.prog 167 [v1] w1 fun t10 w2 =>
  condW t8 (
    condW t10 (
      K (.int .i64 0) w2) (
      K (.int .i64 (-1)) w2)) (
    condW t10 (
      K (.int .i64 1) w2) (
      binW .lss v0 v1 fun t16 =>
      condW t16 (
        K (.int .i64 (-1)) w2) (
        binW .gtr v0 v1 fun t19 =>
        condW t19 (
          K (.int .i64 1) w2) (
          K (.int .i64 0) w2))))
theorem W174_eq (v0 v1 : Value) (w : World) (K : Value → World → Prop) : funW Tryz.prog Tryz.f174 plan174 [v0, v1] w K = W174 v0 v1 w K := by kernel_rfl
theorem W174_chk : chkFun Tryz.prog Tryz.f174 plan174 2 = true := by kernel_rfl
theorem W174_ok {v0 v1 : Value} {w : World} {K : Value → World → Prop} (h : W174 v0 v1 w K) : callF Tryz.prog 174 [v0, v1] w K :=
  tie Tryz.prog 174 Tryz.f174 plan174 [v0, v1] w K 2 (W174 v0 v1 w K) rfl mixed Tryz.func174 W174_chk (W174_eq v0 v1 w K) Tryz.call174 h

/- purlin_num.plus -/
def plan193 : Plan := { js := [(27, ⟨[6], [6], 16⟩), (21, ⟨[6], [6], 16⟩), (10, ⟨[5, 6, 15], [5, 6, 7], 15⟩)], ds := [] }
def W193 (v0 v1 : Value) (w : World) (K : Value → World → Prop) : Prop :=
  boxW 203 v0 w fun t2 w1 =>
  boxW 203 v1 w1 fun t3 w2 =>
  fldW 1 t2 fun t8 =>
  ldW false 1 t8 w2 fun t9 =>
  lenlW t9 fun t10 =>
  fldW 1 t3 fun t11 =>
  ldW false 1 t11 w2 fun t12 =>
  lenlW t12 fun t13 =>
  maxW t10 t13 fun t14 =>
  LoopW [(.slice none 0 0), (.int .u64 0), (.int .i64 0)] w2 fun s3 _ w4 L3 =>
    binW .lss (s3.getD 2 undef) t14 fun t16 =>
    condW t16 (
      JoinW (fun J5 =>
        fldW 1 t2 fun t19 =>
        ldW false 1 t19 w4 fun t20 =>
        lenlW t20 fun t21 =>
        binW .lss (s3.getD 2 undef) t21 fun t22 =>
        condW t22 (
          fldW 1 t2 fun t24 =>
          ldW false 1 t24 w4 fun t25 =>
          ixaW none 1 t25 (s3.getD 2 undef) fun t27 =>
          ldW false 1 t27 w4 fun t28 =>
          binW .add (s3.getD 1 undef) t28 fun t29 =>
          J5 [t29] w4) (
          J5 [(s3.getD 1 undef)] w4))
      fun s5 _ w6 =>
      JoinW (fun J7 =>
        fldW 1 t3 fun t31 =>
        ldW false 1 t31 w6 fun t32 =>
        lenlW t32 fun t33 =>
        binW .lss (s3.getD 2 undef) t33 fun t34 =>
        condW t34 (
          fldW 1 t3 fun t36 =>
          ldW false 1 t36 w6 fun t37 =>
          ixaW none 1 t37 (s3.getD 2 undef) fun t39 =>
          ldW false 1 t39 w6 fun t40 =>
          binW .add (s5.getD 0 undef) t40 fun t41 =>
          J7 [t41] w6) (
          J7 [(s5.getD 0 undef)] w6))
      fun s7 _ w8 =>
      binW .rem (s7.getD 0 undef) (.int .u64 1000000000) fun t44 =>
      bslW 164 1 [(.int .u64 0)] [(0, 1, t44)] w8 fun t45 w9 =>
      semE Tryz.prog (Builtin.append_ #[201, 201] 201 #[(s3.getD 0 undef), t45]) w9 fun t46 w10 =>
      binW .quo (s7.getD 0 undef) (.int .u64 1000000000) fun t48 =>
      binW .add (s3.getD 2 undef) (.int .i64 1) fun t49 =>
      L3 [t46, t48, t49] w10) (
      bslW 164 1 [(.int .u64 0)] [(0, 1, (s3.getD 1 undef))] w4 fun t52 w11 =>
      semE Tryz.prog (Builtin.append_ #[201, 201] 201 #[(s3.getD 0 undef), t52]) w11 fun t53 w12 =>
      K t53 w12)
theorem W193_eq (v0 v1 : Value) (w : World) (K : Value → World → Prop) : funW Tryz.prog Tryz.f193 plan193 [v0, v1] w K = W193 v0 v1 w K := by kernel_rfl
theorem W193_chk : chkFun Tryz.prog Tryz.f193 plan193 2 = true := by kernel_rfl
theorem W193_ok {v0 v1 : Value} {w : World} {K : Value → World → Prop} (h : W193 v0 v1 w K) : callF Tryz.prog 193 [v0, v1] w K :=
  tie Tryz.prog 193 Tryz.f193 plan193 [v0, v1] w K 2 (W193 v0 v1 w K) rfl mixed Tryz.func193 W193_chk (W193_eq v0 v1 w K) Tryz.call193 h

/- _purlin_num.big_.trim -/
def plan194 : Plan := { js := [(14007, ⟨[32], [], 29⟩), (7010, ⟨[16], [], 8⟩), (4, ⟨[], [], 3⟩)], ds := [] }
def W194 (v0 : Value) (w : World) (K : Value → World → Prop) : Prop :=
  boxW 203 v0 w fun t1 w1 =>
  allocW 203 [(.bool false), (.slice none 0 0)] w1 fun t2 w2 =>
  LoopW [] w2 fun s3 _ w4 L3 =>
    fldW 1 t1 fun t3 =>
    ldW false 1 t3 w4 fun t4 =>
    lenlW t4 fun t5 =>
    binW .gtr t5 (.int .i64 0) fun t6 =>
    GdW (isB t6 true) [undef] w4 (fun J5 =>
      fldW 1 t1 fun t8 =>
      ldW false 1 t8 w4 fun t9 =>
      fldW 1 t1 fun t10 =>
      ldW false 1 t10 w4 fun t11 =>
      lenlW t11 fun t12 =>
      binW .sub t12 (.int .i64 1) fun t13 =>
      ixaW none 1 t9 t13 fun t14 =>
      ldW false 1 t14 w4 fun t15 =>
      binW .eql t15 (.int .u64 0) fun t16 =>
      J5 [t16] w4)
    fun s5 _ w6 =>
    pickW t6 (s5.getD 0 undef) (.bool false) fun t17 =>
    condW t17 (
      fldW 1 t1 fun t18 =>
      ldW false 1 t18 w6 fun t19 =>
      fldW 1 t1 fun t20 =>
      ldW false 1 t20 w6 fun t21 =>
      lenlW t21 fun t22 =>
      binW .sub t22 (.int .i64 1) fun t23 =>
      sllW 1 t19 none (some t23) none fun t24 =>
      fldW 1 t1 fun t25 =>
      stW 1 t25 t24 w6 fun w7 =>
      L3 [] w7) (
      fldW 0 t1 fun t26 =>
      ldW false 1 t26 w6 fun t27 =>
      GdW (isB t27 true) [undef] w6 (fun J8 =>
        fldW 1 t1 fun t29 =>
        ldW false 1 t29 w6 fun t30 =>
        lenlW t30 fun t31 =>
        binW .gtr t31 (.int .i64 0) fun t32 =>
        J8 [t32] w6)
      fun s8 _ w9 =>
      pickW t27 (s8.getD 0 undef) (.bool false) fun t33 =>
      fldW 0 t1 fun t34 =>
      stW 1 t34 t33 w9 fun w10 =>
      ldW true 2 t1 w10 fun t35 =>
      stW 2 t2 t35 w10 fun w11 =>
      ldW true 2 t2 w11 fun r12 =>
      K r12 w11)
theorem W194_eq (v0 : Value) (w : World) (K : Value → World → Prop) : funW Tryz.prog Tryz.f194 plan194 [v0] w K = W194 v0 w K := by kernel_rfl
theorem W194_chk : chkFun Tryz.prog Tryz.f194 plan194 1 = true := by kernel_rfl
theorem W194_ok {v0 : Value} {w : World} {K : Value → World → Prop} (h : W194 v0 w K) : callF Tryz.prog 194 [v0] w K :=
  tie Tryz.prog 194 Tryz.f194 plan194 [v0] w K 1 (W194 v0 w K) rfl mixed Tryz.func194 W194_chk (W194_eq v0 w K) Tryz.call194 h

/- purlin_num.size -/
def plan195 : Plan := { js := [(16, ⟨[6], [], 4⟩)], ds := [(26, ⟨[0, 1, 2, 3, 4, 5, 6, 7, 8, 9, 11], [[], [0], [], [0, 1, 2], [0, 1, 2, 3], [], [5], [], [5, 6, 7], [5, 6, 7, 8], [0, 1, 2, 3, 4, 5, 6, 7, 8, 9], [0, 1, 2, 3, 4, 5, 6, 7, 8, 9, 10]]⟩)] }
def W195 (v0 v1 : Value) (w : World) (K : Value → World → Prop) : Prop :=
  boxW 203 v0 w fun t2 w1 =>
  boxW 203 v1 w1 fun t3 w2 =>
  fldW 1 t2 fun t8 =>
  ldW false 1 t8 w2 fun t9 =>
  lenlW t9 fun t10 =>
  fldW 1 t3 fun t11 =>
  ldW false 1 t11 w2 fun t12 =>
  lenlW t12 fun t13 =>
  callF Tryz.prog 130 [t10, t13] w2 fun t14 w3 =>
  binW .neq t14 (.int .i64 0) fun t16 =>
  condW t16 (
    K t14 w3) (
    fldW 1 t2 fun t18 =>
    ldW false 1 t18 w3 fun t19 =>
    lenlW t19 fun t20 =>
    binW .sub t20 (.int .i64 1) fun t21 =>
    LoopW [t21] w3 fun s4 _ w5 L4 =>
      binW .geq (s4.getD 0 undef) (.int .i64 0) fun t23 =>
      condW t23 (
        fldW 1 t2 fun t26 =>
        ldW false 1 t26 w5.drew fun t27 =>
        ixaW none 1 t27 (s4.getD 0 undef) fun t29 =>
        ldW false 1 t29 w5.drew fun t30 =>
        fldW 1 t3 fun t31 =>
        ldW false 1 t31 w5.drew fun t32 =>
        ixaW none 1 t32 (s4.getD 0 undef) fun t34 =>
        ldW false 1 t34 w5.drew fun t35 =>
        callF Tryz.prog 209 [t30, t35] w5.drew fun t36 w6 =>
        binW .neq t36 (.int .i64 0) fun t38 =>
        condW t38 (
          K t36 w6) (
          binW .sub (s4.getD 0 undef) (.int .i64 1) fun t25 =>
          L4 [t25] w6)) (
        K (.int .i64 0) w5))
theorem W195_eq (v0 v1 : Value) (w : World) (K : Value → World → Prop) : funW Tryz.prog Tryz.f195 plan195 [v0, v1] w K = W195 v0 v1 w K := by kernel_rfl
theorem W195_chk : chkFun Tryz.prog Tryz.f195 plan195 2 = true := by kernel_rfl
theorem W195_ok {v0 v1 : Value} {w : World} {K : Value → World → Prop} (h : W195 v0 v1 w K) : callF Tryz.prog 195 [v0, v1] w K :=
  tie Tryz.prog 195 Tryz.f195 plan195 [v0, v1] w K 2 (W195 v0 v1 w K) rfl mixed Tryz.func195 W195_chk (W195_eq v0 v1 w K) Tryz.call195 h

/- purlin_num.minus -/
def plan196 : Plan := { js := [(31, ⟨[6, 8], [6, 8], 14⟩), (23, ⟨[9], [9], 14⟩), (10, ⟨[5, 6, 13], [5, 6, 7, 8, 9], 13⟩)], ds := [] }
def W196 (v0 v1 : Value) (w : World) (K : Value → World → Prop) : Prop :=
  boxW 203 v0 w fun t2 w1 =>
  boxW 203 v1 w1 fun t3 w2 =>
  fldW 1 t2 fun t10 =>
  ldW false 1 t10 w2 fun t11 =>
  lenlW t11 fun t12 =>
  LoopW [(.slice none 0 0), (.int .u64 0), (.int .i64 0)] w2 fun s3 _ w4 L3 =>
    binW .lss (s3.getD 2 undef) t12 fun t14 =>
    condW t14 (
      ixaW none 1 t11 (s3.getD 2 undef) fun t16 =>
      ldW false 1 t16 w4 fun t17 =>
      JoinW (fun J5 =>
        fldW 1 t3 fun t20 =>
        ldW false 1 t20 w4 fun t21 =>
        lenlW t21 fun t22 =>
        binW .lss (s3.getD 2 undef) t22 fun t23 =>
        condW t23 (
          fldW 1 t3 fun t25 =>
          ldW false 1 t25 w4 fun t26 =>
          ixaW none 1 t26 (s3.getD 2 undef) fun t28 =>
          ldW false 1 t28 w4 fun t29 =>
          binW .add (s3.getD 1 undef) t29 fun t30 =>
          J5 [t30] w4) (
          J5 [(s3.getD 1 undef)] w4))
      fun s5 _ w6 =>
      JoinW (fun J7 =>
        binW .lss t17 (s5.getD 0 undef) fun t33 =>
        condW t33 (
          binW .add t17 (.int .u64 1000000000) fun t35 =>
          J7 [(.int .u64 1), t35] w6) (
          J7 [(.int .u64 0), t17] w6))
      fun s7 _ w8 =>
      binW .sub (s7.getD 1 undef) (s5.getD 0 undef) fun t39 =>
      bslW 164 1 [(.int .u64 0)] [(0, 1, t39)] w8 fun t40 w9 =>
      semE Tryz.prog (Builtin.append_ #[201, 201] 201 #[(s3.getD 0 undef), t40]) w9 fun t41 w10 =>
      binW .add (s3.getD 2 undef) (.int .i64 1) fun t42 =>
      L3 [t41, (s7.getD 0 undef), t42] w10) (
      K (s3.getD 0 undef) w4)
theorem W196_eq (v0 v1 : Value) (w : World) (K : Value → World → Prop) : funW Tryz.prog Tryz.f196 plan196 [v0, v1] w K = W196 v0 v1 w K := by kernel_rfl
theorem W196_chk : chkFun Tryz.prog Tryz.f196 plan196 2 = true := by kernel_rfl
theorem W196_ok {v0 v1 : Value} {w : World} {K : Value → World → Prop} (h : W196 v0 v1 w K) : callF Tryz.prog 196 [v0, v1] w K :=
  tie Tryz.prog 196 Tryz.f196 plan196 [v0, v1] w K 2 (W196 v0 v1 w K) rfl mixed Tryz.func196 W196_chk (W196_eq v0 v1 w K) Tryz.call196 h

/- strings.CutPrefix -/
def plan197 : Plan := { js := [], ds := [] }
def W197 (v0 v1 : Value) (w : World) (K : Value → World → Prop) : Prop :=
  callF Tryz.prog 210 [v0, v1] w fun t8 w1 =>
  extW 0 t8 fun t9 =>
  extW 1 t8 fun t10 =>
  K (.tuple #[t9, t10]) w1
theorem W197_eq (v0 v1 : Value) (w : World) (K : Value → World → Prop) : funW Tryz.prog Tryz.f197 plan197 [v0, v1] w K = W197 v0 v1 w K := by kernel_rfl
theorem W197_chk : chkFun Tryz.prog Tryz.f197 plan197 2 = true := by kernel_rfl
theorem W197_ok {v0 v1 : Value} {w : World} {K : Value → World → Prop} (h : W197 v0 v1 w K) : callF Tryz.prog 197 [v0, v1] w K :=
  tie Tryz.prog 197 Tryz.f197 plan197 [v0, v1] w K 2 (W197 v0 v1 w K) rfl mixed Tryz.func197 W197_chk (W197_eq v0 v1 w K) Tryz.call197 h

/- cmp.Compare_uint64_ -/
def plan209 : Plan := { js := [], ds := [] }
def W209 (v0 v1 : Value) (w : World) (K : Value → World → Prop) : Prop :=
  callF Tryz.prog 218 [v0] w fun t8 w1 =>
  callF Tryz.prog 218 [v1] w1 fun t10 w2 =>
  condW t8 (
    condW t10 (
      K (.int .i64 0) w2) (
      K (.int .i64 (-1)) w2)) (
    condW t10 (
      K (.int .i64 1) w2) (
      binW .lss v0 v1 fun t16 =>
      condW t16 (
        K (.int .i64 (-1)) w2) (
        binW .gtr v0 v1 fun t19 =>
        condW t19 (
          K (.int .i64 1) w2) (
          K (.int .i64 0) w2))))
theorem W209_eq (v0 v1 : Value) (w : World) (K : Value → World → Prop) : funW Tryz.prog Tryz.f209 plan209 [v0, v1] w K = W209 v0 v1 w K := by kernel_rfl
theorem W209_chk : chkFun Tryz.prog Tryz.f209 plan209 2 = true := by kernel_rfl
theorem W209_ok {v0 v1 : Value} {w : World} {K : Value → World → Prop} (h : W209 v0 v1 w K) : callF Tryz.prog 209 [v0, v1] w K :=
  tie Tryz.prog 209 Tryz.f209 plan209 [v0, v1] w K 2 (W209 v0 v1 w K) rfl mixed Tryz.func209 W209_chk (W209_eq v0 v1 w K) Tryz.call209 h

/- internal_stringslite.CutPrefix -/
def plan210 : Plan := { js := [], ds := [] }
def W210 (v0 v1 : Value) (w : World) (K : Value → World → Prop) : Prop :=
  callF Tryz.prog 80 [v0, v1] w fun t8 w1 =>
  unW .not t8 fun t9 =>
  condW t9 (
    K (.tuple #[v0, (.bool false)]) w1) (
    lensW v1 fun t13 =>
    slsW v0 (some t13) none fun t14 =>
    K (.tuple #[t14, (.bool true)]) w1)
theorem W210_eq (v0 v1 : Value) (w : World) (K : Value → World → Prop) : funW Tryz.prog Tryz.f210 plan210 [v0, v1] w K = W210 v0 v1 w K := by kernel_rfl
theorem W210_chk : chkFun Tryz.prog Tryz.f210 plan210 2 = true := by kernel_rfl
theorem W210_ok {v0 v1 : Value} {w : World} {K : Value → World → Prop} (h : W210 v0 v1 w K) : callF Tryz.prog 210 [v0, v1] w K :=
  tie Tryz.prog 210 Tryz.f210 plan210 [v0, v1] w K 2 (W210 v0 v1 w K) rfl mixed Tryz.func210 W210_chk (W210_eq v0 v1 w K) Tryz.call210 h

/- cmp.isNaN_uint64_ -/
def plan218 : Plan := { js := [], ds := [] }
def W218 (v0 : Value) (w : World) (K : Value → World → Prop) : Prop :=
  binW .neq v0 v0 fun t5 =>
  K t5 w
theorem W218_eq (v0 : Value) (w : World) (K : Value → World → Prop) : funW Tryz.prog Tryz.f218 plan218 [v0] w K = W218 v0 w K := by kernel_rfl
theorem W218_chk : chkFun Tryz.prog Tryz.f218 plan218 1 = true := by kernel_rfl
theorem W218_ok {v0 : Value} {w : World} {K : Value → World → Prop} (h : W218 v0 w K) : callF Tryz.prog 218 [v0] w K :=
  tie Tryz.prog 218 Tryz.f218 plan218 [v0] w K 1 (W218 v0 w K) rfl mixed Tryz.func218 W218_chk (W218_eq v0 w K) Tryz.call218 h

/- purlin_purlinlaw13.DiffChooses -/
def plan4 : Plan := { js := [], ds := [(19, ⟨[0, 1, 2, 3, 4, 5, 7, 8, 9, 10, 11, 12, 14, 15], [[], [0], [], [], [], [4], [0, 1, 2, 3, 4, 5], [], [7], [], [], [], [11], [0, 1, 2, 3, 4, 5, 6, 7, 8, 9, 10, 11, 12], [0, 1, 2, 3, 4, 5, 6, 7, 8, 9, 10, 11, 12, 13], [0, 1, 2, 3, 4, 5, 6, 7, 8, 9, 10, 11, 12, 13, 14]]⟩)] }
def W4 (v0 v1 v2 : Value) (w : World) (K : Value → World → Prop) : Prop :=
  boxW 45 v0 w fun t3 w1 =>
  boxW 49 v1 w1 fun t4 w2 =>
  boxW 49 v2 w2 fun t5 w3 =>
  callF Tryz.prog 12 [] w3 fun t7 w4 =>
  unW .not t7 fun t8 =>
  condW t8 (
    K (.bool false) w4) (
    ldW true 5 t4 w4 fun t9 =>
    ldW true 5 t5 w4 fun t10 =>
    callF Tryz.prog 13 [t9, t10] w4 fun t11 w5 =>
    unW .not t11 fun t12 =>
    condW t12 (
      K (.bool true) w5) (
      ixaW (some 2) 1 t3 (.int .i64 0) fun t13 =>
      ldW false 1 t13 w5.drew fun t14 =>
      ldW true 5 t4 w5.drew fun t15 =>
      ldW true 5 t5 w5.drew fun t16 =>
      ixaW (some 2) 1 t3 (.int .i64 1) fun t17 =>
      ldW false 1 t17 w5.drew fun t18 =>
      ixaW (some 2) 1 t3 (.int .i64 0) fun t20 =>
      ldW false 1 t20 w5.drew fun t21 =>
      ldW true 5 t4 w5.drew fun t22 =>
      ldW true 5 t5 w5.drew fun t23 =>
      ixaW (some 2) 1 t3 (.int .i64 1) fun t24 =>
      ldW false 1 t24 w5.drew fun t25 =>
      callF Tryz.prog 14 [t14, t15, t16, t18] w5.drew fun t19 w6 =>
      (ldW false 1 t24 w6 fun x => x = t25) ∧
      (ldW true 5 t5 w6 fun x => x = t23) ∧
      (ldW true 5 t4 w6 fun x => x = t22) ∧
      (ldW false 1 t20 w6 fun x => x = t21) ∧
      callF Tryz.prog 15 [t21, t22, t23, t25] w6 fun t26 w7 =>
      binW .eql t19 t26 fun t27 =>
      K t27 w7))
theorem W4_eq (v0 v1 v2 : Value) (w : World) (K : Value → World → Prop) : funW Tryz.prog Tryz.f4 plan4 [v0, v1, v2] w K = W4 v0 v1 v2 w K := by kernel_rfl
theorem W4_chk : chkFun Tryz.prog Tryz.f4 plan4 3 = true := by kernel_rfl
theorem W4_ok {v0 v1 v2 : Value} {w : World} {K : Value → World → Prop} (h : W4 v0 v1 v2 w K) : callF Tryz.prog 4 [v0, v1, v2] w K :=
  tie Tryz.prog 4 Tryz.f4 plan4 [v0, v1, v2] w K 3 (W4 v0 v1 v2 w K) rfl mixed Tryz.func4 W4_chk (W4_eq v0 v1 v2 w K) Tryz.call4 h

/- purlin_purlinlaw13.DiffTurned -/
def plan5 : Plan := { js := [(38003, ⟨[36], [], 35⟩), (35, ⟨[7, 8], [7, 8], 21⟩), (24, ⟨[20], [4, 6, 7, 8], 20⟩)], ds := [(46, ⟨[0, 1, 3, 4, 7, 8, 9, 10, 11, 13, 14, 15], [[], [], [0, 1], [], [], [0, 1, 2, 3, 4], [0, 1, 2, 3, 4, 5], [0, 1, 2, 3, 4, 5, 6], [0, 1, 2, 3, 4, 5, 6, 7], [0, 1, 2, 3, 4, 5, 6, 7, 8], [0, 1, 2, 3, 4, 5, 6, 7, 8, 9], [0, 1, 2, 3, 4, 5, 6, 7], [0, 1, 2, 3, 4, 5, 6, 7, 11], [0, 1, 2, 3, 4, 5, 6, 7, 8, 9, 10, 11, 12], [0, 1, 2, 3, 4, 5, 6, 7, 8, 9, 10, 11, 12, 13], [0, 1, 2, 3, 4, 5, 6, 7, 8, 9, 10, 11, 12, 13, 14]]⟩), (36, ⟨[0, 1, 2, 3, 4, 6, 7, 8, 11], [[], [], [], [1, 2], [1, 2, 3], [0, 1, 2, 3, 4], [0, 1, 2, 3, 4, 5], [0, 1, 2, 3, 4, 5, 6], [0, 1, 2, 3, 4, 5, 6], [], [0, 1, 2, 3, 4, 5, 6, 7, 9], [0, 1, 2, 3, 4, 5, 6, 7, 8, 9, 10]]⟩)] }
def W5 (v0 v1 : Value) (w : World) (K : Value → World → Prop) : Prop :=
  boxW 49 v0 w fun t2 w1 =>
  boxW 49 v1 w1 fun t3 w2 =>
  callF Tryz.prog 12 [] w2 fun t9 w3 =>
  unW .not t9 fun t10 =>
  condW t10 (
    K (.bool false) w3) (
    ldW true 5 t2 w3 fun t11 =>
    ldW true 5 t3 w3 fun t12 =>
    callF Tryz.prog 13 [t11, t12] w3 fun t13 w4 =>
    unW .not t13 fun t14 =>
    condW t14 (
      K (.bool true) w4) (
      ldW true 5 t2 w4 fun t15 =>
      ldW true 5 t2 w4 fun t16 =>
      callF Tryz.prog 16 [t15, t16] w4 fun t17 w5 =>
      lenlW t17 fun t19 =>
      LoopW [(.int .i64 0)] w5 fun s6 _ w7 L6 =>
        binW .lss (s6.getD 0 undef) t19 fun t21 =>
        condW t21 (
          JoinW (fun J8 =>
            ldW true 5 t2 w7.drew fun t24 =>
            ixaW none 1 t17 (s6.getD 0 undef) fun t27 =>
            ldW false 1 t27 w7.drew fun t28 =>
            (
             callF Tryz.prog 17 [t24, t28] w7.drew fun t29 w9 =>
             extW 0 t29 fun t30 =>
             extW 1 t29 fun t31 =>
             allocW 49 [(.int .i64 0), (.bool false), (.string (ofL [])), (.slice none 0 0), (.slice none 0 0)] w9 fun t7 w10 =>
             stW 5 t7 t30 w10 fun w11 =>
            J8 [t7, t31] w11) ∧
            (
             allocW 49 [(.int .i64 0), (.bool false), (.string (ofL [])), (.slice none 0 0), (.slice none 0 0)] w7.drew fun t7 w12 =>
             (ldW false 1 t27 w12 fun x => x = t28) ∧
             (ldW true 5 t2 w12 fun x => x = t24) ∧
             callF Tryz.prog 17 [t24, t28] w12 fun t29 w13 =>
             extW 0 t29 fun t30 =>
             extW 1 t29 fun t31 =>
             stW 5 t7 t30 w13 fun w14 =>
            J8 [t7, t31] w14))
          fun s8 _ w15 =>
          unW .not (s8.getD 1 undef) fun t33 =>
          GdW (isB t33 false) [undef] w15 (fun J16 =>
            ldW true 5 (s8.getD 0 undef) w15 fun t35 =>
            callF Tryz.prog 18 [t35] w15 fun t36 w17 =>
            J16 [t36] w17)
          fun s16 _ w18 =>
          pickW t33 (.bool true) (s16.getD 0 undef) fun t37 =>
          condW t37 (
            K (.bool false) w18) (
            binW .add (s6.getD 0 undef) (.int .i64 1) fun t38 =>
            L6 [t38] w18)) (
          ldW true 5 t2 w7.drew fun t39 =>
          ldW true 5 t3 w7.drew fun t40 =>
          ldW true 5 t3 w7.drew fun t42 =>
          ldW true 5 t2 w7.drew fun t43 =>
          callF Tryz.prog 16 [t39, t40] w7.drew fun t41 w19 =>
          (ldW true 5 t2 w19 fun x => x = t43) ∧
          (ldW true 5 t3 w19 fun x => x = t42) ∧
          callF Tryz.prog 16 [t42, t43] w19 fun t44 w20 =>
          callF Tryz.prog 19 [t41, t44] w20 fun t45 w21 =>
          GqW (isB t45 true) (fun k22 => k22 t17) fun t47 =>
          GqW (isB t45 true) (fun k23 => lenlW t47 k23) fun t48 =>
          GqW (isB t45 true) (fun k24 => binW .eql t48 (.int .i64 0) k24) fun t49 =>
          GqW (isB t45 true) (fun k25 => ldW true 5 t2 w21 k25) fun t50 =>
          GeW (isB t45 true) w21 (fun k26 => callF Tryz.prog 18 [t50] w21 k26) fun t51 w27 =>
          GqW (isB t45 true) (fun k28 => eqW .bool false t49 t51 k28) fun t52 =>
          pickW t45 t52 (.bool false) fun t53 =>
          K t53 w27)))
theorem W5_eq (v0 v1 : Value) (w : World) (K : Value → World → Prop) : funW Tryz.prog Tryz.f5 plan5 [v0, v1] w K = W5 v0 v1 w K := by kernel_rfl
theorem W5_chk : chkFun Tryz.prog Tryz.f5 plan5 2 = true := by kernel_rfl
theorem W5_ok {v0 v1 : Value} {w : World} {K : Value → World → Prop} (h : W5 v0 v1 w K) : callF Tryz.prog 5 [v0, v1] w K :=
  tie Tryz.prog 5 Tryz.f5 plan5 [v0, v1] w K 2 (W5 v0 v1 w K) rfl mixed Tryz.func5 W5_chk (W5_eq v0 v1 w K) Tryz.call5 h

/- purlin_purlinlaw13.DiffOne -/
def plan6 : Plan := { js := [(36, ⟨[11], [], 10⟩), (38002, ⟨[59], [], 59⟩), (33005, ⟨[55], [], 53⟩), (20, ⟨[8], [], 8⟩), (18, ⟨[7], [], 4⟩), (12005, ⟨[32], [], 29⟩), (12010, ⟨[26], [], 24⟩), (12015, ⟨[21], [], 19⟩)], ds := [(47, ⟨[0, 1, 3, 6, 7, 8, 9, 10, 11, 12, 13, 14, 16, 18, 19, 20, 21, 22, 23, 25, 26, 28, 29, 30, 31], [[], [], [0, 1], [], [3], [0, 1, 2, 3, 4], [0, 1, 2, 3, 4, 5], [0, 1, 2, 3, 4, 5, 6], [0, 1, 2, 3, 4, 5, 6], [0, 1, 2, 3, 4, 5, 6, 7, 8], [0, 1, 2, 3, 4, 5, 6, 7, 8, 9], [0, 1, 2, 3, 4, 5, 6, 7, 8, 9, 10], [0, 1, 2, 3, 4, 5, 6, 7, 8, 9, 10, 11], [0, 1, 2, 3, 4, 5, 6, 7, 8, 9, 10, 11], [0, 1, 2, 3, 4, 5, 6, 7, 8, 9, 10, 11], [0, 1, 2, 3, 4, 5, 6, 7, 8, 9, 10, 11, 13, 14], [0, 1, 2, 3, 4, 5, 6, 7, 8, 9, 10, 11], [0, 1, 2, 3, 4, 5, 6, 7, 8, 9, 10, 11, 12, 13, 14, 15, 16], [0, 1, 2, 3, 4, 5, 6, 7, 8, 9, 10, 11], [0, 1, 2, 3, 4, 5, 6, 7, 8, 9, 10, 11, 12, 13, 14, 15, 16, 17, 18], [0, 1, 2, 3, 4, 5, 6, 7, 8, 9, 10, 11, 12, 13, 14, 15, 16, 17, 18, 19], [0, 1, 2, 3, 4, 5, 6, 7, 8, 9, 10, 11, 12, 13, 14, 15, 16, 17, 18, 19, 20], [0, 1, 2, 3, 4, 5, 6, 7, 8, 9, 10, 11, 12, 13, 14, 15, 16, 17, 18, 19, 20, 21], [0, 1, 2, 3, 4, 5, 6, 7, 8, 9, 10, 11, 12, 13, 14, 15, 16, 17, 18, 19, 20, 21], [0, 1, 2, 3, 4, 5, 6, 7, 8, 9, 10, 11, 12, 13, 14, 15, 16, 17, 18, 19, 20, 21, 22, 23], [0, 1, 2, 3, 4, 5, 6, 7, 8, 9, 10, 11, 12, 13, 14, 15, 16, 17, 18, 19, 20, 21], [0, 1, 2, 3, 4, 5, 6, 7, 8, 9, 10, 11, 12, 13, 14, 15, 16, 17, 18, 19, 20, 21], [0, 1, 2, 3, 4, 5, 6, 7, 8, 9, 10, 11, 12, 13, 14, 15, 16, 17, 18, 19, 20, 21, 22, 23, 24, 25, 26], [0, 1, 2, 3, 4, 5, 6, 7, 8, 9, 10, 11, 12, 13, 14, 15, 16, 17, 18, 19, 20, 21], [0, 1, 2, 3, 4, 5, 6, 7, 8, 9, 10, 11, 12, 13, 14, 15, 16, 17, 18, 19, 20, 21, 22, 23, 24, 25, 26, 27, 28], [0, 1, 2, 3, 4, 5, 6, 7, 8, 9, 10, 11, 12, 13, 14, 15, 16, 17, 18, 19, 20, 21, 22, 23, 24, 25, 26, 27, 28, 29], [0, 1, 2, 3, 4, 5, 6, 7, 8, 9, 10, 11, 12, 13, 14, 15, 16, 17, 18, 19, 20, 21, 22, 23, 24, 25, 26, 27, 28, 29, 30]]⟩), (21, ⟨[0, 1], [[], [], [], [0, 1, 2], [], [0, 1, 2, 3, 4]]⟩), (19, ⟨[0, 1], [[], [], [], [0, 1, 2], [], [0, 1, 2, 3, 4]]⟩)] }
def W6 (v0 v1 v2 : Value) (w : World) (K : Value → World → Prop) : Prop :=
  boxW 49 v0 w fun t3 w1 =>
  callF Tryz.prog 12 [] w1 fun t12 w2 =>
  unW .not t12 fun t13 =>
  condW t13 (
    K (.bool false) w2) (
    ldW true 5 t3 w2 fun t14 =>
    ldW true 5 t3 w2 fun t15 =>
    callF Tryz.prog 13 [t14, t15] w2 fun t16 w3 =>
    unW .not t16 fun t17 =>
    GdW (isB t17 false) [undef] w3 (fun J4 =>
      ldW true 5 t3 w3 fun t19 =>
      callF Tryz.prog 18 [t19] w3 fun t20 w5 =>
      unW .not t20 fun t21 =>
      J4 [t21] w5)
    fun s4 _ w6 =>
    pickW t17 (.bool true) (s4.getD 0 undef) fun t22 =>
    GdW (isB t22 false) [undef] w6 (fun J7 =>
      lensW v1 fun t25 =>
      binW .gtr t25 (.int .i64 1000) fun t26 =>
      J7 [t26] w6)
    fun s7 _ w8 =>
    pickW t22 (.bool true) (s7.getD 0 undef) fun t27 =>
    GdW (isB t27 false) [undef] w8 (fun J9 =>
      fldW 4 t3 fun t29 =>
      ldW false 1 t29 w8 fun t30 =>
      lenlW t30 fun t31 =>
      binW .gtr t31 (.int .i64 1000) fun t32 =>
      J9 [t32] w8)
    fun s9 _ w10 =>
    pickW t27 (.bool true) (s9.getD 0 undef) fun t33 =>
    condW t33 (
      K (.bool true) w10) (
      JoinW (fun J11 =>
        ldW true 5 t3 w10.drew fun t34 =>
        (
         callF Tryz.prog 21 [(.string (ofL [111, 110, 101]))] w10.drew fun t36 w12 =>
         (ldW true 5 t3 w12 fun x => x = t34) ∧
         (
          callF Tryz.prog 20 [t34, v1, t36] w12 fun t37 w13 =>
          allocW 49 [(.int .i64 0), (.bool false), (.string (ofL [])), (.slice none 0 0), (.slice none 0 0)] w13 fun t7 w14 =>
          stW 5 t7 t37 w14 fun w15 =>
        J11 [t7] w15) ∧
         (
          allocW 49 [(.int .i64 0), (.bool false), (.string (ofL [])), (.slice none 0 0), (.slice none 0 0)] w12 fun t7 w16 =>
          (ldW true 5 t3 w16 fun x => x = t34) ∧
          callF Tryz.prog 20 [t34, v1, t36] w16 fun t37 w17 =>
          stW 5 t7 t37 w17 fun w18 =>
        J11 [t7] w18)) ∧
        (
         allocW 49 [(.int .i64 0), (.bool false), (.string (ofL [])), (.slice none 0 0), (.slice none 0 0)] w10.drew fun t7 w19 =>
         (ldW true 5 t3 w19 fun x => x = t34) ∧
         callF Tryz.prog 21 [(.string (ofL [111, 110, 101]))] w19 fun t36 w20 =>
         (ldW true 5 t3 w20 fun x => x = t34) ∧
         callF Tryz.prog 20 [t34, v1, t36] w20 fun t37 w21 =>
         stW 5 t7 t37 w21 fun w22 =>
        J11 [t7] w22))
      fun s11 _ w23 =>
      JoinW (fun J24 =>
        ldW true 5 t3 w23.drew fun t38 =>
        (
         callF Tryz.prog 21 [(.string (ofL [116, 119, 111]))] w23.drew fun t40 w25 =>
         (ldW true 5 t3 w25 fun x => x = t38) ∧
         (
          callF Tryz.prog 20 [t38, v1, t40] w25 fun t41 w26 =>
          allocW 49 [(.int .i64 0), (.bool false), (.string (ofL [])), (.slice none 0 0), (.slice none 0 0)] w26 fun t8 w27 =>
          stW 5 t8 t41 w27 fun w28 =>
        J24 [t8] w28) ∧
         (
          allocW 49 [(.int .i64 0), (.bool false), (.string (ofL [])), (.slice none 0 0), (.slice none 0 0)] w25 fun t8 w29 =>
          (ldW true 5 t3 w29 fun x => x = t38) ∧
          callF Tryz.prog 20 [t38, v1, t40] w29 fun t41 w30 =>
          stW 5 t8 t41 w30 fun w31 =>
        J24 [t8] w31)) ∧
        (
         allocW 49 [(.int .i64 0), (.bool false), (.string (ofL [])), (.slice none 0 0), (.slice none 0 0)] w23.drew fun t8 w32 =>
         (ldW true 5 t3 w32 fun x => x = t38) ∧
         callF Tryz.prog 21 [(.string (ofL [116, 119, 111]))] w32 fun t40 w33 =>
         (ldW true 5 t3 w33 fun x => x = t38) ∧
         callF Tryz.prog 20 [t38, v1, t40] w33 fun t41 w34 =>
         stW 5 t8 t41 w34 fun w35 =>
        J24 [t8] w35))
      fun s24 _ w36 =>
      ldW true 5 (s11.getD 0 undef) w36 fun t42 =>
      callF Tryz.prog 22 [t42] w36 fun t43 w37 =>
      unW .not t43 fun t44 =>
      condW t44 (
        K (.bool true) w37) (
        ldW true 5 (s11.getD 0 undef) w37 fun t45 =>
        ldW true 5 (s24.getD 0 undef) w37 fun t46 =>
        callF Tryz.prog 14 [(.bool true), t45, t46, v2] w37 fun t48 w38 =>
        lensW v1 fun t50 =>
        binW .gtr t50 (.int .i64 3) fun t51 =>
        GdW (isB t51 true) [undef] w38 (fun J39 =>
          slsW v1 none (some (.int .i64 4)) fun t54 =>
          binW .eql t54 (.string (ofL [110, 101, 119, 95])) fun t55 =>
          J39 [t55] w38)
        fun s39 _ w40 =>
        pickW t51 (s39.getD 0 undef) (.bool false) fun t56 =>
        JoinW (fun J41 =>
          GdW (isB t56 true) [undef] w40 (fun J42 =>
            J42 [v2] w40)
          fun s42 _ w43 =>
          pickW t56 (s42.getD 0 undef) (.bool false) fun t60 =>
          condW t60 (
            J41 [(.int .i64 4)] w43) (
            condW t56 (
              J41 [(.int .i64 3)] w43) (
              J41 [(.int .i64 2)] w43)))
        fun s41 _ w44 =>
        ldW true 5 (s11.getD 0 undef) w44.drew fun t62 =>
        ldW true 5 (s24.getD 0 undef) w44.drew fun t63 =>
        (
         callF Tryz.prog 16 [t62, t63] w44.drew fun t64 w45 =>
         bslW 9 1 [(.string (ofL []))] [(0, 1, v1)] w45 fun t66 w46 =>
         callF Tryz.prog 19 [t64, t66] w46 fun t67 w47 =>
         GqW (isB t67 true) (fun k48 => k48 t48) fun t69 =>
         GqW (isB t67 true) (fun k49 => k49 (s41.getD 0 undef)) fun t70 =>
         GqW (isB t67 true) (fun k50 => binW .eql t69 t70 k50) fun t71 =>
         pickW t67 t71 (.bool false) fun t72 =>
         GqW (isB t72 true) (fun k51 => ldW true 5 (s11.getD 0 undef) w47 k51) fun t74 =>
         GqW (isB t72 true) (fun k52 => ldW true 5 (s24.getD 0 undef) w47 k52) fun t75 =>
         GqW (isB t72 true) (fun k53 => k53 v1) fun t76 =>
         GqW (isB t72 true) (fun k54 => k54 v2) fun t78 =>
         GqW (isB t72 true) (fun k55 => k55 (s41.getD 0 undef)) fun t80 =>
         GeW (isB t72 true) w47 (fun k56 => callF Tryz.prog 23 [t75, t76] w47 k56) fun t77 w57 =>
         ((isB t72 true) = true → ldW true 5 (s11.getD 0 undef) w57 fun x => x = t74) ∧
         GeW (isB t72 true) w57 (fun k58 => callF Tryz.prog 14 [(.bool true), t74, t77, t78] w57 k58) fun t79 w59 =>
         GqW (isB t72 true) (fun k60 => binW .eql t79 t80 k60) fun t81 =>
         pickW t72 t81 (.bool false) fun t82 =>
         GqW (isB t82 true) (fun k61 => ldW true 5 (s11.getD 0 undef) w59 k61) fun t84 =>
         GqW (isB t82 true) (fun k62 => k62 v1) fun t85 =>
         GqW (isB t82 true) (fun k63 => ldW true 5 (s24.getD 0 undef) w59 k63) fun t87 =>
         GqW (isB t82 true) (fun k64 => k64 v2) fun t88 =>
         GqW (isB t82 true) (fun k65 => k65 (s41.getD 0 undef)) fun t90 =>
         GeW (isB t82 true) w59 (fun k66 => callF Tryz.prog 23 [t84, t85] w59 k66) fun t86 w67 =>
         ((isB t82 true) = true → ldW true 5 (s24.getD 0 undef) w67 fun x => x = t87) ∧
         GeW (isB t82 true) w67 (fun k68 => callF Tryz.prog 14 [(.bool true), t86, t87, t88] w67 k68) fun t89 w69 =>
         GqW (isB t82 true) (fun k70 => binW .eql t89 t90 k70) fun t91 =>
         pickW t82 t91 (.bool false) fun t92 =>
        K t92 w69) ∧
        (
         bslW 9 1 [(.string (ofL []))] [(0, 1, v1)] w44.drew fun t66 w71 =>
         (ldW true 5 (s24.getD 0 undef) w71 fun x => x = t63) ∧
         (ldW true 5 (s11.getD 0 undef) w71 fun x => x = t62) ∧
         callF Tryz.prog 16 [t62, t63] w71 fun t64 w72 =>
         callF Tryz.prog 19 [t64, t66] w72 fun t67 w73 =>
         GqW (isB t67 true) (fun k74 => k74 t48) fun t69 =>
         GqW (isB t67 true) (fun k75 => k75 (s41.getD 0 undef)) fun t70 =>
         GqW (isB t67 true) (fun k76 => binW .eql t69 t70 k76) fun t71 =>
         pickW t67 t71 (.bool false) fun t72 =>
         GqW (isB t72 true) (fun k77 => ldW true 5 (s11.getD 0 undef) w73 k77) fun t74 =>
         GqW (isB t72 true) (fun k78 => ldW true 5 (s24.getD 0 undef) w73 k78) fun t75 =>
         GqW (isB t72 true) (fun k79 => k79 v1) fun t76 =>
         GqW (isB t72 true) (fun k80 => k80 v2) fun t78 =>
         GqW (isB t72 true) (fun k81 => k81 (s41.getD 0 undef)) fun t80 =>
         GeW (isB t72 true) w73 (fun k82 => callF Tryz.prog 23 [t75, t76] w73 k82) fun t77 w83 =>
         ((isB t72 true) = true → ldW true 5 (s11.getD 0 undef) w83 fun x => x = t74) ∧
         GeW (isB t72 true) w83 (fun k84 => callF Tryz.prog 14 [(.bool true), t74, t77, t78] w83 k84) fun t79 w85 =>
         GqW (isB t72 true) (fun k86 => binW .eql t79 t80 k86) fun t81 =>
         pickW t72 t81 (.bool false) fun t82 =>
         GqW (isB t82 true) (fun k87 => ldW true 5 (s11.getD 0 undef) w85 k87) fun t84 =>
         GqW (isB t82 true) (fun k88 => k88 v1) fun t85 =>
         GqW (isB t82 true) (fun k89 => ldW true 5 (s24.getD 0 undef) w85 k89) fun t87 =>
         GqW (isB t82 true) (fun k90 => k90 v2) fun t88 =>
         GqW (isB t82 true) (fun k91 => k91 (s41.getD 0 undef)) fun t90 =>
         GeW (isB t82 true) w85 (fun k92 => callF Tryz.prog 23 [t84, t85] w85 k92) fun t86 w93 =>
         ((isB t82 true) = true → ldW true 5 (s24.getD 0 undef) w93 fun x => x = t87) ∧
         GeW (isB t82 true) w93 (fun k94 => callF Tryz.prog 14 [(.bool true), t86, t87, t88] w93 k94) fun t89 w95 =>
         GqW (isB t82 true) (fun k96 => binW .eql t89 t90 k96) fun t91 =>
         pickW t82 t91 (.bool false) fun t92 =>
        K t92 w95))))
theorem W6_eq (v0 v1 v2 : Value) (w : World) (K : Value → World → Prop) : funW Tryz.prog Tryz.f6 plan6 [v0, v1, v2] w K = W6 v0 v1 v2 w K := by kernel_rfl
theorem W6_chk : chkFun Tryz.prog Tryz.f6 plan6 3 = true := by kernel_rfl
theorem W6_ok {v0 v1 v2 : Value} {w : World} {K : Value → World → Prop} (h : W6 v0 v1 v2 w K) : callF Tryz.prog 6 [v0, v1, v2] w K :=
  tie Tryz.prog 6 Tryz.f6 plan6 [v0, v1, v2] w K 3 (W6 v0 v1 v2 w K) rfl mixed Tryz.func6 W6_chk (W6_eq v0 v1 v2 w K) Tryz.call6 h

/- purlin_purlinlaw13.awake -/
def plan12 : Plan := { js := [(7007, ⟨[30], [], 26⟩), (7013, ⟨[23], [], 20⟩), (7019, ⟨[17], [], 14⟩), (4, ⟨[2], [], 2⟩)], ds := [(5, ⟨[0], [[], [], [0, 1], [], [0, 1, 2, 3]]⟩)] }
def W12 (w : World) (K : Value → World → Prop) : Prop :=
  putW [(.int .i64 0), (.bool false), (.string (ofL [])), (.slice none 0 0), (.slice none 0 0)] [(0, 1, (.int .i64 6))] fun c1 =>
  callF Tryz.prog 39 [(.int .i64 1)] w fun t4 w2 =>
  callF Tryz.prog 20 [(.agg c1.toArray), (.string (ofL [97])), t4] w2 fun t5 w3 =>
  allocW 49 [(.int .i64 0), (.bool false), (.string (ofL [])), (.slice none 0 0), (.slice none 0 0)] w3 fun t1 w4 =>
  stW 5 t1 t5 w4 fun w5 =>
  JoinW (fun J6 =>
    ldW true 5 t1 w5.drew fun t6 =>
    (
     callF Tryz.prog 39 [(.int .i64 1)] w5.drew fun t7 w7 =>
     (ldW true 5 t1 w7 fun x => x = t6) ∧
     (
      callF Tryz.prog 20 [t6, (.string (ofL [110, 101, 119, 95, 98])), t7] w7 fun t8 w8 =>
      allocW 49 [(.int .i64 0), (.bool false), (.string (ofL [])), (.slice none 0 0), (.slice none 0 0)] w8 fun t2 w9 =>
      stW 5 t2 t8 w9 fun w10 =>
    J6 [t2] w10) ∧
     (
      allocW 49 [(.int .i64 0), (.bool false), (.string (ofL [])), (.slice none 0 0), (.slice none 0 0)] w7 fun t2 w11 =>
      (ldW true 5 t1 w11 fun x => x = t6) ∧
      callF Tryz.prog 20 [t6, (.string (ofL [110, 101, 119, 95, 98])), t7] w11 fun t8 w12 =>
      stW 5 t2 t8 w12 fun w13 =>
    J6 [t2] w13)) ∧
    (
     allocW 49 [(.int .i64 0), (.bool false), (.string (ofL [])), (.slice none 0 0), (.slice none 0 0)] w5.drew fun t2 w14 =>
     (ldW true 5 t1 w14 fun x => x = t6) ∧
     callF Tryz.prog 39 [(.int .i64 1)] w14 fun t7 w15 =>
     (ldW true 5 t1 w15 fun x => x = t6) ∧
     callF Tryz.prog 20 [t6, (.string (ofL [110, 101, 119, 95, 98])), t7] w15 fun t8 w16 =>
     stW 5 t2 t8 w16 fun w17 =>
    J6 [t2] w17))
  fun s6 _ w18 =>
  ldW true 5 t1 w18 fun t9 =>
  ldW true 5 t1 w18 fun t10 =>
  callF Tryz.prog 14 [(.bool false), t9, t10, (.bool false)] w18 fun t11 w19 =>
  binW .eql t11 (.int .i64 1) fun t12 =>
  GdW (isB t12 true) [undef] w19 (fun J20 =>
    ldW true 5 t1 w19 fun t14 =>
    ldW true 5 t1 w19 fun t15 =>
    callF Tryz.prog 14 [(.bool true), t14, t15, (.bool true)] w19 fun t16 w21 =>
    binW .eql t16 (.int .i64 0) fun t17 =>
    J20 [t17] w21)
  fun s20 _ w22 =>
  pickW t12 (s20.getD 0 undef) (.bool false) fun t18 =>
  GdW (isB t18 true) [undef] w22 (fun J23 =>
    ldW true 5 t1 w22 fun t20 =>
    ldW true 5 (s6.getD 0 undef) w22 fun t21 =>
    callF Tryz.prog 14 [(.bool true), t20, t21, (.bool true)] w22 fun t22 w24 =>
    binW .eql t22 (.int .i64 4) fun t23 =>
    J23 [t23] w24)
  fun s23 _ w25 =>
  pickW t18 (s23.getD 0 undef) (.bool false) fun t24 =>
  GdW (isB t24 true) [undef] w25 (fun J26 =>
    ldW true 5 t1 w25 fun t26 =>
    ldW true 5 (s6.getD 0 undef) w25 fun t27 =>
    callF Tryz.prog 16 [t26, t27] w25 fun t28 w27 =>
    bslW 9 1 [(.string (ofL []))] [(0, 1, (.string (ofL [110, 101, 119, 95, 98])))] w27 fun t29 w28 =>
    callF Tryz.prog 19 [t28, t29] w28 fun t30 w29 =>
    J26 [t30] w29)
  fun s26 _ w30 =>
  pickW t24 (s26.getD 0 undef) (.bool false) fun t31 =>
  K t31 w30
theorem W12_eq (w : World) (K : Value → World → Prop) : funW Tryz.prog Tryz.f12 plan12 [] w K = W12 w K := by kernel_rfl
theorem W12_chk : chkFun Tryz.prog Tryz.f12 plan12 0 = true := by kernel_rfl
theorem W12_ok {w : World} {K : Value → World → Prop} (h : W12 w K) : callF Tryz.prog 12 [] w K :=
  tie Tryz.prog 12 Tryz.f12 plan12 [] w K 0 (W12 w K) rfl mixed Tryz.func12 W12_chk (W12_eq w K) Tryz.call12 h

/- slices.isNaN_string_ -/
def plan126 : Plan := { js := [], ds := [] }
def W126 (v0 : Value) (w : World) (K : Value → World → Prop) : Prop :=
  binW .neq v0 v0 fun t5 =>
  K t5 w
theorem W126_eq (v0 : Value) (w : World) (K : Value → World → Prop) : funW Tryz.prog Tryz.f126 plan126 [v0] w K = W126 v0 w K := by kernel_rfl
theorem W126_chk : chkFun Tryz.prog Tryz.f126 plan126 1 = true := by kernel_rfl
theorem W126_ok {v0 : Value} {w : World} {K : Value → World → Prop} (h : W126 v0 w K) : callF Tryz.prog 126 [v0] w K :=
  tie Tryz.prog 126 Tryz.f126 plan126 [v0] w K 1 (W126 v0 w K) rfl mixed Tryz.func126 W126_chk (W126_eq v0 w K) Tryz.call126 h

/- strings.TrimPrefix -/
def plan140 : Plan := { js := [], ds := [] }
def W140 (v0 v1 : Value) (w : World) (K : Value → World → Prop) : Prop :=
  callF Tryz.prog 179 [v0, v1] w fun t7 w1 =>
  K t7 w1
theorem W140_eq (v0 v1 : Value) (w : World) (K : Value → World → Prop) : funW Tryz.prog Tryz.f140 plan140 [v0, v1] w K = W140 v0 v1 w K := by kernel_rfl
theorem W140_chk : chkFun Tryz.prog Tryz.f140 plan140 2 = true := by kernel_rfl
theorem W140_ok {v0 v1 : Value} {w : World} {K : Value → World → Prop} (h : W140 v0 v1 w K) : callF Tryz.prog 140 [v0, v1] w K :=
  tie Tryz.prog 140 Tryz.f140 plan140 [v0, v1] w K 2 (W140 v0 v1 w K) rfl mixed Tryz.func140 W140_chk (W140_eq v0 v1 w K) Tryz.call140 h

/- internal_stringslite.TrimPrefix -/
def plan179 : Plan := { js := [], ds := [] }
def W179 (v0 v1 : Value) (w : World) (K : Value → World → Prop) : Prop :=
  callF Tryz.prog 80 [v0, v1] w fun t7 w1 =>
  condW t7 (
    lensW v1 fun t10 =>
    slsW v0 (some t10) none fun t11 =>
    K t11 w1) (
    K v0 w1)
theorem W179_eq (v0 v1 : Value) (w : World) (K : Value → World → Prop) : funW Tryz.prog Tryz.f179 plan179 [v0, v1] w K = W179 v0 v1 w K := by kernel_rfl
theorem W179_chk : chkFun Tryz.prog Tryz.f179 plan179 2 = true := by kernel_rfl
theorem W179_ok {v0 v1 : Value} {w : World} {K : Value → World → Prop} (h : W179 v0 v1 w K) : callF Tryz.prog 179 [v0, v1] w K :=
  tie Tryz.prog 179 Tryz.f179 plan179 [v0, v1] w K 2 (W179 v0 v1 w K) rfl mixed Tryz.func179 W179_chk (W179_eq v0 v1 w K) Tryz.call179 h

/- strings.Compare -/
def plan133 : Plan := { js := [], ds := [] }
def W133 (v0 v1 : Value) (w : World) (K : Value → World → Prop) : Prop :=
  callF Tryz.prog 173 [v0, v1] w fun t7 w1 =>
  K t7 w1
theorem W133_eq (v0 v1 : Value) (w : World) (K : Value → World → Prop) : funW Tryz.prog Tryz.f133 plan133 [v0, v1] w K = W133 v0 v1 w K := by kernel_rfl
theorem W133_chk : chkFun Tryz.prog Tryz.f133 plan133 2 = true := by kernel_rfl
theorem W133_ok {v0 v1 : Value} {w : World} {K : Value → World → Prop} (h : W133 v0 v1 w K) : callF Tryz.prog 133 [v0, v1] w K :=
  tie Tryz.prog 133 Tryz.f133 plan133 [v0, v1] w K 2 (W133 v0 v1 w K) rfl mixed Tryz.func133 W133_chk (W133_eq v0 v1 w K) Tryz.call133 h

/- internal_bytealg.CompareString -/
def plan173 : Plan := { js := [], ds := [] }
def W173 (v0 v1 : Value) (w : World) (K : Value → World → Prop) : Prop :=
  callF Tryz.prog 199 [v0, v1] w fun t7 w1 =>
  K t7 w1
theorem W173_eq (v0 v1 : Value) (w : World) (K : Value → World → Prop) : funW Tryz.prog Tryz.f173 plan173 [v0, v1] w K = W173 v0 v1 w K := by kernel_rfl
theorem W173_chk : chkFun Tryz.prog Tryz.f173 plan173 2 = true := by kernel_rfl
theorem W173_ok {v0 v1 : Value} {w : World} {K : Value → World → Prop} (h : W173 v0 v1 w K) : callF Tryz.prog 173 [v0, v1] w K :=
  tie Tryz.prog 173 Tryz.f173 plan173 [v0, v1] w K 2 (W173 v0 v1 w K) rfl mixed Tryz.func173 W173_chk (W173_eq v0 v1 w K) Tryz.call173 h

/- strconv.ParseUint -/
def plan198 : Plan := { js := [], ds := [] }
def W198 (v0 v1 v2 : Value) (w : World) (K : Value → World → Prop) : Prop :=
  callF Tryz.prog 211 [v0, v1, v2] w fun t14 w1 =>
  extW 0 t14 fun t15 =>
  extW 1 t14 fun t16 =>
  eqQ Tryz.prog .neq 181 false true t16 .nilIface w1 fun t18 =>
  condW t18 (
    callF Tryz.prog 212 [(.string (ofL [80, 97, 114, 115, 101, 85, 105, 110, 116])), v0, v1, v2, t16] w1 fun t24 w2 =>
    K (.tuple #[t15, t24]) w2) (
    K (.tuple #[t15, .nilIface]) w1)
theorem W198_eq (v0 v1 v2 : Value) (w : World) (K : Value → World → Prop) : funW Tryz.prog Tryz.f198 plan198 [v0, v1, v2] w K = W198 v0 v1 v2 w K := by kernel_rfl
theorem W198_chk : chkFun Tryz.prog Tryz.f198 plan198 3 = true := by kernel_rfl
theorem W198_ok {v0 v1 v2 : Value} {w : World} {K : Value → World → Prop} (h : W198 v0 v1 v2 w K) : callF Tryz.prog 198 [v0, v1, v2] w K :=
  tie Tryz.prog 198 Tryz.f198 plan198 [v0, v1, v2] w K 3 (W198 v0 v1 v2 w K) rfl mixed Tryz.func198 W198_chk (W198_eq v0 v1 v2 w K) Tryz.call198 h

/- cmp.Less_string_ -/
def plan121 : Plan := { js := [(3005, ⟨[15], [], 13⟩), (3010, ⟨[10], [], 8⟩)], ds := [] }
def W121 (v0 v1 : Value) (w : World) (K : Value → World → Prop) : Prop :=
  callF Tryz.prog 167 [v0] w fun t6 w1 =>
  GdW (isB t6 true) [undef] w1 (fun J2 =>
    callF Tryz.prog 167 [v1] w1 fun t9 w3 =>
    unW .not t9 fun t10 =>
    J2 [t10] w3)
  fun s2 _ w4 =>
  pickW t6 (s2.getD 0 undef) (.bool false) fun t11 =>
  GdW (isB t11 false) [undef] w4 (fun J5 =>
    binW .lss v0 v1 fun t15 =>
    J5 [t15] w4)
  fun s5 _ w6 =>
  pickW t11 (.bool true) (s5.getD 0 undef) fun t16 =>
  K t16 w6
theorem W121_eq (v0 v1 : Value) (w : World) (K : Value → World → Prop) : funW Tryz.prog Tryz.f121 plan121 [v0, v1] w K = W121 v0 v1 w K := by kernel_rfl
theorem W121_chk : chkFun Tryz.prog Tryz.f121 plan121 2 = true := by kernel_rfl
theorem W121_ok {v0 v1 : Value} {w : World} {K : Value → World → Prop} (h : W121 v0 v1 w K) : callF Tryz.prog 121 [v0, v1] w K :=
  tie Tryz.prog 121 Tryz.f121 plan121 [v0, v1] w K 2 (W121 v0 v1 w K) rfl mixed Tryz.func121 W121_chk (W121_eq v0 v1 w K) Tryz.call121 h

/- cmp.isNaN_string_ -/
def plan167 : Plan := { js := [], ds := [] }
def W167 (v0 : Value) (w : World) (K : Value → World → Prop) : Prop :=
  binW .neq v0 v0 fun t5 =>
  K t5 w
theorem W167_eq (v0 : Value) (w : World) (K : Value → World → Prop) : funW Tryz.prog Tryz.f167 plan167 [v0] w K = W167 v0 w K := by kernel_rfl
theorem W167_chk : chkFun Tryz.prog Tryz.f167 plan167 1 = true := by kernel_rfl
theorem W167_ok {v0 : Value} {w : World} {K : Value → World → Prop} (h : W167 v0 w K) : callF Tryz.prog 167 [v0] w K :=
  tie Tryz.prog 167 Tryz.f167 plan167 [v0] w K 1 (W167 v0 w K) rfl mixed Tryz.func167 W167_chk (W167_eq v0 w K) Tryz.call167 h


end Go.Proofs.YtonblcbpoilndaaGreatDoor
