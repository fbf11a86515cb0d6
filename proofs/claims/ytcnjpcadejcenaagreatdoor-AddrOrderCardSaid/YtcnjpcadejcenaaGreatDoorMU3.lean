/- One plain sentence: weakest preconditions, contracts and plain laws that the claim rests on, text behind text. Conditions: those that each states. -/
import Derived.Test.YtcnjpcadejcenaaGreatDoorMU2
import Derived.Test.YtcnjpcadejcenaaGreatDoorMU1
import Derived.Sort.OwnSorted
import Derived.Lib.AppendZerosOnto
import Derived.Lib.ValidU
import Derived.Recover
set_option linter.all false
set_option linter.unusedSimpArgs false
set_option linter.unusedVariables false
set_option linter.unusedSectionVars false
namespace Go.Proofs.YtcnjpcadejcenaaGreatDoor
open Go Go.Eng
set_option maxRecDepth 100000
variable [HX]
def plan16 : Plan := { js := [], ds := [] }
def W16 (v0 : Value) (w : World) (K : Value → World → Prop) : Prop :=
  boxW 26 v0 w fun t1 w1 =>
  ldW true 5 t1 w1 fun t6 =>
  callF Tryz.prog 42 [t6] w1 fun t7 w2 =>
  unW .not t7 fun t8 =>
  condW t8 (
    K (.tuple #[(.string (ofL [])), (.int .i64 1)]) w2) (
    ldW true 5 t1 w2 fun t10 =>
    callF Tryz.prog 43 [t10] w2 fun t11 w3 =>
    unW .not t11 fun t12 =>
    condW t12 (
      K (.tuple #[(.string (ofL [])), (.int .i64 20)]) w3) (
      ldW true 5 t1 w3 fun t14 =>
      callF Tryz.prog 44 [t14] w3 fun t15 w4 =>
      unW .not t15 fun t16 =>
      condW t16 (
        K (.tuple #[(.string (ofL [])), (.int .i64 31)]) w4) (
        allocW 78 [(.pointer none), (.slice none 0 0)] w4 fun t4 w5 =>
        ldW true 5 t1 w5 fun t17 =>
        callF Tryz.prog 45 [t4, t17] w5 fun t18 w6 =>
        callF Tryz.prog 46 [t4] w6 fun t19 w7 =>
        binW .gtr t19 (.int .i64 65536) fun t20 =>
        condW t20 (
          K (.tuple #[(.string (ofL [])), (.int .i64 3)]) w7) (
          callF Tryz.prog 47 [t4] w7 fun t21 w8 =>
          K (.tuple #[t21, (.int .i64 0)]) w8))))
theorem W16_eq (v0 : Value) (w : World) (K : Value → World → Prop) : funW Tryz.prog Tryz.f16 plan16 [v0] w K = W16 v0 w K := by kernel_rfl
theorem W16_chk : chkFun Tryz.prog Tryz.f16 plan16 1 = true := by kernel_rfl
theorem W16_ok {v0 : Value} {w : World} {K : Value → World → Prop} (h : W16 v0 w K) : callF Tryz.prog 16 [v0] w K :=
  tie Tryz.prog 16 Tryz.f16 plan16 [v0] w K 1 (W16 v0 w K) rfl mixed Tryz.func16 W16_chk (W16_eq v0 w K) Tryz.call16 h
def plan44 : Plan := { js := [(5006, ⟨[20], [], 17⟩), (5013, ⟨[14], [], 10⟩)], ds := [] }
def W44 (v0 : Value) (w : World) (K : Value → World → Prop) : Prop :=
  boxW 26 v0 w fun t1 w1 =>
  fldW 2 t1 fun t5 =>
  ldW false 1 t5 w1 fun t6 =>
  callV Tryz.prog (.func (.func 101) #[] #[]) [t6] w1 fun t7 w2 =>
  unW .not t7 fun t8 =>
  GdW (isB t8 true) [undef] w2 (fun J3 =>
    fldW 4 t1 fun t10 =>
    ldW false 1 t10 w2 fun t11 =>
    callF Tryz.prog 76 [t11, (.func (.func 101) #[] #[])] w2 fun t13 w4 =>
    unW .not t13 fun t14 =>
    J3 [t14] w4)
  fun s3 _ w5 =>
  pickW t8 (s3.getD 0 undef) (.bool false) fun t15 =>
  GdW (isB t15 true) [undef] w5 (fun J6 =>
    fldW 3 t1 fun t17 =>
    ldW false 1 t17 w5 fun t18 =>
    callF Tryz.prog 99 [t18, (.func (.func 103) #[] #[])] w5 fun t19 w7 =>
    unW .not t19 fun t20 =>
    J6 [t20] w7)
  fun s6 _ w8 =>
  pickW t15 (s6.getD 0 undef) (.bool false) fun t21 =>
  K t21 w8
theorem W44_eq (v0 : Value) (w : World) (K : Value → World → Prop) : funW Tryz.prog Tryz.f44 plan44 [v0] w K = W44 v0 w K := by kernel_rfl
theorem W44_chk : chkFun Tryz.prog Tryz.f44 plan44 1 = true := by kernel_rfl
theorem W44_ok {v0 : Value} {w : World} {K : Value → World → Prop} (h : W44 v0 w K) : callF Tryz.prog 44 [v0] w K :=
  tie Tryz.prog 44 Tryz.f44 plan44 [v0] w K 1 (W44 v0 w K) rfl mixed Tryz.func44 W44_chk (W44_eq v0 w K) Tryz.call44 h
def plan45 : Plan := { js := [(70, ⟨[], [], 63⟩), (59, ⟨[62], [6, 7], 62⟩), (41, ⟨[], [], 41⟩), (30, ⟨[40], [4, 5], 40⟩)], ds := [] }
def W45 (v0 v1 : Value) (w : World) (K : Value → World → Prop) : Prop :=
  boxW 26 v1 w fun t3 w1 =>
  fldW 0 t3 fun t8 =>
  ldW false 1 t8 w1 fun t9 =>
  binW .eql t9 (.int .i64 0) fun t11 =>
  condW t11 (
    callF Tryz.prog 78 [v0, (.string (ofL [110, 117, 108, 108]))] w1 fun t13 w2 =>
    K (.tuple #[]) w2) (
    binW .eql t9 (.int .i64 2) fun t15 =>
    condW t15 (
      fldW 1 t3 fun t17 =>
      ldW false 1 t17 w1 fun t18 =>
      callF Tryz.prog 104 [t18] w1 fun t19 w3 =>
      callF Tryz.prog 78 [v0, t19] w3 fun t20 w4 =>
      K (.tuple #[]) w4) (
      binW .eql t9 (.int .i64 3) fun t22 =>
      condW t22 (
        fldW 2 t3 fun t24 =>
        ldW false 1 t24 w1 fun t25 =>
        callF Tryz.prog 78 [v0, t25] w1 fun t26 w5 =>
        K (.tuple #[]) w5) (
        binW .eql t9 (.int .i64 4) fun t28 =>
        condW t28 (
          fldW 2 t3 fun t30 =>
          ldW false 1 t30 w1 fun t31 =>
          callF Tryz.prog 105 [v0, t31] w1 fun t32 w6 =>
          K (.tuple #[]) w6) (
          binW .eql t9 (.int .i64 5) fun t34 =>
          condW t34 (
            callF Tryz.prog 80 [v0, (.int .u8 91)] w1 fun t36 w7 =>
            fldW 3 t3 fun t37 =>
            ldW false 1 t37 w7 fun t38 =>
            lenlW t38 fun t39 =>
            LoopW [(.int .i64 0)] w7 fun s8 _ w9 L8 =>
              binW .lss (s8.getD 0 undef) t39 fun t41 =>
              condW t41 (
                ixaW none 5 t38 (s8.getD 0 undef) fun t43 =>
                ldW true 5 t43 w9 fun t44 =>
                allocW 26 [(.int .i64 0), (.bool false), (.string (ofL [])), (.slice none 0 0), (.slice none 0 0)] w9 fun t5 w10 =>
                stW 5 t5 t44 w10 fun w11 =>
                JoinW (fun J12 =>
                  binW .gtr (s8.getD 0 undef) (.int .i64 0) fun t46 =>
                  condW t46 (
                    callF Tryz.prog 80 [v0, (.int .u8 44)] w11 fun t48 w13 =>
                    J12 [] w13) (
                    J12 [] w11))
                fun s12 _ w14 =>
                ldW true 5 t5 w14 fun t50 =>
                callF Tryz.prog 45 [v0, t50] w14 fun t51 w15 =>
                binW .add (s8.getD 0 undef) (.int .i64 1) fun t52 =>
                L8 [t52] w15) (
                callF Tryz.prog 80 [v0, (.int .u8 93)] w9 fun t54 w16 =>
                K (.tuple #[]) w16)) (
            binW .eql t9 (.int .i64 6) fun t56 =>
            condW t56 (
              callF Tryz.prog 80 [v0, (.int .u8 123)] w1 fun t58 w17 =>
              fldW 3 t3 fun t59 =>
              ldW false 1 t59 w17 fun t60 =>
              lenlW t60 fun t61 =>
              LoopW [(.int .i64 0)] w17 fun s18 _ w19 L18 =>
                binW .lss (s18.getD 0 undef) t61 fun t63 =>
                condW t63 (
                  ixaW none 5 t60 (s18.getD 0 undef) fun t65 =>
                  ldW true 5 t65 w19 fun t66 =>
                  allocW 26 [(.int .i64 0), (.bool false), (.string (ofL [])), (.slice none 0 0), (.slice none 0 0)] w19 fun t7 w20 =>
                  stW 5 t7 t66 w20 fun w21 =>
                  JoinW (fun J22 =>
                    binW .gtr (s18.getD 0 undef) (.int .i64 0) fun t68 =>
                    condW t68 (
                      callF Tryz.prog 80 [v0, (.int .u8 44)] w21 fun t70 w23 =>
                      J22 [] w23) (
                      J22 [] w21))
                  fun s22 _ w24 =>
                  fldW 4 t3 fun t72 =>
                  ldW false 1 t72 w24 fun t73 =>
                  ixaW none 1 t73 (s18.getD 0 undef) fun t75 =>
                  ldW false 1 t75 w24 fun t76 =>
                  callF Tryz.prog 105 [v0, t76] w24 fun t77 w25 =>
                  callF Tryz.prog 80 [v0, (.int .u8 58)] w25 fun t79 w26 =>
                  ldW true 5 t7 w26 fun t81 =>
                  callF Tryz.prog 45 [v0, t81] w26 fun t82 w27 =>
                  binW .add (s18.getD 0 undef) (.int .i64 1) fun t83 =>
                  L18 [t83] w27) (
                  callF Tryz.prog 80 [v0, (.int .u8 125)] w19 fun t85 w28 =>
                  K (.tuple #[]) w28)) (
              K (.tuple #[]) w1))))))
theorem W45_eq (v0 v1 : Value) (w : World) (K : Value → World → Prop) : funW Tryz.prog Tryz.f45 plan45 [v0, v1] w K = W45 v0 v1 w K := by kernel_rfl
theorem W45_chk : chkFun Tryz.prog Tryz.f45 plan45 2 = true := by kernel_rfl
theorem W45_ok {v0 v1 : Value} {w : World} {K : Value → World → Prop} (h : W45 v0 v1 w K) : callF Tryz.prog 45 [v0, v1] w K :=
  tie Tryz.prog 45 Tryz.f45 plan45 [v0, v1] w K 2 (W45 v0 v1 w K) rfl mixed Tryz.func45 W45_chk (W45_eq v0 v1 w K) Tryz.call45 h
def plan82 : Plan := { js := [(6, ⟨[3], [], 1⟩)], ds := [] }
def W82 (v0 : Value) (w : World) (K : Value → World → Prop) : Prop :=
  LoopW [(.int .i64 0)] w fun s1 _ w2 L1 =>
    lensW v0 fun t7 =>
    binW .lss (s1.getD 0 undef) t7 fun t8 =>
    condW t8 (
      callF Tryz.prog 127 [v0, (s1.getD 0 undef)] w2 fun t11 w3 =>
      binW .eql t11 (.int .i64 0) fun t13 =>
      condW t13 (
        K (s1.getD 0 undef) w3) (
        binW .add (s1.getD 0 undef) t11 fun t17 =>
        L1 [t17] w3)) (
      K (.int .i64 (-1)) w2)
theorem W82_eq (v0 : Value) (w : World) (K : Value → World → Prop) : funW Tryz.prog Tryz.f82 plan82 [v0] w K = W82 v0 w K := by kernel_rfl
theorem W82_chk : chkFun Tryz.prog Tryz.f82 plan82 1 = true := by kernel_rfl
theorem W82_ok {v0 : Value} {w : World} {K : Value → World → Prop} (h : W82 v0 w K) : callF Tryz.prog 82 [v0] w K :=
  tie Tryz.prog 82 Tryz.f82 plan82 [v0] w K 1 (W82 v0 w K) rfl mixed Tryz.func82 W82_chk (W82_eq v0 w K) Tryz.call82 h
def plan83 : Plan := { js := [(15, ⟨[3], [3], 5⟩), (22, ⟨[32], [], 17⟩), (8, ⟨[3, 4], [], 1⟩)], ds := [] }
def W83 (v0 : Value) (w : World) (K : Value → World → Prop) : Prop :=
  bslW 5 1 [(.int .u8 0)] [(0, 1, (.int .u8 34))] w fun t6 w1 =>
  LoopW [t6, (.int .i64 0)] w1 fun s2 _ w3 L2 =>
    lensW v0 fun t9 =>
    binW .lss (s2.getD 1 undef) t9 fun t10 =>
    condW t10 (
      JoinW (fun J4 =>
        ixsW v0 (s2.getD 1 undef) fun t15 =>
        JoinW (fun J5 =>
          binW .eql t15 (.int .u8 34) fun t33 =>
          condW t33 (
            J5 [t33] w3) (
            binW .eql t15 (.int .u8 92) fun t34 =>
            J5 [t34] w3))
        fun s5 _ w6 =>
        condW (s5.getD 0 undef) (
          bslW 5 2 [(.int .u8 0), (.int .u8 0)] [(0, 1, (.int .u8 92)), (1, 1, t15)] w6 fun t37 w7 =>
          semE Tryz.prog (Builtin.append_ #[44, 44] 44 #[(s2.getD 0 undef), t37]) w7 fun t38 w8 =>
          J4 [t38] w8) (
          binW .eql t15 (.int .u8 8) fun t40 =>
          condW t40 (
            bslW 5 2 [(.int .u8 0), (.int .u8 0)] [(0, 1, (.int .u8 92)), (1, 1, (.int .u8 98))] w6 fun t42 w9 =>
            semE Tryz.prog (Builtin.append_ #[44, 44] 44 #[(s2.getD 0 undef), t42]) w9 fun t43 w10 =>
            J4 [t43] w10) (
            binW .eql t15 (.int .u8 12) fun t45 =>
            condW t45 (
              bslW 5 2 [(.int .u8 0), (.int .u8 0)] [(0, 1, (.int .u8 92)), (1, 1, (.int .u8 102))] w6 fun t47 w11 =>
              semE Tryz.prog (Builtin.append_ #[44, 44] 44 #[(s2.getD 0 undef), t47]) w11 fun t48 w12 =>
              J4 [t48] w12) (
              binW .eql t15 (.int .u8 10) fun t50 =>
              condW t50 (
                bslW 5 2 [(.int .u8 0), (.int .u8 0)] [(0, 1, (.int .u8 92)), (1, 1, (.int .u8 110))] w6 fun t52 w13 =>
                semE Tryz.prog (Builtin.append_ #[44, 44] 44 #[(s2.getD 0 undef), t52]) w13 fun t53 w14 =>
                J4 [t53] w14) (
                binW .eql t15 (.int .u8 13) fun t55 =>
                condW t55 (
                  bslW 5 2 [(.int .u8 0), (.int .u8 0)] [(0, 1, (.int .u8 92)), (1, 1, (.int .u8 114))] w6 fun t57 w15 =>
                  semE Tryz.prog (Builtin.append_ #[44, 44] 44 #[(s2.getD 0 undef), t57]) w15 fun t58 w16 =>
                  J4 [t58] w16) (
                  binW .eql t15 (.int .u8 9) fun t60 =>
                  condW t60 (
                    bslW 5 2 [(.int .u8 0), (.int .u8 0)] [(0, 1, (.int .u8 92)), (1, 1, (.int .u8 116))] w6 fun t62 w17 =>
                    semE Tryz.prog (Builtin.append_ #[44, 44] 44 #[(s2.getD 0 undef), t62]) w17 fun t63 w18 =>
                    J4 [t63] w18) (
                    binW .lss t15 (.int .u8 32) fun t18 =>
                    condW t18 (
                      binW .quo t15 (.int .u8 16) fun t21 =>
                      binW .add (.int .u8 48) t21 fun t22 =>
                      binW .rem t15 (.int .u8 16) fun t24 =>
                      ixsW (.string (ofL [48, 49, 50, 51, 52, 53, 54, 55, 56, 57, 97, 98, 99, 100, 101, 102])) t24 fun t25 =>
                      bslW 5 6 [(.int .u8 0), (.int .u8 0), (.int .u8 0), (.int .u8 0), (.int .u8 0), (.int .u8 0)] [(0, 1, (.int .u8 92)), (1, 1, (.int .u8 117)), (2, 1, (.int .u8 48)), (3, 1, (.int .u8 48)), (4, 1, t22), (5, 1, t25)] w6 fun t26 w19 =>
                      semE Tryz.prog (Builtin.append_ #[44, 44] 44 #[(s2.getD 0 undef), t26]) w19 fun t27 w20 =>
                      J4 [t27] w20) (
                      bslW 5 1 [(.int .u8 0)] [(0, 1, t15)] w6 fun t30 w21 =>
                      semE Tryz.prog (Builtin.append_ #[44, 44] 44 #[(s2.getD 0 undef), t30]) w21 fun t31 w22 =>
                      J4 [t31] w22))))))))
      fun s4 _ w23 =>
      binW .add (s2.getD 1 undef) (.int .i64 1) fun t12 =>
      L2 [(s4.getD 0 undef), t12] w23) (
      bslW 5 1 [(.int .u8 0)] [(0, 1, (.int .u8 34))] w3 fun t65 w24 =>
      semE Tryz.prog (Builtin.append_ #[44, 44] 44 #[(s2.getD 0 undef), t65]) w24 fun t66 w25 =>
      semQ Tryz.prog (convert 44 9 t66) w25 fun t67 =>
      K t67 w25)
theorem W83_eq (v0 : Value) (w : World) (K : Value → World → Prop) : funW Tryz.prog Tryz.f83 plan83 [v0] w K = W83 v0 w K := by kernel_rfl
theorem W83_chk : chkFun Tryz.prog Tryz.f83 plan83 1 = true := by kernel_rfl
theorem W83_ok {v0 : Value} {w : World} {K : Value → World → Prop} (h : W83 v0 w K) : callF Tryz.prog 83 [v0] w K :=
  tie Tryz.prog 83 Tryz.f83 plan83 [v0] w K 1 (W83 v0 w K) rfl mixed Tryz.func83 W83_chk (W83_eq v0 w K) Tryz.call83 h
def plan101 : Plan := { js := [], ds := [] }
def W101 (v0 : Value) (w : World) (K : Value → World → Prop) : Prop :=
  callF Tryz.prog 102 [v0] w fun t4 w1 =>
  unW .not t4 fun t5 =>
  K t5 w1
theorem W101_eq (v0 : Value) (w : World) (K : Value → World → Prop) : funW Tryz.prog Tryz.f101 plan101 [v0] w K = W101 v0 w K := by kernel_rfl
theorem W101_chk : chkFun Tryz.prog Tryz.f101 plan101 1 = true := by kernel_rfl
theorem W101_ok {v0 : Value} {w : World} {K : Value → World → Prop} (h : W101 v0 w K) : callF Tryz.prog 101 [v0] w K :=
  tie Tryz.prog 101 Tryz.f101 plan101 [v0] w K 1 (W101 v0 w K) rfl mixed Tryz.func101 W101_chk (W101_eq v0 w K) Tryz.call101 h
def plan103 : Plan := { js := [], ds := [] }
def W103 (v0 : Value) (w : World) (K : Value → World → Prop) : Prop :=
  boxW 26 v0 w fun t1 w1 =>
  ldW true 5 t1 w1 fun t3 =>
  callF Tryz.prog 44 [t3] w1 fun t4 w2 =>
  unW .not t4 fun t5 =>
  K t5 w2
theorem W103_eq (v0 : Value) (w : World) (K : Value → World → Prop) : funW Tryz.prog Tryz.f103 plan103 [v0] w K = W103 v0 w K := by kernel_rfl
theorem W103_chk : chkFun Tryz.prog Tryz.f103 plan103 1 = true := by kernel_rfl
theorem W103_ok {v0 : Value} {w : World} {K : Value → World → Prop} (h : W103 v0 w K) : callF Tryz.prog 103 [v0] w K :=
  tie Tryz.prog 103 Tryz.f103 plan103 [v0] w K 1 (W103 v0 w K) rfl mixed Tryz.func103 W103_chk (W103_eq v0 w K) Tryz.call103 h
def plan105 : Plan := { js := [(6, ⟨[], [5, 6], 11⟩)], ds := [] }
def W105 (v0 v1 : Value) (w : World) (K : Value → World → Prop) : Prop :=
  callF Tryz.prog 80 [v0, (.int .u8 34)] w fun t8 w1 =>
  semE Tryz.prog (Instr.range 9 v1) w1 fun t10 w2 =>
  LoopW [] w2 fun s3 _ w4 L3 =>
    semE Tryz.prog (Instr.next t10 true 0) w4 fun t11 w5 =>
    extW 0 t11 fun t12 =>
    condW t12 (
      extW 2 t11 fun t13 =>
      callF Tryz.prog 153 [t13] w5 fun t15 w6 =>
      binW .neq t15 (.int .u8 0) fun t21 =>
      condW t21 (
        cvtW .i32 t15 fun t24 =>
        cvsW t24 fun t25 =>
        binW .add (.string (ofL [92])) t25 fun t26 =>
        callF Tryz.prog 78 [v0, t26] w6 fun t27 w7 =>
        L3 [] w7) (
        binW .lss t13 (.int .i32 32) fun t30 =>
        condW t30 (
          cvtW .i64 t13 fun t33 =>
          binW .add t33 (.int .i64 256) fun t34 =>
          callF Tryz.prog 154 [t34, (.int .i64 16)] w6 fun t35 w8 =>
          slsW t35 (some (.int .i64 1)) none fun t36 =>
          binW .add (.string (ofL [92, 117, 48, 48])) t36 fun t37 =>
          callF Tryz.prog 78 [v0, t37] w8 fun t38 w9 =>
          L3 [] w9) (
          callF Tryz.prog 155 [v0, t13] w6 fun t18 w10 =>
          L3 [] w10))) (
      callF Tryz.prog 80 [v0, (.int .u8 34)] w5 fun t40 w11 =>
      K (.tuple #[]) w11)
theorem W105_eq (v0 v1 : Value) (w : World) (K : Value → World → Prop) : funW Tryz.prog Tryz.f105 plan105 [v0, v1] w K = W105 v0 v1 w K := by kernel_rfl
theorem W105_chk : chkFun Tryz.prog Tryz.f105 plan105 2 = true := by kernel_rfl
theorem W105_ok {v0 v1 : Value} {w : World} {K : Value → World → Prop} (h : W105 v0 v1 w K) : callF Tryz.prog 105 [v0, v1] w K :=
  tie Tryz.prog 105 Tryz.f105 plan105 [v0, v1] w K 2 (W105 v0 v1 w K) rfl mixed Tryz.func105 W105_chk (W105_eq v0 v1 w K) Tryz.call105 h
def plan153 : Plan := { js := [(6, ⟨[4], [], 4⟩)], ds := [] }
def W153 (v0 : Value) (w : World) (K : Value → World → Prop) : Prop :=
  JoinW (fun J1 =>
    binW .eql v0 (.int .i32 34) fun t5 =>
    condW t5 (
      J1 [t5] w) (
      binW .eql v0 (.int .i32 92) fun t6 =>
      J1 [t6] w))
  fun s1 _ w2 =>
  condW (s1.getD 0 undef) (
    cvtW .u8 v0 fun t8 =>
    K t8 w2) (
    binW .eql v0 (.int .i32 8) fun t10 =>
    condW t10 (
      K (.int .u8 98) w2) (
      binW .eql v0 (.int .i32 12) fun t12 =>
      condW t12 (
        K (.int .u8 102) w2) (
        binW .eql v0 (.int .i32 10) fun t14 =>
        condW t14 (
          K (.int .u8 110) w2) (
          binW .eql v0 (.int .i32 13) fun t16 =>
          condW t16 (
            K (.int .u8 114) w2) (
            binW .eql v0 (.int .i32 9) fun t18 =>
            condW t18 (
              K (.int .u8 116) w2) (
              K (.int .u8 0) w2))))))
theorem W153_eq (v0 : Value) (w : World) (K : Value → World → Prop) : funW Tryz.prog Tryz.f153 plan153 [v0] w K = W153 v0 w K := by kernel_rfl
theorem W153_chk : chkFun Tryz.prog Tryz.f153 plan153 1 = true := by kernel_rfl
theorem W153_ok {v0 : Value} {w : World} {K : Value → World → Prop} (h : W153 v0 w K) : callF Tryz.prog 153 [v0] w K :=
  tie Tryz.prog 153 Tryz.f153 plan153 [v0] w K 1 (W153 v0 w K) rfl mixed Tryz.func153 W153_chk (W153_eq v0 w K) Tryz.call153 h
def plan42 : Plan := { js := [], ds := [] }
def W42 (v0 : Value) (w : World) (K : Value → World → Prop) : Prop :=
  boxW 26 v0 w fun t1 w1 =>
  allocW 3 [(.int .i64 0)] w1 fun t3 w2 =>
  stW 1 t3 (.int .i64 2000) w2 fun w3 =>
  ldW true 5 t1 w3 fun t4 =>
  callF Tryz.prog 98 [t4, (.int .i64 24), t3] w3 fun t5 w4 =>
  K t5 w4
theorem W42_eq (v0 : Value) (w : World) (K : Value → World → Prop) : funW Tryz.prog Tryz.f42 plan42 [v0] w K = W42 v0 w K := by kernel_rfl
theorem W42_chk : chkFun Tryz.prog Tryz.f42 plan42 1 = true := by kernel_rfl
theorem W42_ok {v0 : Value} {w : World} {K : Value → World → Prop} (h : W42 v0 w K) : callF Tryz.prog 42 [v0] w K :=
  tie Tryz.prog 42 Tryz.f42 plan42 [v0] w K 1 (W42 v0 w K) rfl mixed Tryz.func42 W42_chk (W42_eq v0 w K) Tryz.call42 h
def plan98 : Plan := { js := [(89007, ⟨[130], [], 126⟩), (12, ⟨[], [], 6⟩), (78002, ⟨[119], [], 108⟩), (78010, ⟨[118], [], 111⟩), (78013, ⟨[110], [], 108⟩), (66, ⟨[99], [6, 7, 8], 99⟩), (40010, ⟨[79], [], 72⟩), (34010, ⟨[63], [], 56⟩), (28010, ⟨[48], [], 41⟩), (16, ⟨[33], [], 33⟩), (6002, ⟨[29], [], 23⟩), (6005, ⟨[28], [], 26⟩), (6008, ⟨[25], [], 23⟩), (6014, ⟨[20], [], 17⟩)], ds := [] }
def W98 (v0 v1 v2 : Value) (w : World) (K : Value → World → Prop) : Prop :=
  boxW 26 v0 w fun t3 w1 =>
  boxW 3 v1 w1 fun t4 w2 =>
  boxW 132 v2 w2 fun t5 w3 =>
  ldW false 1 t5 w3 fun t9 =>
  nilW t9 fun t10 =>
  ldW false 1 t10 w3 fun t11 =>
  binW .sub t11 (.int .i64 1) fun t12 =>
  nilW t9 fun t13 =>
  stW 1 t13 t12 w3 fun w4 =>
  ldW false 1 t4 w4 fun t14 =>
  binW .eql t14 (.int .i64 0) fun t15 =>
  GdW (isB t15 false) [undef] w4 (fun J5 =>
    ldW false 1 t5 w4 fun t17 =>
    nilW t17 fun t18 =>
    ldW false 1 t18 w4 fun t19 =>
    binW .lss t19 (.int .i64 0) fun t20 =>
    J5 [t20] w4)
  fun s5 _ w6 =>
  pickW t15 (.bool true) (s5.getD 0 undef) fun t21 =>
  GdW (isB t21 false) [undef] w6 (fun J7 =>
    fldW 1 t3 fun t23 =>
    ldW false 1 t23 w6 fun t24 =>
    J7 [t24] w6)
  fun s7 _ w8 =>
  GdW (isB (s7.getD 0 undef) true) [undef] w8 (fun J9 =>
    fldW 0 t3 fun t26 =>
    ldW false 1 t26 w8 fun t27 =>
    binW .neq t27 (.int .i64 2) fun t28 =>
    J9 [t28] w8)
  fun s9 _ w10 =>
  GdW (isB t21 false) [undef] w10 (fun J11 =>
    pickW (s7.getD 0 undef) (s9.getD 0 undef) (.bool false) fun t29 =>
    J11 [t29] w10)
  fun s11 _ w12 =>
  pickW t21 (.bool true) (s11.getD 0 undef) fun t30 =>
  condW t30 (
    K (.bool false) w12) (
    JoinW (fun J13 =>
      fldW 0 t3 fun t31 =>
      ldW false 1 t31 w12 fun t32 =>
      JoinW (fun J14 =>
        binW .eql t32 (.int .i64 0) fun t34 =>
        condW t34 (
          J14 [t34] w12) (
          binW .eql t32 (.int .i64 1) fun t35 =>
          condW t35 (
            J14 [t35] w12) (
            binW .eql t32 (.int .i64 2) fun t36 =>
            J14 [t36] w12)))
      fun s14 _ w15 =>
      condW (s14.getD 0 undef) (
        fldW 2 t3 fun t37 =>
        ldW false 1 t37 w15 fun t38 =>
        binW .eql t38 (.string (ofL [])) fun t39 =>
        GdW (isB t39 true) [undef] w15 (fun J16 =>
          fldW 3 t3 fun t41 =>
          ldW false 1 t41 w15 fun t42 =>
          lenlW t42 fun t43 =>
          fldW 4 t3 fun t44 =>
          ldW false 1 t44 w15 fun t45 =>
          lenlW t45 fun t46 =>
          binW .add t43 t46 fun t47 =>
          binW .eql t47 (.int .i64 0) fun t48 =>
          J16 [t48] w15)
        fun s16 _ w17 =>
        pickW t39 (s16.getD 0 undef) (.bool false) fun t49 =>
        K t49 w17) (
        binW .eql t32 (.int .i64 3) fun t51 =>
        condW t51 (
          fldW 2 t3 fun t52 =>
          ldW false 1 t52 w15 fun t53 =>
          callF Tryz.prog 148 [t53] w15 fun t54 w18 =>
          GdW (isB t54 true) [undef] w18 (fun J19 =>
            fldW 3 t3 fun t56 =>
            ldW false 1 t56 w18 fun t57 =>
            lenlW t57 fun t58 =>
            fldW 4 t3 fun t59 =>
            ldW false 1 t59 w18 fun t60 =>
            lenlW t60 fun t61 =>
            binW .add t58 t61 fun t62 =>
            binW .eql t62 (.int .i64 0) fun t63 =>
            J19 [t63] w18)
          fun s19 _ w20 =>
          pickW t54 (s19.getD 0 undef) (.bool false) fun t64 =>
          K t64 w20) (
          binW .eql t32 (.int .i64 4) fun t66 =>
          condW t66 (
            fldW 2 t3 fun t67 =>
            ldW false 1 t67 w15 fun t68 =>
            lensW t68 fun t69 =>
            binW .leq t69 (.int .i64 16384) fun t70 =>
            GdW (isB t70 true) [undef] w15 (fun J21 =>
              fldW 3 t3 fun t72 =>
              ldW false 1 t72 w15 fun t73 =>
              lenlW t73 fun t74 =>
              fldW 4 t3 fun t75 =>
              ldW false 1 t75 w15 fun t76 =>
              lenlW t76 fun t77 =>
              binW .add t74 t77 fun t78 =>
              binW .eql t78 (.int .i64 0) fun t79 =>
              J21 [t79] w15)
            fun s21 _ w22 =>
            pickW t70 (s21.getD 0 undef) (.bool false) fun t80 =>
            K t80 w22) (
            binW .eql t32 (.int .i64 5) fun t82 =>
            condW t82 (
              fldW 4 t3 fun t83 =>
              ldW false 1 t83 w15 fun t84 =>
              lenlW t84 fun t85 =>
              binW .gtr t85 (.int .i64 0) fun t86 =>
              condW t86 (
                K (.bool false) w15) (
                J13 [] w15)) (
              binW .eql t32 (.int .i64 6) fun t88 =>
              condW t88 (
                fldW 4 t3 fun t89 =>
                ldW false 1 t89 w15 fun t90 =>
                lenlW t90 fun t91 =>
                fldW 3 t3 fun t92 =>
                ldW false 1 t92 w15 fun t93 =>
                lenlW t93 fun t94 =>
                binW .neq t91 t94 fun t95 =>
                condW t95 (
                  K (.bool false) w15) (
                  fldW 4 t3 fun t96 =>
                  ldW false 1 t96 w15 fun t97 =>
                  lenlW t97 fun t98 =>
                  LoopW [(.int .i64 0)] w15 fun s23 _ w24 L23 =>
                    binW .lss (s23.getD 0 undef) t98 fun t100 =>
                    condW t100 (
                      ixaW none 1 t97 (s23.getD 0 undef) fun t102 =>
                      ldW false 1 t102 w24 fun t103 =>
                      lensW t103 fun t105 =>
                      binW .gtr t105 (.int .i64 16384) fun t106 =>
                      GdW (isB t106 false) [undef] w24 (fun J25 =>
                        binW .gtr (s23.getD 0 undef) (.int .i64 0) fun t109 =>
                        J25 [t109] w24)
                      fun s25 _ w26 =>
                      GdW (isB (s25.getD 0 undef) true) [undef] w26 (fun J27 =>
                        fldW 4 t3 fun t111 =>
                        ldW false 1 t111 w26 fun t112 =>
                        binW .sub (s23.getD 0 undef) (.int .i64 1) fun t114 =>
                        ixaW none 1 t112 t114 fun t115 =>
                        ldW false 1 t115 w26 fun t116 =>
                        binW .geq t116 t103 fun t118 =>
                        J27 [t118] w26)
                      fun s27 _ w28 =>
                      GdW (isB t106 false) [undef] w28 (fun J29 =>
                        pickW (s25.getD 0 undef) (s27.getD 0 undef) (.bool false) fun t119 =>
                        J29 [t119] w28)
                      fun s29 _ w30 =>
                      pickW t106 (.bool true) (s29.getD 0 undef) fun t120 =>
                      condW t120 (
                        K (.bool false) w30) (
                        binW .add (s23.getD 0 undef) (.int .i64 1) fun t121 =>
                        L23 [t121] w30)) (
                      J13 [] w24))) (
                K (.bool false) w15))))))
    fun s13 _ w31 =>
    fldW 2 t3 fun t122 =>
    ldW false 1 t122 w31 fun t123 =>
    binW .eql t123 (.string (ofL [])) fun t124 =>
    GdW (isB t124 true) [undef] w31 (fun J32 =>
      fldW 3 t3 fun t126 =>
      ldW false 1 t126 w31 fun t127 =>
      callF Tryz.prog 99 [t127, (.func (.func 149) #[] #[t4, t5])] w31 fun t129 w33 =>
      unW .not t129 fun t130 =>
      J32 [t130] w33)
    fun s32 _ w34 =>
    pickW t124 (s32.getD 0 undef) (.bool false) fun t131 =>
    K t131 w34)
theorem W98_eq (v0 v1 v2 : Value) (w : World) (K : Value → World → Prop) : funW Tryz.prog Tryz.f98 plan98 [v0, v1, v2] w K = W98 v0 v1 v2 w K := by kernel_rfl
theorem W98_chk : chkFun Tryz.prog Tryz.f98 plan98 3 = true := by kernel_rfl
theorem W98_ok {v0 v1 v2 : Value} {w : World} {K : Value → World → Prop} (h : W98 v0 v1 v2 w K) : callF Tryz.prog 98 [v0, v1, v2] w K :=
  tie Tryz.prog 98 Tryz.f98 plan98 [v0, v1, v2] w K 3 (W98 v0 v1 v2 w K) rfl mixed Tryz.func98 W98_chk (W98_eq v0 v1 v2 w K) Tryz.call98 h
def plan149 : Plan := { js := [], ds := [] }
def W149 (v0 v1 v2 : Value) (w : World) (K : Value → World → Prop) : Prop :=
  boxW 26 v0 w fun t3 w1 =>
  ldW true 5 t3 w1 fun t5 =>
  ldW false 1 v1 w1 fun t6 =>
  binW .sub t6 (.int .i64 1) fun t7 =>
  ldW false 1 v2 w1 fun t8 =>
  callF Tryz.prog 98 [t5, t7, t8] w1 fun t9 w2 =>
  unW .not t9 fun t10 =>
  K t10 w2
theorem W149_eq (v0 v1 v2 : Value) (w : World) (K : Value → World → Prop) : funW Tryz.prog Tryz.f149 plan149 [v0, v1, v2] w K = W149 v0 v1 v2 w K := by kernel_rfl
theorem W149_chk : chkFun Tryz.prog Tryz.f149 plan149 3 = true := by kernel_rfl
theorem W149_ok {v0 v1 v2 : Value} {w : World} {K : Value → World → Prop} (h : W149 v0 v1 v2 w K) : callF Tryz.prog 149 [v0, v1, v2] w K :=
  tie Tryz.prog 149 Tryz.f149 plan149 [v0, v1, v2] w K 3 (W149 v0 v1 v2 w K) rfl mixed Tryz.func149 W149_chk (W149_eq v0 v1 v2 w K) Tryz.call149 h
end Go.Proofs.YtcnjpcadejcenaaGreatDoor
namespace Go.Proofs.YtcnjpcadejcenaaGreatDoor
open Go Go.Eng Go.RowKit
set_option maxRecDepth 100000
def shortM (r : Nat) : Nat := if r = 34 ∨ r = 92 then r else if r = 8 then 98 else if r = 12 then 102 else if r = 10 then 110 else if r = 13 then 114 else if r = 9 then 116 else 0
def hexS (r : Nat) : Str := [b8 (48 + r / 16), hexD (r % 16)]
theorem esc_short {c : UInt8} (h : shortM c.toNat ≠ 0) : escB c = [92, b8 (shortM c.toNat)] ∧ shortM c.toNat < 128 := by
  have e : ∀ n : Nat, n < 256 → (c = UInt8.ofNat n ↔ c.toNat = n) := fun n hn => by
    constructor
    · rintro rfl; simp only [UInt8.toNat_ofNat']; omega
    · intro h; rw [← h]; simp
  unfold shortM at h ⊢
  unfold escB
  by_cases a1 : c.toNat = 34 ∨ c.toNat = 92
  · rw [if_pos a1, if_pos (by rcases a1 with a | a; exact .inl ((e 34 (by omega)).2 a); exact .inr ((e 92 (by omega)).2 a))]
    refine ⟨?_, by omega⟩
    unfold b8; simp
  rw [if_neg a1] at h ⊢
  rw [if_neg (by rintro (a | a); exact a1 (.inl ((e 34 (by omega)).1 a)); exact a1 (.inr ((e 92 (by omega)).1 a)))]
  by_cases a2 : c.toNat = 8
  · rw [if_pos a2, if_pos (show c = (8 : UInt8) from (e 8 (by omega)).2 a2)]; exact ⟨rfl, by omega⟩
  rw [if_neg a2] at h ⊢
  rw [if_neg fun (a : c = (8 : UInt8)) => a2 ((e 8 (by omega)).1 a)]
  by_cases a3 : c.toNat = 12
  · rw [if_pos a3, if_pos (show c = (12 : UInt8) from (e 12 (by omega)).2 a3)]; exact ⟨rfl, by omega⟩
  rw [if_neg a3] at h ⊢
  rw [if_neg fun (a : c = (12 : UInt8)) => a3 ((e 12 (by omega)).1 a)]
  by_cases a4 : c.toNat = 10
  · rw [if_pos a4, if_pos (show c = (10 : UInt8) from (e 10 (by omega)).2 a4)]; exact ⟨rfl, by omega⟩
  rw [if_neg a4] at h ⊢
  rw [if_neg fun (a : c = (10 : UInt8)) => a4 ((e 10 (by omega)).1 a)]
  by_cases a5 : c.toNat = 13
  · rw [if_pos a5, if_pos (show c = (13 : UInt8) from (e 13 (by omega)).2 a5)]; exact ⟨rfl, by omega⟩
  rw [if_neg a5] at h ⊢
  rw [if_neg fun (a : c = (13 : UInt8)) => a5 ((e 13 (by omega)).1 a)]
  by_cases a6 : c.toNat = 9
  · rw [if_pos a6, if_pos (show c = (9 : UInt8) from (e 9 (by omega)).2 a6)]; exact ⟨rfl, by omega⟩
  rw [if_neg a6] at h
  exact absurd rfl h
theorem esc_long {c : UInt8} (h : shortM c.toNat = 0) : escB c = if c.toNat < 32 then [92, 117, 48, 48] ++ hexS c.toNat else [c] := by
  have e : ∀ n : Nat, n < 256 → c = UInt8.ofNat n → c.toNat = n := fun n hn a => by subst a; simp only [UInt8.toNat_ofNat']; omega
  have hn : ¬ (c.toNat = 34 ∨ c.toNat = 92) ∧ c.toNat ≠ 8 ∧ c.toNat ≠ 12 ∧ c.toNat ≠ 10 ∧ c.toNat ≠ 13 ∧ c.toNat ≠ 9 := by
    unfold shortM at h
    split at h
    · omega
    · repeat' split at h
      all_goals omega
  obtain ⟨n1, n2, n3, n4, n5, n6⟩ := hn
  unfold escB
  rw [if_neg (by rintro (a | a); exact n1 (.inl (e 34 (by omega) a)); exact n1 (.inr (e 92 (by omega) a))), if_neg fun (a : c = (8 : UInt8)) => n2 (e 8 (by omega) a), if_neg fun (a : c = (12 : UInt8)) => n3 (e 12 (by omega) a), if_neg fun (a : c = (10 : UInt8)) => n4 (e 10 (by omega) a), if_neg fun (a : c = (13 : UInt8)) => n5 (e 13 (by omega) a), if_neg fun (a : c = (9 : UInt8)) => n6 (e 9 (by omega) a)]
  by_cases a : c.toNat < 32
  · rw [if_pos a, if_pos (show c < 32 from a)]; rfl
  · rw [if_neg a, if_neg (show ¬ c < 32 from a)]
theorem enc_low {n : Nat} (h : n < 128) : Utf8.encode (n : Int) = ofL [b8 n] := by
  unfold Utf8.encode
  have : Utf8.valid (n : Int) = true := by unfold Utf8.valid; simp only [Bool.or_eq_true, Bool.and_eq_true, decide_eq_true_eq]; omega
  simp only [this, if_true, Int.toNat_natCast]
  rw [if_pos h]; rfl
section
variable [HX]
def FmtOk (w0 : World) : Prop := ∀ r : Nat, r < 32 → ∀ (w : World) (K : Value → World → Prop), Ext w0 w → (∀ w', Ext w w' → K (str ([49] ++ hexS r)) w') → callF Tryz.prog 154 [i64 ((r + 256 : Nat) : Int), i64 16] w K
theorem short_p {r : Nat} {w : World} {K : Value → World → Prop} (hr : r ≤ 1114111) (hK : K (u8 (shortM r)) w) : callF Tryz.prog 153 [.int .i32 (r : Int)] w K := by
  refine W153_ok ?_
  unfold W153
  unfold shortM at hK
  refine JoinW.cut (fun s' w' => s' = [.bool (decide (r = 34 ∨ r = 92))] ∧ w' = w) ?_ ?_
  · rw [bin_eql, condW_dec]
    refine ⟨fun h => ?_, fun h => ?_⟩
    · rw [decide_eq_true h, decide_eq_true (.inl (by omega))]; exact ⟨rfl, rfl⟩
    · rw [bin_eql]
      rw [show decide (((r : Nat) : Int) = 92) = decide (r = 34 ∨ r = 92) by rw [decide_eq_decide]; omega]
      exact ⟨rfl, rfl⟩
  rintro s' g w' ⟨rfl, rfl⟩
  simp only [List.getD_cons_zero]
  rw [condW_dec]
  refine ⟨fun h => ?_, fun h => ?_⟩
  · rw [cvt_int, u8_wrap, Nat.mod_eq_of_lt (by omega)]
    rw [if_pos h] at hK; exact hK
  rw [if_neg h] at hK
  rw [bin_eql, condW_dec]
  refine ⟨fun h => by rw [if_pos (by omega)] at hK; exact hK, fun h => ?_⟩
  rw [if_neg (by omega)] at hK
  rw [bin_eql, condW_dec]
  refine ⟨fun h => by rw [if_pos (by omega)] at hK; exact hK, fun h => ?_⟩
  rw [if_neg (by omega)] at hK
  rw [bin_eql, condW_dec]
  refine ⟨fun h => by rw [if_pos (by omega)] at hK; exact hK, fun h => ?_⟩
  rw [if_neg (by omega)] at hK
  rw [bin_eql, condW_dec]
  refine ⟨fun h => by rw [if_pos (by omega)] at hK; exact hK, fun h => ?_⟩
  rw [if_neg (by omega)] at hK
  rw [bin_eql, condW_dec]
  refine ⟨fun h => by rw [if_pos (by omega)] at hK; exact hK, fun h => ?_⟩
  rw [if_neg (by omega)] at hK
  exact hK
theorem i32_wrap {n : Nat} (h : n < 2147483648) : IntKind.i32.wrap (n : Int) = (n : Int) := by
  have e1 : (2 : Int) ^ 32 = 4294967296 := by decide
  have e2 : (2 : Int) ^ (32 - 1) = 2147483648 := by decide
  simp only [IntKind.wrap, IntKind.bits, IntKind.signed, Bool.true_and, e1, e2]
  rw [if_neg (by simp; omega)]
  omega
theorem flat_len (s : Str) : (s.flatMap escB).length ≤ 6 * s.length := by
  induction s with
  | nil => simp
  | cons c s ih => rw [List.flatMap_cons, List.length_append, List.length_cons]; have := escB_le c; omega
theorem short_high {r : Nat} (h : 128 ≤ r) : shortM r = 0 := by unfold shortM; repeat' split
                                                                all_goals omega
theorem quote_p {w0 w : World} {B b : Nat} {l s : Str} {K : Value → World → Prop} (h0 : Ext w0 w) (hB0 : w0.heap.size ≤ B) (h : Bld w B b l) (hB : B ≤ w.heap.size) (hs : Utf s) (hl : l.length + 6 * s.length + 2 ≤ 1000000000) (hF : ∀ c ∈ s, c.toNat < 32 → FmtOk w0)
    (hK : ∀ w', Bld w' B b (l ++ quoteM s) → Chg (BCh w B b) w w' → K (.tuple #[]) w') : callF Tryz.prog 105 [.pointer (some ⟨b, 0, none⟩), str s] w K := by
  have hb := h.base
  have hbl := h.lt
  refine W105_ok ?_
  unfold W105
  refine wbyte_p (n := 34) h hB (by omega) (by omega) fun w1 h1 hc1 => ?_
  refine range_str ?_
  have hz1 := hc1.size
  have hc2 : Chg (BCh w B b) w (w1.alloc (.stringIter (ofL s) 0)) := BCh.ext hc1 (Chg.alloc (Chg.refl _ _) _)
  refine ⟨fun s' w4 => ∃ p, p ≤ s.length ∧ s' = [] ∧ Utf (s.drop p) ∧ w4.heap[w1.heap.size]? = some (.stringIter (ofL s) p) ∧ Bld w4 B b (l ++ [34] ++ (s.take p).flatMap escB) ∧ Chg (BCh w B b) w w4,
    fun _ w4 => match w4.heap[w1.heap.size]? with | some (.stringIter _ p) => s.length - p | _ => 0,
    ⟨0, Nat.zero_le _, rfl, by rw [List.drop_zero]; exact hs, heap_anew _ _ _ rfl, by rw [List.take_zero, List.flatMap_nil, List.append_nil]; exact h1.ext (Chg.alloc (Chg.refl _ _) _), hc2⟩, ?_⟩
  rintro s' g w4 ⟨p, hp, rfl, hu, hit, h4, hc4⟩
  have hz4 := hc4.size
  have hfl := flat_len (s.take p)
  have htl : (s.take p).length = p := by rw [List.length_take]; omega
  have hll : (l ++ [34] ++ (s.take p).flatMap escB).length = l.length + 1 + ((s.take p).flatMap escB).length := by simp only [List.length_append, List.length_cons, List.length_nil]
  refine next_str hit (fun hpe => ?_) (fun hpl w5 hit5 hc5 hz5 => ?_)
  · rw [ext_tuple]
    refine ⟨.bool false, rfl, ?_⟩
    rw [condW_false]
    obtain rfl : p = s.length := by omega
    rw [List.take_length] at h4 hll hfl
    refine wbyte_p (n := 34) h4 (by omega) (by omega) (by omega) fun w6 h6 hc6 => ?_
    refine hK w6 ?_ (BCh.trans hc4 hc6)
    rw [List.append_assoc, List.append_assoc] at h6
    unfold quoteM
    rw [List.append_assoc]
    exact h6
  · have hne : s.drop p ≠ [] := fun e => by have := List.drop_eq_nil_iff.1 e; omega
    -- the rune that comes next
    obtain ⟨u, r, hru, hur, hdr⟩ : ∃ u r, Rn u ∧ Utf r ∧ s.drop p = u ++ r := by
      cases hd : s.drop p with
      | nil => exact absurd hd hne
      | cons x y =>
        rw [hd] at hu
        generalize he : x :: y = z at hu
        cases hu with
        | nil => cases he
        | cons h1 h2 => exact ⟨_, _, h1, h2, rfl⟩
    have hrm : runeM s p = u.length := hru.at hdr
    have hup := hru.pos
    obtain ⟨c, hc⟩ := rune_good hpl (by omega)
    rw [hrm] at hc
    have htk : (s.drop p).take u.length = u := by rw [hdr, List.take_left]
    have hnext : s.take (p + u.length) = s.take p ++ u := by rw [List.take_add, htk]
    have hdr2 : s.drop (p + u.length) = r := drop_app hdr
    have hdec := hc.dec
    have hct := hc.top
    have hcv := hc.val
    have hcu : wrM c = u := by rw [← wr_enc (by omega), hc.bytes, htk]
    rw [hdec] at hit5
    have h5 : Bld w5 B b (l ++ [34] ++ (s.take p).flatMap escB) := h4.chg hc5 (fun e => by have := h1.lt; have := e; omega) fun k hk e => by
      obtain ⟨_, c', hc'⟩ := hk
      have e : k = w1.heap.size := e
      rw [e, hit] at hc'; cases hc'
    have hc5' : Chg (BCh w B b) w w5 := hc4.then hc5 fun k hk e => by omega
    have hx0 : Ext w0 w5 := BCh.new h0 hB0 hb hc5'
    have hfit := hc.fits
    -- once the rune's text is written
    have fin : ∀ w6, Bld w6 B b (l ++ [34] ++ (s.take p).flatMap escB ++ u.flatMap escB) → Chg (BCh w5 B b) w5 w6 → (fun (s' : List Value) w4 => ∃ p, p ≤ s.length ∧ s' = [] ∧ Utf (s.drop p) ∧ w4.heap[w1.heap.size]? = some (.stringIter (ofL s) p) ∧ Bld w4 B b (l ++ [34] ++ (s.take p).flatMap escB) ∧ Chg (BCh w B b) w w4) [] w6 ∧
        (match w6.heap[w1.heap.size]? with | some (.stringIter _ p) => s.length - p | _ => 0) < (match w4.heap[w1.heap.size]? with | some (.stringIter _ p) => s.length - p | _ => 0) := by
      intro w6 h6 hc6
      have hit6 := BCh.iter hc6 hit5 (by have := h1.lt; omega)
      refine ⟨⟨p + u.length, hfit, rfl, by rw [hdr2]; exact hur, hit6, ?_, BCh.trans hc5' hc6⟩, ?_⟩
      · rw [hnext, List.flatMap_append, ← List.append_assoc]; exact h6
      · rw [hit6, hit]
        show s.length - (p + u.length) < s.length - p
        omega
    rw [ext_tuple]
    refine ⟨.bool true, rfl, ?_⟩
    rw [condW_true, ext_tuple]
    refine ⟨.int .i32 (c : Int), by rw [hdec]; rfl, ?_⟩
    refine short_p hct ?_
    rw [bin_neq, condW_dec]
    rcases hru.cases with ⟨x, hx, hxl⟩ | hh
    · -- one byte
      subst hx
      have hcx : c = x.toNat := by
        have := (hc.low rfl).1
        rw [this]
        have e := byteM_in hpl
        rw [Go.Eng.byte_at (show s.drop p = x :: r from hdr)] at e
        omega
      subst hcx
      have e1 : [x].flatMap escB = escB x := by simp
      rw [e1] at fin
      refine ⟨fun hne => ?_, fun he => ?_⟩
      · obtain ⟨f1, f2⟩ := esc_short (c := x) (by omega)
        rw [cvt_int, i32_wrap (by omega)]
        show cvsW _ _
        unfold cvsW
        dsimp only
        rw [enc_low f2, bin_sadd]
        refine ⟨by simp only [List.length_cons, List.length_nil]; decide, ?_⟩
        refine wstr_p h5 (by omega) (by rw [hll]; simp only [List.length_append, List.length_cons, List.length_nil]; omega) fun v w6 h6 hc6 => ?_
        refine fin w6 ?_ hc6
        rw [f1]; exact h6
      · have f := esc_long (c := x) (by omega)
        rw [bin_lss, condW_dec]
        refine ⟨fun hlt => ?_, fun hge => ?_⟩
        · rw [if_pos (by omega)] at f
          have hmem : x ∈ s := List.mem_of_mem_drop (i := p) (by rw [hdr]; simp)
          rw [cvt_int, wrap_id (by omega) (by omega), bin_add, wrap_id (by omega) (by omega)]
          have hfm := hF x hmem (by omega) x.toNat (by omega) w5
          rw [show ((x.toNat + 256 : Nat) : Int) = (x.toNat : Int) + 256 by omega] at hfm
          refine hfm _ hx0 fun w6 hx6 => ?_
          rw [sls_str, bd_none, bd_some]
          refine ⟨by decide, by simp [hexS], ?_⟩
          rw [bin_sadd]
          refine ⟨by simp [hexS], ?_⟩
          refine wstr_p (h5.ext hx6) (by have := hx6.size; omega) (by rw [hll]; clear fin h4 h5 hll; generalize ((s.take p).flatMap escB).length = q at *; simp [hexS]; omega) fun v w7 h7 hc7 => ?_
          refine fin w7 ?_ (BCh.from hx6 hc7)
          rw [f]
          simpa [hexS] using h7
        · rw [if_neg (by omega)] at f
          refine wrune_p h5 (by omega) (by omega) (by omega) fun v w6 h6 hc6 => ?_
          refine fin w6 ?_ hc6
          rw [f, ← hcu]; exact h6
    · -- more than one
      have hc128 : 128 ≤ c := by
        have hb0 := byte_pref (j := 0) hdr hup
        have h128 := hh u[0] (List.getElem_mem ..)
        rw [Nat.add_zero, byteM_in hpl] at hb0
        by_cases h1 : u.length = 1
        · have := hc.low h1; omega
        · exact (hc.high (by omega)).1
      rw [esc_high hh] at fin
      refine ⟨fun hne => absurd (short_high hc128) (by omega), fun he => ?_⟩
      rw [bin_lss, condW_dec]
      refine ⟨fun hlt => by omega, fun hge => ?_⟩
      refine wrune_p h5 (by omega) (by omega) (by omega) fun v w6 h6 hc6 => ?_
      refine fin w6 ?_ hc6
      rw [← hcu]; exact h6
end
end Go.Proofs.YtcnjpcadejcenaaGreatDoor
namespace Go.Proofs.YtcnjpcadejcenaaGreatDoor
open Go Go.Eng Go.Num
set_option maxRecDepth 100000
abbrev BT : TypeId := 244
abbrev U64 : TypeId := 182
def BRep (w : World) (x : Big) (cs : List Value) : Prop := ∃ sv T, cs = [.bool x.below, sv] ∧ SlAt w T sv x.l.length (x.l.map u64) ∧ x.l.length ≤ 1000 ∧ Lim x.l
theorem BRep.ext {w w' : World} {x : Big} {cs : List Value} (h : BRep w x cs) (hx : Ext w w') : BRep w' x cs := by
  obtain ⟨sv, T, rfl, h1, h2, h3⟩ := h; exact ⟨sv, T, rfl, h1.ext hx, h2, h3⟩
theorem BRep.one {w : World} {x : Big} {cs : List Value} (h : BRep w x cs) : cs.all one1 = true := by
  obtain ⟨sv, T, rfl, h1, _⟩ := h
  obtain ⟨p, c, rfl, _⟩ := h1.shape; rfl
theorem BRep.len {w : World} {x : Big} {cs : List Value} (h : BRep w x cs) : cs.length = 2 := by obtain ⟨sv, T, rfl, _⟩ := h; rfl
structure BigB (w : World) (a : Nat) (x : Big) (sv : Value) : Prop where
  hb : w.heap[a]? = some (.cells [.bool x.below, sv].toArray BT (0, 0))
  l : ∃ T, SlAt w T sv x.l.length (x.l.map u64)
  few : x.l.length ≤ 1000
  lim : Lim x.l
theorem BigB.ext {w w' : World} {a : Nat} {x : Big} {sv : Value} (h : BigB w a x sv) (hx : Ext w w') : BigB w' a x sv := ⟨hx.at h.hb id, let ⟨T, h1⟩ := h.l; ⟨T, h1.ext hx⟩, h.few, h.lim⟩
theorem BigB.rep {w : World} {a : Nat} {x : Big} {sv : Value} (h : BigB w a x sv) : BRep w x [.bool x.below, sv] := by obtain ⟨T, h1⟩ := h.l; exact ⟨sv, T, rfl, h1, h.few, h.lim⟩
theorem BigB.ld {w : World} {a : Nat} {x : Big} {sv : Value} {K : Value → Prop} (h : BigB w a x sv) (hK : ∀ cs, BRep w x cs → K (.agg cs.toArray)) : ldW true 2 (ptr a) w K := ld_all h.hb rfl (hK _ h.rep)
theorem BigB.len {w : World} {a : Nat} {x : Big} {sv : Value} (h : BigB w a x sv) (K : Value → Prop) : lenlW sv K ↔ K (i64 x.l.length) := by obtain ⟨T, h1⟩ := h.l; exact lenl_at h1 K
theorem BigB.at {w : World} {a : Nat} {x : Big} {sv : Value} {k : IntKind} {i n : Nat} {K : Value → Prop} (h : BigB w a x sv) (hi : x.l[i]? = some n) (hK : K (u64 n)) : ixaW none 1 sv (.int k i) fun p => ldW false 1 p w K := by
  obtain ⟨T, h1⟩ := h.l
  exact ixa_ld h1 (by simp) (by simp [hi]) hK
theorem BRep.keep {w w' : World} {b : Nat} {x : Big} {cs : List Value} {p : Bool} {q : Value} {T0 : TypeId} (h : BRep w x cs) (hb : w.heap[b]? = some (.cells [.bool p, q].toArray T0 (0, 0))) (hq : ∀ n, q ≠ u64 n) (hc : Chg (fun k => k = b) w w') : BRep w' x cs := by
  obtain ⟨sv, T, rfl, ⟨p', cap, hv, h1, h2, h3⟩, h4, h5⟩ := h
  refine ⟨sv, T, rfl, ⟨p', cap, hv, h1, h2, fun hne => ?_⟩, h4, h5⟩
  obtain ⟨k, off, c, fr, hp, hk, hcs⟩ := h3 hne
  have hkb : k ≠ b := by
    rintro rfl
    rw [hb] at hk
    cases hk
    obtain ⟨n, r, e⟩ : ∃ n r, x.l = n :: r := by
      cases hx : x.l with
      | nil => rw [hx] at hne; simp at hne
      | cons n r => exact ⟨n, r, rfl⟩
    have := hcs 0 (by rw [e]; simp)
    rw [e] at this
    simp only [Nat.add_zero, List.map_cons, List.getElem?_cons_zero, List.getElem?_toArray] at this
    rcases off with _ | _ | off
    · simp at this
    · simp only [Nat.zero_add, List.getElem?_cons_succ, List.getElem?_cons_zero, Option.some.injEq] at this; exact hq n this
    · simp at this
  exact ⟨k, off, c, fr, hp, hc.at hk hkb, hcs⟩
theorem u64_wrap {n : Int} (h1 : 0 ≤ n) (h2 : n < 18446744073709551616) : IntKind.u64.wrap n = n := by
  simp only [IntKind.wrap, IntKind.signed, IntKind.bits, IntKind.max, IntKind.min]
  simp
  omega
section
variable [HX]
theorem sll_take {w : World} {T : TypeId} {v : Value} {n k : Nat} {cs : List Value} {K : Value → Prop} (h : SlAt w T v n cs) (hl : cs.length = n) (hk : k ≤ n) (hK : ∀ v', SlAt w T v' k (cs.take k) → K v') : sllW 1 v none (some (i64 (k : Nat))) none K := by
  obtain ⟨p, cap, rfl, h1, h2, h3⟩ := h
  rw [sll_sl]
  simp only [bd_none, bd_some]
  refine ⟨by omega, by omega, ?_⟩
  have e : (if cap = 0 then p else p.map (·.add (0 * 1))) = p := by
    split
    · rfl
    · cases p with
      | none => rfl
      | some a => simp [Addr.add]
  rw [e]
  refine hK _ ⟨p, cap - 0, by simp, by omega, fun e => ?_, fun hne => ?_⟩
  · have := h2 e; omega
  · obtain ⟨b, off, c, fr, hp, hb, hcs⟩ := h3 fun e => hne (by rw [e]; simp)
    refine ⟨b, off, c, fr, hp, hb, fun i hi => ?_⟩
    rw [List.length_take] at hi
    rw [hcs i (by omega), List.getElem?_take, if_pos (by omega)]
end
end Go.Proofs.YtcnjpcadejcenaaGreatDoor

namespace Go.Proofs.YtcnjpcadejcenaaGreatDoor
open Go Go.Eng Go.Num
set_option maxRecDepth 100000
section
variable [HX]
theorem callV_fn {P : Program} {g : FuncId} {args : List Value} {w : World} {K : Value → World → Prop} (h : callF P g args w K) : callV P (.func (.func g) #[] #[]) args w K := by
  unfold callV semN
  unfold callF at h
  have : (do let d ← (Deferred.ofValue (.func (.func g) #[] #[]) args.toArray); invoke d.target d.args : Sem Next) = callFunc g args.toArray := by
    show callFunc g (#[] ++ args.toArray ++ #[]) = _
    simp
  rw [this]
  exact h
structure ItemsAt (w : World) (sv : Value) (xs : List JV) : Prop where
  it : ∃ T L, SlAt w T sv xs.length L ∧ VReps w xs L
  few : xs.length ≤ 9223372036854775807
theorem ItemsAt.ext {w w' : World} {sv : Value} {xs : List JV} (h : ItemsAt w sv xs) (hx : Ext w w') : ItemsAt w' sv xs := ⟨let ⟨T, L, h1, h2⟩ := h.it; ⟨T, L, h1.ext hx, h2.ext hx⟩, h.few⟩
theorem ValB.itemsAt {w : World} {a : Nat} {v : JV} {sv kv : Value} (h : ValB w a v sv kv) : ItemsAt w sv v.xs := ⟨h.items, h.fits.1⟩
theorem ItemsAt.len {w : World} {sv : Value} {xs : List JV} (h : ItemsAt w sv xs) (K : Value → Prop) : lenlW sv K ↔ K (i64 xs.length) := by obtain ⟨T, L, h1, _⟩ := h.it; exact lenl_at h1 K
theorem ItemsAt.at {w : World} {sv : Value} {xs : List JV} {k : IntKind} {i : Nat} {x : JV} {K : Value → Prop} (h : ItemsAt w sv xs) (hi : xs[i]? = some x) (hK : ∀ cs, VRep w x cs → K (.agg cs.toArray)) : ixaW none 5 sv (.int k i) fun p => ldW true 5 p w K := by
  obtain ⟨T, L, h1, h2⟩ := h.it; exact item_ld h1 h2 hi hK
def findI {α : Type} (p : α → Bool) (xs : List α) : Int := match xs.findIdx? p with | some i => i | none => -1
theorem findI_ge {α : Type} (p : α → Bool) (xs : List α) : decide ((0 : Int) ≤ findI p xs) = xs.any p := by
  unfold findI
  cases h : xs.findIdx? p with
  | none =>
    have := List.findIdx?_eq_none_iff.1 h
    have : xs.any p = false := List.any_eq_false.2 fun x hx => by simp [this x hx]
    rw [this]; decide
  | some i =>
    obtain ⟨hi, hp, _⟩ := List.findIdx?_eq_some_iff_getElem.1 h
    rw [List.any_eq_true.2 ⟨_, List.getElem_mem hi, hp⟩]
    exact decide_eq_true (by simp)
theorem findIdx_hit {α : Type} {p : α → Bool} {xs : List α} {i : Nat} {x : α} (h : (xs.take i).any p = false) (hi : xs[i]? = some x) (hx : p x = true) : xs.findIdx? p = some i := by
  obtain ⟨hl, e⟩ := List.getElem?_eq_some_iff.1 hi
  rw [List.findIdx?_eq_some_iff_getElem]
  refine ⟨hl, by rw [e]; exact hx, fun j hj => ?_⟩
  have := List.any_eq_false.1 h xs[j] (List.mem_of_getElem? (i := j) (by rw [List.getElem?_take, if_pos hj]; exact List.getElem?_eq_getElem _))
  simpa using this
theorem index_v {sv f : Value} {xs : List JV} {p : JV → Bool} {w : World} {K : Value → World → Prop} (h : ItemsAt w sv xs)
    (hf : ∀ x ∈ xs, ∀ {cs : List Value} {w : World} {K : Value → World → Prop}, VRep w x cs → (∀ w', Ext w w' → K (.bool (p x)) w') → callV Tryz.prog f [.agg cs.toArray] w K)
    (hK : ∀ w', Ext w w' → K (i64 (findI p xs)) w') : callF Tryz.prog 150 [sv, f] w K := by
  refine W150_ok ?_
  unfold W150
  rw [h.len]
  refine loop_up xs.length (fun i w' => Ext w w' ∧ (xs.take i).any p = false) ⟨Chg.refl _ _, by simp⟩ ?_ ?_
  · rintro i w2 g L hi ⟨hx2, hno⟩ hL
    obtain ⟨x, hxi⟩ : ∃ x, xs[i]? = some x := ⟨_, List.getElem?_eq_getElem hi⟩
    have hlt : ((i : Int) < (xs.length : Int)) := by omega
    simp only [wsv, wsg, wsh, wsl, cond_true, cond_false, exists_eq_left', Option.some.injEq, Option.isSome_some, List.getElem?_toArray, List.getElem?_cons_zero, List.getElem?_cons_succ, List.length_cons, List.length_nil, List.set_cons_zero, List.set_cons_succ, List.getD_cons_zero, List.getD_cons_succ, Nat.zero_add, Nat.add_zero, Nat.reduceAdd, Nat.reduceLT, Nat.lt_add_one, Nat.zero_lt_succ, decide_true, decide_false, ne_eq, reduceCtorEq, hlt]
    refine (h.ext hx2).at hxi fun cs hcs => ?_
    refine hf x (List.mem_of_getElem? hxi) hcs fun w3 hx3 => ?_
    rw [condW_b]
    refine ⟨fun ht => ?_, fun hn => ?_⟩
    · have := hK w3 (hx2.trans hx3)
      unfold findI at this
      rw [findIdx_hit hno hxi ht] at this
      exact this
    · have := h.few
      rw [up1 (by omega)]
      exact hL w3 ⟨hx2.trans hx3, by rw [any_take hxi, hno, hn]; rfl⟩
  · rintro w2 g L ⟨hx2, hno⟩
    simp only [wsv, wsg, wsh, wsl, cond_true, cond_false, exists_eq_left', Option.some.injEq, Option.isSome_some, List.getElem?_toArray, List.getElem?_cons_zero, List.getElem?_cons_succ, List.length_cons, List.length_nil, List.set_cons_zero, List.set_cons_succ, List.getD_cons_zero, List.getD_cons_succ, Nat.zero_add, Nat.add_zero, Nat.reduceAdd, Nat.reduceLT, Nat.lt_add_one, Nat.zero_lt_succ, decide_true, decide_false, ne_eq, reduceCtorEq, Int.lt_irrefl]
    rw [List.take_length] at hno
    have := hK w2 hx2
    unfold findI at this
    rw [List.findIdx?_eq_none_iff.2 fun x hx => by simpa using List.any_eq_false.1 hno x hx] at this
    exact this
theorem contains_v {sv f : Value} {xs : List JV} {p : JV → Bool} {w : World} {K : Value → World → Prop} (h : ItemsAt w sv xs)
    (hf : ∀ x ∈ xs, ∀ {cs : List Value} {w : World} {K : Value → World → Prop}, VRep w x cs → (∀ w', Ext w w' → K (.bool (p x)) w') → callV Tryz.prog f [.agg cs.toArray] w K)
    (hK : ∀ w', Ext w w' → K (.bool (xs.any p)) w') : callF Tryz.prog 99 [sv, f] w K := by
  refine W99_ok ?_
  unfold W99
  refine index_v h hf fun w1 hx1 => ?_
  simp only [wsv, wsg, wsh, wsl, cond_true, cond_false, exists_eq_left', Option.some.injEq, Option.isSome_some, List.getElem?_toArray, List.getElem?_cons_zero, List.getElem?_cons_succ, List.length_cons, List.length_nil, List.set_cons_zero, List.set_cons_succ, List.getD_cons_zero, List.getD_cons_succ, Nat.zero_add, Nat.add_zero, Nat.reduceAdd, Nat.reduceLT, Nat.lt_add_one, Nat.zero_lt_succ, decide_true, decide_false, ne_eq, reduceCtorEq, findI_ge]
  exact hK w1 hx1
theorem index_x {sv f : Value} {xs : List JV} {p : JV → Bool} {w : World} {K : Value → World → Prop} (h : ItemsAt w sv xs)
    (hf : ∀ x ∈ xs, ∀ {cs : List Value} {w1 : World} {K : Value → World → Prop}, Ext w w1 → VRep w1 x cs → (∀ w', Ext w1 w' → K (.bool (p x)) w') → callV Tryz.prog f [.agg cs.toArray] w1 K)
    (hK : ∀ w', Ext w w' → K (i64 (findI p xs)) w') : callF Tryz.prog 150 [sv, f] w K := by
  refine W150_ok ?_
  unfold W150
  rw [h.len]
  refine loop_up xs.length (fun i w' => Ext w w' ∧ (xs.take i).any p = false) ⟨Chg.refl _ _, by simp⟩ ?_ ?_
  · rintro i w2 g L hi ⟨hx2, hno⟩ hL
    obtain ⟨x, hxi⟩ : ∃ x, xs[i]? = some x := ⟨_, List.getElem?_eq_getElem hi⟩
    have hlt : ((i : Int) < (xs.length : Int)) := by omega
    simp only [wsv, wsg, wsh, wsl, cond_true, cond_false, exists_eq_left', Option.some.injEq, Option.isSome_some, List.getElem?_toArray, List.getElem?_cons_zero, List.getElem?_cons_succ, List.length_cons, List.length_nil, List.set_cons_zero, List.set_cons_succ, List.getD_cons_zero, List.getD_cons_succ, Nat.zero_add, Nat.add_zero, Nat.reduceAdd, Nat.reduceLT, Nat.lt_add_one, Nat.zero_lt_succ, decide_true, decide_false, ne_eq, reduceCtorEq, hlt]
    refine (h.ext hx2).at hxi fun cs hcs => ?_
    refine hf x (List.mem_of_getElem? hxi) hx2 hcs fun w3 hx3 => ?_
    rw [condW_b]
    refine ⟨fun ht => ?_, fun hn => ?_⟩
    · have := hK w3 (hx2.trans hx3)
      unfold findI at this
      rw [findIdx_hit hno hxi ht] at this
      exact this
    · have := h.few
      rw [up1 (by omega)]
      exact hL w3 ⟨hx2.trans hx3, by rw [any_take hxi, hno, hn]; rfl⟩
  · rintro w2 g L ⟨hx2, hno⟩
    simp only [wsv, wsg, wsh, wsl, cond_true, cond_false, exists_eq_left', Option.some.injEq, Option.isSome_some, List.getElem?_toArray, List.getElem?_cons_zero, List.getElem?_cons_succ, List.length_cons, List.length_nil, List.set_cons_zero, List.set_cons_succ, List.getD_cons_zero, List.getD_cons_succ, Nat.zero_add, Nat.add_zero, Nat.reduceAdd, Nat.reduceLT, Nat.lt_add_one, Nat.zero_lt_succ, decide_true, decide_false, ne_eq, reduceCtorEq, Int.lt_irrefl]
    rw [List.take_length] at hno
    have := hK w2 hx2
    unfold findI at this
    rw [List.findIdx?_eq_none_iff.2 fun x hx => by simpa using List.any_eq_false.1 hno x hx] at this
    exact this
theorem contains_x {sv f : Value} {xs : List JV} {p : JV → Bool} {w : World} {K : Value → World → Prop} (h : ItemsAt w sv xs)
    (hf : ∀ x ∈ xs, ∀ {cs : List Value} {w1 : World} {K : Value → World → Prop}, Ext w w1 → VRep w1 x cs → (∀ w', Ext w1 w' → K (.bool (p x)) w') → callV Tryz.prog f [.agg cs.toArray] w1 K)
    (hK : ∀ w', Ext w w' → K (.bool (xs.any p)) w') : callF Tryz.prog 99 [sv, f] w K := by
  refine W99_ok ?_
  unfold W99
  refine index_x h hf fun w1 hx1 => ?_
  simp only [wsv, wsg, wsh, wsl, cond_true, cond_false, exists_eq_left', Option.some.injEq, Option.isSome_some, List.getElem?_toArray, List.getElem?_cons_zero, List.getElem?_cons_succ, List.length_cons, List.length_nil, List.set_cons_zero, List.set_cons_succ, List.getD_cons_zero, List.getD_cons_succ, Nat.zero_add, Nat.add_zero, Nat.reduceAdd, Nat.reduceLT, Nat.lt_add_one, Nat.zero_lt_succ, decide_true, decide_false, ne_eq, reduceCtorEq, findI_ge]
  exact hK w1 hx1
theorem any_not_known (xs : List JV) : (!xs.any fun x => !knownM x) = knownL xs := by
  rw [knownL_all]
  induction xs with
  | nil => rfl
  | cons x xs ih => simp only [List.any_cons, List.all_cons, Bool.not_or, Bool.not_not, ih]
theorem known_p (v : JV) : ∀ {cs : List Value} {w : World} {K : Value → World → Prop}, VRep w v cs → (∀ w', Ext w w' → K (.bool (knownM v)) w') → callF Tryz.prog 43 [.agg cs.toArray] w K := by
  induction v using JV.ind' with
  | h v ih =>
    intro cs w K h hK
    refine W43_ok ?_
    unfold W43
    refine box_val h fun a w1 sv kv hB hx _ => ?_
    rw [knownM_eq] at hK
    simp only [wsv, wsg, wsh, wsl, cond_true, cond_false, exists_eq_left', Option.some.injEq, Option.isSome_some, List.getElem?_toArray, List.getElem?_cons_zero, List.getElem?_cons_succ, List.length_cons, List.length_nil, List.set_cons_zero, List.set_cons_succ, List.getD_cons_zero, List.getD_cons_succ, Nat.zero_add, Nat.add_zero, Nat.reduceAdd, Nat.reduceLT, Nat.lt_add_one, Nat.zero_lt_succ, decide_true, decide_false, ne_eq, reduceCtorEq, wsh, hB.hb]
    refine GdW.act (knownL v.xs) (fun w' => Ext w1 w') (fun _ => Chg.refl _ _) ?_ ?_
    · intro hc J hJ
      refine contains_v (p := fun x => !knownM x) hB.itemsAt ?_ fun w2 hx2 => ?_
      · intro x hx cs w K hr hK
        refine callV_fn ?_
        refine W100_ok ?_
        unfold W100
        refine box_val hr fun b w1 sv kv hB hx1 _ => ?_
        refine hB.ld fun cs2 h2 => ?_
        refine ih x hx h2 fun w2 hx2 => ?_
        simp only [wsv, wsg, wsh, wsl, cond_true, cond_false, exists_eq_left', Option.some.injEq, Option.isSome_some, List.getElem?_toArray, List.getElem?_cons_zero, List.getElem?_cons_succ, List.length_cons, List.length_nil, List.set_cons_zero, List.set_cons_succ, List.getD_cons_zero, List.getD_cons_succ, Nat.zero_add, Nat.add_zero, Nat.reduceAdd, Nat.reduceLT, Nat.lt_add_one, Nat.zero_lt_succ, decide_true, decide_false, ne_eq, reduceCtorEq]
        exact hK w2 (hx1.trans hx2)
      · simp only [wsv, wsg, wsh, wsl, cond_true, cond_false, exists_eq_left', Option.some.injEq, Option.isSome_some, List.getElem?_toArray, List.getElem?_cons_zero, List.getElem?_cons_succ, List.length_cons, List.length_nil, List.set_cons_zero, List.set_cons_succ, List.getD_cons_zero, List.getD_cons_succ, Nat.zero_add, Nat.add_zero, Nat.reduceAdd, Nat.reduceLT, Nat.lt_add_one, Nat.zero_lt_succ, decide_true, decide_false, ne_eq, reduceCtorEq, any_not_known]
        exact hJ w2 hx2
    · intro g w2 hx2
      have := hK w2 (hx.trans hx2)
      simp only [wsv, wsg, wsh, wsl, cond_true, cond_false, exists_eq_left', Option.some.injEq, Option.isSome_some, List.getElem?_toArray, List.getElem?_cons_zero, List.getElem?_cons_succ, List.length_cons, List.length_nil, List.set_cons_zero, List.set_cons_succ, List.getD_cons_zero, List.getD_cons_succ, Nat.zero_add, Nat.add_zero, Nat.reduceAdd, Nat.reduceLT, Nat.lt_add_one, Nat.zero_lt_succ, decide_true, decide_false, ne_eq, reduceCtorEq]
      simpa only [decide_not] using this
theorem cmpks_p {a b : List Str} {x y : Value} {T1 T2 : TypeId} {w : World} {K : Value → World → Prop} (h1 : SlAt w T1 x a.length (a.map str)) (h2 : SlAt w T2 y b.length (b.map str)) (ha : a.length ≤ 9223372036854775807)
    (hK : ∀ w', Ext w w' → K (i64 (cmpKs a b)) w') : callF Tryz.prog 91 [x, y] w K := by
  refine W91_ok ?_
  unfold W91
  rw [lenl_at h1]
  refine loop_up a.length (fun i w' => Ext w w' ∧ i ≤ b.length ∧ cmpKs (a.drop i) (b.drop i) = cmpKs a b) ⟨Chg.refl _ _, by omega, rfl⟩ ?_ ?_
  · rintro i w2 g L hi ⟨hx2, hib, he⟩ hL
    obtain ⟨u, hu⟩ : ∃ u, a[i]? = some u := ⟨_, List.getElem?_eq_getElem hi⟩
    have hlt : ((i : Int) < (a.length : Int)) := by omega
    have hda : a.drop i = u :: a.drop (i + 1) := by
      rw [List.drop_eq_getElem_cons hi]; congr 1
      exact Option.some.inj ((List.getElem?_eq_getElem hi).symm.trans hu)
    simp only [wsv, wsg, wsh, wsl, cond_true, cond_false, exists_eq_left', Option.some.injEq, Option.isSome_some, List.getElem?_toArray, List.getElem?_cons_zero, List.getElem?_cons_succ, List.length_cons, List.length_nil, List.set_cons_zero, List.set_cons_succ, List.getD_cons_zero, List.getD_cons_succ, Nat.zero_add, Nat.add_zero, Nat.reduceAdd, Nat.reduceLT, Nat.lt_add_one, Nat.zero_lt_succ, decide_true, decide_false, ne_eq, reduceCtorEq, hlt]
    refine text_ld (h1.ext hx2) hu ?_
    rw [lenl_at h2]
    simp only [wsv, wsg, wsh, wsl, cond_true, cond_false, exists_eq_left', Option.some.injEq, Option.isSome_some, List.getElem?_toArray, List.getElem?_cons_zero, List.getElem?_cons_succ, List.length_cons, List.length_nil, List.set_cons_zero, List.set_cons_succ, List.getD_cons_zero, List.getD_cons_succ, Nat.zero_add, Nat.add_zero, Nat.reduceAdd, Nat.reduceLT, Nat.lt_add_one, Nat.zero_lt_succ, decide_true, decide_false, ne_eq, reduceCtorEq, condW_dec]
    refine ⟨fun hge => ?_, fun hltb => ?_⟩
    · have hdb : b.drop i = [] := List.drop_eq_nil_iff.2 (by omega)
      rw [hda, hdb] at he
      have := hK w2 hx2
      rw [← he] at this
      exact this
    · have hib2 : i < b.length := by omega
      obtain ⟨v, hv⟩ : ∃ v, b[i]? = some v := ⟨_, List.getElem?_eq_getElem hib2⟩
      have hdb : b.drop i = v :: b.drop (i + 1) := by
        rw [List.drop_eq_getElem_cons hib2]; congr 1
        exact Option.some.inj ((List.getElem?_eq_getElem hib2).symm.trans hv)
      rw [hda, hdb] at he
      simp only [cmpKs, orI] at he
      refine text_ld (h2.ext hx2) hv ?_
      refine cmp_s ?_
      simp only [wsv, wsg, wsh, wsl, cond_true, cond_false, exists_eq_left', Option.some.injEq, Option.isSome_some, List.getElem?_toArray, List.getElem?_cons_zero, List.getElem?_cons_succ, List.length_cons, List.length_nil, List.set_cons_zero, List.set_cons_succ, List.getD_cons_zero, List.getD_cons_succ, Nat.zero_add, Nat.add_zero, Nat.reduceAdd, Nat.reduceLT, Nat.lt_add_one, Nat.zero_lt_succ, decide_true, decide_false, ne_eq, reduceCtorEq, condW_dec]
      refine ⟨fun hne => ?_, fun h0 => ?_⟩
      · rw [if_neg hne] at he
        have := hK w2 hx2
        rw [← he] at this
        exact this
      · rw [if_pos (Decidable.not_not.1 h0)] at he
        rw [up1 (by omega)]
        exact hL w2 ⟨hx2, hib2, he⟩
  · rintro w2 g L ⟨hx2, hib, he⟩
    simp only [wsv, wsg, wsh, wsl, cond_true, cond_false, exists_eq_left', Option.some.injEq, Option.isSome_some, List.getElem?_toArray, List.getElem?_cons_zero, List.getElem?_cons_succ, List.length_cons, List.length_nil, List.set_cons_zero, List.set_cons_succ, List.getD_cons_zero, List.getD_cons_succ, Nat.zero_add, Nat.add_zero, Nat.reduceAdd, Nat.reduceLT, Nat.lt_add_one, Nat.zero_lt_succ, decide_true, decide_false, ne_eq, reduceCtorEq, Int.lt_irrefl]
    rw [lenl_at h1, lenl_at h2]
    rw [List.drop_length] at he
    simp only [wsv, wsg, wsh, wsl, cond_true, cond_false, exists_eq_left', Option.some.injEq, Option.isSome_some, List.getElem?_toArray, List.getElem?_cons_zero, List.getElem?_cons_succ, List.length_cons, List.length_nil, List.set_cons_zero, List.set_cons_succ, List.getD_cons_zero, List.getD_cons_succ, Nat.zero_add, Nat.add_zero, Nat.reduceAdd, Nat.reduceLT, Nat.lt_add_one, Nat.zero_lt_succ, decide_true, decide_false, ne_eq, reduceCtorEq, condW_dec]
    have := hK w2 hx2
    rw [← he] at this
    refine ⟨fun hlt => ?_, fun hge => ?_⟩
    · obtain ⟨v, r, e⟩ : ∃ v r, b.drop a.length = v :: r := by
        cases hd : b.drop a.length with
        | nil => have := List.drop_eq_nil_iff.1 hd; omega
        | cons v r => exact ⟨v, r, rfl⟩
      rw [e] at this
      exact this
    · rw [List.drop_eq_nil_iff.2 (show b.length ≤ a.length by omega)] at this
      exact this
end
end Go.Proofs.YtcnjpcadejcenaaGreatDoor
namespace Go.Proofs.YtcnjpcadejcenaaGreatDoor
open Go Go.Eng Go.Num
set_option maxRecDepth 100000
def inG (G : Nat → Prop) (v : Value) : Prop := ∀ k, v.ownBlock = some k → G k
mutual
/-- a value all whose lists lie in blocks of G -/
def VRepP (G : Nat → Prop) (w : World) : JV → List Value → Prop
  | .mk k b t xs ks, cs => ∃ sv kv T1 T2 L, cs = [i64 k, .bool b, str t, sv, kv] ∧ SlAt w T1 sv xs.length L ∧ VRepsP G w xs L ∧ SlAt w T2 kv ks.length (ks.map str) ∧ Fits xs.length ks t ∧ (L ≠ [] → inG G sv) ∧ (ks.map str ≠ [] → inG G kv)
def VRepsP (G : Nat → Prop) (w : World) : List JV → List Value → Prop
  | [], L => L = []
  | x :: xs, L => ∃ c r, L = c ++ r ∧ VRepP G w x c ∧ VRepsP G w xs r
end
theorem slat_chgG {S G : Nat → Prop} {w w' : World} {T : TypeId} {v : Value} {n : Nat} {cs : List Value} (h : SlAt w T v n cs) (hg : cs ≠ [] → inG G v) (hc : Chg S w w') (hS : ∀ k, G k → k < w.heap.size → ¬ S k) : SlAt w' T v n cs := by
  obtain ⟨p, cap, rfl, h1, h2, h3⟩ := h
  refine ⟨p, cap, rfl, h1, h2, fun hne => ?_⟩
  obtain ⟨b, off, c, fr, rfl, hb, hcs⟩ := h3 hne
  exact ⟨b, off, c, fr, rfl, hc.at hb (hS b (hg hne b rfl) (at_lt hb)), hcs⟩
theorem slat_lt {w : World} {T : TypeId} {v : Value} {n : Nat} {cs : List Value} (h : SlAt w T v n cs) (hne : cs ≠ []) : inG (fun k => k < w.heap.size) v := by
  obtain ⟨p, cap, rfl, h1, h2, h3⟩ := h
  obtain ⟨b, off, c, fr, rfl, hb, hcs⟩ := h3 hne
  intro k hk
  cases hk
  exact at_lt hb
mutual
theorem VRepP.chg {S G : Nat → Prop} {w w' : World} (hc : Chg S w w') (hS : ∀ k, G k → k < w.heap.size → ¬ S k) : ∀ {v : JV} {cs : List Value}, VRepP G w v cs → VRepP G w' v cs
  | .mk k b t xs ks, cs, h => by
    simp only [VRepP] at h ⊢
    obtain ⟨sv, kv, T1, T2, L, rfl, h1, h2, h3, h4, h5, h6⟩ := h
    exact ⟨sv, kv, T1, T2, L, rfl, slat_chgG h1 h5 hc hS, VRepsP.chg hc hS h2, slat_chgG h3 h6 hc hS, h4, h5, h6⟩
theorem VRepsP.chg {S G : Nat → Prop} {w w' : World} (hc : Chg S w w') (hS : ∀ k, G k → k < w.heap.size → ¬ S k) : ∀ {xs : List JV} {L : List Value}, VRepsP G w xs L → VRepsP G w' xs L
  | [], L, h => by simp only [VRepsP] at h ⊢; exact h
  | x :: xs, L, h => by
    simp only [VRepsP] at h ⊢
    obtain ⟨c, r, rfl, h1, h2⟩ := h
    exact ⟨c, r, rfl, VRepP.chg hc hS h1, VRepsP.chg hc hS h2⟩
end
mutual
theorem VRepP.mono {G G' : Nat → Prop} {w : World} (hG : ∀ k, k < w.heap.size → G k → G' k) : ∀ {v : JV} {cs : List Value}, VRepP G w v cs → VRepP G' w v cs
  | .mk k b t xs ks, cs, h => by
    simp only [VRepP] at h ⊢
    obtain ⟨sv, kv, T1, T2, L, rfl, h1, h2, h3, h4, h5, h6⟩ := h
    exact ⟨sv, kv, T1, T2, L, rfl, h1, VRepsP.mono hG h2, h3, h4, fun hne k hk => hG k (slat_lt h1 hne k hk) (h5 hne k hk), fun hne k hk => hG k (slat_lt h3 hne k hk) (h6 hne k hk)⟩
theorem VRepsP.mono {G G' : Nat → Prop} {w : World} (hG : ∀ k, k < w.heap.size → G k → G' k) : ∀ {xs : List JV} {L : List Value}, VRepsP G w xs L → VRepsP G' w xs L
  | [], L, h => by simp only [VRepsP] at h ⊢; exact h
  | x :: xs, L, h => by
    simp only [VRepsP] at h ⊢
    obtain ⟨c, r, rfl, h1, h2⟩ := h
    exact ⟨c, r, rfl, VRepP.mono hG h1, VRepsP.mono hG h2⟩
end
mutual
theorem VRepP.rep {G : Nat → Prop} {w : World} : ∀ {v : JV} {cs : List Value}, VRepP G w v cs → VRep w v cs
  | .mk k b t xs ks, cs, h => by
    simp only [VRepP] at h
    simp only [VRep]
    obtain ⟨sv, kv, T1, T2, L, rfl, h1, h2, h3, h4, h5, h6⟩ := h
    exact ⟨sv, kv, T1, T2, L, rfl, h1, VRepsP.rep h2, h3, h4⟩
theorem VRepsP.rep {G : Nat → Prop} {w : World} : ∀ {xs : List JV} {L : List Value}, VRepsP G w xs L → VReps w xs L
  | [], L, h => by simp only [VRepsP] at h; simp only [VReps]; exact h
  | x :: xs, L, h => by
    simp only [VRepsP] at h
    simp only [VReps]
    obtain ⟨c, r, rfl, h1, h2⟩ := h
    exact ⟨c, r, rfl, VRepP.rep h1, VRepsP.rep h2⟩
end
theorem VRepsP.snoc {G : Nat → Prop} {w : World} : ∀ {xs : List JV} {x : JV} {L cs : List Value}, VRepsP G w xs L → VRepP G w x cs → VRepsP G w (xs ++ [x]) (L ++ cs)
  | [], x, L, cs, h, hx => by
    simp only [VRepsP] at h
    subst h
    simp only [List.nil_append, VRepsP]
    exact ⟨cs, [], by simp, hx, rfl⟩
  | y :: xs, x, L, cs, h, hx => by
    simp only [VRepsP] at h
    obtain ⟨c, r, rfl, h1, h2⟩ := h
    simp only [List.cons_append, VRepsP]
    exact ⟨c, r ++ cs, by simp, h1, VRepsP.snoc h2 hx⟩
theorem VRepP.mk {G : Nat → Prop} {w : World} {v : JV} {sv kv : Value} {T1 T2 : TypeId} {L : List Value} (h1 : SlAt w T1 sv v.xs.length L) (h2 : VRepsP G w v.xs L) (h3 : SlAt w T2 kv v.ks.length (v.ks.map str)) (h4 : Fits v.xs.length v.ks v.t) (h5 : L ≠ [] → inG G sv) (h6 : v.ks.map str ≠ [] → inG G kv) : VRepP G w v [i64 v.k, .bool v.b, str v.t, sv, kv] := by
  cases v with
  | mk k b t xs ks => simp only [VRepP]; exact ⟨sv, kv, T1, T2, L, rfl, h1, h2, h3, h4, h5, h6⟩
abbrev From (n : Nat) : Nat → Prop := fun k => n ≤ k
section
variable [HX]
theorem clone_s {v : Value} {T : TypeId} {l : List Str} {w : World} {K : Value → World → Prop} (h : SlAt w T v l.length (l.map str)) (hl : l.length ≤ 1000000)
    (hK : ∀ v' w', Ext w w' → SlAt w' ST v' l.length (l.map str) → inG (From w.heap.size) v' → K v' w') : callF Tryz.prog 228 [v] w K := by
  refine W228_ok ?_
  unfold W228
  obtain ⟨p, cap, rfl, hcap, hp, hc⟩ := h
  cases p with
  | none =>
    obtain ⟨h0, rfl⟩ := hp rfl
    have : l = [] := List.eq_nil_of_length_eq_zero h0
    subst this
    have e : ∀ K : Value → Prop, eqW .slice false (.slice none ([] : List Str).length 0) (.slice none 0 0) K ↔ K (.bool true) := fun K => Iff.rfl
    rw [e]
    simp only [wsv, wsg, wsh, wsl, cond_true, cond_false, exists_eq_left', Option.some.injEq, Option.isSome_some, List.getElem?_toArray, List.getElem?_cons_zero, List.getElem?_cons_succ, List.length_cons, List.length_nil, List.set_cons_zero, List.set_cons_succ, List.getD_cons_zero, List.getD_cons_succ, Nat.zero_add, Nat.add_zero, Nat.reduceAdd, Nat.reduceLT, Nat.lt_add_one, Nat.zero_lt_succ, decide_true, decide_false, ne_eq, reduceCtorEq]
    exact hK _ w (Chg.refl _ _) (SlAt.nil _ _) (by intro k hk; cases hk)
  | some a =>
    have e : ∀ K : Value → Prop, eqW .slice false (.slice (some a) l.length cap) (.slice none 0 0) K ↔ K (.bool false) := fun K => Iff.rfl
    rw [e]
    unfold bslW
    simp only [wsv, wsg, wsh, wsl, cond_true, cond_false, exists_eq_left', Option.some.injEq, Option.isSome_some, List.getElem?_toArray, List.getElem?_cons_zero, List.getElem?_cons_succ, List.length_cons, List.length_nil, List.set_cons_zero, List.set_cons_succ, List.getD_cons_zero, List.getD_cons_succ, Nat.zero_add, Nat.add_zero, Nat.reduceAdd, Nat.reduceLT, Nat.lt_add_one, Nat.zero_lt_succ, decide_true, decide_false, ne_eq, reduceCtorEq]
    refine append_own3 elem_s (base := w.heap.size) (own_new (w := w) (base := w.heap.size) (e := ST) (size := 1) (n := 0) (cs := []) (Nat.le_refl _) rfl (by omega)) (x := .slice (some a) l.length cap) (T := T) (m := l.length) (news := l.map str) ?_ (by simp) ?_ (by omega) (by omega) (by rw [size_alloc]; omega) fun v' w' h' hc' hb' => ?_
    · have hx : Ext w (w.alloc (.cells ([] : List Value).toArray ST)) := (by repeat (first | assumption | exact Chg.refl _ _ | refine Chg.drew ?_ | refine Chg.alloc ?_ _ | refine Chg.set ?_ (by first | exact .inl rfl | exact .inr (by omega) | exact .inr (by simp only [size_set, size_alloc, size_drew]; omega) | (left; simp; done)) _ | exact Chg.of_ext (by assumption)))
      exact SlAt.ext ⟨some a, cap, rfl, hcap, hp, hc⟩ hx
    · intro u hu
      obtain ⟨s, _, rfl⟩ := List.mem_map.1 hu
      rfl
    · have hx : Ext w (w.alloc (.cells ([] : List Value).toArray ST)) := (by repeat (first | assumption | exact Chg.refl _ _ | refine Chg.drew ?_ | refine Chg.alloc ?_ _ | refine Chg.set ?_ (by first | exact .inl rfl | exact .inr (by omega) | exact .inr (by simp only [size_set, size_alloc, size_drew]; omega) | (left; simp; done)) _ | exact Chg.of_ext (by assumption)))
      refine hK v' w' (hx.then hc' fun k hk e => ?_) (by simpa using h'.sl) fun k hk => (h'.block k hk).1
      simp only [Value.ownBlock, Option.some.injEq] at e
      omega
theorem clones_p {xs : List JV} (hcl : ∀ x ∈ xs, ∀ {cs : List Value} {w : World} {K : Value → World → Prop}, VRep w x cs → (∀ cs' w', Ext w w' → VRepP (From w.heap.size) w' x cs' → K (.agg cs'.toArray) w') → callF Tryz.prog 189 [.agg cs.toArray] w K)
    {sv : Value} {w : World} {K : Value → World → Prop} (h : ItemsAt w sv xs) (hl : xs.length ≤ 1000000)
    (hK : ∀ sv' w', Ext w w' → (∃ L, SlAt w' VT sv' xs.length L ∧ VRepsP (From w.heap.size) w' xs L) → inG (From w.heap.size) sv' → K sv' w') : callF Tryz.prog 229 [sv] w K := by
  refine W229_ok ?_
  unfold W229
  rw [h.len]
  refine ⟨fun s w' => ∃ i v L, i ≤ xs.length ∧ s = [v, i64 (i : Nat)] ∧ Ext w w' ∧ Own w' w.heap.size VT 5 v i L ∧ VRepsP (fun k => w.heap.size ≤ k ∧ v.ownBlock ≠ some k) w' (xs.take i) L,
    fun s _ => match s with | [_, .int _ i] => xs.length - i.toNat | _ => 0, ⟨0, _, [], by omega, rfl, Chg.refl _ _, ⟨by simp, .inl ⟨rfl, rfl⟩⟩, by simp [VRepsP]⟩, ?_⟩
  rintro s g w2 ⟨i, v, L, hi, rfl, hx2, hO, hr⟩
  rcases Nat.lt_or_ge i xs.length with hlt | hge
  · obtain ⟨x, hxi⟩ : ∃ x, xs[i]? = some x := ⟨_, List.getElem?_eq_getElem hlt⟩
    have hltI : (i : Int) < (xs.length : Int) := by omega
    simp only [wsv, wsg, wsh, wsl, cond_true, cond_false, exists_eq_left', Option.some.injEq, Option.isSome_some, List.getElem?_toArray, List.getElem?_cons_zero, List.getElem?_cons_succ, List.length_cons, List.length_nil, List.set_cons_zero, List.set_cons_succ, List.getD_cons_zero, List.getD_cons_succ, Nat.zero_add, Nat.add_zero, Nat.reduceAdd, Nat.reduceLT, Nat.lt_add_one, Nat.zero_lt_succ, decide_true, decide_false, ne_eq, reduceCtorEq, hltI]
    refine (h.ext hx2).at hxi fun cs hcs => ?_
    refine copy_new hcs fun p w3 sp kp hP hx3 => ?_
    refine hP.ld fun cs2 h2 => ?_
    refine hcl x (List.mem_of_getElem? hxi) h2 fun cs3 w4 hx4 h3 => ?_
    refine row_v h3.rep.len fun t w5 ht hx5 => ?_
    have hx25 := hx3.trans (hx4.trans hx5)
    have hO5 := hO.ext hx25
    have s0 := hx2.size
    have s3 := hx3.size
    have s25 := hx25.size
    have hglt : ∀ k, v.ownBlock = some k → k < w2.heap.size := fun k hk => (World.ownsRow.lt hO k hk).2
    refine append_own3 elem_v hO5 ht (m := 1) (by rw [h3.rep.len]) h3.rep.one (by omega) (by omega) (by omega) fun v' w6 h6 hc6 hb6 => ?_
    have hx6 : Ext w w6 := (hx2.trans hx25).then hc6 fun k hk e => by
      have := (own_ge hO5 e).1; omega
    rw [up1 (by omega)]
    refine ⟨⟨i + 1, v', L ++ cs3, hlt, rfl, hx6, h6, ?_⟩, by simp only [Int.toNat_natCast]; omega⟩
    have e : xs.take (i + 1) = xs.take i ++ [x] := by rw [List.take_add_one, hxi]; rfl
    rw [e]
    have hr5 := VRepsP.chg hx25 (fun _ _ _ e => e) hr
    have h35 := VRepP.chg hx5 (fun _ _ _ e => e) h3
    have hall : VRepsP (fun k => w.heap.size ≤ k ∧ v.ownBlock ≠ some k) w5 (xs.take i ++ [x]) (L ++ cs3) :=
      hr5.snoc (h35.mono fun k _ hk => ⟨by have : w3.heap.size ≤ k := hk; omega, fun e => by have := hglt k e; have : w3.heap.size ≤ k := hk; omega⟩)
    have hall2 : VRepsP (fun k => (w.heap.size ≤ k ∧ v.ownBlock ≠ some k) ∧ k < w5.heap.size) w5 (xs.take i ++ [x]) (L ++ cs3) := hall.mono fun k hlt hk => ⟨hk, hlt⟩
    have hall3 := VRepsP.chg hc6 (fun k hk _ e => hk.1.2 e) hall2
    exact hall3.mono fun k _ hk => ⟨hk.1.1, fun e => by
      rcases hb6 k e with h | h
      · exact hk.1.2 h
      · omega⟩
  · obtain rfl : i = xs.length := by omega
    simp only [wsv, wsg, wsh, wsl, cond_true, cond_false, exists_eq_left', Option.some.injEq, Option.isSome_some, List.getElem?_toArray, List.getElem?_cons_zero, List.getElem?_cons_succ, List.length_cons, List.length_nil, List.set_cons_zero, List.set_cons_succ, List.getD_cons_zero, List.getD_cons_succ, Nat.zero_add, Nat.add_zero, Nat.reduceAdd, Nat.reduceLT, Nat.lt_add_one, Nat.zero_lt_succ, decide_true, decide_false, ne_eq, reduceCtorEq, Int.lt_irrefl]
    rw [List.take_length] at hr
    exact hK v w2 hx2 ⟨L, hO.sl, hr.mono fun k _ hk => hk.1⟩ fun k hk => (hO.block k hk).1
end
end Go.Proofs.YtcnjpcadejcenaaGreatDoor
namespace Go.Proofs.YtcnjpcadejcenaaGreatDoor
open Go Go.Eng Go.Num
set_option maxRecDepth 100000
section
variable [HX]
theorem clone_p (v : JV) : ∀ {cs : List Value} {w : World} {K : Value → World → Prop}, fewM v = true → VRep w v cs → (∀ cs' w', Ext w w' → VRepP (From w.heap.size) w' v cs' → K (.agg cs'.toArray) w') → callF Tryz.prog 189 [.agg cs.toArray] w K := by
  induction v using JV.ind' with
  | h v ih =>
    intro cs w K hfew h hK
    rw [fewM_eq, fewL_all] at hfew
    simp only [Bool.and_eq_true, decide_eq_true_eq, List.all_eq_true] at hfew
    obtain ⟨⟨f1, f2⟩, f3⟩ := hfew
    refine W189_ok ?_
    unfold W189
    refine box_val h fun a w1 sv kv hB hx ha => ?_
    refine alloc_new fun b w2 hb hz2 hbb hx2 => ?_
    have hxd : Ext w2 w2.drew := Chg.drew (Chg.refl (fun _ => False) w2)
    have hB2 := hB.ext hx2
    have hBd := hB2.ext hxd
    have hbd := hxd.at hbb id
    have sd : w2.drew.heap.size = w2.heap.size := rfl
    simp only [wsv, wsg, wsh, wsl, cond_true, cond_false, exists_eq_left', Option.some.injEq, Option.isSome_some, List.getElem?_toArray, List.getElem?_cons_zero, List.getElem?_cons_succ, List.length_cons, List.length_nil, List.set_cons_zero, List.set_cons_succ, List.getD_cons_zero, List.getD_cons_succ, Nat.zero_add, Nat.add_zero, Nat.reduceAdd, Nat.reduceLT, Nat.lt_add_one, Nat.zero_lt_succ, decide_true, decide_false, ne_eq, reduceCtorEq, wsh, hB2.hb]
    obtain ⟨T1, k1⟩ := hBd.keys
    refine clone_s k1 (by omega) fun kv' w3 hx3 hk3 hg3 => ?_
    have hB3 := hBd.ext hx3
    have hb3 := hx3.at hbd id
    have s3 := hx3.size
    simp only [wsv, wsg, wsh, wsl, cond_true, cond_false, exists_eq_left', Option.some.injEq, Option.isSome_some, List.getElem?_toArray, List.getElem?_cons_zero, List.getElem?_cons_succ, List.length_cons, List.length_nil, List.set_cons_zero, List.set_cons_succ, List.getD_cons_zero, List.getD_cons_succ, Nat.zero_add, Nat.add_zero, Nat.reduceAdd, Nat.reduceLT, Nat.lt_add_one, Nat.zero_lt_succ, decide_true, decide_false, ne_eq, reduceCtorEq, wsh, hB3.hb]
    refine clones_p (fun x hx => ih x hx (f3 x hx)) hB3.itemsAt (by omega) fun sv' w4 hx4 hL hg4 => ?_
    obtain ⟨L, hL1, hL2⟩ := hL
    have hB4 := hB3.ext hx4
    have hb4 := hx4.at hb3 id
    have s1 := hx.size
    have hak := at_lt hB.hb
    have one1 : one1 sv' = true ∧ one1 kv' = true := by
      obtain ⟨p, c, rfl, _⟩ := hL1.shape
      obtain ⟨p', c', rfl, _⟩ := hk3.shape
      exact ⟨rfl, rfl⟩
    refine st_at hB4.hb one1.2 (by simp) fun w5 hz5 ha5 hc5 => ?_
    have ha5 : w5.heap[a]? = some (.cells [i64 v.k, .bool v.b, str v.t, sv, kv'].toArray VT (0, 0)) := by rw [ha5]; simp
    refine st_at ha5 one1.1 (by simp) fun w6 hz6 ha6 hc6 => ?_
    have ha6 : w6.heap[a]? = some (.cells [i64 v.k, .bool v.b, str v.t, sv', kv'].toArray VT (0, 0)) := by rw [ha6]; simp
    refine ld_all ha6 rfl ?_
    have hb6 := hc6.at (hc5.at hb4 (by omega)) (by omega)
    refine ret_agg hb6 rfl rfl (obj_one one1.1 one1.2) fun w7 hc7 => ?_
    have hx1 : Ext w w4 := hx.trans (hx2.trans (hxd.trans (hx3.trans hx4)))
    have hx5 : Ext w w7 := ((hx1.new hc5 (by omega)).new hc6 (by omega)).new hc7 (by omega)
    have hch : Chg (fun k => k = a ∨ k = b) w4 w7 := ((hc5.mono fun k _ e => .inl e).trans (hc6.mono fun k _ e => .inl e)).trans (hc7.mono fun k _ e => .inr e)
    refine hK _ w7 hx5 (VRepP.mk (T1 := VT) (T2 := ST) (L := L) ?_ ?_ ?_ hB.fits (fun _ k hk => ?_) (fun _ k hk => ?_))
    · exact slat_chgG hL1 (fun _ => hg4) hch fun k hk _ e => by have : w3.heap.size ≤ k := hk; omega
    · refine VRepsP.mono (fun k _ hk => ?_) (VRepsP.chg (G := From w3.heap.size) hch (fun k hk _ e => by have : w3.heap.size ≤ k := hk; omega) hL2)
      have : w3.heap.size ≤ k := hk
      show w.heap.size ≤ k
      omega
    · exact slat_chgG (hk3.ext hx4) (fun _ => hg3) hch fun k hk _ e => by have : w2.drew.heap.size ≤ k := hk; omega
    · have : w3.heap.size ≤ k := hg4 k hk
      show w.heap.size ≤ k
      omega
    · have : w2.drew.heap.size ≤ k := hg3 k hk
      show w.heap.size ≤ k
      omega
theorem search_p {kv : Value} {T : TypeId} {ks : List Str} {k : Str} {w : World} {K : Value → World → Prop} (h : SlAt w T kv ks.length (ks.map str)) (hl : ks.length ≤ 100000) (hr : Rise ks)
    (hK : ∀ i : Nat, (idxK ks k = none ∨ idxK ks k = some i) → (∀ j a, j < i → ks[j]? = some a → Op.bytesLess a k = true) → (∀ j a, i ≤ j → ks[j]? = some a → Op.bytesLess a k = false) → i ≤ ks.length → K (.tuple #[i64 (i : Nat), .bool (idxK ks k).isSome]) w) :
    callF Tryz.prog 188 [kv, str k] w K := by
  refine W188_ok ?_
  unfold W188
  rw [lenl_at h]
  refine ⟨fun s w' => ∃ lo hi : Nat, lo ≤ hi ∧ hi ≤ ks.length ∧ s = [i64 (lo : Nat), i64 (hi : Nat)] ∧ w' = w ∧ (∀ j a, j < lo → ks[j]? = some a → Op.bytesLess a k = true) ∧ (∀ j a, hi ≤ j → ks[j]? = some a → Op.bytesLess a k = false),
    fun s _ => match s with | [.int _ lo, .int _ hi] => hi.toNat - lo.toNat | _ => 0, ⟨0, ks.length, by omega, by omega, rfl, rfl, fun j a h => by omega, fun j a hj ha => by have := (List.getElem?_eq_some_iff.1 ha).1; omega⟩, ?_⟩
  rintro s g w2 ⟨lo, hi, hle, hhi, rfl, rfl, h1, h2⟩
  rcases Nat.lt_or_ge lo hi with hlt | hge
  · have hltI : (lo : Int) < (hi : Int) := by omega
    have e1 : IntKind.i64.wrap ((lo : Int) + (hi : Int)) = ((lo + hi : Nat) : Int) := by rw [wrap_id (by omega) (by omega)]; omega
    have e2 : IntKind.u64.wrap ((lo + hi : Nat) : Int) = ((lo + hi : Nat) : Int) := u64_wrap (by omega) (by omega)
    have e3 : (((lo + hi : Nat) : Int).fdiv (2 ^ min (1 : Int).toNat IntKind.u64.bits)) = (((lo + hi) / 2 : Nat) : Int) := by
      have : (2 : Int) ^ min (1 : Int).toNat IntKind.u64.bits = 2 := by decide
      rw [this, Int.fdiv_eq_ediv_of_nonneg _ (by omega)]; omega
    have e4 : IntKind.i64.wrap (((lo + hi) / 2 : Nat) : Int) = (((lo + hi) / 2 : Nat) : Int) := wrap_id (by omega) (by omega)
    generalize hm : (lo + hi) / 2 = m at *
    obtain ⟨u, hu⟩ : ∃ u, ks[m]? = some u := ⟨_, List.getElem?_eq_getElem (by omega)⟩
    have h01 : (0 : Int) ≤ 1 := by decide
    simp only [wsv, wsg, wsh, wsl, cond_true, cond_false, exists_eq_left', Option.some.injEq, Option.isSome_some, List.getElem?_toArray, List.getElem?_cons_zero, List.getElem?_cons_succ, List.length_cons, List.length_nil, List.set_cons_zero, List.set_cons_succ, List.getD_cons_zero, List.getD_cons_succ, Nat.zero_add, Nat.add_zero, Nat.reduceAdd, Nat.reduceLT, Nat.lt_add_one, Nat.zero_lt_succ, decide_true, decide_false, ne_eq, reduceCtorEq, hltI, e1, e2, bin_shr, h01, e3, e4]
    refine text_ld h hu ?_
    refine cmp_less ?_
    rw [condW_b]
    refine ⟨fun hl => ?_, fun hn => ?_⟩
    · rw [up1 (by omega)]
      refine ⟨⟨m + 1, hi, by omega, hhi, rfl, rfl, fun j a hj ha => ?_, h2⟩, by simp only [Int.toNat_natCast]; omega⟩
      rcases Nat.lt_or_ge j m with hj2 | hj2
      · exact less_trans (rise_lt hr ha hu hj2) hl
      · obtain rfl : j = m := by omega
        rw [hu] at ha; cases ha; exact hl
    · refine ⟨⟨lo, m, by omega, by omega, rfl, rfl, h1, fun j a hj ha => ?_⟩, by simp only [Int.toNat_natCast]; omega⟩
      rcases Nat.lt_or_ge m j with hj2 | hj2
      · cases hb : Op.bytesLess a k with
        | false => rfl
        | true => have := less_trans (rise_lt hr hu ha hj2) hb; rw [hn] at this; cases this
      · obtain rfl : j = m := by omega
        rw [hu] at ha; cases ha; exact hn
  · obtain rfl : lo = hi := by omega
    have hi0 : idxK ks k = none ∨ idxK ks k = some lo := by
      cases hx : idxK ks k with
      | none => exact .inl rfl
      | some j =>
        right
        have hj := idxK_spec hx
        rcases Nat.lt_trichotomy j lo with h | h | h
        · have := h1 j k h hj; rw [less_irr] at this; cases this
        · rw [h]
        · obtain ⟨u, hu⟩ : ∃ u, ks[lo]? = some u := ⟨_, List.getElem?_eq_getElem (by have := (List.getElem?_eq_some_iff.1 hj).1; omega)⟩
          have a1 := h2 lo u (Nat.le_refl _) hu
          have a2 := rise_lt hr hu hj h
          rw [a1] at a2; cases a2
    have hK := hK lo hi0 h1 h2 hhi
    simp only [wsv, wsg, wsh, wsl, cond_true, cond_false, exists_eq_left', Option.some.injEq, Option.isSome_some, List.getElem?_toArray, List.getElem?_cons_zero, List.getElem?_cons_succ, List.length_cons, List.length_nil, List.set_cons_zero, List.set_cons_succ, List.getD_cons_zero, List.getD_cons_succ, Nat.zero_add, Nat.add_zero, Nat.reduceAdd, Nat.reduceLT, Nat.lt_add_one, Nat.zero_lt_succ, decide_true, decide_false, ne_eq, reduceCtorEq, Int.lt_irrefl]
    rcases Nat.lt_or_ge lo ks.length with hlt | hge2
    · obtain ⟨u, hu⟩ : ∃ u, ks[lo]? = some u := ⟨_, List.getElem?_eq_getElem hlt⟩
      have ed : decide ((lo : Int) < (ks.length : Int)) = true := decide_eq_true (by omega)
      have hsome : (idxK ks k).isSome = decide (u = k) := by
        by_cases e : u = k
        · subst e
          have hm : u ∈ ks := List.mem_of_getElem? hu
          rw [decide_eq_true rfl]
          cases hx : idxK ks u with
          | none => exact absurd hm (idxK_none.1 hx)
          | some _ => rfl
        · rw [decide_eq_false e]
          rcases hi0 with h | h
          · rw [h]; rfl
          · have := idxK_spec h; rw [hu] at this; exact absurd (Option.some.inj this) e
      rw [hsome] at hK
      simp only [wsv, wsg, wsh, wsl, cond_true, cond_false, exists_eq_left', Option.some.injEq, Option.isSome_some, List.getElem?_toArray, List.getElem?_cons_zero, List.getElem?_cons_succ, List.length_cons, List.length_nil, List.set_cons_zero, List.set_cons_succ, List.getD_cons_zero, List.getD_cons_succ, Nat.zero_add, Nat.add_zero, Nat.reduceAdd, Nat.reduceLT, Nat.lt_add_one, Nat.zero_lt_succ, decide_true, decide_false, ne_eq, reduceCtorEq, ed]
      refine GdW.t ?_
      refine text_ld h hu ?_
      intro gg
      simp only [ofL_data]
      simp only [wsv, wsg, wsh, wsl, cond_true, cond_false, exists_eq_left', Option.some.injEq, Option.isSome_some, List.getElem?_toArray, List.getElem?_cons_zero, List.getElem?_cons_succ, List.length_cons, List.length_nil, List.set_cons_zero, List.set_cons_succ, List.getD_cons_zero, List.getD_cons_succ, Nat.zero_add, Nat.add_zero, Nat.reduceAdd, Nat.reduceLT, Nat.lt_add_one, Nat.zero_lt_succ, decide_true, decide_false, ne_eq, reduceCtorEq]
      by_cases e : u = k
      · rw [decide_eq_true e] at hK ⊢
        (try simp only [wsv, wsg, wsh, wsl, cond_true, cond_false, exists_eq_left', Option.some.injEq, Option.isSome_some, List.getElem?_toArray, List.getElem?_cons_zero, List.getElem?_cons_succ, List.length_cons, List.length_nil, List.set_cons_zero, List.set_cons_succ, List.getD_cons_zero, List.getD_cons_succ, Nat.zero_add, Nat.add_zero, Nat.reduceAdd, Nat.reduceLT, Nat.lt_add_one, Nat.zero_lt_succ, decide_true, decide_false, ne_eq, reduceCtorEq])
        intros
        exact hK
      · rw [decide_eq_false e] at hK ⊢
        (try simp only [wsv, wsg, wsh, wsl, cond_true, cond_false, exists_eq_left', Option.some.injEq, Option.isSome_some, List.getElem?_toArray, List.getElem?_cons_zero, List.getElem?_cons_succ, List.length_cons, List.length_nil, List.set_cons_zero, List.set_cons_succ, List.getD_cons_zero, List.getD_cons_succ, Nat.zero_add, Nat.add_zero, Nat.reduceAdd, Nat.reduceLT, Nat.lt_add_one, Nat.zero_lt_succ, decide_true, decide_false, ne_eq, reduceCtorEq])
        refine GdW.t ?_
        refine text_ld h hu ?_
        refine isnan_s2 ?_
        intro gg
        (try simp only [wsv, wsg, wsh, wsl, cond_true, cond_false, exists_eq_left', Option.some.injEq, Option.isSome_some, List.getElem?_toArray, List.getElem?_cons_zero, List.getElem?_cons_succ, List.length_cons, List.length_nil, List.set_cons_zero, List.set_cons_succ, List.getD_cons_zero, List.getD_cons_succ, Nat.zero_add, Nat.add_zero, Nat.reduceAdd, Nat.reduceLT, Nat.lt_add_one, Nat.zero_lt_succ, decide_true, decide_false, ne_eq, reduceCtorEq])
        intros
        exact hK
    · have hsome : idxK ks k = none := by
        rcases hi0 with h | h
        · exact h
        · have := (List.getElem?_eq_some_iff.1 (idxK_spec h)).1; omega
      rw [hsome] at hK
      have ed : decide ((lo : Int) < (ks.length : Int)) = false := decide_eq_false (by omega)
      simp only [wsv, wsg, wsh, wsl, cond_true, cond_false, exists_eq_left', Option.some.injEq, Option.isSome_some, List.getElem?_toArray, List.getElem?_cons_zero, List.getElem?_cons_succ, List.length_cons, List.length_nil, List.set_cons_zero, List.set_cons_succ, List.getD_cons_zero, List.getD_cons_succ, Nat.zero_add, Nat.add_zero, Nat.reduceAdd, Nat.reduceLT, Nat.lt_add_one, Nat.zero_lt_succ, decide_true, decide_false, ne_eq, reduceCtorEq, ed]
      intros
      exact hK
end
end Go.Proofs.YtcnjpcadejcenaaGreatDoor
namespace Go.Proofs.YtcnjpcadejcenaaGreatDoor
open Go Go.Eng Go.RowKit
set_option maxRecDepth 100000
theorem utfM_of {s : Str} (h : utfM s = true) : Utf s := (utf_iff s).1 h
def partL (xs : List JV) (i : Nat) : Str := (if i = 0 then [] else [44]) ++ (match xs[i]? with | some x => showM x | none => [])
def partO (xs : List JV) (ks : List Str) (i : Nat) : Str := (if i = 0 then [] else [44]) ++ quoteM (ks.getD i []) ++ [58] ++ (match xs[i]? with | some x => showM x | none => [])
def sumL (f : Nat → Str) : Nat → Str
  | 0 => []
  | n + 1 => sumL f n ++ f n
theorem joinM_cons {x : Str} {xs : List Str} (h : xs ≠ []) : joinM (x :: xs) = x ++ [44] ++ joinM xs := by
  cases xs with
  | nil => exact absurd rfl h
  | cons y r => rfl
theorem joinM_snoc : ∀ (xs : List Str) (x : Str), joinM (xs ++ [x]) = if xs = [] then x else joinM xs ++ [44] ++ x
  | [], x => rfl
  | [y], x => by simp [joinM]
  | y :: z :: r, x => by
    have := joinM_snoc (z :: r) x
    rw [List.cons_append, joinM_cons (by simp), this, if_neg (by simp), if_neg (by simp), joinM_cons (x := y) (xs := z :: r) (by simp)]
    simp [List.append_assoc]
theorem sum_join (f : Nat → Str) (g : List Str) (hf : ∀ i x, g[i]? = some x → f i = (if i = 0 then [] else [44]) ++ x) : ∀ n, n ≤ g.length → sumL f n = joinM (g.take n) := by
  intro n
  induction n with
  | zero => intro _; rfl
  | succ n ih =>
    intro h
    have hn : n < g.length := by omega
    rw [sumL, ih (by omega), hf n g[n] (List.getElem?_eq_getElem hn), List.take_add_one, List.getElem?_eq_getElem hn, Option.toList_some, joinM_snoc]
    cases n with
    | zero => simp [joinM]
    | succ n =>
      rw [if_neg (by omega), if_neg (by
        intro e
        have := congrArg List.length e
        rw [List.length_take, List.length_nil] at this
        omega), List.append_assoc]
theorem showL_get : ∀ (xs : List JV) (i : Nat), (showL xs)[i]? = (xs[i]?).map showM
  | [], i => by simp [showL]
  | x :: xs, 0 => by simp [showL]
  | x :: xs, i + 1 => by simp only [showL, List.getElem?_cons_succ]; exact showL_get xs i
theorem showL_len : ∀ (xs : List JV), (showL xs).length = xs.length
  | [] => rfl
  | x :: xs => by simp only [showL, List.length_cons]; rw [showL_len xs]
theorem list_join (xs : List JV) : sumL (partL xs) xs.length = joinM (showL xs) := by
  rw [sum_join (partL xs) (showL xs) (fun i x h => by
    rw [showL_get] at h
    unfold partL
    cases hx : xs[i]? with
    | none => rw [hx] at h; cases h
    | some y => rw [hx] at h; cases h; rfl) xs.length (by rw [showL_len]; exact Nat.le_refl _), ← showL_len, List.take_length]
theorem obj_join {xs : List JV} {ks : List Str} (hl : ks.length = xs.length) : sumL (partO xs ks) xs.length = joinM (List.zipWith (fun a b => quoteM a ++ [58] ++ b) ks (showL xs)) := by
  have hz : (List.zipWith (fun a b => quoteM a ++ [58] ++ b) ks (showL xs)).length = xs.length := by rw [List.length_zipWith, showL_len]; omega
  rw [sum_join (partO xs ks) (List.zipWith (fun a b => quoteM a ++ [58] ++ b) ks (showL xs)) (fun i x h => by
    rw [List.getElem?_zipWith] at h
    unfold partO
    cases hx : xs[i]? with
    | none =>
      rw [showL_get, hx] at h
      cases hk : ks[i]? with
      | none => rw [hk] at h; cases h
      | some k => rw [hk] at h; cases h
    | some y =>
      cases hk : ks[i]? with
      | none =>
        have := List.getElem?_eq_none_iff.1 hk
        have := (List.getElem?_eq_some_iff.1 hx).1
        omega
      | some k =>
        rw [showL_get, hx, hk] at h
        cases h
        rw [List.getD_eq_getElem?_getD, hk]
        simp [List.append_assoc]) xs.length (by rw [hz]; exact Nat.le_refl _), ← hz, List.take_length]
section
variable [HX]
theorem quote_len (s : Str) : (quoteM s).length ≤ 6 * s.length + 2 := by
  unfold quoteM
  simp only [List.length_append, List.length_cons, List.length_nil]
  have := flat_len s
  omega
def cntAt (xs : List JV) (i : Nat) : Nat := match xs[i]? with | some x => cntM x | none => 0
def cntS (xs : List JV) : Nat → Nat
  | 0 => 0
  | n + 1 => cntS xs n + cntAt xs n
theorem cntAt_get {xs : List JV} {i : Nat} {x : JV} (h : xs[i]? = some x) : cntAt xs i = cntM x := by unfold cntAt; rw [h]
theorem cntS_cons (x : JV) (xs : List JV) : ∀ n, cntS (x :: xs) (n + 1) = cntM x + cntS xs n
  | 0 => by simp [cntS, cntAt]
  | n + 1 => by
    rw [cntS, cntS_cons x xs n, cntS]
    have : cntAt (x :: xs) (n + 1) = cntAt xs n := by unfold cntAt; rw [List.getElem?_cons_succ]
    omega
theorem cntS_le : ∀ (xs : List JV) (n : Nat), n ≤ xs.length → cntS xs n ≤ cntL xs
  | xs, 0, _ => Nat.zero_le _
  | [], n + 1, h => by simp at h
  | x :: xs, n + 1, h => by
    have ih := cntS_le xs n (by simpa using h)
    rw [cntS_cons]
    simp only [cntL]
    omega
theorem sum_len {f : Nat → Str} {xs : List JV} : ∀ n, (∀ i, i < n → (f i).length ≤ 200000 * cntAt xs i) → (sumL f n).length ≤ 200000 * cntS xs n := by
  intro n
  induction n with
  | zero => intro _; simp [sumL]
  | succ n ih =>
    intro h
    have ih := ih fun i hi => h i (by omega)
    rw [sumL, List.length_append, cntS]
    have := h n (by omega)
    omega
theorem show_len (v : JV) : plainM v = true → (showM v).length + 100000 ≤ 200000 * cntM v := by
  induction v using JV.ind with
  | h k b t xs ks ih =>
    intro hp
    rw [plainM_eq, Bool.and_eq_true] at hp
    obtain ⟨hp1, hp2⟩ := hp
    have hh := headOk_out hp1
    simp only [JV.k, JV.b, JV.t, JV.xs, JV.ks] at hh hp2
    rw [plainL_all, List.all_eq_true] at hp2
    have hi : ∀ x ∈ xs, (showM x).length + 100000 ≤ 200000 * cntM x := fun x hx => ih x hx (hp2 x hx)
    simp only [cntM]
    rw [showM_eq]
    have hcg := cntS_le xs xs.length (Nat.le_refl _)
    have sums : ∀ (f : Nat → Str) , (∀ i, i < xs.length → (f i).length ≤ 200000 * cntAt xs i) → (sumL f xs.length).length ≤ 200000 * cntL xs := fun f hf => by
      have h1 := sum_len (f := f) xs.length hf
      omega
    split
    · simp; omega
    split
    · cases b <;> simp <;> omega
    split
    · rename_i h3
      have hg := hh.2.2.2.2.2.2.1 h3
      obtain ⟨g1, g2, _, _⟩ := Num.goodN_out hg
      have : t.length ≤ (Num.dig t).length + 1 := by
        cases t with
        | nil => simp [Num.dig]
        | cons c d => unfold Num.dig; dsimp only; split <;> simp
      omega
    split
    · rename_i h4
      have hl := hh.2.2.2.2.2.2.2.1 h4
      have := quote_len t
      omega
    split
    · rename_i h6
      have hkl := hh.2.2.2.2.2.2.2.2.1 h6
      have hks := keysOk_len hh.2.2.2.2.2.2.2.2.2
      rw [← obj_join hkl]
      have := sums (partO xs ks) fun i hlt => by
        unfold partO
        rw [cntAt_get (List.getElem?_eq_getElem hlt), List.getElem?_eq_getElem hlt]
        have h1 := hi xs[i] (List.getElem_mem ..)
        have hk : ks[i]? = some (ks[i]'(by omega)) := List.getElem?_eq_getElem _
        have h2 := hks (ks[i]'(by omega)) (List.getElem_mem ..)
        have h3 := quote_len (ks[i]'(by omega))
        rw [List.getD_eq_getElem?_getD, hk, Option.getD_some]
        simp only [List.length_append, List.length_cons, List.length_nil]
        split
        · rw [List.length_nil]; omega
        · rw [List.length_cons, List.length_nil]; omega
      simp only [List.length_append, List.length_cons, List.length_nil]
      omega
    · rw [← list_join]
      have := sums (partL xs) fun i hlt => by
        unfold partL
        rw [cntAt_get (List.getElem?_eq_getElem hlt), List.getElem?_eq_getElem hlt]
        have h1 := hi xs[i] (List.getElem_mem ..)
        simp only [List.length_append]
        split
        · rw [List.length_nil]; omega
        · rw [List.length_cons, List.length_nil]; omega
      simp only [List.length_append, List.length_cons, List.length_nil]
      omega
end
end Go.Proofs.YtcnjpcadejcenaaGreatDoor
namespace Go.Proofs.YtcnjpcadejcenaaGreatDoor
open Go Go.Eng Go.RowKit
set_option maxRecDepth 100000
section
variable [HX]
theorem wlit_p {w : World} {B b : Nat} {l s : Str} {K : Value → World → Prop} (h : Bld w B b l) (hB : B ≤ w.heap.size) (hl : l.length + s.length ≤ 1000000000)
    (hK : ∀ v w', Bld w' B b (l ++ s) → Chg (BCh w B b) w w' → K v w') : callF Tryz.prog 78 [.pointer (some ⟨b, 0, none⟩), str s] w K := wstr_p h hB (by omega) hK
theorem fbool_p {b : Bool} {w : World} {K : Value → World → Prop} (hK : K (str (if b then [116, 114, 117, 101] else [102, 97, 108, 115, 101])) w) : callF Tryz.prog 104 [.bool b] w K := by
  refine of_calls (args := #[.bool b]) Tryz.call104 ((Tryz.strconv_FormatBool b w).mono ?_)
  rintro e w' ⟨rfl, rfl⟩
  refine ⟨_, rfl, ?_⟩
  have e : (⟨(Lib.formatBool b).toArray⟩ : ByteArray) = ofL (if b then [116, 114, 117, 101] else [102, 97, 108, 115, 101]) := by cases b <;> decide +kernel
  rw [e]
  exact hK
theorem textsL_mem : ∀ {xs : List JV}, textsL xs = true → ∀ x ∈ xs, textsM x = true
  | [], _, x, hx => by cases hx
  | y :: ys, h, x, hx => by
    simp only [textsL, Bool.and_eq_true] at h
    rcases List.mem_cons.1 hx with rfl | hx
    · exact h.1
    · exact textsL_mem h.2 x hx
theorem sum_succ (f : Nat → Str) (n : Nat) : sumL f (n + 1) = sumL f n ++ f n := rfl
theorem BCh.keepv {w w' : World} {B b k : Nat} {l : List Value} (h : Chg (BCh w B b) w w') (hk : w.heap[k]? = some (.cells l.toArray VT (0, 0))) (hb : k ≠ b) : w'.heap[k]? = some (.cells l.toArray VT (0, 0)) := BCh.keep h hk hb (by decide)
theorem write_p (v : JV) : ∀ {w0 w : World} {B b : Nat} {l : Str} {cs : List Value} {K : Value → World → Prop}, VRep w0 v cs → Ext w0 w → w0.heap.size ≤ B → B ≤ w.heap.size → Bld w B b l → plainM v = true → textsM v = true → knownM v = true → fewM v = true →
    l.length + 200000 * cntM v ≤ 900000000 → FmtOk w0 → (∀ w', Bld w' B b (l ++ showM v) → Chg (BCh w B b) w w' → K (.tuple #[]) w') → callF Tryz.prog 45 [.pointer (some ⟨b, 0, none⟩), .agg cs.toArray] w K := by
  induction v using JV.ind with
  | h k bb t xs ks ih =>
    intro w0 w B b l cs K hr h0 hB0 hB hbd hp hu hkn hfew hl hF hK
    have hsl := show_len _ hp
    have hbb := hbd.base
    have hblt := hbd.lt
    rw [plainM_eq, Bool.and_eq_true] at hp
    obtain ⟨hp1, hp2⟩ := hp
    have hh := headOk_out hp1
    simp only [JV.k, JV.b, JV.t, JV.xs, JV.ks] at hh hp2
    rw [knownM_eq, Bool.and_eq_true, Bool.not_eq_true', decide_eq_false_iff_not] at hkn
    obtain ⟨hkn1, hkn2⟩ := hkn
    simp only [JV.k, JV.xs] at hkn1 hkn2
    simp only [textsM, Bool.and_eq_true] at hu
    obtain ⟨⟨hu1, hu2⟩, hu3⟩ := hu
    rw [fewM_eq] at hfew
    simp only [JV.xs, JV.ks, Bool.and_eq_true] at hfew
    obtain ⟨⟨hf1, hf2⟩, hf3⟩ := hfew
    have hf1 : xs.length ≤ 100000 := of_decide_eq_true hf1
    rw [plainL_all, List.all_eq_true] at hp2
    rw [knownL_all, List.all_eq_true] at hkn2
    rw [fewL_all, List.all_eq_true] at hf3
    have hu3' := textsL_mem hu3
    simp only [cntM] at hl hsl
    rw [showM_eq] at hK hsl
    refine W45_ok ?_
    unfold W45
    refine box_vali hr fun a w1 sv kv ha hI hx1 hage hz1 => ?_
    simp only [JV.k, JV.b, JV.t, JV.xs, JV.ks] at ha
    have hab : a ≠ b := by omega
    have hx01 := h0.trans hx1
    have hb1 := hbd.ext hx1
    have ld : ∀ (w' : World) (off : Nat) (v : Value) (KK : Value → Prop), w'.heap[a]? = some (.cells [i64 k, .bool bb, str t, sv, kv].toArray VT (0, 0)) → [i64 k, .bool bb, str t, sv, kv][off]? = some v → KK v → fldW off (.pointer (some ⟨a, 0, none⟩)) fun p => ldW false 1 p w' KK := by
      intro w' off v KK hw hv hk
      rw [fld_ptr, ld_one]
      refine ⟨v, ?_, hk⟩
      rw [add_mk, cell_eq, hw, cellO_some, Nat.zero_add]
      simpa using hv
    have mk : ∀ {w' : World}, Chg (BCh w1 B b) w1 w' → Chg (BCh w B b) w w' := fun hc => BCh.from hx1 hc
    refine ld w1 0 _ _ ha rfl ?_
    rw [bin_eql, condW_dec]
    refine ⟨fun e0 => ?_, fun e0 => ?_⟩
    · rw [if_pos e0] at hK
      exact wlit_p hb1 (by omega) (by simp; omega) fun v w2 h2 hc2 => hK w2 h2 (mk hc2)
    rw [if_neg e0] at hK hsl
    rw [bin_eql, condW_dec]
    refine ⟨fun e2 => ?_, fun e2 => ?_⟩
    · rw [if_pos e2] at hK
      refine ld w1 1 _ _ ha rfl ?_
      refine fbool_p ?_
      refine wlit_p hb1 (by omega) (by cases bb <;> simp <;> omega) fun v w2 h2 hc2 => hK w2 h2 (mk hc2)
    rw [if_neg e2] at hK hsl
    rw [bin_eql, condW_dec]
    refine ⟨fun e3 => ?_, fun e3 => ?_⟩
    · rw [if_pos e3] at hK hsl
      refine ld w1 2 _ _ ha rfl ?_
      exact wlit_p hb1 (by omega) (by omega) fun v w2 h2 hc2 => hK w2 h2 (mk hc2)
    rw [if_neg e3] at hK hsl
    rw [bin_eql, condW_dec]
    refine ⟨fun e4 => ?_, fun e4 => ?_⟩
    · rw [if_pos e4] at hK hsl
      have ht4 := hh.2.2.2.2.2.2.2.1 e4
      refine ld w1 2 _ _ ha rfl ?_
      exact quote_p hx01 hB0 hb1 (by omega) (utfM_of hu1) (by omega) (fun _ _ _ => hF) fun w2 h2 hc2 => hK w2 h2 (mk hc2)
    rw [if_neg e4] at hK hsl
    have hcg := fun n hn => cntS_le xs n hn
    rw [bin_eql, condW_dec]
    refine ⟨fun e5 => ?_, fun e5 => ?_⟩
    · rw [if_neg (by omega), ← list_join] at hK
      refine wbyte_p (n := 91) hb1 (by omega) (by omega) (by omega) fun w2 h2 hc2 => ?_
      have ha2 := BCh.keepv hc2 ha hab
      refine ld w2 3 _ _ ha2 rfl ?_
      have hit : lenlW sv = fun K => K (i64 (xs.length : Int)) := by
        funext K
        obtain ⟨T, L, i1, _⟩ := hI.items
        exact propext (lenl_at i1 K)
      rw [hit]
      dsimp only
      refine loop_up xs.length (fun i w' => Chg (BCh w B b) w w' ∧ w'.heap[a]? = some (.cells [i64 k, .bool bb, str t, sv, kv].toArray VT (0, 0)) ∧ Bld w' B b (l ++ [91] ++ sumL (partL xs) i) ∧ (sumL (partL xs) i).length ≤ 200000 * cntS xs i) ⟨mk hc2, ha2, by simpa [sumL] using h2, by simp [sumL]⟩ ?_ ?_
      · rintro i w3 g L hi ⟨hc3, ha3, h3, hs3⟩ hL
        obtain ⟨x, hxi⟩ : ∃ x, xs[i]? = some x := ⟨_, List.getElem?_eq_getElem hi⟩
        have hxm := List.mem_of_getElem? hxi
        have hcs := hcg (i + 1) hi
        rw [cntS, cntAt_get hxi] at hcs
        have hz3 := hc3.size
        have hx03 : Ext w0 w3 := BCh.new h0 hB0 hbb hc3
        simp only [List.getD_cons_zero]
        rw [bin_lss, decide_eq_true (by omega), condW_true]
        refine ValI.item_old hI hx03 hxi fun cs2 hr2 => ?_
        refine alloc_new fun a2 w4 ha2 hz4 hb4 hx4 => ?_
        have hlen := hr2.len
        refine st_agg_at (l := cs2) hb4 (by omega) (by simp) hr2.all_one fun w5 hz5 hb5 hc5 => ?_
        have hx5 : Ext w3 w5 := hx4.new hc5 (by omega)
        have h5 := h3.ext hx5
        have hc5' := BCh.ext hc3 hx5
        have ha5 := hx5.at ha3 id
        have ha2b : a2 ≠ b := by have := h3.lt; omega
        have hll : (l ++ [91] ++ sumL (partL xs) i).length = l.length + 1 + (sumL (partL xs) i).length := by simp only [List.length_append, List.length_cons, List.length_nil]
        refine JoinW.cut (fun s' w6 => s' = [] ∧ Chg (BCh w5 B b) w5 w6 ∧ Bld w6 B b (l ++ [91] ++ sumL (partL xs) i ++ (if i = 0 then [] else [44]))) ?_ ?_
        · rw [bin_gtr, condW_dec]
          refine ⟨fun hpos => ?_, fun hz => ?_⟩
          · refine wbyte_p (n := 44) h5 (by omega) (by omega) (by omega) fun w6 h6 hc6 => ⟨rfl, hc6, ?_⟩
            rw [if_neg (by omega)]; exact h6
          · refine ⟨rfl, Chg.refl _ _, ?_⟩
            rw [if_pos (by omega), List.append_nil]; exact h5
        rintro s' g6 w6 ⟨rfl, hc6, h6⟩
        have hb6 := BCh.keepv hc6 hb5 ha2b
        have hz6 := hc6.size
        refine ld_all hb6 (by omega) ?_
        refine ih x hxm (w0 := w0) hr2 (BCh.new hx03 (by omega) hbb (BCh.from hx5 hc6) ) hB0 (by omega) h6 (hp2 x hxm) (hu3' x hxm) (hkn2 x hxm) (hf3 x hxm) ?_ hF fun w7 h7 hc7 => ?_
        · simp only [List.length_append] at hll ⊢
          have : (if i = 0 then ([] : Str) else [44]).length ≤ 1 := by split <;> simp
          omega
        have hi2 : i < 100000 := by omega
        rw [bin_add, up1 (i := i) (by omega)]
        have hcc := BCh.trans (BCh.trans hc5' hc6) hc7
        refine hL w7 ⟨hcc, BCh.keepv hc7 (BCh.keepv hc6 ha5 hab) hab, ?_, ?_⟩
        · rw [sum_succ]
          unfold partL
          rw [hxi, ← List.append_assoc, ← List.append_assoc]
          exact h7
        · rw [sum_succ, List.length_append, cntS, cntAt_get hxi]
          have := show_len x (hp2 x hxm)
          have h9 : (partL xs i).length ≤ 1 + (showM x).length := by
            unfold partL; rw [hxi, List.length_append]; split <;> simp
          omega
      · rintro w3 g L ⟨hc3, ha3, h3, hs3⟩
        have hz3 := hc3.size
        have hcs := hcg xs.length (Nat.le_refl _)
        simp only [List.getD_cons_zero]
        rw [bin_lss, decide_eq_false (by omega), condW_false]
        refine wbyte_p (n := 93) h3 (by omega) (by simp only [List.length_append, List.length_cons, List.length_nil]; omega) (by omega) fun w4 h4 hc4 => ?_
        refine hK w4 ?_ (BCh.trans hc3 hc4)
        simpa [List.append_assoc] using h4
    have e6 : k = 6 := by
      have := hh.1; have := hh.2.1; omega
    have hkl := hh.2.2.2.2.2.2.2.2.1 e6
    have hks := keysOk_len hh.2.2.2.2.2.2.2.2.2
    rw [List.all_eq_true] at hu2
    rw [bin_eql, decide_eq_true e6, condW_true]
    rw [if_pos e6, ← obj_join hkl] at hK
    refine wbyte_p (n := 123) hb1 (by omega) (by omega) (by omega) fun w2 h2 hc2 => ?_
    have ha2 := BCh.keepv hc2 ha hab
    refine ld w2 3 _ _ ha2 rfl ?_
    have hit : lenlW sv = fun K => K (i64 (xs.length : Int)) := by
      funext K
      obtain ⟨T, L, i1, _⟩ := hI.items
      exact propext (lenl_at i1 K)
    rw [hit]
    dsimp only
    refine loop_up xs.length (fun i w' => Chg (BCh w B b) w w' ∧ w'.heap[a]? = some (.cells [i64 k, .bool bb, str t, sv, kv].toArray VT (0, 0)) ∧ Bld w' B b (l ++ [123] ++ sumL (partO xs ks) i) ∧ (sumL (partO xs ks) i).length ≤ 200000 * cntS xs i) ⟨mk hc2, ha2, by simpa [sumL] using h2, by simp [sumL]⟩ ?_ ?_
    · rintro i w3 g L hi ⟨hc3, ha3, h3, hs3⟩ hL
      obtain ⟨x, hxi⟩ : ∃ x, xs[i]? = some x := ⟨_, List.getElem?_eq_getElem hi⟩
      obtain ⟨key, hki⟩ : ∃ key, ks[i]? = some key := ⟨_, List.getElem?_eq_getElem (by omega)⟩
      have hkm := List.mem_of_getElem? hki
      have hklen := hks key hkm
      have hql := quote_len key
      have hxm := List.mem_of_getElem? hxi
      have hcs := hcg (i + 1) hi
      rw [cntS, cntAt_get hxi] at hcs
      have hpart : partO xs ks i = (if i = 0 then [] else [44]) ++ quoteM key ++ [58] ++ showM x := by
        unfold partO
        rw [hxi, List.getD_eq_getElem?_getD, hki]; rfl
      have hz3 := hc3.size
      have hx03 : Ext w0 w3 := BCh.new h0 hB0 hbb hc3
      simp only [List.getD_cons_zero]
      rw [bin_lss, decide_eq_true (by omega), condW_true]
      refine ValI.item_old hI hx03 hxi fun cs2 hr2 => ?_
      refine alloc_new fun a2 w4 ha2 hz4 hb4 hx4 => ?_
      have hlen := hr2.len
      refine st_agg_at (l := cs2) hb4 (by omega) (by simp) hr2.all_one fun w5 hz5 hb5 hc5 => ?_
      have hx5 : Ext w3 w5 := hx4.new hc5 (by omega)
      have h5 := h3.ext hx5
      have hc5' := BCh.ext hc3 hx5
      have ha5 := hx5.at ha3 id
      have ha2b : a2 ≠ b := by have := h3.lt; omega
      have hll : (l ++ [123] ++ sumL (partO xs ks) i).length = l.length + 1 + (sumL (partO xs ks) i).length := by simp only [List.length_append, List.length_cons, List.length_nil]
      have hif : (if i = 0 then ([] : Str) else [44]).length ≤ 1 := by split <;> simp
      have hx1 := show_len x (hp2 x hxm)
      refine JoinW.cut (fun s' w6 => s' = [] ∧ Chg (BCh w5 B b) w5 w6 ∧ Bld w6 B b (l ++ [123] ++ sumL (partO xs ks) i ++ (if i = 0 then [] else [44]))) ?_ ?_
      · rw [bin_gtr, condW_dec]
        refine ⟨fun hpos => ?_, fun hz => ?_⟩
        · refine wbyte_p (n := 44) h5 (by omega) (by omega) (by omega) fun w6 h6 hc6 => ⟨rfl, hc6, ?_⟩
          rw [if_neg (by omega)]; exact h6
        · refine ⟨rfl, Chg.refl _ _, ?_⟩
          rw [if_pos (by omega), List.append_nil]; exact h5
      rintro s' g6 w6 ⟨rfl, hc6, h6⟩
      have hb6 := BCh.keepv hc6 hb5 ha2b
      have ha6 := BCh.keepv hc6 ha5 hab
      have hz6 := hc6.size
      have hx06 : Ext w0 w6 := BCh.new hx03 (by omega) hbb (BCh.from hx5 hc6)
      refine ld w6 4 _ _ ha6 rfl ?_
      obtain ⟨T, hkv⟩ := hI.keys
      refine text_ld (hkv.ext hx06) hki ?_
      refine quote_p hx06 hB0 h6 (by omega) (utfM_of (hu2 key hkm)) ?_ (fun _ _ _ => hF) fun w7 h7 hc7 => ?_
      · simp only [List.length_append] at hll ⊢
        omega
      have hb7 := BCh.keepv hc7 hb6 ha2b
      have ha7 := BCh.keepv hc7 ha6 hab
      have hz7 := hc7.size
      refine wbyte_p (n := 58) h7 (by omega) ?_ (by omega) fun w8 h8 hc8 => ?_
      · simp only [List.length_append] at hll ⊢
        omega
      have hb8 := BCh.keepv hc8 hb7 ha2b
      have ha8 := BCh.keepv hc8 ha7 hab
      have hz8 := hc8.size
      refine ld_all hb8 (by omega) ?_
      have hc58 := BCh.trans (BCh.trans hc6 hc7) hc8
      refine ih x hxm (w0 := w0) hr2 (BCh.new hx03 (by omega) hbb (BCh.from hx5 hc58)) hB0 (by omega) h8 (hp2 x hxm) (hu3' x hxm) (hkn2 x hxm) (hf3 x hxm) ?_ hF fun w9 h9 hc9 => ?_
      · simp only [List.length_append, List.length_cons, List.length_nil] at hll ⊢
        omega
      have hi2 : i < 100000 := by omega
      rw [bin_add, up1 (i := i) (by omega)]
      have hcc := BCh.trans (BCh.trans hc5' hc58) hc9
      refine hL w9 ⟨hcc, BCh.keepv hc9 ha8 hab, ?_, ?_⟩
      · rw [sum_succ, hpart]
        simpa [List.append_assoc] using h9
      · rw [sum_succ, List.length_append, cntS, cntAt_get hxi, hpart]
        simp only [List.length_append, List.length_cons, List.length_nil]
        omega
    · rintro w3 g L ⟨hc3, ha3, h3, hs3⟩
      have hz3 := hc3.size
      have hcs := hcg xs.length (Nat.le_refl _)
      simp only [List.getD_cons_zero]
      rw [bin_lss, decide_eq_false (by omega), condW_false]
      refine wbyte_p (n := 125) h3 (by omega) (by simp only [List.length_append, List.length_cons, List.length_nil]; omega) (by omega) fun w4 h4 hc4 => ?_
      refine hK w4 ?_ (BCh.trans hc3 hc4)
      simpa [List.append_assoc] using h4
end
end Go.Proofs.YtcnjpcadejcenaaGreatDoor
namespace Go.Proofs.YtcnjpcadejcenaaGreatDoor
open Go Go.Eng Go.Num
set_option maxRecDepth 100000
section
variable [HX]
theorem get_p {v : JV} {cs : List Value} {k : Str} {w : World} {K : Value → World → Prop} (h : VRep w v cs) (k6 : v.k = 6) (hl : v.ks.length = v.xs.length) (hfew : fewM v = true) (hr : Rise v.ks)
    (hK : ∀ cs' w', Ext w w' → VRep w' ((getM v k).getD JV.null) cs' → K (.tuple #[.agg cs'.toArray, .bool (getM v k).isSome]) w') : callF Tryz.prog 162 [.agg cs.toArray, str k] w K := by
  have hfew2 := hfew
  rw [fewM_eq, fewL_all] at hfew2
  simp only [Bool.and_eq_true, decide_eq_true_eq, List.all_eq_true] at hfew2
  obtain ⟨⟨f1, f2⟩, f3⟩ := hfew2
  refine W162_ok ?_
  unfold W162
  refine box_val h fun a w1 sv kv hB hx _ => ?_
  refine alloc_new fun b w2 hb hz2 hbb hx2 => ?_
  have hB0 := hB
  have hB := hB.ext hx2
  have hgb : w1.heap.size ≤ b := by omega
  simp only [wsv, wsg, wsh, wsl, cond_true, cond_false, exists_eq_left', Option.some.injEq, Option.isSome_some, List.getElem?_toArray, List.getElem?_cons_zero, List.getElem?_cons_succ, List.length_cons, List.length_nil, List.set_cons_zero, List.set_cons_succ, List.getD_cons_zero, List.getD_cons_succ, Nat.zero_add, Nat.add_zero, Nat.reduceAdd, Nat.reduceLT, Nat.lt_add_one, Nat.zero_lt_succ, decide_true, decide_false, ne_eq, reduceCtorEq, wsh, hB.hb]
  obtain ⟨T2, hk2⟩ := hB.keys
  refine search_p hk2 f2 hr fun i hi0 _ _ hile => ?_
  have e6 : decide (v.k = 6) = true := decide_eq_true k6
  cases hx0 : idxK v.ks k with
  | none =>
    have hg : getM v k = none := by unfold getM; rw [if_pos k6, hx0]
    rw [hg] at hK
    simp only [Option.isSome_none]
    simp only [wsv, wsg, wsh, wsl, cond_true, cond_false, exists_eq_left', Option.some.injEq, Option.isSome_some, List.getElem?_toArray, List.getElem?_cons_zero, List.getElem?_cons_succ, List.length_cons, List.length_nil, List.set_cons_zero, List.set_cons_succ, List.getD_cons_zero, List.getD_cons_succ, Nat.zero_add, Nat.add_zero, Nat.reduceAdd, Nat.reduceLT, Nat.lt_add_one, Nat.zero_lt_succ, decide_true, decide_false, ne_eq, reduceCtorEq, wsh, hB.hb, e6]
    intros
    (try simp only [wsv, wsg, wsh, wsl, cond_true, cond_false, exists_eq_left', Option.some.injEq, Option.isSome_some, List.getElem?_toArray, List.getElem?_cons_zero, List.getElem?_cons_succ, List.length_cons, List.length_nil, List.set_cons_zero, List.set_cons_succ, List.getD_cons_zero, List.getD_cons_succ, Nat.zero_add, Nat.add_zero, Nat.reduceAdd, Nat.reduceLT, Nat.lt_add_one, Nat.zero_lt_succ, decide_true, decide_false, ne_eq, reduceCtorEq, wsh, hB.hb, e6])
    refine ret_val (K := fun r w => K (.tuple #[r, .bool false]) w) hbb rfl hgb hx2 (vrep_null w1) fun w4 hx4 _ h4 => ?_
    exact hK _ w4 (hx.trans hx4) h4
  | some j =>
    obtain rfl : j = i := by
      rcases hi0 with h | h
      · rw [h] at hx0; cases hx0
      · rw [h] at hx0; exact (Option.some.inj hx0).symm
    obtain ⟨x, hxi⟩ : ∃ x, v.xs[j]? = some x := ⟨_, List.getElem?_eq_getElem (by
      have := (List.getElem?_eq_some_iff.1 (idxK_spec hx0)).1
      omega)⟩
    have hg : getM v k = some x := by unfold getM; rw [if_pos k6, hx0]; exact hxi
    rw [hg] at hK
    simp only [Option.isSome_some]
    simp only [wsv, wsg, wsh, wsl, cond_true, cond_false, exists_eq_left', Option.some.injEq, Option.isSome_some, List.getElem?_toArray, List.getElem?_cons_zero, List.getElem?_cons_succ, List.length_cons, List.length_nil, List.set_cons_zero, List.set_cons_succ, List.getD_cons_zero, List.getD_cons_succ, Nat.zero_add, Nat.add_zero, Nat.reduceAdd, Nat.reduceLT, Nat.lt_add_one, Nat.zero_lt_succ, decide_true, decide_false, ne_eq, reduceCtorEq, wsh, hB.hb, e6]
    intros
    (try simp only [wsv, wsg, wsh, wsl, cond_true, cond_false, exists_eq_left', Option.some.injEq, Option.isSome_some, List.getElem?_toArray, List.getElem?_cons_zero, List.getElem?_cons_succ, List.length_cons, List.length_nil, List.set_cons_zero, List.set_cons_succ, List.getD_cons_zero, List.getD_cons_succ, Nat.zero_add, Nat.add_zero, Nat.reduceAdd, Nat.reduceLT, Nat.lt_add_one, Nat.zero_lt_succ, decide_true, decide_false, ne_eq, reduceCtorEq, wsh, hB.hb, e6])
    refine hB0.item_old hx2 hxi fun cs2 h2 => ?_
    refine clone_p x (f3 x (List.mem_of_getElem? hxi)) (h2.ext hx2) fun cs3 w3 hx3 h3 => ?_
    have hb3 := hx3.at hbb id
    refine ret_agg (K := fun r w => K (.tuple #[r, .bool true]) w) hb3 h3.rep.len rfl h3.rep.all_one fun w4 hc4 => ?_
    have hx4 : Ext w1 w4 := (hx2.trans hx3).new hc4 hgb
    refine hK _ w4 (hx.trans hx4) (VRepP.rep (VRepP.chg hc4 (fun q hq _ e => ?_) h3))
    have : w2.heap.size ≤ q := hq
    omega
end
end Go.Proofs.YtcnjpcadejcenaaGreatDoor





namespace Go.Proofs.YtcnjpcadejcenaaGreatDoor
open Go Go.Eng Go.RowKit
set_option maxRecDepth 100000
theorem valid_iff : ∀ (n : Nat) (l : Str), l.length ≤ n → (Lib.validGoD n l = true ↔ Utf l) := by
  intro n
  induction n with
  | zero =>
    intro l h
    obtain rfl : l = [] := List.eq_nil_of_length_eq_zero (by omega)
    exact ⟨fun _ => .nil, fun _ => rfl⟩
  | succ n ih =>
    intro l h
    unfold Lib.validGoD
    by_cases h0 : l = []
    · rw [if_pos h0]; subst h0; exact ⟨fun _ => .nil, fun _ => rfl⟩
    rw [if_neg h0]
    have hpos : 0 < l.length := List.length_pos_iff.2 h0
    have hd : Lib.decodeL l = Utf8.decode (ofL l) 0 := rfl
    have head : Utf l → ∃ u r, Rn u ∧ Utf r ∧ l = u ++ r ∧ runeM l 0 = u.length := fun hu => by
      cases hu with
      | nil => exact absurd rfl h0
      | cons h1 h2 => exact ⟨_, _, h1, h2, rfl, h1.at (s := _ ++ _) (i := 0) (by rw [List.drop_zero])⟩
    by_cases hr : runeM l 0 = 0
    · rw [hd, rune_bad hpos hr, if_pos ⟨rfl, rfl⟩]
      refine ⟨fun e => (by cases e), fun hu => ?_⟩
      obtain ⟨u, r, h1, _, _, h4⟩ := head hu
      have := h1.pos
      omega
    · obtain ⟨c, hc⟩ := rune_good hpos hr
      rw [hd, hc.dec, if_neg (by
        rintro ⟨e1, e2⟩
        have e1 : c = 65533 := e1
        have := (hc.low e2).2
        omega)]
      have hf := hc.fits
      rw [ih (l.drop (runeM l 0)) (by rw [List.length_drop]; omega)]
      constructor
      · intro hu
        have := Utf.cons (Rn.of hr) hu
        rwa [List.drop_zero, List.take_append_drop] at this
      · intro hu
        obtain ⟨u, r, h1, h2, h3, h4⟩ := head hu
        rw [h4, h3, List.drop_left]
        exact h2
theorem valid_utf (l : Str) : Lib.validD l = utfM l := by
  have h1 := valid_iff l.length l (Nat.le_refl _)
  have h2 := utf_iff l
  unfold Lib.validD
  cases ha : Lib.validGoD l.length l <;> cases hb : utfM l <;> simp_all
def TabU (w : World) : Prop := Lib.Utf8Tabs (Tryz.laysValid_ren.g 3) (Tryz.laysValid_ren.g 4) w
theorem cell_ext {w w' : World} {b o : Nat} {v : Value} (hx : Ext w w') (h : w.cell? ⟨b, o, none⟩ = some v) : w'.cell? ⟨b, o, none⟩ = some v := by
  rw [cell_eq] at h ⊢
  cases hb : w.heap[b]? with
  | none => rw [hb] at h; cases h
  | some x => rw [hb] at h; rw [hx.at hb id]; exact h
theorem TabU.ext {w w' : World} (h : TabU w) (hx : Ext w w') : TabU w' := ⟨fun c hc => cell_ext hx (h.1 c hc), fun i hi => ⟨cell_ext hx (h.2 i hi).1, cell_ext hx (h.2 i hi).2⟩⟩
section
variable [HX]
theorem valid_p {s : Str} {w : World} {K : Value → World → Prop} (hT : TabU w) (hl : s.length ≤ 9223372036854775807) (hK : ∀ w', Ext w w' → K (.bool (utfM s)) w') : callF Tryz.prog 102 [str s] w K := by
  refine of_calls (args := #[str s]) Tryz.call102 ((Tryz.utf8_ValidString (ofL s) w (by rw [ofL_size]; exact hl) hT).mono ?_)
  rintro e w' ⟨rfl, hb⟩
  rw [ofL_data, valid_utf]
  exact ⟨_, rfl, hK w' (Chg.of_below hb)⟩
theorem bad_p {s : Str} {w : World} {K : Value → World → Prop} (hT : TabU w) (hl : s.length ≤ 9223372036854775807) (hK : ∀ w', Ext w w' → K (.bool (!utfM s)) w') : callF Tryz.prog 101 [str s] w K := by
  refine W101_ok ?_
  unfold W101
  refine valid_p hT hl fun w1 hx1 => ?_
  rw [un_not]
  exact hK w1 hx1
theorem index_sx {v f : Value} {T : TypeId} {l : List Str} {p : Str → Bool} {w : World} {K : Value → World → Prop} (h : SlAt w T v l.length (l.map str)) (hl : l.length ≤ 9223372036854775807)
    (hf : ∀ x ∈ l, ∀ {w1 : World} {K : Value → World → Prop}, Ext w w1 → (∀ w', Ext w1 w' → K (.bool (p x)) w') → callV Tryz.prog f [str x] w1 K)
    (hK : ∀ w', Ext w w' → K (i64 (findI p l)) w') : callF Tryz.prog 136 [v, f] w K := by
  refine W136_ok ?_
  unfold W136
  rw [lenl_at h]
  refine loop_up l.length (fun i w' => Ext w w' ∧ (l.take i).any p = false) ⟨Chg.refl _ _, by simp⟩ ?_ ?_
  · rintro i w2 g L hi ⟨hx2, hno⟩ hL
    obtain ⟨x, hxi⟩ : ∃ x, l[i]? = some x := ⟨_, List.getElem?_eq_getElem hi⟩
    have hlt : ((i : Int) < (l.length : Int)) := by omega
    simp only [wsv, wsg, wsh, wsl, cond_true, cond_false, exists_eq_left', Option.some.injEq, Option.isSome_some, List.getElem?_toArray, List.getElem?_cons_zero, List.getElem?_cons_succ, List.length_cons, List.length_nil, List.set_cons_zero, List.set_cons_succ, List.getD_cons_zero, List.getD_cons_succ, Nat.zero_add, Nat.add_zero, Nat.reduceAdd, Nat.reduceLT, Nat.lt_add_one, Nat.zero_lt_succ, decide_true, decide_false, ne_eq, reduceCtorEq, hlt]
    refine text_ld (h.ext hx2) hxi ?_
    refine hf x (List.mem_of_getElem? hxi) hx2 fun w3 hx3 => ?_
    rw [condW_b]
    refine ⟨fun ht => ?_, fun hn => ?_⟩
    · have := hK w3 (hx2.trans hx3)
      unfold findI at this
      rw [findIdx_hit hno hxi ht] at this
      exact this
    · rw [up1 (by omega)]
      exact hL _ ⟨hx2.trans hx3, by rw [any_take hxi, hno, hn]; rfl⟩
  · rintro w2 g L ⟨hx2, hno⟩
    simp only [wsv, wsg, wsh, wsl, cond_true, cond_false, exists_eq_left', Option.some.injEq, Option.isSome_some, List.getElem?_toArray, List.getElem?_cons_zero, List.getElem?_cons_succ, List.length_cons, List.length_nil, List.set_cons_zero, List.set_cons_succ, List.getD_cons_zero, List.getD_cons_succ, Nat.zero_add, Nat.add_zero, Nat.reduceAdd, Nat.reduceLT, Nat.lt_add_one, Nat.zero_lt_succ, decide_true, decide_false, ne_eq, reduceCtorEq, Int.lt_irrefl]
    rw [List.take_length] at hno
    have := hK w2 hx2
    unfold findI at this
    rw [List.findIdx?_eq_none_iff.2 fun x hx => by simpa using List.any_eq_false.1 hno x hx] at this
    exact this
theorem contains_sx {v f : Value} {T : TypeId} {l : List Str} {p : Str → Bool} {w : World} {K : Value → World → Prop} (h : SlAt w T v l.length (l.map str)) (hl : l.length ≤ 9223372036854775807)
    (hf : ∀ x ∈ l, ∀ {w1 : World} {K : Value → World → Prop}, Ext w w1 → (∀ w', Ext w1 w' → K (.bool (p x)) w') → callV Tryz.prog f [str x] w1 K)
    (hK : ∀ w', Ext w w' → K (.bool (l.any p)) w') : callF Tryz.prog 76 [v, f] w K := by
  refine W76_ok ?_
  unfold W76
  refine index_sx h hl hf fun w1 hx1 => ?_
  simp only [wsv, wsg, wsh, wsl, cond_true, cond_false, exists_eq_left', Option.some.injEq, Option.isSome_some, List.getElem?_toArray, List.getElem?_cons_zero, List.getElem?_cons_succ, List.length_cons, List.length_nil, List.set_cons_zero, List.set_cons_succ, List.getD_cons_zero, List.getD_cons_succ, Nat.zero_add, Nat.add_zero, Nat.reduceAdd, Nat.reduceLT, Nat.lt_add_one, Nat.zero_lt_succ, decide_true, decide_false, ne_eq, reduceCtorEq, findI_ge]
  exact hK w1 hx1
theorem any_not_utf (ks : List Str) : (!ks.any fun s => !utfM s) = ks.all utfM := by
  induction ks with
  | nil => rfl
  | cons x xs ih => simp only [List.any_cons, List.all_cons, Bool.not_or, Bool.not_not, ih]
theorem any_not_texts (xs : List JV) : (!xs.any fun x => !textsM x) = textsL xs := by
  induction xs with
  | nil => rfl
  | cons x xs ih => simp only [List.any_cons, Bool.not_or, Bool.not_not, ih, textsL]
theorem textsM_eq (v : JV) : textsM v = (utfM v.t && v.ks.all utfM && textsL v.xs) := by cases v; rfl
theorem texts_p (v : JV) : ∀ {w0 w : World} {cs : List Value} {K : Value → World → Prop}, TabU w0 → Ext w0 w → VRep w v cs → (∀ w', Ext w w' → K (.bool (textsM v)) w') → callF Tryz.prog 44 [.agg cs.toArray] w K := by
  induction v using JV.ind' with
  | h v ih =>
    intro w0 w cs K hT h0 h hK
    rw [textsM_eq] at hK
    refine W44_ok ?_
    unfold W44
    refine box_val h fun a w1 sv kv hB hx _ => ?_
    obtain ⟨f1, f2, f3, f4⟩ := hB.fits
    simp only [wsv, wsg, wsh, wsl, cond_true, cond_false, exists_eq_left', Option.some.injEq, Option.isSome_some, List.getElem?_toArray, List.getElem?_cons_zero, List.getElem?_cons_succ, List.length_cons, List.length_nil, List.set_cons_zero, List.set_cons_succ, List.getD_cons_zero, List.getD_cons_succ, Nat.zero_add, Nat.add_zero, Nat.reduceAdd, Nat.reduceLT, Nat.lt_add_one, Nat.zero_lt_succ, decide_true, decide_false, ne_eq, reduceCtorEq, wsh, hB.hb]
    refine callV_fn (bad_p (hT.ext (h0.trans hx)) f3 fun w2 hx2 => ?_)
    have hB2 := hB.ext hx2
    have hx2' := hx.trans hx2
    obtain ⟨Tk, hkv⟩ := hB2.keys
    simp only [wsv, wsg, wsh, wsl, cond_true, cond_false, exists_eq_left', Option.some.injEq, Option.isSome_some, List.getElem?_toArray, List.getElem?_cons_zero, List.getElem?_cons_succ, List.length_cons, List.length_nil, List.set_cons_zero, List.set_cons_succ, List.getD_cons_zero, List.getD_cons_succ, Nat.zero_add, Nat.add_zero, Nat.reduceAdd, Nat.reduceLT, Nat.lt_add_one, Nat.zero_lt_succ, decide_true, decide_false, ne_eq, reduceCtorEq, Bool.not_not]
    refine GdW.act (v.ks.all utfM) (fun w' => Ext w2 w') (fun _ => Chg.refl _ _) ?_ ?_
    · intro hc J hJ
      simp only [wsv, wsg, wsh, wsl, cond_true, cond_false, exists_eq_left', Option.some.injEq, Option.isSome_some, List.getElem?_toArray, List.getElem?_cons_zero, List.getElem?_cons_succ, List.length_cons, List.length_nil, List.set_cons_zero, List.set_cons_succ, List.getD_cons_zero, List.getD_cons_succ, Nat.zero_add, Nat.add_zero, Nat.reduceAdd, Nat.reduceLT, Nat.lt_add_one, Nat.zero_lt_succ, decide_true, decide_false, ne_eq, reduceCtorEq, wsh, hB2.hb]
      refine contains_sx (p := fun s => !utfM s) hkv f2 (fun x hxm {w3 K} hx3 hK => callV_fn (bad_p (hT.ext ((h0.trans hx2').trans hx3)) (f4 x hxm) hK)) fun w4 hx4 => ?_
      simp only [wsv, wsg, wsh, wsl, cond_true, cond_false, exists_eq_left', Option.some.injEq, Option.isSome_some, List.getElem?_toArray, List.getElem?_cons_zero, List.getElem?_cons_succ, List.length_cons, List.length_nil, List.set_cons_zero, List.set_cons_succ, List.getD_cons_zero, List.getD_cons_succ, Nat.zero_add, Nat.add_zero, Nat.reduceAdd, Nat.reduceLT, Nat.lt_add_one, Nat.zero_lt_succ, decide_true, decide_false, ne_eq, reduceCtorEq, any_not_utf]
      exact hJ w4 hx4
    intro g w4 hx4
    have hB4 := hB2.ext hx4
    have hx4' := hx2'.trans hx4
    simp only [wsv, wsg, wsh, wsl, cond_true, cond_false, exists_eq_left', Option.some.injEq, Option.isSome_some, List.getElem?_toArray, List.getElem?_cons_zero, List.getElem?_cons_succ, List.length_cons, List.length_nil, List.set_cons_zero, List.set_cons_succ, List.getD_cons_zero, List.getD_cons_succ, Nat.zero_add, Nat.add_zero, Nat.reduceAdd, Nat.reduceLT, Nat.lt_add_one, Nat.zero_lt_succ, decide_true, decide_false, ne_eq, reduceCtorEq]
    refine GdW.act (textsL v.xs) (fun w' => Ext w4 w') (fun _ => Chg.refl _ _) ?_ ?_
    · intro hc J hJ
      simp only [wsv, wsg, wsh, wsl, cond_true, cond_false, exists_eq_left', Option.some.injEq, Option.isSome_some, List.getElem?_toArray, List.getElem?_cons_zero, List.getElem?_cons_succ, List.length_cons, List.length_nil, List.set_cons_zero, List.set_cons_succ, List.getD_cons_zero, List.getD_cons_succ, Nat.zero_add, Nat.add_zero, Nat.reduceAdd, Nat.reduceLT, Nat.lt_add_one, Nat.zero_lt_succ, decide_true, decide_false, ne_eq, reduceCtorEq, wsh, hB4.hb]
      refine contains_x (p := fun x => !textsM x) hB4.itemsAt ?_ fun w5 hx5 => ?_
      · intro x hxm cs w5 K hx5 hr hK
        refine callV_fn ?_
        refine W103_ok ?_
        unfold W103
        refine box_val hr fun b w6 sv kv hB6 hx6 _ => ?_
        refine hB6.ld fun cs2 h2 => ?_
        refine ih x hxm hT (((h0.trans hx4').trans hx5).trans hx6) h2 fun w7 hx7 => ?_
        rw [un_not]
        exact hK w7 (hx6.trans hx7)
      · simp only [wsv, wsg, wsh, wsl, cond_true, cond_false, exists_eq_left', Option.some.injEq, Option.isSome_some, List.getElem?_toArray, List.getElem?_cons_zero, List.getElem?_cons_succ, List.length_cons, List.length_nil, List.set_cons_zero, List.set_cons_succ, List.getD_cons_zero, List.getD_cons_succ, Nat.zero_add, Nat.add_zero, Nat.reduceAdd, Nat.reduceLT, Nat.lt_add_one, Nat.zero_lt_succ, decide_true, decide_false, ne_eq, reduceCtorEq, any_not_texts]
        exact hJ w5 hx5
    intro g w5 hx5
    simp only [wsv, wsg, wsh, wsl, cond_true, cond_false, exists_eq_left', Option.some.injEq, Option.isSome_some, List.getElem?_toArray, List.getElem?_cons_zero, List.getElem?_cons_succ, List.length_cons, List.length_nil, List.set_cons_zero, List.set_cons_succ, List.getD_cons_zero, List.getD_cons_succ, Nat.zero_add, Nat.add_zero, Nat.reduceAdd, Nat.reduceLT, Nat.lt_add_one, Nat.zero_lt_succ, decide_true, decide_false, ne_eq, reduceCtorEq]
    exact hK w5 (hx4'.trans hx5)
end
end Go.Proofs.YtcnjpcadejcenaaGreatDoor
namespace Go.Proofs.YtcnjpcadejcenaaGreatDoor
open Go Go.Eng Go.RowKit
set_option maxRecDepth 100000
def goodR (v : JV) (m : Nat) (left : Int) : Bool := deepM v m && plainM v && decide ((cntM v : Int) ≤ left)
theorem keysOk_nil : keysOk [] = true := rfl
def flatK (k : Int) (t : Str) : Bool := if k = 3 then Num.goodN t else if k = 4 then decide (t.length ≤ 16384) else decide (t = [])
def flatOk (v : JV) : Bool := flatK v.k v.t
theorem goodR_flat {v : JV} {m : Nat} {left : Int} (hm : m ≠ 0) (hl : 1 ≤ left) (hb : v.b = true → v.k = 2) (h0 : 0 ≤ v.k) (h5 : v.k < 5) : goodR v m left = (flatOk v && (decide (v.xs.length = 0) && decide (v.ks.length = 0))) := by
  cases v with
  | mk k b t xs ks =>
  simp only [JV.k, JV.b] at hb h0 h5
  unfold goodR
  show (deepM (.mk k b t xs ks) m && (headOk k b t xs.length ks && plainL xs) && decide ((cntM (.mk k b t xs ks) : Int) ≤ left)) = (flatK k t && (decide (xs.length = 0) && decide (ks.length = 0)))
  unfold flatK
  by_cases hx : xs = []
  · subst hx
    cases m with
    | zero => exact absurd rfl hm
    | succ m =>
      by_cases hk : ks = []
      · subst hk
        have hc : cntM (.mk k b t [] []) = 1 := rfl
        rw [deepM_succ, hc, decide_eq_true (show ((1 : Nat) : Int) ≤ left from hl)]
        simp only [JV.xs, deepL, plainL, List.length_nil]
        rw [Bool.eq_iff_iff]
        simp only [headOk, keysOk_nil, Bool.and_true, Bool.true_and, Bool.and_eq_true, Bool.or_eq_true, Bool.not_eq_true', decide_eq_true_eq, decide_eq_false_iff_not]
        constructor
        · rintro ⟨⟨⟨⟨⟨⟨⟨⟨_, _⟩, _⟩, ht⟩, _⟩, _⟩, h3⟩, h4⟩, _⟩
          refine ⟨?_, trivial, trivial⟩
          split
          · rename_i e; exact h3.resolve_left (fun h => h e)
          · split
            · rename_i e; exact decide_eq_true (h4.resolve_left (fun h => h e))
            · rcases ht with (ht | ht) | ht
              · exact decide_eq_true ht
              · contradiction
              · contradiction
        · rintro ⟨hf, _⟩
          refine ⟨⟨⟨⟨⟨⟨⟨⟨h0, by omega⟩, ?_⟩, ?_⟩, .inl trivial⟩, .inr trivial⟩, ?_⟩, ?_⟩, ?_⟩
          · cases b with
            | false => exact .inl rfl
            | true => exact .inr (hb rfl)
          · by_cases e3 : k = 3
            · exact .inl (.inr e3)
            · by_cases e4 : k = 4
              · exact .inr e4
              · rw [if_neg e3, if_neg e4, decide_eq_true_iff] at hf; exact .inl (.inl hf)
          · by_cases e3 : k = 3
            · rw [if_pos e3] at hf; exact .inr hf
            · exact .inl e3
          · by_cases e4 : k = 4
            · rw [if_neg (by omega), if_pos e4, decide_eq_true_iff] at hf; exact .inr hf
            · exact .inl e4
          · exact .inl (by omega)
      · have h1 : headOk k b t ([] : List JV).length ks = false := by
          cases hh : headOk k b t ([] : List JV).length ks with
          | false => rfl
          | true => have := (headOk_out hh).2.2.2.2.2.1 hk; omega
        rw [h1, decide_eq_false (show ¬ ks.length = 0 from fun e => hk (List.eq_nil_of_length_eq_zero e))]
        simp
  · have h1 : headOk k b t xs.length ks = false := by
      cases hh : headOk k b t xs.length ks with
      | false => rfl
      | true => have := (headOk_out hh).2.2.2.2.1 (fun e => hx (List.eq_nil_of_length_eq_zero e)); omega
    rw [h1, decide_eq_false (show ¬ xs.length = 0 from fun e => hx (List.eq_nil_of_length_eq_zero e))]
    simp
def itemsOk (xs : List JV) (m : Nat) (left : Int) : Bool := deepL xs m && plainL xs && decide ((cntL xs : Int) ≤ left)
theorem goodR_deep {v : JV} {m : Nat} {left : Int} (hb : v.b = true → v.k = 2) (hk : v.k = 5 ∧ v.ks = [] ∨ v.k = 6 ∧ v.ks.length = v.xs.length ∧ keysOk v.ks = true) : goodR v (m + 1) left = (decide (v.t = []) && itemsOk v.xs m (left - 1)) := by
  cases v with
  | mk k b t xs ks =>
  simp only [JV.k, JV.b, JV.ks, JV.xs] at hb hk
  unfold goodR
  have hc : cntM (.mk k b t xs ks) = 1 + cntL xs := by simp only [cntM]
  rw [hc]
  show (deepL xs m && (headOk k b t xs.length ks && plainL xs) && decide (((1 + cntL xs : Nat) : Int) ≤ left)) = (decide (t = []) && (deepL xs m && plainL xs && decide ((cntL xs : Int) ≤ left - 1)))
  have hbf : b = false := by
    cases b with
    | false => rfl
    | true => have := hb rfl; omega
  subst hbf
  have hh : headOk k false t xs.length ks = decide (t = []) := by
    rw [Bool.eq_iff_iff]
    simp only [headOk, Bool.and_eq_true, Bool.or_eq_true, Bool.not_eq_true', decide_eq_true_eq, decide_eq_false_iff_not, Bool.not_false]
    constructor
    · rintro ⟨⟨⟨⟨⟨⟨⟨⟨⟨_, _⟩, _⟩, ht⟩, _⟩, _⟩, _⟩, _⟩, _⟩, _⟩
      rcases ht with (ht | ht) | ht
      · exact ht
      · omega
      · omega
    · intro ht
      refine ⟨⟨⟨⟨⟨⟨⟨⟨⟨by omega, by omega⟩, .inl trivial⟩, .inl (.inl ht)⟩, .inr (by omega)⟩, ?_⟩, .inl (by omega)⟩, .inl (by omega)⟩, ?_⟩, ?_⟩
      · rcases hk with ⟨_, h⟩ | ⟨h, _⟩
        · exact .inr h
        · exact .inl h
      · rcases hk with ⟨h, _⟩ | ⟨_, h, _⟩
        · exact .inl (by omega)
        · exact .inr h
      · rcases hk with ⟨_, h⟩ | ⟨_, _, h⟩
        · rw [h]; rfl
        · exact h
  rw [hh]
  have e : decide (((1 + cntL xs : Nat) : Int) ≤ left) = decide ((cntL xs : Int) ≤ left - 1) := by rw [decide_eq_decide]; omega
  rw [e]
  generalize decide ((cntL xs : Int) ≤ left - 1) = d4
  generalize decide (t = []) = d1
  generalize deepL xs m = d2
  generalize plainL xs = d3
  cases d1 <;> cases d2 <;> cases d3 <;> cases d4 <;> rfl
theorem goodR_no {v : JV} {m : Nat} {left : Int} (h : m = 0 ∨ left < 1 ∨ (v.b = true ∧ v.k ≠ 2) ∨ v.k < 0 ∨ 6 < v.k ∨ (v.k = 5 ∧ v.ks ≠ []) ∨ (v.k = 6 ∧ (v.ks.length ≠ v.xs.length ∨ keysOk v.ks = false))) : goodR v m left = false := by
  cases hg : goodR v m left with
  | false => rfl
  | true =>
    unfold goodR at hg
    simp only [Bool.and_eq_true, decide_eq_true_eq] at hg
    obtain ⟨⟨h1, h2⟩, h3⟩ := hg
    rw [plainM_eq, Bool.and_eq_true] at h2
    have hh := headOk_out h2.1
    have hc := cnt_pos v
    rcases h with rfl | h | ⟨h, h'⟩ | h | h | ⟨h, h'⟩ | ⟨h, h' | h'⟩
    · rw [deepM_zero] at h1; cases h1
    · omega
    · exact absurd (hh.2.2.1 h) h'
    · have := hh.1; omega
    · have := hh.2.1; omega
    · have := hh.2.2.2.2.2.1 h'; omega
    · exact absurd (hh.2.2.2.2.2.2.2.2.1 h) h'
    · have := hh.2.2.2.2.2.2.2.2.2; rw [h'] at this; cases this
theorem _root_.Go.Eng.SlAt.keep1 {w w' : World} {p : Nat} {x : Value} {T T' : TypeId} {fr : Nat × Nat} {v : Value} {n : Nat} {cs : List Value} (h : SlAt w T v n cs) (hp : w.heap[p]? = some (.cells [x].toArray T' fr)) (hc : Chg (fun k => k = p) w w')
    (hne : cs ≠ [] → cs[0]? ≠ some x ∨ 2 ≤ cs.length) : SlAt w' T v n cs := by
  obtain ⟨pp, cap, hv, h1, h2, h3⟩ := h
  refine ⟨pp, cap, hv, h1, h2, fun hn => ?_⟩
  obtain ⟨b, off, c, fr', hpp, hb, hcs⟩ := h3 hn
  refine ⟨b, off, c, fr', hpp, hc.at hb ?_, hcs⟩
  rintro rfl
  rw [hp] at hb
  simp only [Option.some.injEq, Obj.cells.injEq] at hb
  obtain ⟨rfl, _, _⟩ := hb
  have hpos : 0 < cs.length := List.length_pos_iff.2 hn
  have e0 := hcs 0 hpos
  rw [Nat.add_zero] at e0
  rcases hne hn with h | h
  · have : off = 0 := by
      apply Classical.byContradiction; intro ho
      rw [show ([x].toArray)[off]? = none by simp; omega, List.getElem?_eq_getElem hpos] at e0
      cases e0
    subst this
    exact h (by rw [← e0]; rfl)
  · have e1 := hcs 1 (by omega)
    rw [List.getElem?_eq_getElem (by omega), show ([x].toArray)[off + 1]? = none by simp] at e1
    cases e1
mutual
theorem vrep_keepi {w w' : World} {p : Nat} {n : Int} {T' : TypeId} {fr : Nat × Nat} (hp : w.heap[p]? = some (.cells [i64 n].toArray T' fr)) (hc : Chg (fun k => k = p) w w') : ∀ {v : JV} {cs : List Value}, VRep w v cs → VRep w' v cs
  | .mk k b t xs ks, cs, h => by
    simp only [VRep] at h ⊢
    obtain ⟨sv, kv, T1, T2, L, rfl, h1, h2, h3, h4⟩ := h
    refine ⟨sv, kv, T1, T2, L, rfl, h1.keep1 hp hc fun hn => .inr ?_, vreps_keepi hp hc h2, h3.keep1 hp hc fun hn => .inl ?_, h4⟩
    · have := h2.len
      have hl : 0 < L.length := List.length_pos_iff.2 hn
      omega
    · cases ks with
      | nil => exact absurd rfl hn
      | cons a r => intro e; simp at e
theorem vreps_keepi {w w' : World} {p : Nat} {n : Int} {T' : TypeId} {fr : Nat × Nat} (hp : w.heap[p]? = some (.cells [i64 n].toArray T' fr)) (hc : Chg (fun k => k = p) w w') : ∀ {xs : List JV} {L : List Value}, VReps w xs L → VReps w' xs L
  | [], L, h => by simp only [VReps] at h ⊢; exact h
  | x :: xs, L, h => by
    simp only [VReps] at h ⊢
    obtain ⟨c, r, rfl, h1, h2⟩ := h
    exact ⟨c, r, rfl, vrep_keepi hp hc h1, vreps_keepi hp hc h2⟩
end
section
variable [HX]
theorem itemsOk_no {xs : List JV} {m i : Nat} {left : Int} {x : JV} (hi : xs[i]? = some x) (h : goodR x m (left - cntS xs i) = false) : itemsOk xs m left = false := by
  cases hg : itemsOk xs m left with
  | false => rfl
  | true =>
    unfold itemsOk at hg
    simp only [Bool.and_eq_true, decide_eq_true_eq] at hg
    obtain ⟨⟨h1, h2⟩, h3⟩ := hg
    rw [deepL_all, List.all_eq_true] at h1
    rw [plainL_all, List.all_eq_true] at h2
    have hm := List.mem_of_getElem? hi
    have hcs := cntS_le xs (i + 1) (List.getElem?_eq_some_iff.1 hi).1
    rw [cntS, cntAt_get hi] at hcs
    unfold goodR at h
    rw [h1 x hm, h2 x hm, decide_eq_true (by omega)] at h
    cases h
theorem cntL_S : ∀ (xs : List JV), cntL xs = cntS xs xs.length
  | [] => rfl
  | x :: xs => by
    rw [List.length_cons, cntS_cons, ← cntL_S xs]
    simp only [cntL]
theorem itemsOk_yes {xs : List JV} {m : Nat} {left : Int} (h : ∀ i x, xs[i]? = some x → goodR x m (left - cntS xs i) = true) (hl : (cntL xs : Int) ≤ left) : itemsOk xs m left = true := by
  unfold itemsOk
  rw [decide_eq_true hl, deepL_all, plainL_all, List.all_eq_true.2, List.all_eq_true.2]
  · rfl
  · intro x hx
    obtain ⟨i, hi, rfl⟩ := List.getElem_of_mem hx
    have := h i _ (List.getElem?_eq_getElem hi)
    unfold goodR at this
    simp only [Bool.and_eq_true] at this
    exact this.1.2
  · intro x hx
    obtain ⟨i, hi, rfl⟩ := List.getElem_of_mem hx
    have := h i _ (List.getElem?_eq_getElem hi)
    unfold goodR at this
    simp only [Bool.and_eq_true] at this
    exact this.1.1
theorem callV_cap {P : Program} {g : FuncId} {args caps : List Value} {w : World} {K : Value → World → Prop} (h : callF P g (args ++ caps) w K) : callV P (.func (.func g) #[] caps.toArray) args w K := by
  unfold callV semN
  unfold callF at h
  have : (do let d ← (Deferred.ofValue (.func (.func g) #[] caps.toArray) args.toArray); invoke d.target d.args : Sem Next) = callFunc g (args ++ caps).toArray := by
    show callFunc g (#[] ++ args.toArray ++ caps.toArray) = _
    simp
  rw [this]
  exact h
theorem len_zero {n m : Nat} (hn : n ≤ 9223372036854775807) (hm : m ≤ 9223372036854775807) : decide (IntKind.i64.wrap ((n : Int) + (m : Int)) = 0) = (decide (n = 0) && decide (m = 0)) := by
  have e1 : (2 : Int) ^ 64 = 18446744073709551616 := by decide
  have e2 : (2 : Int) ^ (64 - 1) = 9223372036854775808 := by decide
  have : IntKind.i64.wrap ((n : Int) + (m : Int)) = 0 ↔ n = 0 ∧ m = 0 := by
    simp only [IntKind.wrap, IntKind.bits, IntKind.signed, Bool.true_and, e1, e2]
    split
    · rename_i h
      simp only [ge_iff_le, decide_eq_true_eq] at h
      omega
    · rename_i h
      omega
  rw [Bool.eq_iff_iff, decide_eq_true_iff, Bool.and_eq_true, decide_eq_true_iff, decide_eq_true_iff]
  exact this
theorem box_one {T : TypeId} {v : Value} {w : World} {K : Value → World → Prop} (h1 : one1 v = true) (h : ∀ a w', a = w.heap.size → w'.heap.size = w.heap.size + 1 → w'.heap[a]? = some (.cells [v].toArray T (0, 0)) → Ext w w' → K (.pointer (some ⟨a, 0, none⟩)) w') : boxW T v w K := by
  cases v <;> first | (simp [one1] at h1; done) | exact h _ _ rfl (by simp) (heap_anew _ _ _ rfl) (Chg.alloc (Chg.refl _ _) _)
theorem good_p (v : JV) : ∀ {m p : Nat} {left : Int} {w : World} {cs : List Value} {K : Value → World → Prop}, VRep w v cs → w.heap[p]? = some (.cells [i64 left].toArray 3 (0, 0)) → m ≤ 24 → -1 ≤ left → left ≤ 2000 →
    (∀ r w', r = goodR v m left → (r = true → w'.heap[p]? = some (.cells [i64 (left - cntM v)].toArray 3 (0, 0))) → Chg (fun k => k = p) w w' → K (.bool r) w') → callF Tryz.prog 98 [.agg cs.toArray, i64 (m : Int), .pointer (some ⟨p, 0, none⟩)] w K := by
  induction v using JV.ind' with
  | h v ih =>
    intro m p left w cs K h hp hm hl1 hl2 hK
    refine W98_ok ?_
    unfold W98
    refine box_val h fun a w1 sv kv hB hx1 ha => ?_
    have hplt := at_lt hp
    have hp1 := hx1.at hp id
    refine box_one rfl fun d w2 hd hz2 hd2 hx2 => ?_
    refine box_one rfl fun q w3 hq hz3 hq3 hx3 => ?_
    have hp3 := hx3.at (hx2.at hp1 id) id
    have hB3 := hB.ext (hx2.trans hx3)
    have hd3 := hx3.at hd2 id
    have hx13 := (hx1.trans hx2).trans hx3
    simp only [wsv, wsg, wsh, wsl, cond_true, cond_false, exists_eq_left', Option.some.injEq, Option.isSome_some, List.getElem?_toArray, List.getElem?_cons_zero, List.getElem?_cons_succ, List.length_cons, List.length_nil, List.set_cons_zero, List.set_cons_succ, List.getD_cons_zero, List.getD_cons_succ, Nat.zero_add, Nat.add_zero, Nat.reduceAdd, Nat.reduceLT, Nat.lt_add_one, Nat.zero_lt_succ, decide_true, decide_false, ne_eq, reduceCtorEq, wsh, hq3, hp3]
    have ew : IntKind.i64.wrap (left - 1) = left - 1 := wrap_id (by omega) (by omega)
    refine st_at (off := 0) hp3 rfl (by simp) fun w4 hz4 hp4 hc4 => ?_
    have s1 := hx1.size
    have s2 := hx2.size
    have hq4 := hc4.at hq3 (by omega)
    have hd4 := hc4.at hd3 (by omega)
    have hb4 := hc4.at hB3.hb (by omega)
    rw [show ([i64 left].toArray.setIfInBounds 0 (i64 (IntKind.i64.wrap (left - 1)))) = [i64 (left - 1)].toArray by rw [ew]; rfl] at hp4
    have hcw : Chg (fun k => k = p) w w4 := (Chg.of_ext hx13).trans hc4
    obtain ⟨Tk, hks3⟩ := hB3.keys
    have hks4 : SlAt w4 Tk kv v.ks.length (v.ks.map str) := hks3.keep1 hp3 hc4 fun hn => .inl (by
      cases hkk : v.ks with
      | nil => rw [hkk] at hn; exact absurd rfl hn
      | cons a r => intro e; simp at e)
    obtain ⟨Ti, L, hit, hreps⟩ := hB3.items
    have hit4 : SlAt w4 Ti sv v.xs.length L := hit.keep1 hp3 hc4 fun hn => .inr (by
      have := hreps.len
      have hl : 0 < L.length := List.length_pos_iff.2 hn
      omega)
    have hreps4 : VReps w4 v.xs L := vreps_keepi hp3 hc4 hreps
    obtain ⟨f1, f2, f3, f4⟩ := hB3.fits
    have lx : ∀ KK : Value → Prop, lenlW sv KK ↔ KK (i64 v.xs.length) := fun KK => lenl_at hit KK
    have lk : ∀ KK : Value → Prop, lenlW kv KK ↔ KK (i64 v.ks.length) := fun KK => hB3.lenk KK
    simp only [wsv, wsg, wsh, wsl, cond_true, cond_false, exists_eq_left', Option.some.injEq, Option.isSome_some, List.getElem?_toArray, List.getElem?_cons_zero, List.getElem?_cons_succ, List.length_cons, List.length_nil, List.set_cons_zero, List.set_cons_succ, List.getD_cons_zero, List.getD_cons_succ, Nat.zero_add, Nat.add_zero, Nat.reduceAdd, Nat.reduceLT, Nat.lt_add_one, Nat.zero_lt_succ, decide_true, decide_false, ne_eq, reduceCtorEq, wsh, hq4, hp4, hd4, hb4]
    intro g1 g2 g3 g4
    rw [condW_b]
    refine ⟨fun hbad => hK false w4 ?_ (fun e => by cases e) hcw, fun hok => ?_⟩
    · rw [goodR_no]
      simp only [Bool.or_eq_true, Bool.and_eq_true, decide_eq_true_eq] at hbad
      rcases hbad with (h | h) | ⟨h, h'⟩
      · exact .inl (by omega)
      · exact .inr (.inl (by omega))
      · exact .inr (.inr (.inl ⟨h, h'⟩))
    have hm0 : m ≠ 0 := fun e => by rw [decide_eq_true (show (m : Int) = 0 by omega)] at hok; cases hok
    have hl0 : 1 ≤ left := by
      rcases Int.lt_or_le (left - 1) 0 with h | h
      · rw [decide_eq_true h] at hok; simp at hok
      · omega
    have hbk : v.b = true → v.k = 2 := fun e => by
      rw [e] at hok
      simp only [Bool.or_eq_false_iff, Bool.true_and, decide_eq_false_iff_not, Classical.not_not] at hok
      exact hok.2
    have flat : ∀ w', Ext w4 w' → 0 ≤ v.k → v.k < 5 → K (.bool (flatOk v && (decide (v.xs.length = 0) && decide (v.ks.length = 0)))) w' := fun w' e h0 h5 => by
      refine hK _ w' (goodR_flat hm0 hl0 hbk h0 h5).symm (fun hr => ?_) (hcw.then e fun _ _ e => e.elim)
      simp only [Bool.and_eq_true, decide_eq_true_eq] at hr
      have hx0 : v.xs = [] := List.eq_nil_of_length_eq_zero hr.2.1
      have hc1 : cntM v = 1 := by
        rw [v.eta, hx0]; rfl
      rw [hc1]; exact e.at hp4 id
    have no : (v.k < 0 ∨ 6 < v.k ∨ (v.k = 5 ∧ v.ks ≠ []) ∨ (v.k = 6 ∧ (v.ks.length ≠ v.xs.length ∨ keysOk v.ks = false))) → K (.bool false) w4 := fun h => hK false w4 (goodR_no (.inr (.inr (.inr h)))).symm (fun e => by cases e) hcw
    obtain ⟨m', rfl⟩ : ∃ m', m = m' + 1 := ⟨m - 1, by omega⟩
    refine JoinW.cut (fun s' w' => s' = [] ∧ w' = w4 ∧ (v.k = 5 ∧ v.ks = [] ∨ v.k = 6 ∧ v.ks.length = v.xs.length ∧ keysOk v.ks = true)) ?_ ?_
    · refine JoinW.cut (fun s' w' => s' = [.bool (decide (v.k = 0 ∨ v.k = 1 ∨ v.k = 2))] ∧ w' = w4) ?_ ?_
      · rw [condW_dec]
        refine ⟨fun h => ?_, fun h => ?_⟩
        · rw [decide_eq_true h, decide_eq_true (.inl h)]; exact ⟨rfl, rfl⟩
        · rw [condW_dec]
          refine ⟨fun h1 => ?_, fun h1 => ?_⟩
          · rw [decide_eq_true h1, decide_eq_true (.inr (.inl h1))]; exact ⟨rfl, rfl⟩
          · rw [show decide (v.k = 2) = decide (v.k = 0 ∨ v.k = 1 ∨ v.k = 2) by rw [decide_eq_decide]; omega]
            exact ⟨rfl, rfl⟩
      rintro s' g w5 ⟨rfl, rfl⟩
      simp only [wsv, wsg, wsh, wsl, cond_true, cond_false, exists_eq_left', Option.some.injEq, Option.isSome_some, List.getElem?_toArray, List.getElem?_cons_zero, List.getElem?_cons_succ, List.length_cons, List.length_nil, List.set_cons_zero, List.set_cons_succ, List.getD_cons_zero, List.getD_cons_succ, Nat.zero_add, Nat.add_zero, Nat.reduceAdd, Nat.reduceLT, Nat.lt_add_one, Nat.zero_lt_succ, decide_true, decide_false, ne_eq, reduceCtorEq, wsh, hb4, lx, lk, condW_dec]
      refine ⟨fun h012 => ?_, fun h012 => ?_⟩
      · intro g5
        have := flat w5 (Chg.refl _ _) (by omega) (by omega)
        unfold flatOk flatK at this
        rw [if_neg (by omega), if_neg (by omega)] at this
        rw [len_zero f1 f2]
        exact this
      refine ⟨fun h3 => ?_, fun h3 => ?_⟩
      · refine numgood_ref f3 fun w6 hx6 => ?_
        have hb6 := hx6.at hb4 id
        have := flat w6 hx6 (by omega) (by omega)
        unfold flatOk flatK at this
        rw [if_pos h3] at this
        simp only [wsv, wsg, wsh, wsl, cond_true, cond_false, exists_eq_left', Option.some.injEq, Option.isSome_some, List.getElem?_toArray, List.getElem?_cons_zero, List.getElem?_cons_succ, List.length_cons, List.length_nil, List.set_cons_zero, List.set_cons_succ, List.getD_cons_zero, List.getD_cons_succ, Nat.zero_add, Nat.add_zero, Nat.reduceAdd, Nat.reduceLT, Nat.lt_add_one, Nat.zero_lt_succ, decide_true, decide_false, ne_eq, reduceCtorEq, wsh, hb6, lx, lk]
        intro g6
        rw [len_zero f1 f2]
        exact this
      refine ⟨fun h4 => ?_, fun h4 => ?_⟩
      · intro g6
        have := flat w5 (Chg.refl _ _) (by omega) (by omega)
        unfold flatOk flatK at this
        rw [if_neg h3, if_pos h4] at this
        rw [len_zero f1 f2]
        rw [show decide ((v.t.length : Int) ≤ 16384) = decide (v.t.length ≤ 16384) by rw [decide_eq_decide]; omega]
        exact this
      refine ⟨fun h5 => ?_, fun h5 => ?_⟩
      · refine ⟨fun hk => no (.inr (.inr (.inl ⟨h5, fun e => by rw [e] at hk; simp at hk⟩))), fun hk => .inl ⟨h5, List.eq_nil_of_length_eq_zero (by omega)⟩⟩
      refine ⟨fun h6 => ?_, fun h6 => no (by omega)⟩
      refine ⟨fun hne => no (.inr (.inr (.inr ⟨h6, .inl (by omega)⟩))), fun heq => ?_⟩
      refine loop_up v.ks.length (fun i w' => w' = w5 ∧ (∀ j a, j < i → v.ks[j]? = some a → a.length ≤ 16384) ∧ (∀ j a b, j + 1 < i → v.ks[j]? = some a → v.ks[j + 1]? = some b → Op.bytesLess a b = true)) ⟨rfl, fun j a h => by omega, fun j a b h => by omega⟩ ?_ ?_
      · rintro i w6 g6 L6 hi ⟨rfl, hl, hs⟩ hL
        obtain ⟨u, hu⟩ : ∃ u, v.ks[i]? = some u := ⟨_, List.getElem?_eq_getElem hi⟩
        have hlt : ((i : Int) < (v.ks.length : Int)) := by omega
        simp only [wsv, wsg, wsh, wsl, cond_true, cond_false, exists_eq_left', Option.some.injEq, Option.isSome_some, List.getElem?_toArray, List.getElem?_cons_zero, List.getElem?_cons_succ, List.length_cons, List.length_nil, List.set_cons_zero, List.set_cons_succ, List.getD_cons_zero, List.getD_cons_succ, Nat.zero_add, Nat.add_zero, Nat.reduceAdd, Nat.reduceLT, Nat.lt_add_one, Nat.zero_lt_succ, decide_true, decide_false, ne_eq, reduceCtorEq, hlt]
        refine text_ld hks4 hu ?_
        have hnext : u.length ≤ 16384 → (∀ x, 0 < i → v.ks[i - 1]? = some x → Op.bytesLess x u = true) → L6 [i64 ((i + 1 : Nat) : Int)] w6 := fun h1 h2 => by
          refine hL _ ⟨rfl, fun j a hj ha => ?_, fun j a b hj ha hb => ?_⟩
          · rcases Nat.lt_or_ge j i with h | h
            · exact hl j a h ha
            · obtain rfl : j = i := by omega
              rw [hu] at ha; cases ha; exact h1
          · rcases Nat.lt_or_ge (j + 1) i with h | h
            · exact hs j a b h ha hb
            · obtain rfl : i = j + 1 := by omega
              rw [hu] at hb; cases hb
              exact h2 a (by omega) (by simpa using ha)
        by_cases hlong : 16384 < u.length
        · have e : decide ((16384 : Int) < (u.length : Int)) = true := decide_eq_true (by omega)
          simp only [wsv, wsg, wsh, wsl, cond_true, cond_false, exists_eq_left', Option.some.injEq, Option.isSome_some, List.getElem?_toArray, List.getElem?_cons_zero, List.getElem?_cons_succ, List.length_cons, List.length_nil, List.set_cons_zero, List.set_cons_succ, List.getD_cons_zero, List.getD_cons_succ, Nat.zero_add, Nat.add_zero, Nat.reduceAdd, Nat.reduceLT, Nat.lt_add_one, Nat.zero_lt_succ, decide_true, decide_false, ne_eq, reduceCtorEq, e]
          intros
          exact no (.inr (.inr (.inr ⟨h6, .inr (keysOk_long hu hlong)⟩)))
        · have e : decide ((16384 : Int) < (u.length : Int)) = false := decide_eq_false (by omega)
          by_cases h0 : i = 0
          · subst h0
            have e0 : decide ((0 : Int) < ((0 : Nat) : Int)) = false := by decide
            simp only [wsv, wsg, wsh, wsl, cond_true, cond_false, exists_eq_left', Option.some.injEq, Option.isSome_some, List.getElem?_toArray, List.getElem?_cons_zero, List.getElem?_cons_succ, List.length_cons, List.length_nil, List.set_cons_zero, List.set_cons_succ, List.getD_cons_zero, List.getD_cons_succ, Nat.zero_add, Nat.add_zero, Nat.reduceAdd, Nat.reduceLT, Nat.lt_add_one, Nat.zero_lt_succ, decide_true, decide_false, ne_eq, reduceCtorEq, e, e0]
            rw [up1 (by omega)]
            intros
            exact hnext (by omega) fun x h => by omega
          · obtain ⟨j, rfl⟩ : ∃ j, i = j + 1 := ⟨i - 1, by omega⟩
            obtain ⟨x, hxj⟩ : ∃ x, v.ks[j]? = some x := ⟨_, List.getElem?_eq_getElem (by omega)⟩
            have e0 : decide ((0 : Int) < ((j + 1 : Nat) : Int)) = true := decide_eq_true (by omega)
            have hw : IntKind.i64.wrap (((j + 1 : Nat) : Int) - 1) = ((j : Nat) : Int) := by rw [wrap_id (by omega) (by omega)]; omega
            simp only [wsv, wsg, wsh, wsl, cond_true, cond_false, exists_eq_left', Option.some.injEq, Option.isSome_some, List.getElem?_toArray, List.getElem?_cons_zero, List.getElem?_cons_succ, List.length_cons, List.length_nil, List.set_cons_zero, List.set_cons_succ, List.getD_cons_zero, List.getD_cons_succ, Nat.zero_add, Nat.add_zero, Nat.reduceAdd, Nat.reduceLT, Nat.lt_add_one, Nat.zero_lt_succ, decide_true, decide_false, ne_eq, reduceCtorEq, e, e0, hw]
            intro g7
            refine GdW.look (!Op.bytesLess x u) (fun _ J hJ => ?_) fun g8 => ?_
            · rw [hb4]
              refine ⟨kv, rfl, ?_⟩
              refine text_ld hks4 hxj ?_
              rw [bin_sge]; exact hJ
            intro g9
            simp only [List.getD_cons_zero, cond_true]
            rw [condW_b]
            refine ⟨fun hge => no (.inr (.inr (.inr ⟨h6, .inr (keysOk_two hxj hu (by simpa using hge))⟩))), fun hlt2 => ?_⟩
            rw [up1 (by omega)]
            exact hnext (by omega) fun y _ hy => by
              have : v.ks[j]? = some y := by simpa using hy
              rw [hxj] at this; cases this
              simpa using hlt2
      · rintro w6 g6 L6 ⟨rfl, hl, hs⟩
        have hkeys : keysOk v.ks = true := keysOk_mk (fun i a h => hl i a (List.getElem?_eq_some_iff.1 h).1 h) (fun i a b h1 h2 => hs i a b (List.getElem?_eq_some_iff.1 h2).1 h1 h2)
        simp only [wsv, wsg, wsh, wsl, cond_true, cond_false, exists_eq_left', Option.some.injEq, Option.isSome_some, List.getElem?_toArray, List.getElem?_cons_zero, List.getElem?_cons_succ, List.length_cons, List.length_nil, List.set_cons_zero, List.set_cons_succ, List.getD_cons_zero, List.getD_cons_succ, Nat.zero_add, Nat.add_zero, Nat.reduceAdd, Nat.reduceLT, Nat.lt_add_one, Nat.zero_lt_succ, decide_true, decide_false, ne_eq, reduceCtorEq, Int.lt_irrefl]
        exact .inr ⟨h6, by omega, hkeys⟩
    · rintro s' g w5 ⟨rfl, rfl, hk⟩
      simp only [wsv, wsg, wsh, wsl, cond_true, cond_false, exists_eq_left', Option.some.injEq, Option.isSome_some, List.getElem?_toArray, List.getElem?_cons_zero, List.getElem?_cons_succ, List.length_cons, List.length_nil, List.set_cons_zero, List.set_cons_succ, List.getD_cons_zero, List.getD_cons_succ, Nat.zero_add, Nat.add_zero, Nat.reduceAdd, Nat.reduceLT, Nat.lt_add_one, Nat.zero_lt_succ, decide_true, decide_false, ne_eq, reduceCtorEq, wsh, hb4]
      refine GdW.act (itemsOk v.xs m' (left - 1)) (fun w' => Chg (fun k => k = p) w5 w' ∧ (decide (v.t = []) = true → itemsOk v.xs m' (left - 1) = true → w'.heap[p]? = some (.cells [i64 (left - 1 - cntL v.xs)].toArray 3 (0, 0)))) (fun e => ⟨Chg.refl _ _, fun e' => by rw [e] at e'; cases e'⟩) ?_ ?_
      · intro ht J hJ
        refine W99_ok ?_
        unfold W99
        refine W150_ok ?_
        unfold W150
        rw [lx]
        refine loop_up v.xs.length (fun i w' => Chg (fun k => k = p) w5 w' ∧ w'.heap[p]? = some (.cells [i64 (left - 1 - cntS v.xs i)].toArray 3 (0, 0)) ∧ (∀ j x, j < i → v.xs[j]? = some x → goodR x m' (left - 1 - cntS v.xs j) = true) ∧ SlAt w' Ti sv v.xs.length L ∧ VReps w' v.xs L ∧ (cntS v.xs i : Int) ≤ left - 1) ⟨Chg.refl _ _, by simpa [cntS] using hp4, fun j x h => by omega, hit4, hreps4, by simp [cntS]; omega⟩ ?_ ?_
        · rintro i w6 g6 L6 hi ⟨hc6, hp6, hall, hit6, hreps6, hcs6⟩ hL
          obtain ⟨x, hxi⟩ : ∃ x, v.xs[i]? = some x := ⟨_, List.getElem?_eq_getElem hi⟩
          have hlt : ((i : Int) < (v.xs.length : Int)) := by omega
          simp only [wsv, wsg, wsh, wsl, cond_true, cond_false, exists_eq_left', Option.some.injEq, Option.isSome_some, List.getElem?_toArray, List.getElem?_cons_zero, List.getElem?_cons_succ, List.length_cons, List.length_nil, List.set_cons_zero, List.set_cons_succ, List.getD_cons_zero, List.getD_cons_succ, Nat.zero_add, Nat.add_zero, Nat.reduceAdd, Nat.reduceLT, Nat.lt_add_one, Nat.zero_lt_succ, decide_true, decide_false, ne_eq, reduceCtorEq, hlt]
          refine item_ld hit6 hreps6 hxi fun cs6 hr6 => ?_
          refine callV_cap (caps := [.pointer (some ⟨d, 0, none⟩), .pointer (some ⟨q, 0, none⟩)]) ?_
          refine W149_ok ?_
          unfold W149
          refine box_val hr6 fun b7 w7 sv7 kv7 hB7 hx7 hb7 => ?_
          refine hB7.ld fun cs7 hr7 => ?_
          have hd6 := hc6.at hd4 (by omega)
          have hq6 := hc6.at hq4 (by omega)
          have hd7 := hx7.at hd6 id
          have hq7 := hx7.at hq6 id
          have hp7 := hx7.at hp6 id
          have hw : IntKind.i64.wrap (((m' + 1 : Nat) : Int) - 1) = ((m' : Nat) : Int) := by rw [wrap_id (by omega) (by omega)]; omega
          simp only [wsv, wsg, wsh, wsl, cond_true, cond_false, exists_eq_left', Option.some.injEq, Option.isSome_some, List.getElem?_toArray, List.getElem?_cons_zero, List.getElem?_cons_succ, List.length_cons, List.length_nil, List.set_cons_zero, List.set_cons_succ, List.getD_cons_zero, List.getD_cons_succ, Nat.zero_add, Nat.add_zero, Nat.reduceAdd, Nat.reduceLT, Nat.lt_add_one, Nat.zero_lt_succ, decide_true, decide_false, ne_eq, reduceCtorEq, wsh, hd7, hq7, hw]
          refine ih x (List.mem_of_getElem? hxi) hr7 hp7 (by omega) (by omega) (by omega) fun r w8 hr8 hp8 hc8 => ?_
          simp only [wsv, wsg, wsh, wsl, cond_true, cond_false, exists_eq_left', Option.some.injEq, Option.isSome_some, List.getElem?_toArray, List.getElem?_cons_zero, List.getElem?_cons_succ, List.length_cons, List.length_nil, List.set_cons_zero, List.set_cons_succ, List.getD_cons_zero, List.getD_cons_succ, Nat.zero_add, Nat.add_zero, Nat.reduceAdd, Nat.reduceLT, Nat.lt_add_one, Nat.zero_lt_succ, decide_true, decide_false, ne_eq, reduceCtorEq, condW_b]
          have hc68 : Chg (fun k => k = p) w6 w8 := (Chg.of_ext hx7).trans hc8
          have hc58 := hc6.trans hc68
          refine ⟨fun hbad => ?_, fun hgood => ?_⟩
          · have hrf : r = false := by simpa using hbad
            rw [decide_eq_true (show (0 : Int) ≤ (i : Int) by omega)]
            have := itemsOk_no hxi (show goodR x m' (left - 1 - cntS v.xs i) = false by rw [← hr8]; exact hrf)
            rw [this] at hJ
            exact hJ w8 ⟨hc58, fun _ e => by cases e⟩
          · have hrt : r = true := by simpa using hgood
            have hg := hr8
            rw [hrt] at hg
            have hcx : (cntM x : Int) ≤ left - 1 - cntS v.xs i := by
              unfold goodR at hg
              have := hg.symm
              simp only [Bool.and_eq_true, decide_eq_true_eq] at this
              exact this.2
            rw [up1 (by omega)]
            refine hL w8 ⟨hc58, ?_, ?_, ?_, ?_, ?_⟩
            · rw [cntS, cntAt_get hxi]
              have e : left - 1 - ((cntS v.xs i : Nat) : Int) - ((cntM x : Nat) : Int) = left - 1 - ((cntS v.xs i + cntM x : Nat) : Int) := by omega
              rw [hp8 hrt, e]
            · intro j y hj hy
              rcases Nat.lt_or_ge j i with h | h
              · exact hall j y h hy
              · obtain rfl : j = i := by omega
                rw [hxi] at hy; cases hy
                exact hg.symm
            · exact (hit6.ext hx7).keep1 hp7 hc8 fun hn => .inr (by
                have := hreps.len
                have hl : 0 < L.length := List.length_pos_iff.2 hn
                omega)
            · exact vreps_keepi hp7 hc8 (hreps6.ext hx7)
            · rw [cntS, cntAt_get hxi]; omega
        · rintro w6 g6 L6 ⟨hc6, hp6, hall, hit6, hreps6, hcs6⟩
          simp only [wsv, wsg, wsh, wsl, cond_true, cond_false, exists_eq_left', Option.some.injEq, Option.isSome_some, List.getElem?_toArray, List.getElem?_cons_zero, List.getElem?_cons_succ, List.length_cons, List.length_nil, List.set_cons_zero, List.set_cons_succ, List.getD_cons_zero, List.getD_cons_succ, Nat.zero_add, Nat.add_zero, Nat.reduceAdd, Nat.reduceLT, Nat.lt_add_one, Nat.zero_lt_succ, decide_true, decide_false, ne_eq, reduceCtorEq, Int.lt_irrefl]
          rw [← cntL_S] at hp6 hcs6
          have := itemsOk_yes (fun i x h => hall i x (List.getElem?_eq_some_iff.1 h).1 h) hcs6
          have hj := hJ w6 ⟨hc6, fun _ _ => hp6⟩
          rw [this] at hj
          exact hj
      · rintro g6 w6 ⟨hc6, hp6⟩
        simp only [wsv, wsg, wsh, wsl, cond_true, cond_false, exists_eq_left', Option.some.injEq, Option.isSome_some, List.getElem?_toArray, List.getElem?_cons_zero, List.getElem?_cons_succ, List.length_cons, List.length_nil, List.set_cons_zero, List.set_cons_succ, List.getD_cons_zero, List.getD_cons_succ, Nat.zero_add, Nat.add_zero, Nat.reduceAdd, Nat.reduceLT, Nat.lt_add_one, Nat.zero_lt_succ, decide_true, decide_false, ne_eq, reduceCtorEq]
        refine hK _ w6 (goodR_deep hbk hk).symm (fun hr => ?_) (hcw.trans hc6)
        simp only [Bool.and_eq_true, decide_eq_true_eq] at hr
        rw [hp6 (decide_eq_true hr.1) hr.2]
        have : cntM v = 1 + cntL v.xs := by cases v; simp only [cntM, JV.xs]
        have e : left - 1 - ((cntL v.xs : Nat) : Int) = left - ((1 + cntL v.xs : Nat) : Int) := by omega
        rw [this, e]
end
end Go.Proofs.YtcnjpcadejcenaaGreatDoor
namespace Go.Proofs.YtcnjpcadejcenaaGreatDoor
open Go Go.Eng Go.RowKit
set_option maxRecDepth 100000
theorem sizeLM_big (xs : List JV) {n : Int} (h : 2000 < n) : sizeLM xs n = n := by
  cases xs with
  | nil => rfl
  | cons x xs => simp only [sizeLM]; rw [if_neg (by omega)]
theorem size_cnt : ∀ (m : Nat), m ≤ 24 → ∀ (v : JV), deepM v m = true → (sizeM v ≤ 2000 → sizeM v = cntM v) ∧ ((cntM v : Int) ≤ 2000 → sizeM v = cntM v) := by
  intro m
  induction m with
  | zero => intro _ v h; rw [deepM_zero] at h; cases h
  | succ m ih =>
    intro hm v h
    rw [deepM_succ, deepL_all, List.all_eq_true] at h
    have lst : ∀ (xs : List JV), (∀ x ∈ xs, deepM x m = true) → ∀ n : Int, 1 ≤ n → (sizeLM xs n ≤ 2000 → sizeLM xs n = n + cntL xs) ∧ (n + (cntL xs : Int) ≤ 2000 → sizeLM xs n = n + cntL xs) := by
      intro xs
      induction xs with
      | nil => intro _ n _; simp [sizeLM, cntL]
      | cons x xs ihx =>
        intro hx n hn
        have hxd := hx x List.mem_cons_self
        obtain ⟨b1, b2⟩ := size_bound m (by omega) x hxd
        obtain ⟨c1, c2⟩ := ih (by omega) x hxd
        have hc := cnt_pos x
        simp only [sizeLM, cntL]
        by_cases h2 : n ≤ 2000
        · rw [if_pos h2, wrap_id (by omega) (by omega)]
          obtain ⟨d1, d2⟩ := ihx (fun y hy => hx y (List.mem_cons_of_mem _ hy)) (n + sizeM x) (by omega)
          constructor
          · intro hs
            have hy : n + sizeM x ≤ 2000 := by
              apply Classical.byContradiction; intro hno
              rw [sizeLM_big xs (by omega)] at hs
              omega
            have e := c1 (by omega)
            rw [d1 hs, e]
            omega
          · intro hs
            have e := c2 (by omega)
            rw [d2 (by omega), e]
            omega
        · rw [if_neg h2]
          constructor
          · intro hs; omega
          · intro hs; omega
    obtain ⟨d1, d2⟩ := lst v.xs h 1 (by omega)
    have hc : cntM v = 1 + cntL v.xs := by cases v; simp only [cntM, JV.xs]
    rw [sizeM_eq, hc]
    constructor
    · intro hs; rw [d1 hs]; omega
    · intro hs; rw [d2 (by omega)]; omega
theorem goodM_R (v : JV) : goodR v 24 2000 = goodM v := by
  unfold goodR goodM
  cases hd : deepM v 24 with
  | false => simp
  | true =>
    obtain ⟨c1, c2⟩ := size_cnt 24 (Nat.le_refl _) v hd
    have : decide ((cntM v : Int) ≤ 2000) = decide (sizeM v ≤ 2000) := by
      rw [decide_eq_decide]
      constructor
      · intro h; rw [c2 h]; exact h
      · intro h; rw [← c1 h]; exact h
    rw [this]
    cases decide (sizeM v ≤ 2000) <;> cases plainM v <;> rfl
theorem good_cnt {v : JV} (h : goodM v = true) : cntM v ≤ 2000 := by
  rw [← goodM_R] at h
  unfold goodR at h
  simp only [Bool.and_eq_true, decide_eq_true_eq] at h
  have := h.2
  omega
theorem Bld.isb {w : World} {B b : Nat} {l : Str} (h : Bld w B b l) : Lib.IsBuilderF BdT U8 B b (Lib.byteCells l) w := by
  obtain ⟨p, v, h1, h2, h3, h4⟩ := h
  have hO : w.ownsRow B U8 1 v (u8s l).length (u8s l) := by rw [u8s_length]; exact h3
  have : Lib.BuilderAt BdT U8 B b p (u8s l) w := ⟨h4, v, h1, hO, fun e => bd_ne h1 (h3.block b e)⟩
  rcases h2 with rfl | rfl
  · exact .inl (Lib.BuilderAtF.of this)
  · exact .inr (Lib.BuilderAtF.of this)
theorem below_chg {B : Nat} {w w' : World} (h : Below B w w') : Chg (fun k => B ≤ k) w w' := ⟨h.os, h.tape, h.output, h.size, fun k _ hn => h.block k (by omega)⟩
section
variable [HX]
theorem vgood_p {v : JV} {w : World} {cs : List Value} {K : Value → World → Prop} (h : VRep w v cs) (hK : ∀ w', Ext w w' → K (.bool (goodM v)) w') : callF Tryz.prog 42 [.agg cs.toArray] w K := by
  refine W42_ok ?_
  unfold W42
  refine box_val h fun a w1 sv kv hB hx1 ha => ?_
  refine alloc_new fun p w2 hp hz2 hb2 hx2 => ?_
  refine st_at (off := 0) hb2 rfl (by simp) fun w3 hz3 hb3 hc3 => ?_
  have hx3 : Ext w1 w3 := hx2.new hc3 (by omega)
  have hp3 : w3.heap[p]? = some (.cells [i64 2000].toArray 3 (0, 0)) := by rw [hb3]; rfl
  refine (hB.ext hx3).ld fun cs2 h2 => ?_
  refine good_p v h2 hp3 (m := 24) (by omega) (by omega) (by omega) fun r w4 hr _ hc4 => ?_
  rw [hr, goodM_R]
  have s1 := hx1.size
  exact hK w4 ((hx1.trans hx3).then hc4 fun k hk e => by omega)
theorem len_p {w : World} {B b : Nat} {l : Str} {K : Value → World → Prop} (h : Bld w B b l) (hK : K (i64 (l.length : Int)) w) : callF Tryz.prog 46 [.pointer (some ⟨b, 0, none⟩)] w K := by
  refine of_calls (args := #[.pointer (some ⟨b, 0, none⟩)]) Tryz.call46 ((Tryz.Builder_Len_f B b (Lib.byteCells l) w h.isb).mono ?_)
  rintro e w' ⟨rfl, rfl⟩
  refine ⟨_, rfl, ?_⟩
  rw [Lib.byteCells_length]
  exact hK
theorem string_p {w : World} {B b : Nat} {l : Str} {K : Value → World → Prop} (h : Bld w B b l) (hB : B ≤ w.heap.size) (hK : ∀ w', Chg (fun k => B ≤ k) w w' → K (str l) w') : callF Tryz.prog 47 [.pointer (some ⟨b, 0, none⟩)] w K := by
  refine of_calls (args := #[.pointer (some ⟨b, 0, none⟩)]) Tryz.call47 ((Tryz.Builder_String_any_k B b l w h.isb hB).mono ?_)
  rintro e w' ⟨rfl, _, hb, _⟩
  exact ⟨_, rfl, hK w' (below_chg hb)⟩
theorem encode_p {v : JV} {w : World} {cs : List Value} {K : Value → World → Prop} (hT : TabU w) (hF : FmtOk w) (h : VRep w v cs) (hK : ∀ w', Ext w w' → K (.tuple #[str (encM 1 20 31 3 v).1, i64 (encM 1 20 31 3 v).2]) w') :
    callF Tryz.prog 16 [.agg cs.toArray] w K := by
  refine W16_ok ?_
  unfold W16
  unfold encM at hK
  refine box_vali h fun a w1 sv kv ha hI hx1 hage hz1 => ?_
  have ld : ∀ {w2 : World} {KK : Value → Prop}, Ext w1 w2 → (∀ cs2, VRep w v cs2 → KK (.agg cs2.toArray)) → ldW true 5 (.pointer (some ⟨a, 0, none⟩)) w2 KK := fun hx hk => by
    refine ld_all (hx.at ha id) rfl (hk _ ?_)
    obtain ⟨T, L, i1, i2⟩ := hI.items
    obtain ⟨T2, i3⟩ := hI.keys
    exact VRep.mk i1 i2 i3 hI.fits
  refine ld (Chg.refl _ _) fun cs2 h2 => ?_
  refine vgood_p (h2.ext hx1) fun w2 hx2 => ?_
  rw [un_not, condW_b]
  refine ⟨fun hb => ?_, fun hg => ?_⟩
  · have : goodM v = false := by simpa using hb
    rw [if_pos this] at hK
    exact hK w2 (hx1.trans hx2)
  have hgood : goodM v = true := by simpa using hg
  rw [if_neg (by rw [hgood]; simp)] at hK
  refine ld hx2 fun cs3 h3 => ?_
  refine known_p v (h3.ext (hx1.trans hx2)) fun w3 hx3 => ?_
  rw [un_not, condW_b]
  refine ⟨fun hb => ?_, fun hg => ?_⟩
  · have : knownM v = false := by simpa using hb
    rw [if_pos this] at hK
    exact hK w3 ((hx1.trans hx2).trans hx3)
  have hknown : knownM v = true := by simpa using hg
  rw [if_neg (by rw [hknown]; simp)] at hK
  refine ld (hx2.trans hx3) fun cs4 h4 => ?_
  have hx13 := (hx1.trans hx2).trans hx3
  refine texts_p v hT hx13 (h4.ext hx13) fun w4 hx4 => ?_
  rw [un_not, condW_b]
  refine ⟨fun hb => ?_, fun hg => ?_⟩
  · have : textsM v = false := by simpa using hb
    rw [if_pos this] at hK
    exact hK w4 (hx13.trans hx4)
  have htexts : textsM v = true := by simpa using hg
  rw [if_neg (by rw [htexts]; simp)] at hK
  have hx14 := hx13.trans hx4
  refine bnew (B := w4.heap.size) (Nat.le_refl _) fun b w5 hb hb5 hx5 => ?_
  refine ld ((hx2.trans hx3).trans (hx4.trans hx5)) fun cs5 h5 => ?_
  have hgv := good_v hgood
  have hcnt := good_cnt hgood
  refine write_p v h5 (hx14.trans hx5) hx14.size hx5.size hb5 hgv.plain htexts hknown hgv.few (by rw [List.length_nil]; omega) hF fun w6 hb6 hc6 => ?_
  rw [List.nil_append] at hb6
  have hx6 : Ext w w6 := BCh.new (hx14.trans hx5) hx14.size hb6.base hc6
  refine len_p hb6 ?_
  rw [bin_gtr, condW_dec]
  refine ⟨fun hl => ?_, fun hl => ?_⟩
  · rw [if_pos (by omega)] at hK
    exact hK w6 hx6
  · rw [if_neg (by omega)] at hK
    refine string_p hb6 (by have := hx5.size; have := hc6.size; omega) fun w7 hc7 => ?_
    exact hK w7 (hx6.then hc7 fun k hk e => by have := hx14.size; omega)
end
end Go.Proofs.YtcnjpcadejcenaaGreatDoor
namespace Go.Proofs.YtcnjpcadejcenaaGreatDoor
open Go Go.Eng
set_option maxRecDepth 100000
variable [HX]
def plan248 : Plan := { js := [], ds := [] }
def W248 (v0 : Value) (w : World) (K : Value → World → Prop) : Prop :=
  condW (.bool false) (
    cvtW .u32 v0 fun t4 =>
    callF Tryz.prog 272 [t4] w fun t5 w1 =>
    K t5 w1) (
    callF Tryz.prog 273 [v0] w fun t7 w2 =>
    K t7 w2)
theorem W248_eq (v0 : Value) (w : World) (K : Value → World → Prop) : funW Tryz.prog Tryz.f248 plan248 [v0] w K = W248 v0 w K := by kernel_rfl
theorem W248_chk : chkFun Tryz.prog Tryz.f248 plan248 1 = true := by kernel_rfl
theorem W248_ok {v0 : Value} {w : World} {K : Value → World → Prop} (h : W248 v0 w K) : callF Tryz.prog 248 [v0] w K :=
  tie Tryz.prog 248 Tryz.f248 plan248 [v0] w K 1 (W248 v0 w K) rfl mixed Tryz.func248 W248_chk (W248_eq v0 w K) Tryz.call248 h
def plan273 : Plan := { js := [], ds := [] }
def W273 (v0 : Value) (w : World) (K : Value → World → Prop) : Prop :=
  binW .eql v0 (.int .u64 0) fun t4 =>
  condW t4 (
    K (.int .i64 64) w) (
    unW .neg v0 fun t7 =>
    binW .and v0 t7 fun t8 =>
    binW .mul t8 (.int .u64 285870213051353865) fun t9 =>
    binW .shr t9 (.int .u64 58) fun t10 =>
    ixaW (some 64) 1 (.pointer (some ⟨7, 0, none⟩)) t10 fun t11 =>
    ldW false 1 t11 w fun t12 =>
    cvtW .i64 t12 fun t13 =>
    K t13 w)
theorem W273_eq (v0 : Value) (w : World) (K : Value → World → Prop) : funW Tryz.prog Tryz.f273 plan273 [v0] w K = W273 v0 w K := by kernel_rfl
theorem W273_chk : chkFun Tryz.prog Tryz.f273 plan273 1 = true := by kernel_rfl
theorem W273_ok {v0 : Value} {w : World} {K : Value → World → Prop} (h : W273 v0 w K) : callF Tryz.prog 273 [v0] w K :=
  tie Tryz.prog 273 Tryz.f273 plan273 [v0] w K 1 (W273 v0 w K) rfl mixed Tryz.func273 W273_chk (W273_eq v0 w K) Tryz.call273 h
end Go.Proofs.YtcnjpcadejcenaaGreatDoor
namespace Go.Proofs.YtcnjpcadejcenaaGreatDoor
open Go Go.Eng Go.RowKit
set_option maxRecDepth 100000
def TabB (w : World) : Prop := w.cell? ⟨7, 15, none⟩ = some (.int .u8 4)
def hexDigits : Str := [48, 49, 50, 51, 52, 53, 54, 55, 56, 57, 97, 98, 99, 100, 101, 102, 103, 104, 105, 106, 107, 108, 109, 110, 111, 112, 113, 114, 115, 116, 117, 118, 119, 120, 121, 122]
theorem hex_at : ∀ n : Fin 16, hexDigits[n.val]? = some (hexD n.val) := by decide +kernel
theorem and15 (n : Nat) (h : n < 1000) : IntKind.u64.wrap (BitVec.ofInt IntKind.u64.bits (n : Int) &&& BitVec.ofInt IntKind.u64.bits 15).toNat = ((n % 16 : Nat) : Int) := by
  have : ∀ x : Fin 1000, IntKind.u64.wrap (BitVec.ofInt IntKind.u64.bits ((x.val : Nat) : Int) &&& BitVec.ofInt IntKind.u64.bits 15).toNat = ((x.val % 16 : Nat) : Int) := by decide +kernel
  exact this ⟨n, h⟩
theorem shr64 (r k : Nat) (hk : k ≤ 64) (K : Value → Prop) : binW .shr (.int .u64 (r : Int)) (.int .u64 (k : Int)) K ↔ K (.int .u64 ((r / 2 ^ k : Nat) : Int)) := by
  have e : (r : Int).fdiv (2 ^ min (k : Int).toNat IntKind.u64.bits) = ((r / 2 ^ k : Nat) : Int) := by
    rw [Int.toNat_natCast, show min k IntKind.u64.bits = k from Nat.min_eq_left hk, Int.fdiv_eq_ediv_of_nonneg _ (by exact Int.le_of_lt (Int.pow_pos (by decide)))]
    rw [Int.natCast_ediv, Int.natCast_pow]; rfl
  rw [bin_shr, e]
  constructor
  · exact fun h => h.2
  · exact fun h => ⟨by omega, h⟩
section
variable [HX]
theorem tz_p {w : World} {K : Value → World → Prop} (hB : TabB w) (hK : K (i64 4) w) : callF Tryz.prog 248 [.int .u64 16] w K := by
  refine W248_ok ?_
  unfold W248
  rw [condW_false]
  refine W273_ok ?_
  unfold W273
  rw [bin_eql, show decide ((16 : Int) = 0) = false from rfl, condW_false, un_neg, bin_and]
  have e1 : IntKind.u64.wrap (BitVec.ofInt IntKind.u64.bits 16 &&& BitVec.ofInt IntKind.u64.bits (IntKind.u64.wrap (0 - 16))).toNat = ((16 : Nat) : Int) := by decide +kernel
  rw [e1, bin_mul]
  have e2 : IntKind.u64.wrap (((16 : Nat) : Int) * 285870213051353865) = ((4573923408821661840 : Nat) : Int) := by decide +kernel
  rw [e2, show (58 : Int) = ((58 : Nat) : Int) from rfl, shr64 _ 58 (by omega), show 4573923408821661840 / 2 ^ 58 = 15 by decide, ixa_arr]
  refine ⟨by omega, by omega, ?_⟩
  rw [ld_one]
  refine ⟨.int .u8 4, ?_, ?_⟩
  · exact hB
  · rw [cvt_int]; exact hK
theorem pow2_p {w : World} {K : Value → World → Prop} (hK : K (.bool true) w) : callF Tryz.prog 247 [i64 16] w K := by
  refine W247_ok ?_
  unfold W247
  rw [bin_sub, bin_and, bin_eql]
  have e : decide (IntKind.i64.wrap (BitVec.ofInt IntKind.i64.bits 16 &&& BitVec.ofInt IntKind.i64.bits (IntKind.i64.wrap (16 - 1))).toNat = 0) = true := by decide +kernel
  rw [e]
  exact hK
theorem u64w {n : Nat} (h : n < 1000000) : IntKind.u64.wrap (n : Int) = (n : Int) := u64_wrap (by omega) (by omega)
theorem fmt_p {r : Nat} {w : World} {K : Value → World → Prop} (hr : r < 32) (hB : TabB w) (hK : ∀ w', Ext w w' → K (str ([49] ++ hexS r)) w') : callF Tryz.prog 154 [i64 ((r + 256 : Nat) : Int), i64 16] w K := by
  refine W154_ok ?_
  unfold W154
  refine W172_ok ?_
  unfold W172
  rw [bin_eql, show decide ((16 : Int) = 10) = false from rfl, condW_false, cvt_int, u64w (by omega), bin_lss, decide_eq_false (by omega)]
  refine W199_ok ?_
  unfold W199
  refine JoinW.cut (fun s' w' => s' = [] ∧ w' = w) ?_ ?_
  · rw [bin_lss, show decide ((16 : Int) < 2) = false from rfl]
    simp only [wsv, wsg, wsh, wsl, cond_true, cond_false, exists_eq_left', Option.some.injEq, Option.isSome_some, List.getElem?_toArray, List.getElem?_cons_zero, List.getElem?_cons_succ, List.length_cons, List.length_nil, List.set_cons_zero, List.set_cons_succ, List.getD_cons_zero, List.getD_cons_succ, Nat.zero_add, Nat.add_zero, Nat.reduceAdd, Nat.reduceLT, Nat.lt_add_one, Nat.zero_lt_succ, decide_true, decide_false, ne_eq, reduceCtorEq, show decide ((16 : Int) = 10) = false from rfl, show decide ((36 : Int) < 16) = false from rfl]
    intros; trivial
  rintro s' g w1 ⟨rfl, rfl⟩
  refine alloc_new fun A w2 hA hz2 hb2 hx2 => ?_
  refine JoinW.cut (fun s' w' => s' = [.int .u64 ((r + 256 : Nat) : Int)] ∧ w' = w2) ?_ ?_
  · rw [condW_false]; exact ⟨rfl, rfl⟩
  rintro s' g w3 ⟨rfl, rfl⟩
  simp only [List.getD_cons_zero]
  refine JoinW.cut (fun s' w' => s' = [i64 62] ∧ Ext w1 w' ∧ ∃ T, SlAt w' T (.slice (some ⟨A, 62, none⟩) 3 3) 3 (u8s ([49] ++ hexS r))) ?_ ?_
  · refine pow2_p ?_
    rw [condW_true, cvt_int, show IntKind.u64.wrap 16 = 16 by decide]
    refine tz_p (cell_ext hx2 hB) ?_
    rw [cvt_int, show IntKind.u64.wrap 4 = ((4 : Nat) : Int) by decide, cvt_int, show IntKind.u64.wrap 16 = 16 by decide, cvt_int, show IntKind.u64.wrap 16 = 16 by decide, bin_sub, show IntKind.u64.wrap (16 - 1) = 15 by decide]
    have hd16 : ∀ n, n < 16 → ((hexD n).toNat : Int) < 256 := fun n _ => by have := UInt8.toNat_lt (hexD n); omega
    refine ⟨fun s' w' => ∃ (k : Nat) (c : Array Value) (T : TypeId), k ≤ 2 ∧ s' = [.int .u64 (((r + 256) / 16 ^ k : Nat) : Int), i64 ((65 - k : Nat) : Int)] ∧ w'.heap[A]? = some (.cells c T (0, 0)) ∧ c.size = 65 ∧ (∀ j, j < k → c[64 - j]? = some (u8 (hexD ((r + 256) / 16 ^ j % 16)).toNat)) ∧ Ext w1 w',
      fun s' _ => match s' with | [_, .int _ i] => i.toNat | _ => 0, ⟨0, _, _, by omega, by simp, hb2, by simp, fun j h => by omega, hx2⟩, ?_⟩
    rintro s' g w4 ⟨k, c, T, hk, rfl, hc, hsz, hcs, hx4⟩
    simp only [List.getD_cons_zero, List.getD_cons_succ]
    have ew : IntKind.i64.wrap (((65 - k : Nat) : Int) - 1) = ((64 - k : Nat) : Int) := by rw [wrap_id (by omega) (by omega)]; omega
    have store : ∀ (n : Nat) (KK : World → Prop), n < 16 → (∀ w', Ext w1 w' → w'.heap[A]? = some (.cells (c.setIfInBounds (64 - k) (u8 (hexD n).toNat)) T (0, 0)) → KK w') →
        ixaW (some 65) 1 (.pointer (some ⟨A, 0, none⟩)) (i64 ((64 - k : Nat) : Int)) fun t => stW 1 t (u8 (hexD n).toNat) w4 KK := by
      intro n KK hn hkk
      rw [ixa_arr]
      refine ⟨by omega, by omega, ?_⟩
      rw [add_mk, Int.toNat_natCast, Nat.zero_add, Nat.mul_one]
      refine st_at hc rfl (by omega) fun w5 hz5 hb5 hc5 => hkk w5 (hx4.then hc5 fun k hk e => by omega) hb5
    have dig : ∀ (n : Nat) (KK : Value → Prop), n < 16 → KK (u8 (hexD n).toNat) → ixsW (.string (ofL hexDigits)) (.int .u64 (n : Int)) KK := by
      intro n KK hn hkk
      rw [ixs_str]
      exact ⟨by omega, hexD n, by rw [Int.toNat_natCast]; exact hex_at ⟨n, hn⟩, hkk⟩
    rw [bin_geq, condW_dec]
    refine ⟨fun hge => ?_, fun hlt => ?_⟩
    · have hk1 : k ≤ 1 := by
        apply Classical.byContradiction; intro hno
        obtain rfl : k = 2 := by omega
        omega
      have hlt1000 : (r + 256) / 16 ^ k < 1000 := by
        have : (r + 256) / 16 ^ k ≤ r + 256 := Nat.div_le_self _ _
        omega
      rw [bin_sub, ew, bin_and, and15 _ hlt1000]
      refine dig _ _ (Nat.mod_lt _ (by omega)) ?_
      refine store _ _ (Nat.mod_lt _ (by omega)) fun w5 hx5 hb5 => ?_
      rw [shr64 _ 4 (by omega)]
      refine ⟨⟨k + 1, _, T, by omega, ?_, hb5, by simp [hsz], fun j hj => ?_, hx5⟩, ?_⟩
      · have e : (r + 256) / 16 ^ (k + 1) = (r + 256) / 16 ^ k / 2 ^ 4 := by
          rw [show 16 ^ (k + 1) = 16 ^ k * 16 from rfl, ← Nat.div_div_eq_div_mul]
        rw [show 65 - (k + 1) = 64 - k by omega, e]
      · rw [Array.getElem?_setIfInBounds]
        by_cases hjk : j = k
        · subst hjk; rw [if_pos rfl, if_pos (by omega)]
        · rw [if_neg (by omega)]; exact hcs j (by omega)
      · show ((64 - k : Nat) : Int).toNat < ((65 - k : Nat) : Int).toNat
        omega
    · have hk2 : k = 2 := by
        apply Classical.byContradiction; intro hno
        have : k = 0 ∨ k = 1 := by omega
        rcases this with rfl | rfl <;> omega
      subst hk2
      rw [bin_sub, ew]
      have h1 : (r + 256) / 16 ^ 2 = 1 := by omega
      rw [h1]
      refine dig 1 _ (by omega) ?_
      refine store 1 _ (by omega) fun w5 hx5 hb5 => ?_
      refine ⟨rfl, hx5, T, ⟨some ⟨A, 62, none⟩, 3, rfl, Nat.le_refl _, fun e => (by cases e), fun _ => ⟨A, 62, _, _, rfl, hb5, fun i hi => ?_⟩⟩⟩
      have h0' := hcs 0 (by omega)
      have h1' := hcs 1 (by omega)
      have hi3 : i < 3 := by simpa [u8s_length, hexS] using hi
      rw [u8s_get, Array.getElem?_setIfInBounds]
      obtain rfl | rfl | rfl : i = 0 ∨ i = 1 ∨ i = 2 := by omega
      · rw [if_pos rfl, if_pos (by omega)]; rfl
      · rw [if_neg (by omega), show 62 + 1 = 64 - 1 from rfl, h1', show (r + 256) / 16 ^ 1 % 16 = r / 16 by omega]
        have : hexD (r / 16) = b8 (48 + r / 16) := by unfold hexD; rw [if_pos (by omega)]
        rw [this]; rfl
      · rw [if_neg (by omega), show 62 + 2 = 64 - 0 from rfl, h0', show (r + 256) / 16 ^ 0 % 16 = r % 16 by omega]; rfl
  rintro s' g w4 ⟨rfl, hx4, Ts, hs4⟩
  refine JoinW.cut (fun s' w' => s' = [i64 62] ∧ w' = w4) ?_ ?_
  · rw [condW_false]; exact ⟨rfl, rfl⟩
  rintro s' g w5 ⟨rfl, rfl⟩
  simp only [List.getD_cons_zero]
  rw [condW_false]
  unfold slaW
  dsimp only
  rw [bd_none, bd_none, bd_some]
  refine ⟨by omega, by omega, ?_⟩
  have ea : (⟨A, 0, none⟩ : Addr).add 62 = ⟨A, 62, none⟩ := by rw [add_mk]
  rw [show ((62 : Int).toNat) = 62 from rfl, if_neg (by omega), show 62 * 1 = 62 from rfl, ea, conv_bytes (l := [49] ++ hexS r) (e := U8) (by kernel_rfl) (by kernel_rfl) (by kernel_rfl) hs4]
  rw [ext_tuple]
  refine ⟨_, rfl, ?_⟩
  rw [ext_tuple]
  exact ⟨_, rfl, hK _ hx4⟩
theorem fmt_ok {w0 : World} (hB : TabB w0) : FmtOk w0 := fun r hr w K hx hK => fmt_p hr (cell_ext hx hB) hK
end
end Go.Proofs.YtcnjpcadejcenaaGreatDoor
namespace Go.Proofs.YtcnjpcadejcenaaGreatDoor
open Go Go.Eng Go.Num
set_option maxRecDepth 100000
section
variable [HX]
theorem OwnV.rep {w0 w : World} {base : Nat} {v : JV} {sv kv : Value} (h : OwnV w0 w base v sv kv) (hx : Ext w0 w) : VRep w v [i64 v.k, .bool v.b, str v.t, sv, kv] := by
  obtain ⟨sv', kv', T1, T2, L, he, h1, h2, h3, h4⟩ := h.val
  simp only [List.cons.injEq, and_true, true_and] at he
  obtain ⟨rfl, rfl⟩ := he
  exact VRep.mk h1 (h2.ext hx) h3 h4
end
end Go.Proofs.YtcnjpcadejcenaaGreatDoor
namespace Go.Proofs.YtcnjpcadejcenaaGreatDoor
open Go Go.Eng
set_option maxRecDepth 100000
variable [HX]
def plan79 : Plan := { js := [], ds := [] }
def W79 (v0 : Value) (w : World) (K : Value → World → Prop) : Prop :=
  allocW 26 [(.int .i64 0), (.bool false), (.string (ofL [])), (.slice none 0 0), (.slice none 0 0)] w fun t2 w1 =>
  putW [(.int .i64 0), (.bool false), (.string (ofL [])), (.slice none 0 0), (.slice none 0 0)] [(0, 1, (.int .i64 4)), (2, 1, v0)] fun c2 =>
  stW 5 t2 (.agg c2.toArray) w1 fun w3 =>
  ldW true 5 t2 w3 fun r4 =>
  K r4 w3
theorem W79_eq (v0 : Value) (w : World) (K : Value → World → Prop) : funW Tryz.prog Tryz.f79 plan79 [v0] w K = W79 v0 w K := by kernel_rfl
theorem W79_chk : chkFun Tryz.prog Tryz.f79 plan79 1 = true := by kernel_rfl
theorem W79_ok {v0 : Value} {w : World} {K : Value → World → Prop} (h : W79 v0 w K) : callF Tryz.prog 79 [v0] w K :=
  tie Tryz.prog 79 Tryz.f79 plan79 [v0] w K 1 (W79 v0 w K) rfl mixed Tryz.func79 W79_chk (W79_eq v0 w K) Tryz.call79 h
end Go.Proofs.YtcnjpcadejcenaaGreatDoor
namespace Go.Proofs.YtcnjpcadejcenaaGreatDoor
open Go Go.Eng Go.RowKit
set_option maxRecDepth 100000
structure Tabs (w : World) : Prop where
  utf : TabU w
  bru : TabB w
  pow : Lib.TabIs Tryz.prog w "internal/strconv.uint64pow10" .u64 Lib.pow10Tab
section
variable [HX]
theorem text_p {s : Str} {w : World} {K : Value → World → Prop} (hs : s.length ≤ 9223372036854775807) (hK : ∀ cs w', Ext w w' → (∀ w'', VRep w'' (.mk 4 false s [] []) cs) → K (.agg cs.toArray) w') : callF Tryz.prog 79 [str s] w K := by
  refine W79_ok ?_
  unfold W79
  refine alloc_new fun b w1 hb hz hbb hx => ?_
  simp only [put_int, put_str, put_nil, List.length_cons, List.length_nil, List.set_cons_zero, List.set_cons_succ]
  refine ⟨by omega, by omega, ?_⟩
  refine st_agg_at (l := [i64 4, .bool false, str s, .slice none 0 0, .slice none 0 0]) hbb rfl rfl rfl fun w2 hz2 hb2 hc2 => ?_
  refine ld_all hb2 rfl ?_
  refine hK _ w2 (hx.new hc2 (by omega)) fun w'' => ?_
  exact VRep.mk (v := .mk 4 false s [] []) (T1 := 0) (T2 := 0) (SlAt.nil w'' 0) (by simp [JV.xs, VReps]) (SlAt.nil w'' 0) ⟨by simp [JV.xs], by simp [JV.ks], hs, by simp [JV.ks]⟩
end
end Go.Proofs.YtcnjpcadejcenaaGreatDoor

namespace Go.Eng
open Go
section
variable {P : Program}
def DefC (P : Program) (g : FuncId) (caps : List Value) (u : FrameMode) (w : World) (K : World → Prop) : Prop :=
  CallsD P g caps.toArray u w fun e u' w' => (∃ v, e = .returned v) ∧ settle u' = .returning ∧ K w'
def defOf : List Oper → Option (Nat × FuncId × List Operand)
  | [o1, o2] =>
    match o1.guard, o2.guard, o1.dst, o1.op, o2.dst, o2.op with
    | none, none, some t, .makeFunc (.func g) first caps, none, .defer c =>
      match first.toList, c.callee, c.args.toList with
      | [], .value (.tmp t'), [] => bif Nat.beq t t' then some (t, g, caps.toList) else none
      | _, _, _ => none
    | _, _, _, _, _, _ => none
  | _ => none
def retW (P : Program) (fn : Func) (R : Ending → World → Prop) (f : Fr) (w : World) : Prop := resW P fn.results.toList f w fun l => R (.returned (one l)) w
def codeD (P : Program) (pl : Plan) (fn : Func) (R : Ending → World → Prop) : Nat → Code → Nat → Fr → World → Prop
  | 0, .seq (.region _ ops _) b, i, f, w =>
    match defOf ops.toList with
    | some (t, g, caps) =>
      @codeW ⟨fun ch w' => DefC P g (caps.map (ev f)) (.panicking ch) w' fun w'' => retW P fn R f w''⟩ P pl b (i + 2) (upd f (some t) (.func (.func g) #[] (caps.map (ev f)).toArray)) w
        (fun f' w' => DefC P g (caps.map (ev f)) .returning w' fun w'' => retW P fn R f' w'') (fun _ _ _ => False) (fun f' w' => DefC P g (caps.map (ev f)) .returning w' fun w'' => retW P fn R f' w'')
    | none => False
  | k + 1, .seq a b, i, f, w => @codeW ⟨fun ch w' => R (.panicked ch) w'⟩ P pl a (i + 1) f w (fun f' w' => codeD P pl fn R k b (i + 1 + nodes a) f' w') (fun _ _ _ => False) (fun f' w' => retW P fn R f' w')
  | _, _, _, _, _ => False
def resIn (lo t : Nat) : ResultVar → Bool
  | .tmp x => Nat.blt x lo && !(Nat.beq x t)
  | .cell x _ => Nat.blt x lo && !(Nat.beq x t)
def chkD (P : Program) (fn : Func) (pl : Plan) (lo gd : Nat) : Nat → Code → Nat → Bool
  | 0, .seq (.region _ ops draw) b, i => !draw && (lk pl.js i).isNone &&
    (match defOf ops.toList with
    | some (t, g, _) => Nat.blt t fn.ntmps && Nat.beq g gd && fn.results.toList.all (resIn lo t) && chk P fn.ntmps pl [] lo b (i + 2)
    | none => false)
  | k + 1, .seq a b, i => (lk pl.js i).isNone && chk P fn.ntmps pl [] 0 a (i + 1) && chkD P fn pl lo gd k b (i + 1 + nodes a)
  | _, _, _ => false
theorem ldW_mono {agg : Bool} {n : Nat} {x : Value} {w : World} {K K' : Value → Prop} (hk : ∀ v, K v → K' v) (h : ldW agg n x w K) : ldW agg n x w K' := by
  cases x with
  | pointer a =>
    cases a with
    | none => exact h
    | some a =>
      cases agg with
      | true => obtain ⟨l, h1, h2⟩ := h; exact ⟨l, h1, hk _ h2⟩
      | false => obtain ⟨l, h1, h2⟩ := h; exact ⟨l, h1, hk _ h2⟩
  | _ => exact h
theorem resW_same {f f' : Fr} {w : World} : ∀ {l : List ResultVar} {K : List Value → Prop}, (∀ t, (∃ r ∈ l, r = .tmp t ∨ ∃ T, r = .cell t T) → f t = f' t) → resW P l f w K → resW P l f' w K
  | [], _, _, h => h
  | r :: l, K, h, hk => by
    have hl : ∀ t, (∃ r ∈ l, r = .tmp t ∨ ∃ T, r = .cell t T) → f t = f' t := fun t ⟨r', hr, e⟩ => h t ⟨r', List.mem_cons_of_mem _ hr, e⟩
    cases r with
    | tmp t => simp only [resW] at hk ⊢; rw [← h t ⟨_, List.mem_cons_self, .inl rfl⟩]; exact resW_same hl hk
    | cell t T =>
      simp only [resW] at hk ⊢
      rw [← h t ⟨_, List.mem_cons_self, .inr ⟨T, rfl⟩⟩]
      obtain ⟨h1, h2⟩ := andB.out hk
      rw [h1]
      exact ldW_mono (fun v hv => resW_same hl hv) h2
theorem defC_leaves {fn : Func} {R : Ending → World → Prop} {g : FuncId} {caps : List Value} {u : FrameMode} {w : World} {f : Fr} {a : Act} (hr : ∀ (ar : Array Value) (w : World), (callFunc g ar).run P w = .ok (.enter g ar) w) (hu : u ≠ .run)
    (ha : ∀ t, (∃ r ∈ fn.results.toList, r = .tmp t ∨ ∃ T, r = .cell t T) → f t = a.tmps.getD t undef) (h : DefC P g caps u w fun w'' => retW P fn R f w'') :
    Leaves P fn a.tmps R [{ target := .fn (.func g) caps.toArray, args := #[] }] u w := by
  refine leaves_cons (f := g) (args := caps.toArray) hu ?_ (h.mono ?_)
  · have := hr (#[] ++ caps.toArray) w
    rw [show (#[] ++ caps.toArray : Array Value) = caps.toArray from by simp] at this
    show (callFunc g (#[] ++ caps.toArray)).run P w = _
    rw [show (#[] ++ caps.toArray : Array Value) = caps.toArray from by simp]
    exact this
  · rintro e u' w' ⟨⟨v, rfl⟩, hs, hk⟩
    show Leaves P fn a.tmps R [] (settle u') w'
    rw [hs]
    have hag : Ag a.tmps.size a.defers (fun t => a.tmps.getD t undef) a := ⟨rfl, rfl, fun _ => rfl⟩
    letI := noX
    obtain ⟨v', hk', hr'⟩ := results_run (fn := fn) (K := fun v => R (.returned v) w') hag (resW_same ha hk)
    exact ⟨v', hr', hk'⟩
theorem defOf_some {l : List Oper} {t : Nat} {g : FuncId} {caps : List Operand} (h : defOf l = some (t, g, caps)) : ∃ o1 o2 first cp c, l = [o1, o2] ∧ o1.guard = none ∧ o2.guard = none ∧ o1.dst = some t ∧ o1.op = .makeFunc (.func g) first cp ∧ first = #[] ∧ cp.toList = caps ∧ o2.dst = none ∧ o2.op = .defer c ∧ c.callee = .value (.tmp t) ∧ c.args = #[] := by
  unfold defOf at h
  split at h
  · rename_i o1 o2
    split at h
    · rename_i t' g' first cp c e1 e2 e3 e4 e5 e6
      split at h
      · rename_i t'' h1 h2 h3
        cases hb : Nat.beq t' t'' with
        | false => rw [hb] at h; cases h
        | true =>
          rw [hb] at h
          simp only [cond_true, Option.some.injEq, Prod.mk.injEq] at h
          obtain ⟨rfl, rfl, rfl⟩ := h
          have : t' = t'' := Nat.eq_of_beq_eq_true hb
          subst this
          exact ⟨o1, o2, first, cp, c, rfl, e1, e2, e3, e4, by simpa using h1, rfl, e5, e6, h2, by simpa using h3⟩
      · cases h
    · cases h
  · cases h
theorem codeD_sound (hm : P.follows .mixedOrders = true) {pl : Plan} {fn : Func} {R : Ending → World → Prop} {lo gd : Nat} (hr : ∀ (ar : Array Value) (w : World), (callFunc gd ar).run P w = .ok (.enter gd ar) w) :
    ∀ (k : Nat) (c : Code) (i : Nat) (f : Fr) (a : Act) (w : World), chkD P fn pl lo gd k c i = true → Ag fn.ntmps [] f a → codeD P pl fn R k c i f w → c.wp P (bodyPostD P fn R) a w := by
  intro k
  induction k with
  | zero =>
    intro c i f a w hc hag h
    cases c with
    | seq x b =>
      cases x with
      | region id ops draw =>
        simp only [codeD] at h
        simp only [chkD, Bool.and_eq_true, Bool.not_eq_true'] at hc
        obtain ⟨⟨hdr, hl⟩, hc⟩ := hc
        cases hd : defOf ops.toList with
        | none => simp only [hd] at h
        | some x =>
          obtain ⟨t, g, caps⟩ := x
          simp only [hd, Bool.and_eq_true] at h hc
          obtain ⟨⟨⟨ht, hg⟩, hres⟩, hchk⟩ := hc
          obtain rfl : g = gd := Nat.eq_of_beq_eq_true hg
          obtain ⟨o1, o2, first, cp, cl, hops, g1, g2, d1, p1, rfl, rfl, d2, p2, hcl, hca⟩ := defOf_some hd
          subst hdr
          refine wp_seq (wp_region_list ?_)
          have hops' : ops = [o1, o2].toArray := by rw [← hops]
          subst hops'
          have htn : t < fn.ntmps := by simpa using ht
          have hv : (cp.toList.map (ev f)).toArray = cp.map a.eval := by
            rw [eval_fun hag]
            apply Array.ext'
            simp
          show wpList P [o1, o2].toArray _ [o1, o2] a w
          letI := noX
          refine op_step (K := fun v w' => v = .func (.func g) #[] (cp.toList.map (ev f)).toArray ∧ w' = w) hag (by simp [wantF, g1]) ?_ ?_ (fun _ _ h => h.elim)
          · unfold anyW
            rw [p1]
            exact ⟨rfl, rfl⟩
          · rintro v w' ⟨rfl, rfl⟩
            have hag1 := hag.put (d := some t) (fun x hx => by cases hx; exact htn) (.func (.func g) #[] (cp.toList.map (ev f)).toArray)
            rw [d1]
            unfold wpList
            rw [if_pos (by rw [want_ag hag1]; simp [wantF, g2])]
            refine .inl ?_
            unfold Oper.wp
            have hex : (execOp (a.put (some t) (.func (.func g) #[] (cp.toList.map (ev f)).toArray)).eval o2).run P w' = .ok (.defer { target := .fn (.func g) (cp.toList.map (ev f)).toArray, args := #[] }) w' := by
              rw [eval_fun hag1]
              unfold execOp
              rw [p2]
              have e : ev (upd f (some t) (.func (.func g) #[] (cp.toList.map (ev f)).toArray)) (.tmp t) = .func (.func g) #[] (cp.toList.map (ev f)).toArray := by
                simp [ev, upd_some]
              simp [resolve, hcl, hca, Deferred.ofValue, run_bind, run_pure, e]
            rw [hex, Oper.upon_defer, d2]
            clear hex
            have hag2 : Ag fn.ntmps [{ target := .fn (.func g) (cp.toList.map (ev f)).toArray, args := #[] }] (upd f (some t) (.func (.func g) #[] (cp.toList.map (ev f)).toArray)) ({ (a.put (some t) (.func (.func g) #[] (cp.toList.map (ev f)).toArray)) with defers := { target := .fn (.func g) (cp.toList.map (ev f)).toArray, args := #[] } :: (a.put (some t) (.func (.func g) #[] (cp.toList.map (ev f)).toArray)).defers }.put none undef) := by
              refine ⟨?_, hag1.2.1, hag1.2.2⟩
              show _ :: (a.put _ _).defers = _
              rw [hag1.1]
            generalize ({ (a.put (some t) (.func (.func g) #[] (cp.toList.map (ev f)).toArray)) with defers := { target := .fn (.func g) (cp.toList.map (ev f)).toArray, args := #[] } :: (a.put (some t) (.func (.func g) #[] (cp.toList.map (ev f)).toArray)).defers }.put none undef) = a2 at hag2 ⊢
            show b.wp P (bodyPostD P fn R) a2 w'
            refine @codeW_sound ⟨fun ch w' => DefC P g (cp.toList.map (ev f)) (.panicking ch) w' fun w'' => retW P fn R f w''⟩ P fn.ntmps [{ target := .fn (.func g) (cp.toList.map (ev f)).toArray, args := #[] }] pl hm b [] lo (i + 2) _ a2 w' _ _ _ _ hchk hag2 h (fun f' a' w' hag' _ hk => ?_) (fun _ _ _ _ _ _ hk => hk.elim) (fun f' a' w' hag' _ hk => ?_) (fun ch a' w' hd ht hx => ?_)
            · show Leaves P fn a'.tmps R a'.defers .returning w'
              rw [hag'.1]
              exact defC_leaves hr (by simp) (fun t _ => (hag'.2.2 t).symm) hk
            · show Leaves P fn a'.tmps R a'.defers .returning w'
              rw [hag'.1]
              exact defC_leaves hr (by simp) (fun t _ => (hag'.2.2 t).symm) hk
            · show Leaves P fn a'.tmps R a'.defers (.panicking ch) w'
              rw [hd]
              refine defC_leaves (f := f) hr (by simp) (fun x hx' => ?_) hx
              have hin : x < lo ∧ x ≠ t := by
                obtain ⟨r, hrm, hr'⟩ := hx'
                have := List.all_eq_true.1 hres r hrm
                have h2 : (Nat.blt x lo && !(Nat.beq x t)) = true := by
                  rcases hr' with rfl | ⟨T, rfl⟩
                  · exact this
                  · exact this
                simp only [Bool.and_eq_true, Bool.not_eq_true'] at h2
                refine ⟨by simpa using h2.1, fun e => ?_⟩
                rw [e] at h2
                have h3 := h2.2
                rw [Nat.beq_refl] at h3
                cases h3
              have hlt : Nat.ble lo x = false := by
                cases hb : Nat.ble lo x with
                | false => rfl
                | true => exact absurd (Nat.lt_of_lt_of_le hin.1 (Nat.le_of_ble_eq_true hb)) (Nat.lt_irrefl _)
              rw [ht x (by unfold inS; rw [hlt]; rfl)]
              simp [upd_some, hin.2]
      | _ => simp [chkD] at hc
    | _ => simp [chkD] at hc
  | succ k ih =>
    intro c i f a w hc hag h
    cases c with
    | seq x y =>
      simp only [codeD] at h
      simp only [chkD, Bool.and_eq_true] at hc
      obtain ⟨⟨hl, hc1⟩, hc2⟩ := hc
      refine wp_seq ?_
      letI : HX := ⟨fun ch w' => R (.panicked ch) w'⟩
      refine codeW_sound hm x [] 0 (i + 1) f a w _ _ _ _ hc1 hag h (fun f' a' w' hag' _ h' => ih y _ f' a' w' hc2 hag' h') (fun _ _ _ _ _ _ hk => hk.elim) (fun f' a' w' hag' _ hk => ?_) (fun ch a' w' hd _ hx => ?_)
      · show Leaves P fn a'.tmps R a'.defers .returning w'
        rw [hag'.1]
        obtain ⟨v', hk', hr'⟩ := results_run (fn := fn) (K := fun v => R (.returned v) w') hag' hk
        exact ⟨v', hr', hk'⟩
      · show Leaves P fn a'.tmps R a'.defers (.panicking ch) w'
        rw [hd]
        exact hx
    | _ => simp [chkD] at hc
def funD (P : Program) (fn : Func) (pl : Plan) (k : Nat) (args : List Value) (w : World) (R : Ending → World → Prop) : Prop :=
  match fn.body with
  | some c => codeD P pl fn R k c 0 (fr0 args) w
  | none => False
def chkFunD (P : Program) (fn : Func) (pl : Plan) (lo gd k na : Nat) : Bool :=
  match fn.body with
  | some c => Nat.ble na fn.ntmps && chkD P fn pl lo gd k c 0
  | none => false
theorem enter_ag {nt : Nat} {args : List Value} (hle : args.length ≤ nt) : Ag nt [] (fr0 args) { tmps := args.toArray ++ Array.replicate (nt - args.toArray.size) undef, defers := [] } := by
  refine ⟨rfl, by simp; omega, fun t => ?_⟩
  simp only [Array.getD_eq_getD_getElem?, Array.getElem?_append, List.size_toArray, List.getElem?_toArray, Array.getElem?_replicate, fr0, List.getD_eq_getElem?_getD]
  split
  · rfl
  · rename_i hlt
    rw [List.getElem?_eq_none (by omega)]
    split <;> rfl
theorem funD_sound {g : FuncId} {fn : Func} {pl : Plan} {args : List Value} {w : World} {R : Ending → World → Prop} {lo gd k : Nat} (hm : P.follows .mixedOrders = true) (hf : P.funcs[g]? = some fn) (hr : ∀ (ar : Array Value) (w : World), (callFunc gd ar).run P w = .ok (.enter gd ar) w)
    (hc : chkFunD P fn pl lo gd k args.length = true) (h : funD P fn pl k args w R) : Calls P g args.toArray w R := by
  unfold funD at h
  unfold chkFunD at hc
  cases hb : fn.body with
  | none => rw [hb] at h; exact h.elim
  | some c =>
    rw [hb] at h hc
    simp only [Bool.and_eq_true] at hc
    exact calls_of_wp_defers hf hb (codeD_sound hm hr k c 0 _ _ w hc.2 (enter_ag (Nat.le_of_ble_eq_true hc.1)) h)
theorem tieD [HX] (P : Program) (g : FuncId) (fn : Func) (pl : Plan) (args : List Value) (w : World) (K : Value → World → Prop) (lo gd k na : Nat) (X : Prop) (hk : args.length = na) (hm : P.follows .mixedOrders = true) (hf : P.funcs[g]? = some fn)
    (hc : chkFunD P fn pl lo gd k na = true) (he : funD P fn pl k args w (EndK K) = X) (hr : ∀ (az : Array Value) (w : World), (callFunc g az).run P w = .ok (.enter g az) w) (hrd : ∀ (ar : Array Value) (w : World), (callFunc gd ar).run P w = .ok (.enter gd ar) w) (h : X) : callF P g args w K := by
  unfold callF
  rw [hr]
  exact funD_sound hm hf hrd (by rw [hk]; exact hc) (by rw [he]; exact h)
end
end Go.Eng
namespace Go.Eng
open Go
section
variable {P : Program}
def recOf : List Oper → Option (Nat × Nat)
  | [o1, o2] =>
    match o1.guard, o2.guard, o1.dst, o1.op, o2.dst, o2.op with
    | none, none, some t, .call c, some t2, .assign (.tmp t') =>
      match c.callee, c.args.toList with
      | .builtin .recover, [] => bif Nat.beq t t' then some (t, t2) else none
      | _, _ => none
    | _, _, _, _, _, _ => none
  | _ => none
theorem recOf_some {l : List Oper} {t t2 : Nat} (h : recOf l = some (t, t2)) : ∃ o1 o2 c, l = [o1, o2] ∧ o1.guard = none ∧ o2.guard = none ∧ o1.dst = some t ∧ o1.op = .call c ∧ o2.dst = some t2 ∧ o2.op = .assign (.tmp t) ∧ c.callee = .builtin .recover ∧ c.args = #[] := by
  unfold recOf at h
  split at h
  · rename_i o1 o2
    split at h
    · rename_i t0 c t2' t' e1 e2 e3 e4 e5 e6
      split at h
      · rename_i h1 h2
        cases hb : Nat.beq t0 t' with
        | false => rw [hb] at h; cases h
        | true =>
          rw [hb] at h
          simp only [cond_true, Option.some.injEq, Prod.mk.injEq] at h
          obtain ⟨rfl, rfl⟩ := h
          have : t0 = t' := Nat.eq_of_beq_eq_true hb
          subst this
          exact ⟨o1, o2, c, rfl, e1, e2, e3, e4, e5, e6, h1, by simpa using h2⟩
      · cases h
    · cases h
  · cases h
def funR (P : Program) (fn : Func) (pl : Plan) (args : List Value) (x : Value) (w : World) (K : World → Prop) : Prop :=
  match fn.body with
  | some (.seq (.region _ ops _) b) =>
    match recOf ops.toList with
    | some (t, t2) => @codeW noX P pl b 2 (upd (upd (fr0 args) (some t) x) (some t2) x) w (fun _ w' => K w') (fun _ _ _ => False) (fun _ w' => K w')
    | none => False
  | _ => False
def chkFunR (P : Program) (fn : Func) (pl : Plan) (na : Nat) : Bool :=
  match fn.body with
  | some (.seq (.region _ ops draw) b) => !draw && Nat.ble na fn.ntmps && fn.results.toList.isEmpty &&
    (match recOf ops.toList with
    | some (t, t2) => Nat.blt t fn.ntmps && Nat.blt t2 fn.ntmps && chk P fn.ntmps pl [] 0 b 2
    | none => false)
  | _ => false
inductive Finds : FrameMode → Value → Prop
  | idle : Finds .returning .nilIface
  | thrown (v : Value) : Finds (.panicking [{ v, recovered := false }]) v
theorem funR_sound {g : FuncId} {fn : Func} {pl : Plan} {args : List Value} {x : Value} {u : FrameMode} {w : World} {K : World → Prop} (hm : P.follows .mixedOrders = true) (hf : P.funcs[g]? = some fn) (hc : chkFunR P fn pl args.length = true)
    (hu : Finds u x) (h : funR P fn pl args x w K) : DefC P g args u w K := by
  unfold funR at h
  unfold chkFunR at hc
  split at h
  · rename_i id ops draw b hb
    rw [hb] at hc
    simp only [Bool.and_eq_true, Bool.not_eq_true'] at hc
    obtain ⟨⟨⟨hd, hle⟩, hres⟩, hc⟩ := hc
    subst hd
    cases ho : recOf ops.toList with
    | none => simp only [ho] at h
    | some y =>
      obtain ⟨t, t2⟩ := y
      simp only [ho, Bool.and_eq_true] at h hc
      obtain ⟨⟨ht, ht2⟩, hchk⟩ := hc
      obtain ⟨o1, o2, c, hops, g1, g2, d1, p1, d2, p2, hcl, hca⟩ := recOf_some ho
      have hops' : ops = #[o1, o2] := by
        apply Array.ext'
        rw [hops]
      subst hops'
      letI := noX
      have hr0 : ∀ tmps w, (results fn tmps).run P w = .ok (.tuple #[]) w := by
        intro tmps w
        have h1 : fn.results.toList = [] := by simpa using hres
        obtain ⟨v, hv, hr⟩ := results_run (P := P) (fn := fn) (n := tmps.size) (D := []) (f := fun t => tmps.getD t undef) (a := { tmps := tmps, defers := [] }) (w := w) (K := fun v => v = .tuple #[]) ⟨rfl, rfl, fun _ => rfl⟩ (by rw [h1]; rfl)
        rw [hr, hv]
      have hag := enter_ag (nt := fn.ntmps) (args := args) (Nat.le_of_ble_eq_true hle)
      have ht : t < fn.ntmps := by simpa using ht
      have ht2 : t2 < fn.ntmps := by simpa using ht2
      refine callsD_of_wpS hf hb fun c₀ cs hmode => ?_
      generalize ({ tmps := args.toArray ++ Array.replicate (fn.ntmps - args.toArray.size) undef, defers := [] } : Act) = a0 at hag ⊢
      have hag1 := hag.put (d := some t) (fun y hy => by cases hy; exact ht) x
      have hag2 := hag1.put (d := some t2) (fun y hy => by cases hy; exact ht2) x
      have w1 : Region.wanted o1 (yielded #[o1, o2] a0.tmps) = true := by
        have := want_ag (ops := [o1, o2]) (o := o1) hag
        rw [show ([o1, o2] : List Oper).toArray = #[o1, o2] from rfl] at this
        rw [this]; simp [wantF, g1]
      have w2 : Region.wanted o2 (yielded #[o1, o2] (a0.put (some t) x).tmps) = true := by
        have := want_ag (ops := [o1, o2]) (o := o2) hag1
        rw [show ([o1, o2] : List Oper).toArray = #[o1, o2] from rfl] at this
        rw [this]; simp [wantF, g2]
      have e1 : (execOp a0.eval o1).run P w = .ok .recover w := by
        unfold execOp
        rw [p1]
        simp [resolve, hcl, hca, invoke, builtin, run_bind, run_pure]
      have e2 : (execOp (a0.put (some t) x).eval o2).run P w = .ok (.value x) w := by
        rw [eval_fun hag1]
        unfold execOp
        rw [p2]
        have e : ev (upd (fr0 args) (some t) x) (.tmp t) = x := by simp [ev, upd_some]
        simp [run_pure, e]
      have rest : ∀ u' : FrameMode, settle u' = .returning → b.wpS P (bodyPostS P fn c₀ cs fun e u' w' => (∃ v, e = .returned v) ∧ settle u' = .returning ∧ K w') ((a0.put (some t) x).put (some t2) x) ({ c₀ with mode := u' } :: cs) w := by
        intro u' hs
        refine wpS_of_wp ?_
        refine @codeW_sound noX P fn.ntmps [] pl hm b [] 0 2 _ _ w _ _ _ _ hchk hag2 h (fun f' a' w' hag' _ hk => ?_) (fun _ _ _ _ _ _ hk => hk.elim) (fun f' a' w' hag' _ hk => ?_) (fun ch a' w' hd ht hx => hx.elim)
        · exact ⟨hag'.1, u', rfl, _, hr0 _ _, ⟨_, rfl⟩, hs, hk⟩
        · exact ⟨hag'.1, u', rfl, _, hr0 _ _, ⟨_, rfl⟩, hs, hk⟩
      refine wpS_seq (wpS_region ?_)
      show wpOpsS P #[o1, o2] _ [0, 1] a0 (c₀ :: cs) w
      have tail : ∀ c1 : Frame, b.wpS P (bodyPostS P fn c₀ cs fun e u' w' => (∃ v, e = .returned v) ∧ settle u' = .returning ∧ K w') ((a0.put (some t) x).put (some t2) x) (c1 :: cs) w →
          wpOpsS P #[o1, o2] (Exit.thenS (b.wpS P (bodyPostS P fn c₀ cs fun e u' w' => (∃ v, e = .returned v) ∧ settle u' = .returning ∧ K w')) (bodyPostS P fn c₀ cs fun e u' w' => (∃ v, e = .returned v) ∧ settle u' = .returning ∧ K w')) [1] (a0.put (some t) x) (c1 :: cs) w := by
        intro c1 hb1
        unfold wpOpsS
        rw [show (#[o1, o2] : Array Oper)[1]? = some o2 from rfl]
        show ite (Region.wanted o2 (yielded #[o1, o2] (a0.put (some t) x).tmps) = true) _ _
        rw [if_pos w2, e2]
        simp only [Oper.upon_value, d2]
        exact hb1
      unfold wpOpsS
      rw [show (#[o1, o2] : Array Oper)[0]? = some o1 from rfl]
      show ite (Region.wanted o1 (yielded #[o1, o2] a0.tmps) = true) _ _
      rw [if_pos w1, e1]
      cases hu with
      | idle =>
        have : recoverD (c₀ :: cs) = none := by simp [recoverD, hmode]
        simp only [this, d1]
        have e : ({ c₀ with mode := .returning } : Frame) = c₀ := by rw [← hmode]
        have := rest .returning rfl
        rw [e] at this
        exact tail c₀ this
      | thrown =>
        have : recoverD (c₀ :: cs) = some (x, { c₀ with mode := .panicking [{ v := x, recovered := true }] } :: cs) := by simp [recoverD, hmode]
        simp only [this, d1]
        exact tail _ (rest (.panicking [{ v := x, recovered := true }]) rfl)
  · exact h.elim
end
end Go.Eng
namespace Go.Proofs.YtcnjpcadejcenaaGreatDoor
open Go Go.Eng
set_option maxRecDepth 100000
variable [HX]
def plan18 : Plan := { js := [(16, ⟨[], [], 4⟩), (4, ⟨[], [], 4⟩)], ds := [] }
def W18 (v0 : Value) (w : World) (K : Value → World → Prop) : Prop :=
  allocW 26 [(.int .i64 0), (.bool false), (.string (ofL [])), (.slice none 0 0), (.slice none 0 0)] w fun t2 w1 =>
  allocW 34 [(.pointer none)] w1 fun t3 w2 =>
  letI : HX := ⟨fun ch x3 => DefC Tryz.prog 51 [t2, t3] (.panicking ch) x3 fun w3 =>
      ldW true 5 t2 w3 fun r4 =>
      ldW false 1 t3 w3 fun r5 =>
      K (.tuple #[r4, r5]) w3⟩
  JoinW (fun J6 =>
    lensW v0 fun t7 =>
    binW .gtr t7 (.int .i64 65536) fun t8 =>
    condW t8 (
      callF Tryz.prog 52 [(.int .i64 3), (.int .i64 0)] w2 fun t9 w7 =>
      J6 [] w7) (
      J6 [] w2))
  fun s6 _ w8 =>
  putW [(.string (ofL [])), (.int .i64 0), (.int .i64 0)] [(0, 1, v0)] fun c9 =>
  boxW 86 (.agg c9.toArray) w8 fun t12 w10 =>
  callF Tryz.prog 53 [t12, (.int .i64 1)] w10 fun t14 w11 =>
  stW 5 t2 t14 w11 fun w12 =>
  callF Tryz.prog 54 [t12] w12 fun t16 w13 =>
  JoinW (fun J14 =>
    nilW t12 fun t18 =>
    fldW 1 t18 fun t19 =>
    ldW false 1 t19 w13 fun t20 =>
    lensW v0 fun t22 =>
    binW .lss t20 t22 fun t23 =>
    condW t23 (
      nilW t12 fun t25 =>
      fldW 1 t25 fun t26 =>
      ldW false 1 t26 w13 fun t27 =>
      callF Tryz.prog 52 [(.int .i64 30), t27] w13 fun t28 w15 =>
      J14 [] w15) (
      J14 [] w13))
  fun s14 _ w16 =>
  ldW true 5 t2 w16 fun t29 =>
  stW 5 t2 t29 w16 fun w17 =>
  stW 1 t3 (.pointer none) w17 fun w18 =>
  DefC Tryz.prog 51 [t2, t3] .returning w18 fun w19 =>
    ldW true 5 t2 w19 fun r20 =>
    ldW false 1 t3 w19 fun r21 =>
    K (.tuple #[r20, r21]) w19
theorem W18_eq (v0 : Value) (w : World) (K : Value → World → Prop) : funD Tryz.prog Tryz.f18 plan18 1 [v0] w (EndK K) = W18 v0 w K := by kernel_rfl
theorem W18_chk : chkFunD Tryz.prog Tryz.f18 plan18 4 51 1 1 = true := by kernel_rfl
theorem W18_ok {v0 : Value} {w : World} {K : Value → World → Prop} (h : W18 v0 w K) : callF Tryz.prog 18 [v0] w K :=
  tieD Tryz.prog 18 Tryz.f18 plan18 [v0] w K 4 51 1 1 (W18 v0 w K) rfl mixed Tryz.func18 W18_chk (W18_eq v0 w K) Tryz.call18 Tryz.call51 h
def plan51 : Plan := { js := [], ds := [(5, ⟨[0, 1, 2], [[], [], [1], [0], [0, 1, 2, 3]]⟩)] }
def R51 (v0 v1 : Value) (x : Value) (w : World) (K : World → Prop) : Prop :=
  letI : HX := noX
  eqQ Tryz.prog .neq 20 false true x .nilIface w fun t5 =>
  condW t5 (
    putW [(.int .i64 0), (.bool false), (.string (ofL [])), (.slice none 0 0), (.slice none 0 0)] [] fun c1 =>
    semQ Tryz.prog (Instr.typeAssert x 20 34 false) w.drew fun t8 =>
    stW 5 v0 (.agg c1.toArray) w.drew fun w2 =>
    (semQ Tryz.prog (Instr.typeAssert x 20 34 false) w2 fun x => x = t8) ∧
    stW 1 v1 t8 w2 fun w3 =>
    K w3) (
    K w)
theorem R51_eq (v0 v1 : Value) (x : Value) (w : World) (K : World → Prop) : funR Tryz.prog Tryz.f51 plan51 [v0, v1] x w K = R51 v0 v1 x w K := by kernel_rfl
theorem R51_chk : chkFunR Tryz.prog Tryz.f51 plan51 2 = true := by kernel_rfl
theorem R51_ok {v0 v1 : Value} {x : Value} {u : FrameMode} {w : World} {K : World → Prop} (hu : Finds u x) (h : R51 v0 v1 x w K) : DefC Tryz.prog 51 [v0, v1] u w K :=
  funR_sound (args := [v0, v1]) mixed Tryz.func51 R51_chk hu (by rw [R51_eq]; exact h)
def plan52 : Plan := { js := [], ds := [] }
def W52 (v0 v1 : Value) (w : World) (K : Value → World → Prop) : Prop :=
  putW [(.int .i64 0), (.string (ofL [])), (.int .i64 0)] [(0, 1, v0), (2, 1, v1)] fun c1 =>
  boxW 49 (.agg c1.toArray) w fun t7 w2 =>
  pncW (.iface 34 t7) w2
theorem W52_eq (v0 v1 : Value) (w : World) (K : Value → World → Prop) : funW Tryz.prog Tryz.f52 plan52 [v0, v1] w K = W52 v0 v1 w K := by kernel_rfl
theorem W52_chk : chkFun Tryz.prog Tryz.f52 plan52 2 = true := by kernel_rfl
theorem W52_ok {v0 v1 : Value} {w : World} {K : Value → World → Prop} (h : W52 v0 v1 w K) : callF Tryz.prog 52 [v0, v1] w K :=
  tie Tryz.prog 52 Tryz.f52 plan52 [v0, v1] w K 2 (W52 v0 v1 w K) rfl mixed Tryz.func52 W52_chk (W52_eq v0 v1 w K) Tryz.call52 h
def plan53 : Plan := { js := [(48003, ⟨[88], [], 83⟩), (48005, ⟨[87], [], 86⟩), (48008, ⟨[85], [], 83⟩), (4, ⟨[], [], 5⟩)], ds := [(18, ⟨[0, 1, 2, 3, 4, 5, 6, 7, 8, 9], [[], [0], [0, 1], [0, 1, 2], [], [4], [4, 5], [4, 5, 6], [0, 1, 2, 3, 4, 5, 6, 7], [0, 1, 2, 3, 4, 5, 6, 7, 8]]⟩)] }
def W53 (v0 v1 : Value) (w : World) (K : Value → World → Prop) : Prop :=
  allocW 26 [(.int .i64 0), (.bool false), (.string (ofL [])), (.slice none 0 0), (.slice none 0 0)] w fun t4 w1 =>
  callF Tryz.prog 54 [v0] w1 fun t8 w2 =>
  JoinW (fun J3 =>
    binW .gtr v1 (.int .i64 24) fun t11 =>
    condW t11 (
      nilW v0 fun t13 =>
      fldW 1 t13 fun t14 =>
      ldW false 1 t14 w2 fun t15 =>
      callF Tryz.prog 52 [(.int .i64 7), t15] w2 fun t16 w4 =>
      J3 [] w4) (
      nilW v0 fun t19 =>
      fldW 2 t19 fun t20 =>
      ldW false 1 t20 w2 fun t21 =>
      binW .eql t21 (.int .i64 2000) fun t22 =>
      condW t22 (
        nilW v0 fun t24 =>
        fldW 1 t24 fun t25 =>
        ldW false 1 t25 w2 fun t26 =>
        callF Tryz.prog 52 [(.int .i64 3), t26] w2 fun t27 w5 =>
        J3 [] w5) (
        J3 [] w2)))
  fun s3 _ w6 =>
  nilW v0 fun t29 =>
  fldW 2 t29 fun t30 =>
  ldW false 1 t30 w6 fun t31 =>
  binW .add t31 (.int .i64 1) fun t32 =>
  nilW v0 fun t33 =>
  fldW 2 t33 fun t34 =>
  stW 1 t34 t32 w6 fun w7 =>
  nilW v0 fun t36 =>
  fldW 0 t36 fun t37 =>
  ldW false 1 t37 w7.drew fun t38 =>
  nilW v0 fun t40 =>
  fldW 1 t40 fun t41 =>
  ldW false 1 t41 w7.drew fun t42 =>
  slsW t38 (some t42) none fun t43 =>
  callF Tryz.prog 106 [v0] w7.drew fun t45 w8 =>
  callF Tryz.prog 107 [t43, (.string (ofL [110, 117, 108, 108]))] w8 fun t48 w9 =>
  condW t48 (
    nilW v0 fun t50 =>
    fldW 1 t50 fun t51 =>
    ldW false 1 t51 w9 fun t52 =>
    binW .add t52 (.int .i64 4) fun t53 =>
    nilW v0 fun t54 =>
    fldW 1 t54 fun t55 =>
    stW 1 t55 t53 w9 fun w10 =>
    callF Tryz.prog 108 [] w10 fun t56 w11 =>
    stW 5 t4 t56 w11 fun w12 =>
    ldW true 5 t4 w12 fun r13 =>
    K r13 w12) (
    callF Tryz.prog 107 [t43, (.string (ofL [116, 114, 117, 101]))] w9 fun t59 w14 =>
    condW t59 (
      nilW v0 fun t61 =>
      fldW 1 t61 fun t62 =>
      ldW false 1 t62 w14 fun t63 =>
      binW .add t63 (.int .i64 4) fun t64 =>
      nilW v0 fun t65 =>
      fldW 1 t65 fun t66 =>
      stW 1 t66 t64 w14 fun w15 =>
      callF Tryz.prog 109 [(.bool true)] w15 fun t67 w16 =>
      stW 5 t4 t67 w16 fun w17 =>
      ldW true 5 t4 w17 fun r18 =>
      K r18 w17) (
      callF Tryz.prog 107 [t43, (.string (ofL [102, 97, 108, 115, 101]))] w14 fun t70 w19 =>
      condW t70 (
        nilW v0 fun t72 =>
        fldW 1 t72 fun t73 =>
        ldW false 1 t73 w19 fun t74 =>
        binW .add t74 (.int .i64 5) fun t75 =>
        nilW v0 fun t76 =>
        fldW 1 t76 fun t77 =>
        stW 1 t77 t75 w19 fun w20 =>
        callF Tryz.prog 109 [(.bool false)] w20 fun t78 w21 =>
        stW 5 t4 t78 w21 fun w22 =>
        ldW true 5 t4 w22 fun r23 =>
        K r23 w22) (
        binW .eql t45 (.int .u8 45) fun t81 =>
        GdW (isB t81 false) [undef] w19 (fun J24 =>
          binW .geq t45 (.int .u8 48) fun t84 =>
          J24 [t84] w19)
        fun s24 _ w25 =>
        GdW (isB (s24.getD 0 undef) true) [undef] w25 (fun J26 =>
          binW .leq t45 (.int .u8 57) fun t87 =>
          J26 [t87] w25)
        fun s26 _ w27 =>
        GdW (isB t81 false) [undef] w27 (fun J28 =>
          pickW (s24.getD 0 undef) (s26.getD 0 undef) (.bool false) fun t88 =>
          J28 [t88] w27)
        fun s28 _ w29 =>
        pickW t81 (.bool true) (s28.getD 0 undef) fun t89 =>
        condW t89 (
          callF Tryz.prog 110 [v0] w29 fun t91 w30 =>
          stW 5 t4 t91 w30 fun w31 =>
          ldW true 5 t4 w31 fun r32 =>
          K r32 w31) (
          binW .eql t45 (.int .u8 34) fun t94 =>
          condW t94 (
            callF Tryz.prog 111 [v0] w29 fun t96 w33 =>
            callF Tryz.prog 79 [t96] w33 fun t97 w34 =>
            stW 5 t4 t97 w34 fun w35 =>
            ldW true 5 t4 w35 fun r36 =>
            K r36 w35) (
            binW .eql t45 (.int .u8 91) fun t100 =>
            condW t100 (
              callF Tryz.prog 112 [v0, v1] w29 fun t103 w37 =>
              stW 5 t4 t103 w37 fun w38 =>
              ldW true 5 t4 w38 fun r39 =>
              K r39 w38) (
              binW .eql t45 (.int .u8 123) fun t106 =>
              condW t106 (
                callF Tryz.prog 113 [v0, v1] w29 fun t109 w40 =>
                stW 5 t4 t109 w40 fun w41 =>
                ldW true 5 t4 w41 fun r42 =>
                K r42 w41) (
                nilW v0 fun t111 =>
                fldW 1 t111 fun t112 =>
                ldW false 1 t112 w29 fun t113 =>
                callF Tryz.prog 52 [(.int .i64 30), t113] w29 fun t114 w43 =>
                putW [(.int .i64 0), (.bool false), (.string (ofL [])), (.slice none 0 0), (.slice none 0 0)] [] fun c44 =>
                stW 5 t4 (.agg c44.toArray) w43 fun w45 =>
                ldW true 5 t4 w45 fun r46 =>
                K r46 w45)))))))
theorem W53_eq (v0 v1 : Value) (w : World) (K : Value → World → Prop) : funW Tryz.prog Tryz.f53 plan53 [v0, v1] w K = W53 v0 v1 w K := by kernel_rfl
theorem W53_chk : chkFun Tryz.prog Tryz.f53 plan53 2 = true := by kernel_rfl
theorem W53_ok {v0 v1 : Value} {w : World} {K : Value → World → Prop} (h : W53 v0 v1 w K) : callF Tryz.prog 53 [v0, v1] w K :=
  tie Tryz.prog 53 Tryz.f53 plan53 [v0, v1] w K 2 (W53 v0 v1 w K) rfl mixed Tryz.func53 W53_chk (W53_eq v0 v1 w K) Tryz.call53 h
def plan54 : Plan := { js := [(1, ⟨[], [], 1⟩)], ds := [(4, ⟨[0, 1, 2, 3, 4, 5, 6, 7, 8, 9, 10, 11, 12, 13, 14, 15, 16, 17, 18, 19, 21, 22], [[], [0], [0, 1], [0, 1, 2], [], [4], [4, 5], [4, 5, 6], [4, 5, 6, 7], [0, 1, 2, 3, 4, 5, 6, 7, 8], [0, 1, 2, 3, 4, 5, 6, 7, 8, 9], [0, 1, 2, 3, 4, 5, 6, 7, 8, 9, 10], [0, 1, 2, 3, 4, 5, 6, 7, 8, 9, 10, 11], [0, 1, 2, 3, 4, 5, 6, 7, 8, 9, 10, 11, 12], [0, 1, 2, 3, 4, 5, 6, 7, 8, 9, 10, 11, 12, 13], [0, 1, 2, 3, 4, 5, 6, 7, 8, 9, 10], [0, 1, 2, 3, 4, 5, 6, 7, 8, 9, 10, 15], [0, 1, 2, 3, 4, 5, 6, 7, 8, 9, 10, 15, 16], [0, 1, 2, 3, 4, 5, 6, 7, 8, 9, 10, 15, 16, 17], [0, 1, 2, 3, 4, 5, 6, 7, 8, 9, 10, 11, 12, 13, 14, 15, 16, 17, 18], [0, 1, 2, 3, 4, 5, 6, 7, 8, 9, 10, 11, 12, 13, 14, 15, 16, 17, 18, 19], [0, 1, 2, 3, 4, 5, 6, 7, 8, 9, 10, 11, 12, 13, 14, 15, 16, 17, 18, 19, 20], [0, 1, 2, 3, 4, 5, 6, 7, 8, 9, 10, 11, 12, 13, 14, 15, 16, 17, 18, 19, 20, 21]]⟩)] }
def W54 (v0 : Value) (w : World) (K : Value → World → Prop) : Prop :=
  LoopW [] w fun s1 _ w2 L1 =>
    nilW v0 fun t3 =>
    fldW 1 t3 fun t4 =>
    ldW false 1 t4 w2.drew fun t5 =>
    nilW v0 fun t7 =>
    fldW 0 t7 fun t8 =>
    ldW false 1 t8 w2.drew fun t9 =>
    lensW t9 fun t10 =>
    binW .lss t5 t10 fun t11 =>
    GqW (isB t11 true) (fun k3 => k3 v0) fun t13 =>
    GqW (isB t11 true) (fun k4 => nilW t13 k4) fun t14 =>
    GqW (isB t11 true) (fun k5 => fldW 0 t14 k5) fun t15 =>
    GqW (isB t11 true) (fun k6 => ldW false 1 t15 w2.drew k6) fun t16 =>
    GqW (isB t11 true) (fun k7 => k7 v0) fun t17 =>
    GqW (isB t11 true) (fun k8 => nilW t17 k8) fun t18 =>
    GqW (isB t11 true) (fun k9 => fldW 1 t18 k9) fun t19 =>
    GqW (isB t11 true) (fun k10 => ldW false 1 t19 w2.drew k10) fun t20 =>
    GqW (isB t11 true) (fun k11 => ixsW t16 t20 k11) fun t21 =>
    GeW (isB t11 true) w2.drew (fun k12 => callF Tryz.prog 85 [(.string (ofL [32, 9, 10, 13])), t21] w2.drew k12) fun t22 w13 =>
    GqW (isB t11 true) (fun k14 => binW .geq t22 (.int .i64 0) k14) fun t23 =>
    pickW t11 t23 (.bool false) fun t24 =>
    condW t24 (
      nilW v0 fun t26 =>
      fldW 1 t26 fun t27 =>
      ldW false 1 t27 w13 fun t28 =>
      binW .add t28 (.int .i64 1) fun t29 =>
      nilW v0 fun t30 =>
      fldW 1 t30 fun t31 =>
      stW 1 t31 t29 w13 fun w15 =>
      L1 [] w15) (
      K (.tuple #[]) w13)
theorem W54_eq (v0 : Value) (w : World) (K : Value → World → Prop) : funW Tryz.prog Tryz.f54 plan54 [v0] w K = W54 v0 w K := by kernel_rfl
theorem W54_chk : chkFun Tryz.prog Tryz.f54 plan54 1 = true := by kernel_rfl
theorem W54_ok {v0 : Value} {w : World} {K : Value → World → Prop} (h : W54 v0 w K) : callF Tryz.prog 54 [v0] w K :=
  tie Tryz.prog 54 Tryz.f54 plan54 [v0] w K 1 (W54 v0 w K) rfl mixed Tryz.func54 W54_chk (W54_eq v0 w K) Tryz.call54 h
def plan106 : Plan := { js := [], ds := [(7, ⟨[0, 1, 2, 3, 4, 5, 6, 7, 8, 9], [[], [0], [0, 1], [0, 1, 2], [], [4], [4, 5], [4, 5, 6], [0, 1, 2, 3, 4, 5, 6, 7], [0, 1, 2, 3, 4, 5, 6, 7, 8]]⟩), (4, ⟨[0, 1, 2, 3, 4, 5, 6, 7, 8, 9], [[], [0], [0, 1], [0, 1, 2], [], [4], [4, 5], [4, 5, 6], [4, 5, 6, 7], [0, 1, 2, 3, 4, 5, 6, 7, 8]]⟩)] }
def W106 (v0 : Value) (w : World) (K : Value → World → Prop) : Prop :=
  nilW v0 fun t4 =>
  fldW 1 t4 fun t5 =>
  ldW false 1 t5 w.drew fun t6 =>
  nilW v0 fun t8 =>
  fldW 0 t8 fun t9 =>
  ldW false 1 t9 w.drew fun t10 =>
  lensW t10 fun t11 =>
  binW .lss t6 t11 fun t12 =>
  condW t12 (
    nilW v0 fun t14 =>
    fldW 0 t14 fun t15 =>
    ldW false 1 t15 w.drew.drew fun t16 =>
    nilW v0 fun t18 =>
    fldW 1 t18 fun t19 =>
    ldW false 1 t19 w.drew.drew fun t20 =>
    ixsW t16 t20 fun t21 =>
    K t21 w.drew.drew) (
    K (.int .u8 0) w.drew)
theorem W106_eq (v0 : Value) (w : World) (K : Value → World → Prop) : funW Tryz.prog Tryz.f106 plan106 [v0] w K = W106 v0 w K := by kernel_rfl
theorem W106_chk : chkFun Tryz.prog Tryz.f106 plan106 1 = true := by kernel_rfl
theorem W106_ok {v0 : Value} {w : World} {K : Value → World → Prop} (h : W106 v0 w K) : callF Tryz.prog 106 [v0] w K :=
  tie Tryz.prog 106 Tryz.f106 plan106 [v0] w K 1 (W106 v0 w K) rfl mixed Tryz.func106 W106_chk (W106_eq v0 w K) Tryz.call106 h
def plan110 : Plan := { js := [(36, ⟨[6], [], 3⟩), (26, ⟨[], [], 4⟩), (30003, ⟨[60], [], 59⟩), (30007, ⟨[56], [], 55⟩), (30011, ⟨[52], [], 51⟩), (30015, ⟨[48], [], 47⟩), (20, ⟨[], [], 4⟩), (14, ⟨[], [], 5⟩), (8, ⟨[], [], 5⟩)], ds := [(35, ⟨[0, 1, 2, 3, 4, 5, 6, 7, 8, 9, 10], [[], [0], [0, 1], [0, 1, 2], [], [], [5], [5, 6], [5, 6, 7], [0, 1, 2, 3, 4, 5, 6, 7, 8], [0, 1, 2, 3, 4, 5, 6, 7, 8, 9]]⟩)] }
def W110 (v0 : Value) (w : World) (K : Value → World → Prop) : Prop :=
  allocW 26 [(.int .i64 0), (.bool false), (.string (ofL [])), (.slice none 0 0), (.slice none 0 0)] w fun t2 w1 =>
  nilW v0 fun t8 =>
  fldW 1 t8 fun t9 =>
  ldW false 1 t9 w1 fun t10 =>
  callF Tryz.prog 157 [v0, (.int .u8 45)] w1 fun t12 w2 =>
  nilW v0 fun t14 =>
  fldW 1 t14 fun t15 =>
  ldW false 1 t15 w2 fun t16 =>
  JoinW (fun J3 =>
    callF Tryz.prog 157 [v0, (.int .u8 48)] w2 fun t18 w4 =>
    unW .not t18 fun t19 =>
    condW t19 (
      callF Tryz.prog 158 [v0] w4 fun t21 w5 =>
      J3 [] w5) (
      J3 [] w4))
  fun s3 _ w6 =>
  JoinW (fun J7 =>
    nilW v0 fun t23 =>
    fldW 1 t23 fun t24 =>
    ldW false 1 t24 w6 fun t25 =>
    binW .eql t25 t16 fun t27 =>
    condW t27 (
      nilW v0 fun t29 =>
      fldW 1 t29 fun t30 =>
      ldW false 1 t30 w6 fun t31 =>
      callF Tryz.prog 52 [(.int .i64 30), t31] w6 fun t32 w8 =>
      J7 [] w8) (
      J7 [] w6))
  fun s7 _ w9 =>
  JoinW (fun J10 =>
    nilW v0 fun t34 =>
    fldW 1 t34 fun t35 =>
    ldW false 1 t35 w9 fun t36 =>
    binW .sub t36 t16 fun t38 =>
    binW .gtr t38 (.int .i64 100) fun t39 =>
    condW t39 (
      callF Tryz.prog 52 [(.int .i64 3), t10] w9 fun t41 w11 =>
      J10 [] w11) (
      J10 [] w9))
  fun s10 _ w12 =>
  JoinW (fun J13 =>
    callF Tryz.prog 106 [v0] w12 fun t43 w14 =>
    binW .geq t43 (.int .u8 48) fun t45 =>
    GdW (isB t45 true) [undef] w14 (fun J15 =>
      binW .leq t43 (.int .u8 57) fun t48 =>
      J15 [t48] w14)
    fun s15 _ w16 =>
    pickW t45 (s15.getD 0 undef) (.bool false) fun t49 =>
    GdW (isB t49 false) [undef] w16 (fun J17 =>
      binW .eql t43 (.int .u8 46) fun t52 =>
      J17 [t52] w16)
    fun s17 _ w18 =>
    pickW t49 (.bool true) (s17.getD 0 undef) fun t53 =>
    GdW (isB t53 false) [undef] w18 (fun J19 =>
      binW .eql t43 (.int .u8 101) fun t56 =>
      J19 [t56] w18)
    fun s19 _ w20 =>
    pickW t53 (.bool true) (s19.getD 0 undef) fun t57 =>
    GdW (isB t57 false) [undef] w20 (fun J21 =>
      binW .eql t43 (.int .u8 69) fun t60 =>
      J21 [t60] w20)
    fun s21 _ w22 =>
    pickW t57 (.bool true) (s21.getD 0 undef) fun t61 =>
    condW t61 (
      nilW v0 fun t63 =>
      fldW 1 t63 fun t64 =>
      ldW false 1 t64 w22 fun t65 =>
      callF Tryz.prog 52 [(.int .i64 30), t65] w22 fun t66 w23 =>
      J13 [] w23) (
      J13 [] w22))
  fun s13 _ w24 =>
  nilW v0 fun t68 =>
  fldW 0 t68 fun t69 =>
  ldW false 1 t69 w24.drew fun t70 =>
  nilW v0 fun t73 =>
  fldW 1 t73 fun t74 =>
  ldW false 1 t74 w24.drew fun t75 =>
  slsW t70 (some t10) (some t75) fun t76 =>
  JoinW (fun J25 =>
    callF Tryz.prog 148 [t76] w24.drew fun t78 w26 =>
    unW .not t78 fun t79 =>
    condW t79 (
      J25 [(.string (ofL [48]))] w26) (
      J25 [t76] w26))
  fun s25 _ w27 =>
  putW [(.int .i64 0), (.bool false), (.string (ofL [])), (.slice none 0 0), (.slice none 0 0)] [(0, 1, (.int .i64 3)), (2, 1, (s25.getD 0 undef))] fun c28 =>
  stW 5 t2 (.agg c28.toArray) w27 fun w29 =>
  ldW true 5 t2 w29 fun r30 =>
  K r30 w29
theorem W110_eq (v0 : Value) (w : World) (K : Value → World → Prop) : funW Tryz.prog Tryz.f110 plan110 [v0] w K = W110 v0 w K := by kernel_rfl
theorem W110_chk : chkFun Tryz.prog Tryz.f110 plan110 1 = true := by kernel_rfl
theorem W110_ok {v0 : Value} {w : World} {K : Value → World → Prop} (h : W110 v0 w K) : callF Tryz.prog 110 [v0] w K :=
  tie Tryz.prog 110 Tryz.f110 plan110 [v0] w K 1 (W110 v0 w K) rfl mixed Tryz.func110 W110_chk (W110_eq v0 w K) Tryz.call110 h
def plan111 : Plan := { js := [(19, ⟨[], [2], 7⟩), (46004, ⟨[81], [], 80⟩), (26, ⟨[], [], 7⟩), (11, ⟨[], [], 5⟩), (9, ⟨[], [2], 5⟩)], ds := [(18, ⟨[0, 1, 2, 3, 4, 5, 6, 7, 8, 10, 11, 12, 13, 14], [[], [0], [0, 1], [0, 1, 2], [], [4], [4, 5], [4, 5, 6], [0, 1, 2, 3, 4, 5, 6, 7], [0, 1, 2, 3, 4, 5, 6, 7, 8], [0, 1, 2, 3, 4, 5, 6, 7, 8, 9], [0, 1, 2, 3, 4, 5, 6, 7, 8, 9, 10], [0, 1, 2, 3, 4, 5, 6, 7, 8, 9, 10], [0, 1, 2, 3, 4, 5, 6, 7, 8, 9, 10, 11], [0, 1, 2, 3, 4, 5, 6, 7, 8, 9, 10, 11, 12, 13]]⟩), (13, ⟨[0, 1, 2, 3, 4, 5, 6, 7, 8, 9], [[], [0], [0, 1], [0, 1, 2], [], [4], [4, 5], [4, 5, 6], [4, 5, 6, 7], [0, 1, 2, 3, 4, 5, 6, 7, 8]]⟩)] }
def W111 (v0 : Value) (w : World) (K : Value → World → Prop) : Prop :=
  nilW v0 fun t8 =>
  fldW 1 t8 fun t9 =>
  ldW false 1 t9 w fun t10 =>
  nilW v0 fun t12 =>
  fldW 1 t12 fun t13 =>
  ldW false 1 t13 w fun t14 =>
  binW .add t14 (.int .i64 1) fun t15 =>
  nilW v0 fun t16 =>
  fldW 1 t16 fun t17 =>
  stW 1 t17 t15 w fun w1 =>
  allocW 78 [(.pointer none), (.slice none 0 0)] w1 fun t4 w2 =>
  LoopW [] w2 fun s3 _ w4 L3 =>
    JoinW (fun J5 =>
      nilW v0 fun t19 =>
      fldW 1 t19 fun t20 =>
      ldW false 1 t20 w4.drew fun t21 =>
      nilW v0 fun t23 =>
      fldW 0 t23 fun t24 =>
      ldW false 1 t24 w4.drew fun t25 =>
      lensW t25 fun t26 =>
      binW .geq t21 t26 fun t27 =>
      condW t27 (
        nilW v0 fun t29 =>
        fldW 0 t29 fun t30 =>
        ldW false 1 t30 w4.drew fun t31 =>
        lensW t31 fun t32 =>
        callF Tryz.prog 52 [(.int .i64 30), t32] w4.drew fun t33 w6 =>
        J5 [] w6) (
        J5 [] w4.drew))
    fun s5 _ w7 =>
    nilW v0 fun t36 =>
    fldW 0 t36 fun t37 =>
    ldW false 1 t37 w7.drew fun t38 =>
    nilW v0 fun t40 =>
    fldW 1 t40 fun t41 =>
    ldW false 1 t41 w7.drew fun t42 =>
    slsW t38 (some t42) none fun t43 =>
    callF Tryz.prog 159 [t43] w7.drew fun t44 w8 =>
    extW 0 t44 fun t45 =>
    extW 1 t44 fun t46 =>
    JoinW (fun J9 =>
      binW .eql t45 (.int .i32 34) fun t49 =>
      condW t49 (
        nilW v0 fun t51 =>
        fldW 1 t51 fun t52 =>
        ldW false 1 t52 w8 fun t53 =>
        binW .add t53 (.int .i64 1) fun t54 =>
        nilW v0 fun t55 =>
        fldW 1 t55 fun t56 =>
        stW 1 t56 t54 w8 fun w10 =>
        JoinW (fun J11 =>
          callF Tryz.prog 46 [t4] w10 fun t57 w12 =>
          binW .gtr t57 (.int .i64 16384) fun t58 =>
          condW t58 (
            callF Tryz.prog 52 [(.int .i64 3), t10] w12 fun t60 w13 =>
            J11 [] w13) (
            J11 [] w12))
        fun s11 _ w14 =>
        callF Tryz.prog 47 [t4] w14 fun t61 w15 =>
        K t61 w15) (
        binW .eql t45 (.int .i32 92) fun t64 =>
        condW t64 (
          callF Tryz.prog 160 [v0] w8 fun t66 w16 =>
          callF Tryz.prog 155 [t4, t66] w16 fun t67 w17 =>
          L3 [] w17) (
          binW .lss t45 (.int .i32 32) fun t70 =>
          condW t70 (
            nilW v0 fun t72 =>
            fldW 1 t72 fun t73 =>
            ldW false 1 t73 w8 fun t74 =>
            callF Tryz.prog 52 [(.int .i64 30), t74] w8 fun t75 w18 =>
            J9 [] w18) (
            binW .eql t45 (.int .i32 65533) fun t78 =>
            GdW (isB t78 true) [undef] w8 (fun J19 =>
              binW .lss t46 (.int .i64 2) fun t81 =>
              J19 [t81] w8)
            fun s19 _ w20 =>
            pickW t78 (s19.getD 0 undef) (.bool false) fun t82 =>
            condW t82 (
              nilW v0 fun t84 =>
              fldW 1 t84 fun t85 =>
              ldW false 1 t85 w20 fun t86 =>
              callF Tryz.prog 52 [(.int .i64 31), t86] w20 fun t87 w21 =>
              J9 [] w21) (
              J9 [] w20)))))
    fun s9 _ w22 =>
    callF Tryz.prog 155 [t4, t45] w22 fun t89 w23 =>
    nilW v0 fun t91 =>
    fldW 1 t91 fun t92 =>
    ldW false 1 t92 w23 fun t93 =>
    binW .add t93 t46 fun t95 =>
    nilW v0 fun t96 =>
    fldW 1 t96 fun t97 =>
    stW 1 t97 t95 w23 fun w24 =>
    L3 [] w24
theorem W111_eq (v0 : Value) (w : World) (K : Value → World → Prop) : funW Tryz.prog Tryz.f111 plan111 [v0] w K = W111 v0 w K := by kernel_rfl
theorem W111_chk : chkFun Tryz.prog Tryz.f111 plan111 1 = true := by kernel_rfl
theorem W111_ok {v0 : Value} {w : World} {K : Value → World → Prop} (h : W111 v0 w K) : callF Tryz.prog 111 [v0] w K :=
  tie Tryz.prog 111 Tryz.f111 plan111 [v0] w K 1 (W111 v0 w K) rfl mixed Tryz.func111 W111_chk (W111_eq v0 w K) Tryz.call111 h
def plan112 : Plan := { js := [(17, ⟨[], [], 6⟩)], ds := [(20, ⟨[0, 1, 2, 3, 4, 8], [[], [0], [], [], [3], [2, 3, 4], [2, 3, 4, 5], [0, 1, 2, 3, 4, 5, 6], [0, 1, 2, 3, 4, 5, 6, 7], [0, 1, 2, 3, 4, 5, 6, 7, 8]]⟩)] }
def W112 (v0 v1 : Value) (w : World) (K : Value → World → Prop) : Prop :=
  allocW 26 [(.int .i64 0), (.bool false), (.string (ofL [])), (.slice none 0 0), (.slice none 0 0)] w fun t4 w1 =>
  putW [(.int .i64 0), (.bool false), (.string (ofL [])), (.slice none 0 0), (.slice none 0 0)] [(0, 1, (.int .i64 5))] fun c2 =>
  allocW 26 [(.int .i64 0), (.bool false), (.string (ofL [])), (.slice none 0 0), (.slice none 0 0)] w1 fun t5 w3 =>
  stW 5 t5 (.agg c2.toArray) w3 fun w4 =>
  nilW v0 fun t8 =>
  fldW 1 t8 fun t9 =>
  ldW false 1 t9 w4 fun t10 =>
  binW .add t10 (.int .i64 1) fun t11 =>
  nilW v0 fun t12 =>
  fldW 1 t12 fun t13 =>
  stW 1 t13 t11 w4 fun w5 =>
  callF Tryz.prog 54 [v0] w5 fun t15 w6 =>
  callF Tryz.prog 157 [v0, (.int .u8 93)] w6 fun t17 w7 =>
  condW t17 (
    ldW true 5 t5 w7 fun t18 =>
    stW 5 t4 t18 w7 fun w8 =>
    ldW true 5 t4 w8 fun r9 =>
    K r9 w8) (
    LoopW [] w7 fun s10 _ w11 L10 =>
      fldW 3 t5 fun t19 =>
      ldW false 1 t19 w11.drew fun t20 =>
      binW .add v1 (.int .i64 1) fun t23 =>
      callF Tryz.prog 53 [v0, t23] w11.drew fun t24 w12 =>
      (ldW false 1 t19 w12 fun x => x = t20) ∧
      bslW 26 1 [(.int .i64 0), (.bool false), (.string (ofL [])), (.slice none 0 0), (.slice none 0 0)] [(0, 5, t24)] w12 fun t25 w13 =>
      (ldW false 1 t19 w13 fun x => x = t20) ∧
      semE Tryz.prog (Builtin.append_ #[23, 23] 23 #[t20, t25]) w13 fun t26 w14 =>
      fldW 3 t5 fun t27 =>
      stW 1 t27 t26 w14 fun w15 =>
      callF Tryz.prog 54 [v0] w15 fun t29 w16 =>
      callF Tryz.prog 157 [v0, (.int .u8 93)] w16 fun t31 w17 =>
      condW t31 (
        ldW true 5 t5 w17 fun t32 =>
        stW 5 t4 t32 w17 fun w18 =>
        ldW true 5 t4 w18 fun r19 =>
        K r19 w18) (
        callF Tryz.prog 161 [v0, (.int .u8 44)] w17 fun t34 w20 =>
        L10 [] w20))
theorem W112_eq (v0 v1 : Value) (w : World) (K : Value → World → Prop) : funW Tryz.prog Tryz.f112 plan112 [v0, v1] w K = W112 v0 v1 w K := by kernel_rfl
theorem W112_chk : chkFun Tryz.prog Tryz.f112 plan112 2 = true := by kernel_rfl
theorem W112_ok {v0 v1 : Value} {w : World} {K : Value → World → Prop} (h : W112 v0 v1 w K) : callF Tryz.prog 112 [v0, v1] w K :=
  tie Tryz.prog 112 Tryz.f112 plan112 [v0, v1] w K 2 (W112 v0 v1 w K) rfl mixed Tryz.func112 W112_chk (W112_eq v0 v1 w K) Tryz.call112 h
def plan113 : Plan := { js := [(31, ⟨[], [], 8⟩), (23, ⟨[], [], 7⟩), (17, ⟨[], [], 6⟩)], ds := [(42, ⟨[0, 1, 2, 3, 4], [[], [], [], [], [3], [2, 3, 4], [0, 1, 2, 3, 4, 5], [0, 1, 2, 3, 4, 5, 6]]⟩)] }
def W113 (v0 v1 : Value) (w : World) (K : Value → World → Prop) : Prop :=
  allocW 26 [(.int .i64 0), (.bool false), (.string (ofL [])), (.slice none 0 0), (.slice none 0 0)] w fun t4 w1 =>
  putW [(.int .i64 0), (.bool false), (.string (ofL [])), (.slice none 0 0), (.slice none 0 0)] [(0, 1, (.int .i64 6))] fun c2 =>
  allocW 26 [(.int .i64 0), (.bool false), (.string (ofL [])), (.slice none 0 0), (.slice none 0 0)] w1 fun t5 w3 =>
  stW 5 t5 (.agg c2.toArray) w3 fun w4 =>
  nilW v0 fun t12 =>
  fldW 1 t12 fun t13 =>
  ldW false 1 t13 w4 fun t14 =>
  binW .add t14 (.int .i64 1) fun t15 =>
  nilW v0 fun t16 =>
  fldW 1 t16 fun t17 =>
  stW 1 t17 t15 w4 fun w5 =>
  callF Tryz.prog 54 [v0] w5 fun t19 w6 =>
  callF Tryz.prog 157 [v0, (.int .u8 125)] w6 fun t21 w7 =>
  condW t21 (
    ldW true 5 t5 w7 fun t22 =>
    stW 5 t4 t22 w7 fun w8 =>
    ldW true 5 t4 w8 fun r9 =>
    K r9 w8) (
    LoopW [] w7 fun s10 _ w11 L10 =>
      callF Tryz.prog 54 [v0] w11 fun t24 w12 =>
      nilW v0 fun t26 =>
      fldW 1 t26 fun t27 =>
      ldW false 1 t27 w12 fun t28 =>
      JoinW (fun J13 =>
        callF Tryz.prog 106 [v0] w12 fun t30 w14 =>
        binW .neq t30 (.int .u8 34) fun t31 =>
        condW t31 (
          nilW v0 fun t33 =>
          fldW 1 t33 fun t34 =>
          ldW false 1 t34 w14 fun t35 =>
          callF Tryz.prog 52 [(.int .i64 30), t35] w14 fun t36 w15 =>
          J13 [] w15) (
          J13 [] w14))
      fun s13 _ w16 =>
      callF Tryz.prog 111 [v0] w16 fun t38 w17 =>
      JoinW (fun J18 =>
        ldW true 5 t5 w17 fun t40 =>
        callF Tryz.prog 162 [t40, t38] w17 fun t42 w19 =>
        extW 0 t42 fun t43 =>
        extW 1 t42 fun t44 =>
        allocW 26 [(.int .i64 0), (.bool false), (.string (ofL [])), (.slice none 0 0), (.slice none 0 0)] w19 fun t8 w20 =>
        stW 5 t8 t43 w20 fun w21 =>
        condW t44 (
          callF Tryz.prog 52 [(.int .i64 2), t28] w21 fun t47 w22 =>
          J18 [] w22) (
          J18 [] w21))
      fun s18 _ w23 =>
      callF Tryz.prog 161 [v0, (.int .u8 58)] w23 fun t49 w24 =>
      ldW true 5 t5 w24.drew fun t50 =>
      binW .add v1 (.int .i64 1) fun t54 =>
      callF Tryz.prog 53 [v0, t54] w24.drew fun t55 w25 =>
      (ldW true 5 t5 w25 fun x => x = t50) ∧
      callF Tryz.prog 163 [t50, t38, t55] w25 fun t56 w26 =>
      stW 5 t5 t56 w26 fun w27 =>
      callF Tryz.prog 54 [v0] w27 fun t58 w28 =>
      callF Tryz.prog 157 [v0, (.int .u8 125)] w28 fun t60 w29 =>
      condW t60 (
        ldW true 5 t5 w29 fun t61 =>
        stW 5 t4 t61 w29 fun w30 =>
        ldW true 5 t4 w30 fun r31 =>
        K r31 w30) (
        callF Tryz.prog 161 [v0, (.int .u8 44)] w29 fun t63 w32 =>
        L10 [] w32))
theorem W113_eq (v0 v1 : Value) (w : World) (K : Value → World → Prop) : funW Tryz.prog Tryz.f113 plan113 [v0, v1] w K = W113 v0 v1 w K := by kernel_rfl
theorem W113_chk : chkFun Tryz.prog Tryz.f113 plan113 2 = true := by kernel_rfl
theorem W113_ok {v0 v1 : Value} {w : World} {K : Value → World → Prop} (h : W113 v0 v1 w K) : callF Tryz.prog 113 [v0, v1] w K :=
  tie Tryz.prog 113 Tryz.f113 plan113 [v0, v1] w K 2 (W113 v0 v1 w K) rfl mixed Tryz.func113 W113_chk (W113_eq v0 v1 w K) Tryz.call113 h
def plan157 : Plan := { js := [], ds := [(4, ⟨[0, 2, 3, 4, 5, 6, 7, 8, 9, 10, 11, 12, 13, 14, 15], [[], [0], [], [0, 1, 2], [0, 1, 2, 3], [0, 1, 2, 3, 4], [0, 1, 2, 3, 4, 5], [0, 1, 2, 3, 4, 5, 6], [0, 1, 2, 3, 4, 5, 6, 7], [0, 1, 2, 3, 4], [0, 1, 2, 3, 4, 9], [0, 1, 2, 3, 4, 9, 10], [0, 1, 2, 3, 4, 9, 10, 11], [0, 1, 2, 3, 4, 9, 10, 11, 12], [0, 1, 2, 3, 4, 5, 6, 7, 8, 9, 10, 11, 12, 13], [0, 1, 2, 3, 4, 5, 6, 7, 8, 9, 10, 11, 12, 13, 14]]⟩)] }
def W157 (v0 v1 : Value) (w : World) (K : Value → World → Prop) : Prop :=
  callF Tryz.prog 106 [v0] w.drew fun t6 w1 =>
  binW .neq t6 v1 fun t8 =>
  GqW (isB t8 false) (fun k2 => k2 v0) fun t10 =>
  GqW (isB t8 false) (fun k3 => nilW t10 k3) fun t11 =>
  GqW (isB t8 false) (fun k4 => fldW 1 t11 k4) fun t12 =>
  GqW (isB t8 false) (fun k5 => ldW false 1 t12 w1 k5) fun t13 =>
  GqW (isB t8 false) (fun k6 => k6 v0) fun t14 =>
  GqW (isB t8 false) (fun k7 => nilW t14 k7) fun t15 =>
  GqW (isB t8 false) (fun k8 => fldW 0 t15 k8) fun t16 =>
  GqW (isB t8 false) (fun k9 => ldW false 1 t16 w1 k9) fun t17 =>
  GqW (isB t8 false) (fun k10 => lensW t17 k10) fun t18 =>
  GqW (isB t8 false) (fun k11 => binW .geq t13 t18 k11) fun t19 =>
  pickW t8 (.bool true) t19 fun t20 =>
  condW t20 (
    K (.bool false) w1) (
    nilW v0 fun t22 =>
    fldW 1 t22 fun t23 =>
    ldW false 1 t23 w1 fun t24 =>
    binW .add t24 (.int .i64 1) fun t25 =>
    nilW v0 fun t26 =>
    fldW 1 t26 fun t27 =>
    stW 1 t27 t25 w1 fun w12 =>
    K (.bool true) w12)
theorem W157_eq (v0 v1 : Value) (w : World) (K : Value → World → Prop) : funW Tryz.prog Tryz.f157 plan157 [v0, v1] w K = W157 v0 v1 w K := by kernel_rfl
theorem W157_chk : chkFun Tryz.prog Tryz.f157 plan157 2 = true := by kernel_rfl
theorem W157_ok {v0 v1 : Value} {w : World} {K : Value → World → Prop} (h : W157 v0 v1 w K) : callF Tryz.prog 157 [v0, v1] w K :=
  tie Tryz.prog 157 Tryz.f157 plan157 [v0, v1] w K 2 (W157 v0 v1 w K) rfl mixed Tryz.func157 W157_chk (W157_eq v0 v1 w K) Tryz.call157 h
def plan158 : Plan := { js := [(4004, ⟨[8], [], 6⟩), (1, ⟨[], [], 1⟩)], ds := [] }
def W158 (v0 : Value) (w : World) (K : Value → World → Prop) : Prop :=
  LoopW [] w fun s1 _ w2 L1 =>
    callF Tryz.prog 106 [v0] w2 fun t3 w3 =>
    binW .geq t3 (.int .u8 48) fun t4 =>
    GdW (isB t4 true) [undef] w3 (fun J4 =>
      callF Tryz.prog 106 [v0] w3 fun t7 w5 =>
      binW .leq t7 (.int .u8 57) fun t8 =>
      J4 [t8] w5)
    fun s4 _ w6 =>
    pickW t4 (s4.getD 0 undef) (.bool false) fun t9 =>
    condW t9 (
      nilW v0 fun t11 =>
      fldW 1 t11 fun t12 =>
      ldW false 1 t12 w6 fun t13 =>
      binW .add t13 (.int .i64 1) fun t14 =>
      nilW v0 fun t15 =>
      fldW 1 t15 fun t16 =>
      stW 1 t16 t14 w6 fun w7 =>
      L1 [] w7) (
      K (.tuple #[]) w6)
theorem W158_eq (v0 : Value) (w : World) (K : Value → World → Prop) : funW Tryz.prog Tryz.f158 plan158 [v0] w K = W158 v0 w K := by kernel_rfl
theorem W158_chk : chkFun Tryz.prog Tryz.f158 plan158 1 = true := by kernel_rfl
theorem W158_ok {v0 : Value} {w : World} {K : Value → World → Prop} (h : W158 v0 w K) : callF Tryz.prog 158 [v0] w K :=
  tie Tryz.prog 158 Tryz.f158 plan158 [v0] w K 1 (W158 v0 w K) rfl mixed Tryz.func158 W158_chk (W158_eq v0 w K) Tryz.call158 h
def plan160 : Plan := { js := [(87002, ⟨[100], [], 95⟩), (87004, ⟨[99], [], 98⟩), (87007, ⟨[97], [], 95⟩), (73, ⟨[], [], 7⟩), (75003, ⟨[74], [], 73⟩), (69003, ⟨[62], [], 61⟩), (18, ⟨[34], [], 34⟩), (6, ⟨[4], [], 4⟩)], ds := [] }
def W160 (v0 : Value) (w : World) (K : Value → World → Prop) : Prop :=
  nilW v0 fun t8 =>
  fldW 1 t8 fun t9 =>
  ldW false 1 t9 w fun t10 =>
  JoinW (fun J1 =>
    binW .add t10 (.int .i64 1) fun t12 =>
    nilW v0 fun t14 =>
    fldW 0 t14 fun t15 =>
    ldW false 1 t15 w fun t16 =>
    lensW t16 fun t17 =>
    binW .lss t12 t17 fun t18 =>
    condW t18 (
      nilW v0 fun t20 =>
      fldW 0 t20 fun t21 =>
      ldW false 1 t21 w fun t22 =>
      binW .add t10 (.int .i64 1) fun t24 =>
      ixsW t22 t24 fun t25 =>
      J1 [t25] w) (
      J1 [(.int .u8 0)] w))
  fun s1 _ w2 =>
  nilW v0 fun t27 =>
  fldW 1 t27 fun t28 =>
  ldW false 1 t28 w2 fun t29 =>
  binW .add t29 (.int .i64 2) fun t30 =>
  nilW v0 fun t31 =>
  fldW 1 t31 fun t32 =>
  stW 1 t32 t30 w2 fun w3 =>
  JoinW (fun J4 =>
    binW .eql (s1.getD 0 undef) (.int .u8 34) fun t35 =>
    condW t35 (
      J4 [t35] w3) (
      binW .eql (s1.getD 0 undef) (.int .u8 92) fun t36 =>
      condW t36 (
        J4 [t36] w3) (
        binW .eql (s1.getD 0 undef) (.int .u8 47) fun t37 =>
        J4 [t37] w3)))
  fun s4 _ w5 =>
  condW (s4.getD 0 undef) (
    cvtW .i32 (s1.getD 0 undef) fun t39 =>
    K t39 w5) (
    binW .eql (s1.getD 0 undef) (.int .u8 98) fun t41 =>
    condW t41 (
      K (.int .i32 8) w5) (
      binW .eql (s1.getD 0 undef) (.int .u8 102) fun t43 =>
      condW t43 (
        K (.int .i32 12) w5) (
        binW .eql (s1.getD 0 undef) (.int .u8 110) fun t45 =>
        condW t45 (
          K (.int .i32 10) w5) (
          binW .eql (s1.getD 0 undef) (.int .u8 114) fun t47 =>
          condW t47 (
            K (.int .i32 13) w5) (
            binW .eql (s1.getD 0 undef) (.int .u8 116) fun t49 =>
            condW t49 (
              K (.int .i32 9) w5) (
              callF Tryz.prog 187 [v0, t10] w5 fun t52 w6 =>
              binW .add t10 (.int .i64 6) fun t55 =>
              nilW v0 fun t56 =>
              fldW 1 t56 fun t57 =>
              stW 1 t57 t55 w6 fun w7 =>
              binW .geq t52 (.int .i32 55296) fun t59 =>
              GdW (isB t59 true) [undef] w7 (fun J8 =>
                binW .lss t52 (.int .i32 56320) fun t62 =>
                J8 [t62] w7)
              fun s8 _ w9 =>
              pickW t59 (s8.getD 0 undef) (.bool false) fun t63 =>
              condW t63 (
                nilW v0 fun t66 =>
                fldW 1 t66 fun t67 =>
                ldW false 1 t67 w9 fun t68 =>
                callF Tryz.prog 187 [v0, t68] w9 fun t69 w10 =>
                JoinW (fun J11 =>
                  binW .lss t69 (.int .i32 56320) fun t71 =>
                  GdW (isB t71 false) [undef] w10 (fun J12 =>
                    binW .gtr t69 (.int .i32 57343) fun t74 =>
                    J12 [t74] w10)
                  fun s12 _ w13 =>
                  pickW t71 (.bool true) (s12.getD 0 undef) fun t75 =>
                  condW t75 (
                    callF Tryz.prog 52 [(.int .i64 30), t10] w13 fun t77 w14 =>
                    J11 [] w14) (
                    J11 [] w13))
                fun s11 _ w15 =>
                nilW v0 fun t79 =>
                fldW 1 t79 fun t80 =>
                ldW false 1 t80 w15 fun t81 =>
                binW .add t81 (.int .i64 6) fun t82 =>
                nilW v0 fun t83 =>
                fldW 1 t83 fun t84 =>
                stW 1 t84 t82 w15 fun w16 =>
                binW .sub t52 (.int .i32 55296) fun t86 =>
                binW .shl t86 (.int .u64 10) fun t87 =>
                binW .add (.int .i32 65536) t87 fun t88 =>
                binW .sub t69 (.int .i32 56320) fun t90 =>
                binW .add t88 t90 fun t91 =>
                K t91 w16) (
                binW .lss t52 (.int .i32 0) fun t93 =>
                GdW (isB t93 false) [undef] w9 (fun J17 =>
                  binW .geq t52 (.int .i32 56320) fun t96 =>
                  J17 [t96] w9)
                fun s17 _ w18 =>
                GdW (isB (s17.getD 0 undef) true) [undef] w18 (fun J19 =>
                  binW .lss t52 (.int .i32 57344) fun t99 =>
                  J19 [t99] w18)
                fun s19 _ w20 =>
                GdW (isB t93 false) [undef] w20 (fun J21 =>
                  pickW (s17.getD 0 undef) (s19.getD 0 undef) (.bool false) fun t100 =>
                  J21 [t100] w20)
                fun s21 _ w22 =>
                pickW t93 (.bool true) (s21.getD 0 undef) fun t101 =>
                condW t101 (
                  callF Tryz.prog 52 [(.int .i64 30), t10] w22 fun t103 w23 =>
                  K t52 w23) (
                  K t52 w22))))))))
theorem W160_eq (v0 : Value) (w : World) (K : Value → World → Prop) : funW Tryz.prog Tryz.f160 plan160 [v0] w K = W160 v0 w K := by kernel_rfl
theorem W160_chk : chkFun Tryz.prog Tryz.f160 plan160 1 = true := by kernel_rfl
theorem W160_ok {v0 : Value} {w : World} {K : Value → World → Prop} (h : W160 v0 w K) : callF Tryz.prog 160 [v0] w K :=
  tie Tryz.prog 160 Tryz.f160 plan160 [v0] w K 1 (W160 v0 w K) rfl mixed Tryz.func160 W160_chk (W160_eq v0 w K) Tryz.call160 h
def plan161 : Plan := { js := [], ds := [] }
def W161 (v0 v1 : Value) (w : World) (K : Value → World → Prop) : Prop :=
  callF Tryz.prog 54 [v0] w fun t5 w1 =>
  callF Tryz.prog 157 [v0, v1] w1 fun t8 w2 =>
  unW .not t8 fun t9 =>
  condW t9 (
    nilW v0 fun t11 =>
    fldW 1 t11 fun t12 =>
    ldW false 1 t12 w2 fun t13 =>
    callF Tryz.prog 52 [(.int .i64 30), t13] w2 fun t14 w3 =>
    K (.tuple #[]) w3) (
    K (.tuple #[]) w2)
theorem W161_eq (v0 v1 : Value) (w : World) (K : Value → World → Prop) : funW Tryz.prog Tryz.f161 plan161 [v0, v1] w K = W161 v0 v1 w K := by kernel_rfl
theorem W161_chk : chkFun Tryz.prog Tryz.f161 plan161 2 = true := by kernel_rfl
theorem W161_ok {v0 v1 : Value} {w : World} {K : Value → World → Prop} (h : W161 v0 v1 w K) : callF Tryz.prog 161 [v0, v1] w K :=
  tie Tryz.prog 161 Tryz.f161 plan161 [v0, v1] w K 2 (W161 v0 v1 w K) rfl mixed Tryz.func161 W161_chk (W161_eq v0 v1 w K) Tryz.call161 h
def plan187 : Plan := { js := [(4011, ⟨[36], [], 27⟩), (4022, ⟨[24], [], 16⟩)], ds := [] }
def W187 (v0 v1 : Value) (w : World) (K : Value → World → Prop) : Prop :=
  binW .add v1 (.int .i64 6) fun t8 =>
  nilW v0 fun t10 =>
  fldW 0 t10 fun t11 =>
  ldW false 1 t11 w fun t12 =>
  lensW t12 fun t13 =>
  binW .gtr t8 t13 fun t14 =>
  GdW (isB t14 false) [undef] w (fun J1 =>
    nilW v0 fun t17 =>
    fldW 0 t17 fun t18 =>
    ldW false 1 t18 w fun t19 =>
    binW .add v1 (.int .i64 2) fun t22 =>
    slsW t19 (some v1) (some t22) fun t23 =>
    binW .neq t23 (.string (ofL [92, 117])) fun t24 =>
    J1 [t24] w)
  fun s1 _ w2 =>
  pickW t14 (.bool true) (s1.getD 0 undef) fun t25 =>
  GdW (isB t25 false) [undef] w2 (fun J3 =>
    nilW v0 fun t28 =>
    fldW 0 t28 fun t29 =>
    ldW false 1 t29 w2 fun t30 =>
    binW .add v1 (.int .i64 2) fun t32 =>
    binW .add v1 (.int .i64 6) fun t34 =>
    slsW t30 (some t32) (some t34) fun t35 =>
    callF Tryz.prog 224 [t35, (.string (ofL [43, 45, 95]))] w2 fun t36 w4 =>
    J3 [t36] w4)
  fun s3 _ w5 =>
  pickW t25 (.bool true) (s3.getD 0 undef) fun t37 =>
  condW t37 (
    K (.int .i32 (-1)) w5) (
    nilW v0 fun t40 =>
    fldW 0 t40 fun t41 =>
    ldW false 1 t41 w5 fun t42 =>
    binW .add v1 (.int .i64 2) fun t44 =>
    binW .add v1 (.int .i64 6) fun t46 =>
    slsW t42 (some t44) (some t46) fun t47 =>
    callF Tryz.prog 225 [t47, (.int .i64 16), (.int .i64 32)] w5 fun t48 w6 =>
    extW 0 t48 fun t49 =>
    extW 1 t48 fun t50 =>
    eqQ Tryz.prog .neq 111 false true t50 .nilIface w6 fun t52 =>
    condW t52 (
      K (.int .i32 (-1)) w6) (
      cvtW .i32 t49 fun t54 =>
      K t54 w6))
theorem W187_eq (v0 v1 : Value) (w : World) (K : Value → World → Prop) : funW Tryz.prog Tryz.f187 plan187 [v0, v1] w K = W187 v0 v1 w K := by kernel_rfl
theorem W187_chk : chkFun Tryz.prog Tryz.f187 plan187 2 = true := by kernel_rfl
theorem W187_ok {v0 v1 : Value} {w : World} {K : Value → World → Prop} (h : W187 v0 v1 w K) : callF Tryz.prog 187 [v0, v1] w K :=
  tie Tryz.prog 187 Tryz.f187 plan187 [v0, v1] w K 2 (W187 v0 v1 w K) rfl mixed Tryz.func187 W187_chk (W187_eq v0 v1 w K) Tryz.call187 h
end Go.Proofs.YtcnjpcadejcenaaGreatDoor
namespace Go.Proofs.YtcnjpcadejcenaaGreatDoor
open Go Go.Eng Go.RowKit
set_option maxRecDepth 100000
abbrev DT : TypeId := 34
abbrev RdT : TypeId := 86
abbrev En : ErrNo := ⟨30, 3, 7, 31, 2⟩
def Rdr (w : World) (p : Nat) (s : Str) (i c : Nat) : Prop := w.heap[p]? = some (.cells [str s, i64 i, i64 c].toArray RdT (0, 0))
def Cr (p : Nat) : Nat → Prop := fun k => k = p
def rdAt (w : World) (p : Nat) : Nat := match w.heap[p]? with | some (.cells c _ _) => (match (c[1]? : Option Value) with | some (Value.int _ i) => i.toNat | _ => 0) | _ => 0
theorem Rdr.at_ {w : World} {p i c : Nat} {s : Str} (h : Rdr w p s i c) : rdAt w p = i := by
  unfold Rdr at h
  unfold rdAt
  rw [h]
  simp
theorem Rdr.lt {w : World} {p i c : Nat} {s : Str} (h : Rdr w p s i c) : p < w.heap.size := at_lt h
theorem Rdr.ext {w w' : World} {p i c : Nat} {s : Str} (h : Rdr w p s i c) (hx : Ext w w') : Rdr w' p s i c := hx.at h id
theorem Rdr.drew {w : World} {p i c : Nat} {s : Str} (h : Rdr w p s i c) : Rdr w.drew p s i c := h
theorem Rdr.ld {w : World} {p i c : Nat} {s : Str} {off : Nat} {v : Value} {K : Value → Prop} (h : Rdr w p s i c) (hv : [str s, i64 i, i64 c][off]? = some v) (hk : K v) : nilW (.pointer (some ⟨p, 0, none⟩)) fun t => fldW off t fun t => ldW false 1 t w K := by
  rw [nil_ptr, fld_ptr, ld_one]
  refine ⟨v, ?_, hk⟩
  rw [add_mk, cell_eq, h, cellO_some, Nat.zero_add]
  simpa using hv
theorem Rdr.st1 {w : World} {p i c : Nat} {s : Str} {i' : Nat} {K : World → Prop} (h : Rdr w p s i c) (hK : ∀ w', Rdr w' p s i' c → Chg (Cr p) w w' → w'.heap.size = w.heap.size → K w') :
    nilW (.pointer (some ⟨p, 0, none⟩)) fun t => fldW 1 t fun t => stW 1 t (i64 (i' : Nat)) w K := by
  rw [nil_ptr, fld_ptr, add_mk, Nat.zero_add]
  refine st_at h rfl (by simp) fun w' hz hb hc => hK w' ?_ hc hz
  unfold Rdr
  rw [hb]; simp
theorem Rdr.st2 {w : World} {p i c : Nat} {s : Str} {c' : Nat} {K : World → Prop} (h : Rdr w p s i c) (hK : ∀ w', Rdr w' p s i c' → Chg (Cr p) w w' → w'.heap.size = w.heap.size → K w') :
    nilW (.pointer (some ⟨p, 0, none⟩)) fun t => fldW 2 t fun t => stW 1 t (i64 (c' : Nat)) w K := by
  rw [nil_ptr, fld_ptr, add_mk, Nat.zero_add]
  refine st_at h rfl (by simp) fun w' hz hb hc => hK w' ?_ hc hz
  unfold Rdr
  rw [hb]; simp
theorem upk {i k : Nat} (h : i + k ≤ 9223372036854775807) : IntKind.i64.wrap ((i : Int) + (k : Int)) = ((i + k : Nat) : Int) := by rw [wrap_id (by omega) (by omega)]; omega
theorem Rdr.go {w : World} {p i c : Nat} {s : Str} {k : Nat} {K : World → Prop} (h : Rdr w p s i c) (hi : i + k ≤ 9223372036854775807) (hK : ∀ w', Rdr w' p s (i + k) c → Chg (Cr p) w w' → w'.heap.size = w.heap.size → K w') :
    nilW (.pointer (some ⟨p, 0, none⟩)) fun t => fldW 1 t fun t => ldW false 1 t w fun t => binW .add t (.int .i64 (k : Int)) fun t1 => nilW (.pointer (some ⟨p, 0, none⟩)) fun t => fldW 1 t fun t => stW 1 t t1 w K := by
  refine h.ld rfl ?_
  rw [bin_add, upk hi]
  exact h.st1 hK
def pkM (s : Str) (i : Nat) : Int := if i < s.length then (bt s i : Int) else 0
theorem get_bt' {s : Str} {i : Nat} (h : i < s.length) : s[i]? = some s[i] ∧ s[i].toNat = bt s i := by
  refine ⟨List.getElem?_eq_getElem h, ?_⟩
  unfold bt
  rw [List.getD_eq_getElem?_getD, List.getElem?_eq_getElem h]; rfl
theorem GeW_f (w : World) (A : (Value → World → Prop) → Prop) (B : Value → World → Prop) : GeW false w A B ↔ B undef w := ⟨fun h => h.2 rfl, fun h => ⟨fun e => (by cases e), fun _ => h⟩⟩
section
variable [HX]
def Thr (w : World) (p : Nat) (code : Int) (i : Nat) : Prop :=
  ∀ d w', w.heap.size ≤ d → Chg (Cr p) w w' → w'.heap[d]? = some (.cells [i64 code, str [], i64 i].toArray 49 (0, 0)) → HX.X [{ v := .iface DT (.pointer (some ⟨d, 0, none⟩)), recovered := false }] w'
theorem Thr.from {w w1 : World} {p : Nat} {code : Int} {i : Nat} (h : Thr w p code i) (hc : Chg (Cr p) w w1) : Thr w1 p code i := fun d w' hd hc' hb => h d w' (Nat.le_trans hc.size hd) (hc.trans hc') hb
theorem fail_p {e : Int} {p i : Nat} {w : World} {K : Value → World → Prop} (h : Thr w p e i) : callF Tryz.prog 52 [i64 e, i64 (i : Nat)] w K := by
  refine W52_ok ?_
  unfold W52
  simp only [put_int, put_str, put_nil, List.length_cons, List.length_nil, List.set_cons_zero, List.set_cons_succ]
  refine ⟨by omega, by omega, ?_⟩
  refine box_new (z := [i64 e, str [], i64 (i : Nat)]) fun d w' hd hz hb hx => ?_
  exact h d w' (by omega) (Chg.of_ext hx) hb
theorem peek_p {w : World} {p i c : Nat} {s : Str} {K : Value → World → Prop} (h : Rdr w p s i c) (hi : i ≤ s.length) (hK : ∀ w', Ext w w' → K (.int .u8 (pkM s i)) w') : callF Tryz.prog 106 [.pointer (some ⟨p, 0, none⟩)] w K := by
  refine W106_ok ?_
  unfold W106
  have hxd : ∀ w : World, Ext w w.drew := fun w => Chg.drew (Chg.refl (fun _ => False) w)
  refine h.drew.ld rfl ?_
  refine h.drew.ld rfl ?_
  rw [lens_str, bin_lss, condW_dec]
  unfold pkM at hK
  refine ⟨fun hlt => ?_, fun hge => ?_⟩
  · have hlt : i < s.length := by omega
    rw [if_pos hlt] at hK
    refine h.drew.drew.ld rfl ?_
    refine h.drew.drew.ld rfl ?_
    obtain ⟨e1, e2⟩ := get_bt' hlt
    rw [ixs_str]
    refine ⟨by omega, s[i], by simpa using e1, ?_⟩
    rw [e2]
    exact hK _ ((hxd _).trans (hxd _))
  · rw [if_neg (by omega)] at hK
    exact hK _ (hxd _)
theorem index_b {s : Str} {c : Nat} {w : World} {K : Value → World → Prop} (hc : c < 256) (hK : K (i64 (Lib.indexByte s (UInt8.ofNat c))) w) : callF Tryz.prog 85 [str s, .int .u8 (c : Nat)] w K := by
  refine of_calls (args := #[str s, .int .u8 (c : Nat)]) Tryz.call85 ((Tryz.strings_IndexByte (ofL s) c w).mono ?_)
  rintro e w' ⟨rfl, rfl⟩
  rw [ofL_data]
  exact ⟨_, rfl, hK⟩
theorem blank_idx (n : Nat) (h : n < 256) : decide (0 ≤ Lib.indexByte [32, 9, 10, 13] (UInt8.ofNat n)) = isBlank (n : Int) := by
  have : ∀ m : Fin 256, decide (0 ≤ Lib.indexByte [32, 9, 10, 13] (UInt8.ofNat m.val)) = isBlank (m.val : Int) := by decide +kernel
  exact this ⟨n, h⟩
theorem blanks_p {w : World} {p i c : Nat} {s : Str} {K : Value → World → Prop} (h : Rdr w p s i c) (hi : i ≤ s.length) (hs : s.length ≤ 1000000) (hK : ∀ w', Rdr w' p s (blankM s i) c → Chg (Cr p) w w' → K (.tuple #[]) w') :
    callF Tryz.prog 54 [.pointer (some ⟨p, 0, none⟩)] w K := by
  refine W54_ok ?_
  unfold W54
  refine LoopW.go (fun st w' => st = [] ∧ ∃ j, Rdr w' p s j c ∧ Chg (Cr p) w w' ∧ j ≤ s.length ∧ blankM s j = blankM s i) (fun _ w' => s.length - rdAt w' p) ⟨rfl, i, h, Chg.refl _ _, hi, rfl⟩ ?_
  rintro st g w2 ⟨rfl, j, h2, hc2, hj, hb⟩
  have hxd : Ext w2 w2.drew := Chg.drew (Chg.refl (fun _ => False) w2)
  refine h2.drew.ld rfl ?_
  refine h2.drew.ld rfl ?_
  rw [lens_str, bin_lss]
  rcases Nat.lt_or_ge j s.length with hlt | hge
  · rw [decide_eq_true (by omega : (j : Int) < (s.length : Int))]
    obtain ⟨e1, e2⟩ := get_bt' hlt
    simp only [isB_t, GqW_t]
    refine ⟨_, rfl, .pointer (some ⟨p, 0, none⟩), rfl, _, rfl, str s, ?_, _, rfl, .pointer (some ⟨p, 0, none⟩), rfl, _, rfl, i64 j, ?_, .int .u8 (bt s j), ?_, ?_⟩
    · rw [ld_one]
      exact ⟨_, by rw [add_mk, cell_eq, h2.drew, cellO_some, Nat.zero_add]; rfl, rfl⟩
    · rw [ld_one]
      exact ⟨_, by rw [add_mk, cell_eq, h2.drew, cellO_some, Nat.zero_add]; rfl, rfl⟩
    · rw [ixs_str]
      exact ⟨by omega, s[j], by simpa using e1, by rw [e2]⟩
    refine ⟨fun _ => ?_, fun e => by cases e⟩
    have hlt256 := bt_lt s j
    refine index_b hlt256 ?_
    refine ⟨.bool (decide (0 ≤ Lib.indexByte [32, 9, 10, 13] (UInt8.ofNat (bt s j)))), by rw [bin_geq], ?_⟩
    rw [pick_t, blank_idx _ hlt256, ← byteM_in hlt, condW_b]
    refine ⟨fun hbl => ?_, fun hnb => ?_⟩
    · refine h2.drew.go (k := 1) (by omega) fun w3 h3 hc3 hz3 => ?_
      refine ⟨⟨trivial, j + 1, h3, (hc2.then hxd fun _ _ e => e.elim).trans hc3, by omega, ?_⟩, ?_⟩
      · rw [← hb, (blank_go hbl).2]
      · rw [h3.at_, h2.at_]; omega
    · rw [blank_stop hnb] at hb
      subst hb
      exact hK _ h2.drew (hc2.then hxd fun _ _ e => e.elim)
  · rw [decide_eq_false (by omega : ¬ (j : Int) < (s.length : Int))]
    obtain rfl : j = s.length := by omega
    have hbb : blankM s s.length = s.length := blank_stop (by rw [byteM_out (Nat.le_refl _)]; rfl)
    rw [hbb] at hb
    simp only [isB_t, GqW_f, GeW_f]
    rw [pick_f, condW_false]
    rw [← hb] at hK
    exact hK _ h2.drew (hc2.then hxd fun _ _ e => e.elim)
end
end Go.Proofs.YtcnjpcadejcenaaGreatDoor
