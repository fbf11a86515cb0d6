/- One plain sentence: weakest preconditions, contracts and plain laws that the claim rests on, text behind text. Conditions: those that each states. -/
import Derived.Test.YtcnjpcadejcenaaGreatDoorMP2
import Derived.Test.YtcnjpcadejcenaaGreatDoorMP3
import Derived.Sort.OwnSorted
import Derived.Lib.AppendZerosOnto
set_option linter.all false
set_option linter.unusedSimpArgs false
set_option linter.unusedVariables false
set_option linter.unusedSectionVars false
namespace Go.Proofs.YtcnjpcadejcenaaGreatDoor
open Go Go.Eng
set_option maxRecDepth 100000
variable [HX]

/- 0 has no body -/
/- purlin_jsonc.Encode -/
def plan16 : Plan := { js := [], ds := [] }
def W16 (v0 : Value) (w : World) (K : Value → World → Prop) : Prop :=
  boxW 26 v0 w fun t1 w1 =>
  ldW true 5 t1 w1 fun t6 =>
  callF Tryz.prog 42 [t6] w1 fun t7 w2 =>
  unW .not t7 fun t8 =>
  condW t8 (
    K (.tuple #[(.string (ofL [])), (.int .i64 1)]) w2) (
    ldW true 5 t1 w2 fun t10 =>
    callF Tryz.prog 43 [t10] w2 fun t11 w3 =>
    unW .not t11 fun t12 =>
    condW t12 (
      K (.tuple #[(.string (ofL [])), (.int .i64 20)]) w3) (
      ldW true 5 t1 w3 fun t14 =>
      callF Tryz.prog 44 [t14] w3 fun t15 w4 =>
      unW .not t15 fun t16 =>
      condW t16 (
        K (.tuple #[(.string (ofL [])), (.int .i64 31)]) w4) (
        allocW 78 [(.pointer none), (.slice none 0 0)] w4 fun t4 w5 =>
        ldW true 5 t1 w5 fun t17 =>
        callF Tryz.prog 45 [t4, t17] w5 fun t18 w6 =>
        callF Tryz.prog 46 [t4] w6 fun t19 w7 =>
        binW .gtr t19 (.int .i64 65536) fun t20 =>
        condW t20 (
          K (.tuple #[(.string (ofL [])), (.int .i64 3)]) w7) (
          callF Tryz.prog 47 [t4] w7 fun t21 w8 =>
          K (.tuple #[t21, (.int .i64 0)]) w8))))
theorem W16_eq (v0 : Value) (w : World) (K : Value → World → Prop) : funW Tryz.prog Tryz.f16 plan16 [v0] w K = W16 v0 w K := by kernel_rfl
theorem W16_chk : chkFun Tryz.prog Tryz.f16 plan16 1 = true := by kernel_rfl
theorem W16_ok {v0 : Value} {w : World} {K : Value → World → Prop} (h : W16 v0 w K) : callF Tryz.prog 16 [v0] w K :=
  tie Tryz.prog 16 Tryz.f16 plan16 [v0] w K 1 (W16 v0 w K) rfl mixed Tryz.func16 W16_chk (W16_eq v0 w K) Tryz.call16 h

/- purlin_jsonc.texts -/
def plan44 : Plan := { js := [(5006, ⟨[20], [], 17⟩), (5013, ⟨[14], [], 10⟩)], ds := [] }
def W44 (v0 : Value) (w : World) (K : Value → World → Prop) : Prop :=
  boxW 26 v0 w fun t1 w1 =>
  fldW 2 t1 fun t5 =>
  ldW false 1 t5 w1 fun t6 =>
  callV Tryz.prog (.func (.func 101) #[] #[]) [t6] w1 fun t7 w2 =>
  unW .not t7 fun t8 =>
  GdW (isB t8 true) [undef] w2 (fun J3 =>
    fldW 4 t1 fun t10 =>
    ldW false 1 t10 w2 fun t11 =>
    callF Tryz.prog 76 [t11, (.func (.func 101) #[] #[])] w2 fun t13 w4 =>
    unW .not t13 fun t14 =>
    J3 [t14] w4)
  fun s3 _ w5 =>
  pickW t8 (s3.getD 0 undef) (.bool false) fun t15 =>
  GdW (isB t15 true) [undef] w5 (fun J6 =>
    fldW 3 t1 fun t17 =>
    ldW false 1 t17 w5 fun t18 =>
    callF Tryz.prog 99 [t18, (.func (.func 103) #[] #[])] w5 fun t19 w7 =>
    unW .not t19 fun t20 =>
    J6 [t20] w7)
  fun s6 _ w8 =>
  pickW t15 (s6.getD 0 undef) (.bool false) fun t21 =>
  K t21 w8
theorem W44_eq (v0 : Value) (w : World) (K : Value → World → Prop) : funW Tryz.prog Tryz.f44 plan44 [v0] w K = W44 v0 w K := by kernel_rfl
theorem W44_chk : chkFun Tryz.prog Tryz.f44 plan44 1 = true := by kernel_rfl
theorem W44_ok {v0 : Value} {w : World} {K : Value → World → Prop} (h : W44 v0 w K) : callF Tryz.prog 44 [v0] w K :=
  tie Tryz.prog 44 Tryz.f44 plan44 [v0] w K 1 (W44 v0 w K) rfl mixed Tryz.func44 W44_chk (W44_eq v0 w K) Tryz.call44 h

/- purlin_jsonc.write -/
def plan45 : Plan := { js := [(70, ⟨[], [], 63⟩), (59, ⟨[62], [6, 7], 62⟩), (41, ⟨[], [], 41⟩), (30, ⟨[40], [4, 5], 40⟩)], ds := [] }
def W45 (v0 v1 : Value) (w : World) (K : Value → World → Prop) : Prop :=
  boxW 26 v1 w fun t3 w1 =>
  fldW 0 t3 fun t8 =>
  ldW false 1 t8 w1 fun t9 =>
  binW .eql t9 (.int .i64 0) fun t11 =>
  condW t11 (
    callF Tryz.prog 78 [v0, (.string (ofL [110, 117, 108, 108]))] w1 fun t13 w2 =>
    K (.tuple #[]) w2) (
    binW .eql t9 (.int .i64 2) fun t15 =>
    condW t15 (
      fldW 1 t3 fun t17 =>
      ldW false 1 t17 w1 fun t18 =>
      callF Tryz.prog 104 [t18] w1 fun t19 w3 =>
      callF Tryz.prog 78 [v0, t19] w3 fun t20 w4 =>
      K (.tuple #[]) w4) (
      binW .eql t9 (.int .i64 3) fun t22 =>
      condW t22 (
        fldW 2 t3 fun t24 =>
        ldW false 1 t24 w1 fun t25 =>
        callF Tryz.prog 78 [v0, t25] w1 fun t26 w5 =>
        K (.tuple #[]) w5) (
        binW .eql t9 (.int .i64 4) fun t28 =>
        condW t28 (
          fldW 2 t3 fun t30 =>
          ldW false 1 t30 w1 fun t31 =>
          callF Tryz.prog 105 [v0, t31] w1 fun t32 w6 =>
          K (.tuple #[]) w6) (
          binW .eql t9 (.int .i64 5) fun t34 =>
          condW t34 (
            callF Tryz.prog 80 [v0, (.int .u8 91)] w1 fun t36 w7 =>
            fldW 3 t3 fun t37 =>
            ldW false 1 t37 w7 fun t38 =>
            lenlW t38 fun t39 =>
            LoopW [(.int .i64 0)] w7 fun s8 _ w9 L8 =>
              binW .lss (s8.getD 0 undef) t39 fun t41 =>
              condW t41 (
                ixaW none 5 t38 (s8.getD 0 undef) fun t43 =>
                ldW true 5 t43 w9 fun t44 =>
                allocW 26 [(.int .i64 0), (.bool false), (.string (ofL [])), (.slice none 0 0), (.slice none 0 0)] w9 fun t5 w10 =>
                stW 5 t5 t44 w10 fun w11 =>
                JoinW (fun J12 =>
                  binW .gtr (s8.getD 0 undef) (.int .i64 0) fun t46 =>
                  condW t46 (
                    callF Tryz.prog 80 [v0, (.int .u8 44)] w11 fun t48 w13 =>
                    J12 [] w13) (
                    J12 [] w11))
                fun s12 _ w14 =>
                ldW true 5 t5 w14 fun t50 =>
                callF Tryz.prog 45 [v0, t50] w14 fun t51 w15 =>
                binW .add (s8.getD 0 undef) (.int .i64 1) fun t52 =>
                L8 [t52] w15) (
                callF Tryz.prog 80 [v0, (.int .u8 93)] w9 fun t54 w16 =>
                K (.tuple #[]) w16)) (
            binW .eql t9 (.int .i64 6) fun t56 =>
            condW t56 (
              callF Tryz.prog 80 [v0, (.int .u8 123)] w1 fun t58 w17 =>
              fldW 3 t3 fun t59 =>
              ldW false 1 t59 w17 fun t60 =>
              lenlW t60 fun t61 =>
              LoopW [(.int .i64 0)] w17 fun s18 _ w19 L18 =>
                binW .lss (s18.getD 0 undef) t61 fun t63 =>
                condW t63 (
                  ixaW none 5 t60 (s18.getD 0 undef) fun t65 =>
                  ldW true 5 t65 w19 fun t66 =>
                  allocW 26 [(.int .i64 0), (.bool false), (.string (ofL [])), (.slice none 0 0), (.slice none 0 0)] w19 fun t7 w20 =>
                  stW 5 t7 t66 w20 fun w21 =>
                  JoinW (fun J22 =>
                    binW .gtr (s18.getD 0 undef) (.int .i64 0) fun t68 =>
                    condW t68 (
                      callF Tryz.prog 80 [v0, (.int .u8 44)] w21 fun t70 w23 =>
                      J22 [] w23) (
                      J22 [] w21))
                  fun s22 _ w24 =>
                  fldW 4 t3 fun t72 =>
                  ldW false 1 t72 w24 fun t73 =>
                  ixaW none 1 t73 (s18.getD 0 undef) fun t75 =>
                  ldW false 1 t75 w24 fun t76 =>
                  callF Tryz.prog 105 [v0, t76] w24 fun t77 w25 =>
                  callF Tryz.prog 80 [v0, (.int .u8 58)] w25 fun t79 w26 =>
                  ldW true 5 t7 w26 fun t81 =>
                  callF Tryz.prog 45 [v0, t81] w26 fun t82 w27 =>
                  binW .add (s18.getD 0 undef) (.int .i64 1) fun t83 =>
                  L18 [t83] w27) (
                  callF Tryz.prog 80 [v0, (.int .u8 125)] w19 fun t85 w28 =>
                  K (.tuple #[]) w28)) (
              K (.tuple #[]) w1))))))
theorem W45_eq (v0 v1 : Value) (w : World) (K : Value → World → Prop) : funW Tryz.prog Tryz.f45 plan45 [v0, v1] w K = W45 v0 v1 w K := by kernel_rfl
theorem W45_chk : chkFun Tryz.prog Tryz.f45 plan45 2 = true := by kernel_rfl
theorem W45_ok {v0 v1 : Value} {w : World} {K : Value → World → Prop} (h : W45 v0 v1 w K) : callF Tryz.prog 45 [v0, v1] w K :=
  tie Tryz.prog 45 Tryz.f45 plan45 [v0, v1] w K 2 (W45 v0 v1 w K) rfl mixed Tryz.func45 W45_chk (W45_eq v0 v1 w K) Tryz.call45 h

/- purlin_purlinref03.texts -/
def plan49 : Plan := { js := [(37, ⟨[26], [2, 4], 26⟩), (14, ⟨[12], [2, 3], 12⟩)], ds := [] }
def W49 (v0 : Value) (w : World) (K : Value → World → Prop) : Prop :=
  boxW 26 v0 w fun t1 w1 =>
  fldW 2 t1 fun t5 =>
  ldW false 1 t5 w1 fun t6 =>
  callF Tryz.prog 82 [t6] w1 fun t7 w2 =>
  binW .geq t7 (.int .i64 0) fun t8 =>
  condW t8 (
    K (.bool false) w2) (
    fldW 4 t1 fun t9 =>
    ldW false 1 t9 w2 fun t10 =>
    lenlW t10 fun t11 =>
    LoopW [(.int .i64 0)] w2 fun s3 _ w4 L3 =>
      binW .lss (s3.getD 0 undef) t11 fun t13 =>
      condW t13 (
        fldW 4 t1 fun t15 =>
        ldW false 1 t15 w4 fun t16 =>
        ixaW none 1 t16 (s3.getD 0 undef) fun t18 =>
        ldW false 1 t18 w4 fun t19 =>
        callF Tryz.prog 82 [t19] w4 fun t20 w5 =>
        binW .geq t20 (.int .i64 0) fun t21 =>
        condW t21 (
          K (.bool false) w5) (
          binW .add (s3.getD 0 undef) (.int .i64 1) fun t22 =>
          L3 [t22] w5)) (
        fldW 3 t1 fun t23 =>
        ldW false 1 t23 w4 fun t24 =>
        lenlW t24 fun t25 =>
        LoopW [(.int .i64 0)] w4 fun s6 _ w7 L6 =>
          binW .lss (s6.getD 0 undef) t25 fun t27 =>
          condW t27 (
            fldW 3 t1 fun t29 =>
            ldW false 1 t29 w7 fun t30 =>
            ixaW none 5 t30 (s6.getD 0 undef) fun t32 =>
            ldW true 5 t32 w7 fun t33 =>
            callF Tryz.prog 49 [t33] w7 fun t34 w8 =>
            unW .not t34 fun t35 =>
            condW t35 (
              K (.bool false) w8) (
              binW .add (s6.getD 0 undef) (.int .i64 1) fun t36 =>
              L6 [t36] w8)) (
            K (.bool true) w7)))
theorem W49_eq (v0 : Value) (w : World) (K : Value → World → Prop) : funW Tryz.prog Tryz.f49 plan49 [v0] w K = W49 v0 w K := by kernel_rfl
theorem W49_chk : chkFun Tryz.prog Tryz.f49 plan49 1 = true := by kernel_rfl
theorem W49_ok {v0 : Value} {w : World} {K : Value → World → Prop} (h : W49 v0 w K) : callF Tryz.prog 49 [v0] w K :=
  tie Tryz.prog 49 Tryz.f49 plan49 [v0] w K 1 (W49 v0 w K) rfl mixed Tryz.func49 W49_chk (W49_eq v0 w K) Tryz.call49 h

/- purlin_purlinref03.Show -/
def plan50 : Plan := { js := [(62, ⟨[3], [3], 26⟩), (56, ⟨[3], [3], 26⟩), (45, ⟨[3, 25], [3, 4], 25⟩)], ds := [] }
def W50 (v0 : Value) (w : World) (K : Value → World → Prop) : Prop :=
  boxW 26 v0 w fun t1 w1 =>
  fldW 0 t1 fun t5 =>
  ldW false 1 t5 w1 fun t6 =>
  binW .eql t6 (.int .i64 0) fun t8 =>
  condW t8 (
    K (.string (ofL [110, 117, 108, 108])) w1) (
    binW .eql t6 (.int .i64 2) fun t10 =>
    condW t10 (
      fldW 1 t1 fun t11 =>
      ldW false 1 t11 w1 fun t12 =>
      condW t12 (
        K (.string (ofL [116, 114, 117, 101])) w1) (
        K (.string (ofL [102, 97, 108, 115, 101])) w1)) (
      binW .eql t6 (.int .i64 3) fun t14 =>
      condW t14 (
        fldW 2 t1 fun t15 =>
        ldW false 1 t15 w1 fun t16 =>
        K t16 w1) (
        binW .eql t6 (.int .i64 4) fun t18 =>
        condW t18 (
          fldW 2 t1 fun t19 =>
          ldW false 1 t19 w1 fun t20 =>
          callF Tryz.prog 83 [t20] w1 fun t21 w2 =>
          K t21 w2) (
          fldW 3 t1 fun t22 =>
          ldW false 1 t22 w1 fun t23 =>
          lenlW t23 fun t24 =>
          LoopW [(.string (ofL [])), (.int .i64 0)] w1 fun s3 _ w4 L3 =>
            binW .lss (s3.getD 1 undef) t24 fun t26 =>
            condW t26 (
              JoinW (fun J5 =>
                binW .gtr (s3.getD 1 undef) (.int .i64 0) fun t29 =>
                condW t29 (
                  binW .add (s3.getD 0 undef) (.string (ofL [44])) fun t31 =>
                  J5 [t31] w4) (
                  J5 [(s3.getD 0 undef)] w4))
              fun s5 _ w6 =>
              JoinW (fun J7 =>
                fldW 0 t1 fun t32 =>
                ldW false 1 t32 w6 fun t33 =>
                binW .eql t33 (.int .i64 6) fun t34 =>
                condW t34 (
                  fldW 4 t1 fun t36 =>
                  ldW false 1 t36 w6 fun t37 =>
                  ixaW none 1 t37 (s3.getD 1 undef) fun t39 =>
                  ldW false 1 t39 w6 fun t40 =>
                  callF Tryz.prog 83 [t40] w6 fun t41 w8 =>
                  binW .add (s5.getD 0 undef) t41 fun t42 =>
                  binW .add t42 (.string (ofL [58])) fun t43 =>
                  J7 [t43] w8) (
                  J7 [(s5.getD 0 undef)] w6))
              fun s7 _ w9 =>
              fldW 3 t1 fun t45 =>
              ldW false 1 t45 w9 fun t46 =>
              ixaW none 5 t46 (s3.getD 1 undef) fun t48 =>
              ldW true 5 t48 w9 fun t49 =>
              callF Tryz.prog 50 [t49] w9 fun t50 w10 =>
              binW .add (s7.getD 0 undef) t50 fun t51 =>
              binW .add (s3.getD 1 undef) (.int .i64 1) fun t52 =>
              L3 [t51, t52] w10) (
              fldW 0 t1 fun t53 =>
              ldW false 1 t53 w4 fun t54 =>
              binW .eql t54 (.int .i64 6) fun t55 =>
              condW t55 (
                binW .add (.string (ofL [123])) (s3.getD 0 undef) fun t57 =>
                binW .add t57 (.string (ofL [125])) fun t58 =>
                K t58 w4) (
                binW .add (.string (ofL [91])) (s3.getD 0 undef) fun t60 =>
                binW .add t60 (.string (ofL [93])) fun t61 =>
                K t61 w4))))))
theorem W50_eq (v0 : Value) (w : World) (K : Value → World → Prop) : funW Tryz.prog Tryz.f50 plan50 [v0] w K = W50 v0 w K := by kernel_rfl
theorem W50_chk : chkFun Tryz.prog Tryz.f50 plan50 1 = true := by kernel_rfl
theorem W50_ok {v0 : Value} {w : World} {K : Value → World → Prop} (h : W50 v0 w K) : callF Tryz.prog 50 [v0] w K :=
  tie Tryz.prog 50 Tryz.f50 plan50 [v0] w K 1 (W50 v0 w K) rfl mixed Tryz.func50 W50_chk (W50_eq v0 w K) Tryz.call50 h

/- purlin_purlinref03.Encode -/
def plan17 : Plan := { js := [], ds := [] }
def W17 (v0 : Value) (w : World) (K : Value → World → Prop) : Prop :=
  boxW 26 v0 w fun t1 w1 =>
  ldW true 5 t1 w1 fun t5 =>
  callF Tryz.prog 22 [t5] w1 fun t6 w2 =>
  unW .not t6 fun t7 =>
  condW t7 (
    K (.tuple #[(.string (ofL [])), (.int .i64 1)]) w2) (
    ldW true 5 t1 w2 fun t8 =>
    callF Tryz.prog 48 [t8] w2 fun t9 w3 =>
    unW .not t9 fun t10 =>
    condW t10 (
      K (.tuple #[(.string (ofL [])), (.int .i64 20)]) w3) (
      ldW true 5 t1 w3 fun t11 =>
      callF Tryz.prog 49 [t11] w3 fun t12 w4 =>
      unW .not t12 fun t13 =>
      condW t13 (
        K (.tuple #[(.string (ofL [])), (.int .i64 31)]) w4) (
        ldW true 5 t1 w4 fun t14 =>
        callF Tryz.prog 50 [t14] w4 fun t15 w5 =>
        lensW t15 fun t17 =>
        binW .gtr t17 (.int .i64 65536) fun t18 =>
        condW t18 (
          K (.tuple #[(.string (ofL [])), (.int .i64 3)]) w5) (
          K (.tuple #[t15, (.int .i64 0)]) w5))))
theorem W17_eq (v0 : Value) (w : World) (K : Value → World → Prop) : funW Tryz.prog Tryz.f17 plan17 [v0] w K = W17 v0 w K := by kernel_rfl
theorem W17_chk : chkFun Tryz.prog Tryz.f17 plan17 1 = true := by kernel_rfl
theorem W17_ok {v0 : Value} {w : World} {K : Value → World → Prop} (h : W17 v0 w K) : callF Tryz.prog 17 [v0] w K :=
  tie Tryz.prog 17 Tryz.f17 plan17 [v0] w K 1 (W17 v0 w K) rfl mixed Tryz.func17 W17_chk (W17_eq v0 w K) Tryz.call17 h

/- purlin_purlinref03.Bad -/
def plan82 : Plan := { js := [(6, ⟨[3], [], 1⟩)], ds := [] }
def W82 (v0 : Value) (w : World) (K : Value → World → Prop) : Prop :=
  LoopW [(.int .i64 0)] w fun s1 _ w2 L1 =>
    lensW v0 fun t7 =>
    binW .lss (s1.getD 0 undef) t7 fun t8 =>
    condW t8 (
      callF Tryz.prog 127 [v0, (s1.getD 0 undef)] w2 fun t11 w3 =>
      binW .eql t11 (.int .i64 0) fun t13 =>
      condW t13 (
        K (s1.getD 0 undef) w3) (
        binW .add (s1.getD 0 undef) t11 fun t17 =>
        L1 [t17] w3)) (
      K (.int .i64 (-1)) w2)
theorem W82_eq (v0 : Value) (w : World) (K : Value → World → Prop) : funW Tryz.prog Tryz.f82 plan82 [v0] w K = W82 v0 w K := by kernel_rfl
theorem W82_chk : chkFun Tryz.prog Tryz.f82 plan82 1 = true := by kernel_rfl
theorem W82_ok {v0 : Value} {w : World} {K : Value → World → Prop} (h : W82 v0 w K) : callF Tryz.prog 82 [v0] w K :=
  tie Tryz.prog 82 Tryz.f82 plan82 [v0] w K 1 (W82 v0 w K) rfl mixed Tryz.func82 W82_chk (W82_eq v0 w K) Tryz.call82 h

/- purlin_purlinref03.Quote -/
def plan83 : Plan := { js := [(15, ⟨[3], [3], 5⟩), (22, ⟨[32], [], 17⟩), (8, ⟨[3, 4], [], 1⟩)], ds := [] }
def W83 (v0 : Value) (w : World) (K : Value → World → Prop) : Prop :=
  bslW 5 1 [(.int .u8 0)] [(0, 1, (.int .u8 34))] w fun t6 w1 =>
  LoopW [t6, (.int .i64 0)] w1 fun s2 _ w3 L2 =>
    lensW v0 fun t9 =>
    binW .lss (s2.getD 1 undef) t9 fun t10 =>
    condW t10 (
      JoinW (fun J4 =>
        ixsW v0 (s2.getD 1 undef) fun t15 =>
        JoinW (fun J5 =>
          binW .eql t15 (.int .u8 34) fun t33 =>
          condW t33 (
            J5 [t33] w3) (
            binW .eql t15 (.int .u8 92) fun t34 =>
            J5 [t34] w3))
        fun s5 _ w6 =>
        condW (s5.getD 0 undef) (
          bslW 5 2 [(.int .u8 0), (.int .u8 0)] [(0, 1, (.int .u8 92)), (1, 1, t15)] w6 fun t37 w7 =>
          semE Tryz.prog (Builtin.append_ #[44, 44] 44 #[(s2.getD 0 undef), t37]) w7 fun t38 w8 =>
          J4 [t38] w8) (
          binW .eql t15 (.int .u8 8) fun t40 =>
          condW t40 (
            bslW 5 2 [(.int .u8 0), (.int .u8 0)] [(0, 1, (.int .u8 92)), (1, 1, (.int .u8 98))] w6 fun t42 w9 =>
            semE Tryz.prog (Builtin.append_ #[44, 44] 44 #[(s2.getD 0 undef), t42]) w9 fun t43 w10 =>
            J4 [t43] w10) (
            binW .eql t15 (.int .u8 12) fun t45 =>
            condW t45 (
              bslW 5 2 [(.int .u8 0), (.int .u8 0)] [(0, 1, (.int .u8 92)), (1, 1, (.int .u8 102))] w6 fun t47 w11 =>
              semE Tryz.prog (Builtin.append_ #[44, 44] 44 #[(s2.getD 0 undef), t47]) w11 fun t48 w12 =>
              J4 [t48] w12) (
              binW .eql t15 (.int .u8 10) fun t50 =>
              condW t50 (
                bslW 5 2 [(.int .u8 0), (.int .u8 0)] [(0, 1, (.int .u8 92)), (1, 1, (.int .u8 110))] w6 fun t52 w13 =>
                semE Tryz.prog (Builtin.append_ #[44, 44] 44 #[(s2.getD 0 undef), t52]) w13 fun t53 w14 =>
                J4 [t53] w14) (
                binW .eql t15 (.int .u8 13) fun t55 =>
                condW t55 (
                  bslW 5 2 [(.int .u8 0), (.int .u8 0)] [(0, 1, (.int .u8 92)), (1, 1, (.int .u8 114))] w6 fun t57 w15 =>
                  semE Tryz.prog (Builtin.append_ #[44, 44] 44 #[(s2.getD 0 undef), t57]) w15 fun t58 w16 =>
                  J4 [t58] w16) (
                  binW .eql t15 (.int .u8 9) fun t60 =>
                  condW t60 (
                    bslW 5 2 [(.int .u8 0), (.int .u8 0)] [(0, 1, (.int .u8 92)), (1, 1, (.int .u8 116))] w6 fun t62 w17 =>
                    semE Tryz.prog (Builtin.append_ #[44, 44] 44 #[(s2.getD 0 undef), t62]) w17 fun t63 w18 =>
                    J4 [t63] w18) (
                    binW .lss t15 (.int .u8 32) fun t18 =>
                    condW t18 (
                      binW .quo t15 (.int .u8 16) fun t21 =>
                      binW .add (.int .u8 48) t21 fun t22 =>
                      binW .rem t15 (.int .u8 16) fun t24 =>
                      ixsW (.string (ofL [48, 49, 50, 51, 52, 53, 54, 55, 56, 57, 97, 98, 99, 100, 101, 102])) t24 fun t25 =>
                      bslW 5 6 [(.int .u8 0), (.int .u8 0), (.int .u8 0), (.int .u8 0), (.int .u8 0), (.int .u8 0)] [(0, 1, (.int .u8 92)), (1, 1, (.int .u8 117)), (2, 1, (.int .u8 48)), (3, 1, (.int .u8 48)), (4, 1, t22), (5, 1, t25)] w6 fun t26 w19 =>
                      semE Tryz.prog (Builtin.append_ #[44, 44] 44 #[(s2.getD 0 undef), t26]) w19 fun t27 w20 =>
                      J4 [t27] w20) (
                      bslW 5 1 [(.int .u8 0)] [(0, 1, t15)] w6 fun t30 w21 =>
                      semE Tryz.prog (Builtin.append_ #[44, 44] 44 #[(s2.getD 0 undef), t30]) w21 fun t31 w22 =>
                      J4 [t31] w22))))))))
      fun s4 _ w23 =>
      binW .add (s2.getD 1 undef) (.int .i64 1) fun t12 =>
      L2 [(s4.getD 0 undef), t12] w23) (
      bslW 5 1 [(.int .u8 0)] [(0, 1, (.int .u8 34))] w3 fun t65 w24 =>
      semE Tryz.prog (Builtin.append_ #[44, 44] 44 #[(s2.getD 0 undef), t65]) w24 fun t66 w25 =>
      semQ Tryz.prog (convert 44 9 t66) w25 fun t67 =>
      K t67 w25)
theorem W83_eq (v0 : Value) (w : World) (K : Value → World → Prop) : funW Tryz.prog Tryz.f83 plan83 [v0] w K = W83 v0 w K := by kernel_rfl
theorem W83_chk : chkFun Tryz.prog Tryz.f83 plan83 1 = true := by kernel_rfl
theorem W83_ok {v0 : Value} {w : World} {K : Value → World → Prop} (h : W83 v0 w K) : callF Tryz.prog 83 [v0] w K :=
  tie Tryz.prog 83 Tryz.f83 plan83 [v0] w K 1 (W83 v0 w K) rfl mixed Tryz.func83 W83_chk (W83_eq v0 w K) Tryz.call83 h

/- purlin_jsonc.texts_1 -/
def plan101 : Plan := { js := [], ds := [] }
def W101 (v0 : Value) (w : World) (K : Value → World → Prop) : Prop :=
  callF Tryz.prog 102 [v0] w fun t4 w1 =>
  unW .not t4 fun t5 =>
  K t5 w1
theorem W101_eq (v0 : Value) (w : World) (K : Value → World → Prop) : funW Tryz.prog Tryz.f101 plan101 [v0] w K = W101 v0 w K := by kernel_rfl
theorem W101_chk : chkFun Tryz.prog Tryz.f101 plan101 1 = true := by kernel_rfl
theorem W101_ok {v0 : Value} {w : World} {K : Value → World → Prop} (h : W101 v0 w K) : callF Tryz.prog 101 [v0] w K :=
  tie Tryz.prog 101 Tryz.f101 plan101 [v0] w K 1 (W101 v0 w K) rfl mixed Tryz.func101 W101_chk (W101_eq v0 w K) Tryz.call101 h

/- purlin_jsonc.texts_2 -/
def plan103 : Plan := { js := [], ds := [] }
def W103 (v0 : Value) (w : World) (K : Value → World → Prop) : Prop :=
  boxW 26 v0 w fun t1 w1 =>
  ldW true 5 t1 w1 fun t3 =>
  callF Tryz.prog 44 [t3] w1 fun t4 w2 =>
  unW .not t4 fun t5 =>
  K t5 w2
theorem W103_eq (v0 : Value) (w : World) (K : Value → World → Prop) : funW Tryz.prog Tryz.f103 plan103 [v0] w K = W103 v0 w K := by kernel_rfl
theorem W103_chk : chkFun Tryz.prog Tryz.f103 plan103 1 = true := by kernel_rfl
theorem W103_ok {v0 : Value} {w : World} {K : Value → World → Prop} (h : W103 v0 w K) : callF Tryz.prog 103 [v0] w K :=
  tie Tryz.prog 103 Tryz.f103 plan103 [v0] w K 1 (W103 v0 w K) rfl mixed Tryz.func103 W103_chk (W103_eq v0 w K) Tryz.call103 h

/- purlin_jsonc.quote -/
def plan105 : Plan := { js := [(6, ⟨[], [5, 6], 11⟩)], ds := [] }
def W105 (v0 v1 : Value) (w : World) (K : Value → World → Prop) : Prop :=
  callF Tryz.prog 80 [v0, (.int .u8 34)] w fun t8 w1 =>
  semE Tryz.prog (Instr.range 9 v1) w1 fun t10 w2 =>
  LoopW [] w2 fun s3 _ w4 L3 =>
    semE Tryz.prog (Instr.next t10 true 0) w4 fun t11 w5 =>
    extW 0 t11 fun t12 =>
    condW t12 (
      extW 2 t11 fun t13 =>
      callF Tryz.prog 153 [t13] w5 fun t15 w6 =>
      binW .neq t15 (.int .u8 0) fun t21 =>
      condW t21 (
        cvtW .i32 t15 fun t24 =>
        cvsW t24 fun t25 =>
        binW .add (.string (ofL [92])) t25 fun t26 =>
        callF Tryz.prog 78 [v0, t26] w6 fun t27 w7 =>
        L3 [] w7) (
        binW .lss t13 (.int .i32 32) fun t30 =>
        condW t30 (
          cvtW .i64 t13 fun t33 =>
          binW .add t33 (.int .i64 256) fun t34 =>
          callF Tryz.prog 154 [t34, (.int .i64 16)] w6 fun t35 w8 =>
          slsW t35 (some (.int .i64 1)) none fun t36 =>
          binW .add (.string (ofL [92, 117, 48, 48])) t36 fun t37 =>
          callF Tryz.prog 78 [v0, t37] w8 fun t38 w9 =>
          L3 [] w9) (
          callF Tryz.prog 155 [v0, t13] w6 fun t18 w10 =>
          L3 [] w10))) (
      callF Tryz.prog 80 [v0, (.int .u8 34)] w5 fun t40 w11 =>
      K (.tuple #[]) w11)
theorem W105_eq (v0 v1 : Value) (w : World) (K : Value → World → Prop) : funW Tryz.prog Tryz.f105 plan105 [v0, v1] w K = W105 v0 v1 w K := by kernel_rfl
theorem W105_chk : chkFun Tryz.prog Tryz.f105 plan105 2 = true := by kernel_rfl
theorem W105_ok {v0 v1 : Value} {w : World} {K : Value → World → Prop} (h : W105 v0 v1 w K) : callF Tryz.prog 105 [v0, v1] w K :=
  tie Tryz.prog 105 Tryz.f105 plan105 [v0, v1] w K 2 (W105 v0 v1 w K) rfl mixed Tryz.func105 W105_chk (W105_eq v0 v1 w K) Tryz.call105 h

/- purlin_jsonc.short -/
def plan153 : Plan := { js := [(6, ⟨[4], [], 4⟩)], ds := [] }
def W153 (v0 : Value) (w : World) (K : Value → World → Prop) : Prop :=
  JoinW (fun J1 =>
    binW .eql v0 (.int .i32 34) fun t5 =>
    condW t5 (
      J1 [t5] w) (
      binW .eql v0 (.int .i32 92) fun t6 =>
      J1 [t6] w))
  fun s1 _ w2 =>
  condW (s1.getD 0 undef) (
    cvtW .u8 v0 fun t8 =>
    K t8 w2) (
    binW .eql v0 (.int .i32 8) fun t10 =>
    condW t10 (
      K (.int .u8 98) w2) (
      binW .eql v0 (.int .i32 12) fun t12 =>
      condW t12 (
        K (.int .u8 102) w2) (
        binW .eql v0 (.int .i32 10) fun t14 =>
        condW t14 (
          K (.int .u8 110) w2) (
          binW .eql v0 (.int .i32 13) fun t16 =>
          condW t16 (
            K (.int .u8 114) w2) (
            binW .eql v0 (.int .i32 9) fun t18 =>
            condW t18 (
              K (.int .u8 116) w2) (
              K (.int .u8 0) w2))))))
theorem W153_eq (v0 : Value) (w : World) (K : Value → World → Prop) : funW Tryz.prog Tryz.f153 plan153 [v0] w K = W153 v0 w K := by kernel_rfl
theorem W153_chk : chkFun Tryz.prog Tryz.f153 plan153 1 = true := by kernel_rfl
theorem W153_ok {v0 : Value} {w : World} {K : Value → World → Prop} (h : W153 v0 w K) : callF Tryz.prog 153 [v0] w K :=
  tie Tryz.prog 153 Tryz.f153 plan153 [v0] w K 1 (W153 v0 w K) rfl mixed Tryz.func153 W153_chk (W153_eq v0 w K) Tryz.call153 h

/- purlin_value.Good -/
def plan42 : Plan := { js := [], ds := [] }
def W42 (v0 : Value) (w : World) (K : Value → World → Prop) : Prop :=
  boxW 26 v0 w fun t1 w1 =>
  allocW 3 [(.int .i64 0)] w1 fun t3 w2 =>
  stW 1 t3 (.int .i64 2000) w2 fun w3 =>
  ldW true 5 t1 w3 fun t4 =>
  callF Tryz.prog 98 [t4, (.int .i64 24), t3] w3 fun t5 w4 =>
  K t5 w4
theorem W42_eq (v0 : Value) (w : World) (K : Value → World → Prop) : funW Tryz.prog Tryz.f42 plan42 [v0] w K = W42 v0 w K := by kernel_rfl
theorem W42_chk : chkFun Tryz.prog Tryz.f42 plan42 1 = true := by kernel_rfl
theorem W42_ok {v0 : Value} {w : World} {K : Value → World → Prop} (h : W42 v0 w K) : callF Tryz.prog 42 [v0] w K :=
  tie Tryz.prog 42 Tryz.f42 plan42 [v0] w K 1 (W42 v0 w K) rfl mixed Tryz.func42 W42_chk (W42_eq v0 w K) Tryz.call42 h

/- purlin_value.good -/
def plan98 : Plan := { js := [(89007, ⟨[130], [], 126⟩), (12, ⟨[], [], 6⟩), (78002, ⟨[119], [], 108⟩), (78010, ⟨[118], [], 111⟩), (78013, ⟨[110], [], 108⟩), (66, ⟨[99], [6, 7, 8], 99⟩), (40010, ⟨[79], [], 72⟩), (34010, ⟨[63], [], 56⟩), (28010, ⟨[48], [], 41⟩), (16, ⟨[33], [], 33⟩), (6002, ⟨[29], [], 23⟩), (6005, ⟨[28], [], 26⟩), (6008, ⟨[25], [], 23⟩), (6014, ⟨[20], [], 17⟩)], ds := [] }
def W98 (v0 v1 v2 : Value) (w : World) (K : Value → World → Prop) : Prop :=
  boxW 26 v0 w fun t3 w1 =>
  boxW 3 v1 w1 fun t4 w2 =>
  boxW 132 v2 w2 fun t5 w3 =>
  ldW false 1 t5 w3 fun t9 =>
  nilW t9 fun t10 =>
  ldW false 1 t10 w3 fun t11 =>
  binW .sub t11 (.int .i64 1) fun t12 =>
  nilW t9 fun t13 =>
  stW 1 t13 t12 w3 fun w4 =>
  ldW false 1 t4 w4 fun t14 =>
  binW .eql t14 (.int .i64 0) fun t15 =>
  GdW (isB t15 false) [undef] w4 (fun J5 =>
    ldW false 1 t5 w4 fun t17 =>
    nilW t17 fun t18 =>
    ldW false 1 t18 w4 fun t19 =>
    binW .lss t19 (.int .i64 0) fun t20 =>
    J5 [t20] w4)
  fun s5 _ w6 =>
  pickW t15 (.bool true) (s5.getD 0 undef) fun t21 =>
  GdW (isB t21 false) [undef] w6 (fun J7 =>
    fldW 1 t3 fun t23 =>
    ldW false 1 t23 w6 fun t24 =>
    J7 [t24] w6)
  fun s7 _ w8 =>
  GdW (isB (s7.getD 0 undef) true) [undef] w8 (fun J9 =>
    fldW 0 t3 fun t26 =>
    ldW false 1 t26 w8 fun t27 =>
    binW .neq t27 (.int .i64 2) fun t28 =>
    J9 [t28] w8)
  fun s9 _ w10 =>
  GdW (isB t21 false) [undef] w10 (fun J11 =>
    pickW (s7.getD 0 undef) (s9.getD 0 undef) (.bool false) fun t29 =>
    J11 [t29] w10)
  fun s11 _ w12 =>
  pickW t21 (.bool true) (s11.getD 0 undef) fun t30 =>
  condW t30 (
    K (.bool false) w12) (
    JoinW (fun J13 =>
      fldW 0 t3 fun t31 =>
      ldW false 1 t31 w12 fun t32 =>
      JoinW (fun J14 =>
        binW .eql t32 (.int .i64 0) fun t34 =>
        condW t34 (
          J14 [t34] w12) (
          binW .eql t32 (.int .i64 1) fun t35 =>
          condW t35 (
            J14 [t35] w12) (
            binW .eql t32 (.int .i64 2) fun t36 =>
            J14 [t36] w12)))
      fun s14 _ w15 =>
      condW (s14.getD 0 undef) (
        fldW 2 t3 fun t37 =>
        ldW false 1 t37 w15 fun t38 =>
        binW .eql t38 (.string (ofL [])) fun t39 =>
        GdW (isB t39 true) [undef] w15 (fun J16 =>
          fldW 3 t3 fun t41 =>
          ldW false 1 t41 w15 fun t42 =>
          lenlW t42 fun t43 =>
          fldW 4 t3 fun t44 =>
          ldW false 1 t44 w15 fun t45 =>
          lenlW t45 fun t46 =>
          binW .add t43 t46 fun t47 =>
          binW .eql t47 (.int .i64 0) fun t48 =>
          J16 [t48] w15)
        fun s16 _ w17 =>
        pickW t39 (s16.getD 0 undef) (.bool false) fun t49 =>
        K t49 w17) (
        binW .eql t32 (.int .i64 3) fun t51 =>
        condW t51 (
          fldW 2 t3 fun t52 =>
          ldW false 1 t52 w15 fun t53 =>
          callF Tryz.prog 148 [t53] w15 fun t54 w18 =>
          GdW (isB t54 true) [undef] w18 (fun J19 =>
            fldW 3 t3 fun t56 =>
            ldW false 1 t56 w18 fun t57 =>
            lenlW t57 fun t58 =>
            fldW 4 t3 fun t59 =>
            ldW false 1 t59 w18 fun t60 =>
            lenlW t60 fun t61 =>
            binW .add t58 t61 fun t62 =>
            binW .eql t62 (.int .i64 0) fun t63 =>
            J19 [t63] w18)
          fun s19 _ w20 =>
          pickW t54 (s19.getD 0 undef) (.bool false) fun t64 =>
          K t64 w20) (
          binW .eql t32 (.int .i64 4) fun t66 =>
          condW t66 (
            fldW 2 t3 fun t67 =>
            ldW false 1 t67 w15 fun t68 =>
            lensW t68 fun t69 =>
            binW .leq t69 (.int .i64 16384) fun t70 =>
            GdW (isB t70 true) [undef] w15 (fun J21 =>
              fldW 3 t3 fun t72 =>
              ldW false 1 t72 w15 fun t73 =>
              lenlW t73 fun t74 =>
              fldW 4 t3 fun t75 =>
              ldW false 1 t75 w15 fun t76 =>
              lenlW t76 fun t77 =>
              binW .add t74 t77 fun t78 =>
              binW .eql t78 (.int .i64 0) fun t79 =>
              J21 [t79] w15)
            fun s21 _ w22 =>
            pickW t70 (s21.getD 0 undef) (.bool false) fun t80 =>
            K t80 w22) (
            binW .eql t32 (.int .i64 5) fun t82 =>
            condW t82 (
              fldW 4 t3 fun t83 =>
              ldW false 1 t83 w15 fun t84 =>
              lenlW t84 fun t85 =>
              binW .gtr t85 (.int .i64 0) fun t86 =>
              condW t86 (
                K (.bool false) w15) (
                J13 [] w15)) (
              binW .eql t32 (.int .i64 6) fun t88 =>
              condW t88 (
                fldW 4 t3 fun t89 =>
                ldW false 1 t89 w15 fun t90 =>
                lenlW t90 fun t91 =>
                fldW 3 t3 fun t92 =>
                ldW false 1 t92 w15 fun t93 =>
                lenlW t93 fun t94 =>
                binW .neq t91 t94 fun t95 =>
                condW t95 (
                  K (.bool false) w15) (
                  fldW 4 t3 fun t96 =>
                  ldW false 1 t96 w15 fun t97 =>
                  lenlW t97 fun t98 =>
                  LoopW [(.int .i64 0)] w15 fun s23 _ w24 L23 =>
                    binW .lss (s23.getD 0 undef) t98 fun t100 =>
                    condW t100 (
                      ixaW none 1 t97 (s23.getD 0 undef) fun t102 =>
                      ldW false 1 t102 w24 fun t103 =>
                      lensW t103 fun t105 =>
                      binW .gtr t105 (.int .i64 16384) fun t106 =>
                      GdW (isB t106 false) [undef] w24 (fun J25 =>
                        binW .gtr (s23.getD 0 undef) (.int .i64 0) fun t109 =>
                        J25 [t109] w24)
                      fun s25 _ w26 =>
                      GdW (isB (s25.getD 0 undef) true) [undef] w26 (fun J27 =>
                        fldW 4 t3 fun t111 =>
                        ldW false 1 t111 w26 fun t112 =>
                        binW .sub (s23.getD 0 undef) (.int .i64 1) fun t114 =>
                        ixaW none 1 t112 t114 fun t115 =>
                        ldW false 1 t115 w26 fun t116 =>
                        binW .geq t116 t103 fun t118 =>
                        J27 [t118] w26)
                      fun s27 _ w28 =>
                      GdW (isB t106 false) [undef] w28 (fun J29 =>
                        pickW (s25.getD 0 undef) (s27.getD 0 undef) (.bool false) fun t119 =>
                        J29 [t119] w28)
                      fun s29 _ w30 =>
                      pickW t106 (.bool true) (s29.getD 0 undef) fun t120 =>
                      condW t120 (
                        K (.bool false) w30) (
                        binW .add (s23.getD 0 undef) (.int .i64 1) fun t121 =>
                        L23 [t121] w30)) (
                      J13 [] w24))) (
                K (.bool false) w15))))))
    fun s13 _ w31 =>
    fldW 2 t3 fun t122 =>
    ldW false 1 t122 w31 fun t123 =>
    binW .eql t123 (.string (ofL [])) fun t124 =>
    GdW (isB t124 true) [undef] w31 (fun J32 =>
      fldW 3 t3 fun t126 =>
      ldW false 1 t126 w31 fun t127 =>
      callF Tryz.prog 99 [t127, (.func (.func 149) #[] #[t4, t5])] w31 fun t129 w33 =>
      unW .not t129 fun t130 =>
      J32 [t130] w33)
    fun s32 _ w34 =>
    pickW t124 (s32.getD 0 undef) (.bool false) fun t131 =>
    K t131 w34)
theorem W98_eq (v0 v1 v2 : Value) (w : World) (K : Value → World → Prop) : funW Tryz.prog Tryz.f98 plan98 [v0, v1, v2] w K = W98 v0 v1 v2 w K := by kernel_rfl
theorem W98_chk : chkFun Tryz.prog Tryz.f98 plan98 3 = true := by kernel_rfl
theorem W98_ok {v0 v1 v2 : Value} {w : World} {K : Value → World → Prop} (h : W98 v0 v1 v2 w K) : callF Tryz.prog 98 [v0, v1, v2] w K :=
  tie Tryz.prog 98 Tryz.f98 plan98 [v0, v1, v2] w K 3 (W98 v0 v1 v2 w K) rfl mixed Tryz.func98 W98_chk (W98_eq v0 v1 v2 w K) Tryz.call98 h

/- purlin_value.good_1 -/
def plan149 : Plan := { js := [], ds := [] }
def W149 (v0 v1 v2 : Value) (w : World) (K : Value → World → Prop) : Prop :=
  boxW 26 v0 w fun t3 w1 =>
  ldW true 5 t3 w1 fun t5 =>
  ldW false 1 v1 w1 fun t6 =>
  binW .sub t6 (.int .i64 1) fun t7 =>
  ldW false 1 v2 w1 fun t8 =>
  callF Tryz.prog 98 [t5, t7, t8] w1 fun t9 w2 =>
  unW .not t9 fun t10 =>
  K t10 w2
theorem W149_eq (v0 v1 v2 : Value) (w : World) (K : Value → World → Prop) : funW Tryz.prog Tryz.f149 plan149 [v0, v1, v2] w K = W149 v0 v1 v2 w K := by kernel_rfl
theorem W149_chk : chkFun Tryz.prog Tryz.f149 plan149 3 = true := by kernel_rfl
theorem W149_ok {v0 v1 v2 : Value} {w : World} {K : Value → World → Prop} (h : W149 v0 v1 v2 w K) : callF Tryz.prog 149 [v0, v1, v2] w K :=
  tie Tryz.prog 149 Tryz.f149 plan149 [v0, v1, v2] w K 3 (W149 v0 v1 v2 w K) rfl mixed Tryz.func149 W149_chk (W149_eq v0 v1 v2 w K) Tryz.call149 h

/- purlin_purlinlaw03.JsoncWrites -/
def plan3 : Plan := { js := [(15005, ⟨[25], [], 23⟩)], ds := [] }
def W3 (v0 : Value) (w : World) (K : Value → World → Prop) : Prop :=
  boxW 26 v0 w fun t1 w1 =>
  callF Tryz.prog 15 [] w1 fun t7 w2 =>
  unW .not t7 fun t8 =>
  condW t8 (
    K (.bool false) w2) (
    ldW true 5 t1 w2 fun t10 =>
    callF Tryz.prog 16 [t10] w2 fun t11 w3 =>
    extW 0 t11 fun t12 =>
    extW 1 t11 fun t13 =>
    ldW true 5 t1 w3 fun t15 =>
    callF Tryz.prog 17 [t15] w3 fun t16 w4 =>
    extW 0 t16 fun t17 =>
    extW 1 t16 fun t18 =>
    binW .eql t12 t17 fun t21 =>
    GdW (isB t21 true) [undef] w4 (fun J5 =>
      binW .eql t13 t18 fun t25 =>
      J5 [t25] w4)
    fun s5 _ w6 =>
    pickW t21 (s5.getD 0 undef) (.bool false) fun t26 =>
    K t26 w6)
theorem W3_eq (v0 : Value) (w : World) (K : Value → World → Prop) : funW Tryz.prog Tryz.f3 plan3 [v0] w K = W3 v0 w K := by kernel_rfl
theorem W3_chk : chkFun Tryz.prog Tryz.f3 plan3 1 = true := by kernel_rfl
theorem W3_ok {v0 : Value} {w : World} {K : Value → World → Prop} (h : W3 v0 w K) : callF Tryz.prog 3 [v0] w K :=
  tie Tryz.prog 3 Tryz.f3 plan3 [v0] w K 1 (W3 v0 w K) rfl mixed Tryz.func3 W3_chk (W3_eq v0 w K) Tryz.call3 h

/- purlin_purlinlaw03.awake -/
def plan15 : Plan := { js := [(9007, ⟨[46], [], 42⟩), (9014, ⟨[39], [], 35⟩), (9018, ⟨[32], [], 31⟩), (9022, ⟨[28], [], 27⟩), (9026, ⟨[24], [], 23⟩)], ds := [] }
def W15 (w : World) (K : Value → World → Prop) : Prop :=
  callF Tryz.prog 18 [(.string (ofL [32, 123, 34, 98, 34, 32, 58, 32, 91, 49, 44, 32, 110, 117, 108, 108, 93, 44, 32, 34, 97, 34, 58, 34, 120, 92, 110, 34, 125]))] w fun t8 w1 =>
  extW 0 t8 fun t9 =>
  extW 1 t8 fun t10 =>
  allocW 26 [(.int .i64 0), (.bool false), (.string (ofL [])), (.slice none 0 0), (.slice none 0 0)] w1 fun t1 w2 =>
  stW 5 t1 t9 w2 fun w3 =>
  ldW true 5 t1 w3 fun t12 =>
  callF Tryz.prog 16 [t12] w3 fun t13 w4 =>
  extW 0 t13 fun t14 =>
  extW 1 t13 fun t15 =>
  callF Tryz.prog 18 [(.string (ofL [91, 49, 44, 93]))] w4 fun t17 w5 =>
  extW 0 t17 fun t18 =>
  extW 1 t17 fun t19 =>
  allocW 26 [(.int .i64 0), (.bool false), (.string (ofL [])), (.slice none 0 0), (.slice none 0 0)] w5 fun t5 w6 =>
  stW 5 t5 t18 w6 fun w7 =>
  eqW .ptr false t10 (.pointer none) fun t21 =>
  GdW (isB t21 true) [undef] w7 (fun J8 =>
    binW .eql t15 (.int .i64 0) fun t24 =>
    J8 [t24] w7)
  fun s8 _ w9 =>
  pickW t21 (s8.getD 0 undef) (.bool false) fun t25 =>
  GdW (isB t25 true) [undef] w9 (fun J10 =>
    binW .eql t14 (.string (ofL [123, 34, 97, 34, 58, 34, 120, 92, 110, 34, 44, 34, 98, 34, 58, 91, 49, 44, 110, 117, 108, 108, 93, 125])) fun t28 =>
    J10 [t28] w9)
  fun s10 _ w11 =>
  pickW t25 (s10.getD 0 undef) (.bool false) fun t29 =>
  GdW (isB t29 true) [undef] w11 (fun J12 =>
    eqW .ptr true t19 (.pointer none) fun t32 =>
    J12 [t32] w11)
  fun s12 _ w13 =>
  pickW t29 (s12.getD 0 undef) (.bool false) fun t33 =>
  GdW (isB t33 true) [undef] w13 (fun J14 =>
    nilW t19 fun t36 =>
    fldW 0 t36 fun t37 =>
    ldW false 1 t37 w13 fun t38 =>
    binW .eql t38 (.int .i64 30) fun t39 =>
    J14 [t39] w13)
  fun s14 _ w15 =>
  pickW t33 (s14.getD 0 undef) (.bool false) fun t40 =>
  GdW (isB t40 true) [undef] w15 (fun J16 =>
    nilW t19 fun t43 =>
    fldW 2 t43 fun t44 =>
    ldW false 1 t44 w15 fun t45 =>
    binW .eql t45 (.int .i64 3) fun t46 =>
    J16 [t46] w15)
  fun s16 _ w17 =>
  pickW t40 (s16.getD 0 undef) (.bool false) fun t47 =>
  K t47 w17
theorem W15_eq (w : World) (K : Value → World → Prop) : funW Tryz.prog Tryz.f15 plan15 [] w K = W15 w K := by kernel_rfl
theorem W15_chk : chkFun Tryz.prog Tryz.f15 plan15 0 = true := by kernel_rfl
theorem W15_ok {w : World} {K : Value → World → Prop} (h : W15 w K) : callF Tryz.prog 15 [] w K :=
  tie Tryz.prog 15 Tryz.f15 plan15 [] w K 0 (W15 w K) rfl mixed Tryz.func15 W15_chk (W15_eq w K) Tryz.call15 h


end Go.Proofs.YtcnjpcadejcenaaGreatDoor

namespace Go.Proofs.YtcnjpcadejcenaaGreatDoor
open Go Go.Eng Go.RowKit
set_option maxRecDepth 100000
/-- the letter that stands for a byte behind a backslash, 0: none -/
def shortM (r : Nat) : Nat := if r = 34 ∨ r = 92 then r else if r = 8 then 98 else if r = 12 then 102 else if r = 10 then 110 else if r = 13 then 114 else if r = 9 then 116 else 0
/-- two digits of base sixteen -/
def hexS (r : Nat) : Str := [b8 (48 + r / 16), hexD (r % 16)]
theorem esc_short {c : UInt8} (h : shortM c.toNat ≠ 0) : escB c = [92, b8 (shortM c.toNat)] ∧ shortM c.toNat < 128 := by
  have e : ∀ n : Nat, n < 256 → (c = UInt8.ofNat n ↔ c.toNat = n) := fun n hn => by
    constructor
    · rintro rfl; simp only [UInt8.toNat_ofNat']; omega
    · intro h; rw [← h]; simp
  unfold shortM at h ⊢
  unfold escB
  by_cases a1 : c.toNat = 34 ∨ c.toNat = 92
  · rw [if_pos a1, if_pos (by rcases a1 with a | a; exact .inl ((e 34 (by omega)).2 a); exact .inr ((e 92 (by omega)).2 a))]
    refine ⟨?_, by omega⟩
    unfold b8; simp
  rw [if_neg a1] at h ⊢
  rw [if_neg (by rintro (a | a); exact a1 (.inl ((e 34 (by omega)).1 a)); exact a1 (.inr ((e 92 (by omega)).1 a)))]
  by_cases a2 : c.toNat = 8
  · rw [if_pos a2, if_pos (show c = (8 : UInt8) from (e 8 (by omega)).2 a2)]; exact ⟨rfl, by omega⟩
  rw [if_neg a2] at h ⊢
  rw [if_neg fun (a : c = (8 : UInt8)) => a2 ((e 8 (by omega)).1 a)]
  by_cases a3 : c.toNat = 12
  · rw [if_pos a3, if_pos (show c = (12 : UInt8) from (e 12 (by omega)).2 a3)]; exact ⟨rfl, by omega⟩
  rw [if_neg a3] at h ⊢
  rw [if_neg fun (a : c = (12 : UInt8)) => a3 ((e 12 (by omega)).1 a)]
  by_cases a4 : c.toNat = 10
  · rw [if_pos a4, if_pos (show c = (10 : UInt8) from (e 10 (by omega)).2 a4)]; exact ⟨rfl, by omega⟩
  rw [if_neg a4] at h ⊢
  rw [if_neg fun (a : c = (10 : UInt8)) => a4 ((e 10 (by omega)).1 a)]
  by_cases a5 : c.toNat = 13
  · rw [if_pos a5, if_pos (show c = (13 : UInt8) from (e 13 (by omega)).2 a5)]; exact ⟨rfl, by omega⟩
  rw [if_neg a5] at h ⊢
  rw [if_neg fun (a : c = (13 : UInt8)) => a5 ((e 13 (by omega)).1 a)]
  by_cases a6 : c.toNat = 9
  · rw [if_pos a6, if_pos (show c = (9 : UInt8) from (e 9 (by omega)).2 a6)]; exact ⟨rfl, by omega⟩
  rw [if_neg a6] at h
  exact absurd rfl h
theorem esc_long {c : UInt8} (h : shortM c.toNat = 0) : escB c = if c.toNat < 32 then [92, 117, 48, 48] ++ hexS c.toNat else [c] := by
  have e : ∀ n : Nat, n < 256 → c = UInt8.ofNat n → c.toNat = n := fun n hn a => by subst a; simp only [UInt8.toNat_ofNat']; omega
  have hn : ¬ (c.toNat = 34 ∨ c.toNat = 92) ∧ c.toNat ≠ 8 ∧ c.toNat ≠ 12 ∧ c.toNat ≠ 10 ∧ c.toNat ≠ 13 ∧ c.toNat ≠ 9 := by
    unfold shortM at h
    split at h
    · omega
    · repeat' split at h
      all_goals omega
  obtain ⟨n1, n2, n3, n4, n5, n6⟩ := hn
  unfold escB
  rw [if_neg (by rintro (a | a); exact n1 (.inl (e 34 (by omega) a)); exact n1 (.inr (e 92 (by omega) a))), if_neg fun (a : c = (8 : UInt8)) => n2 (e 8 (by omega) a), if_neg fun (a : c = (12 : UInt8)) => n3 (e 12 (by omega) a), if_neg fun (a : c = (10 : UInt8)) => n4 (e 10 (by omega) a), if_neg fun (a : c = (13 : UInt8)) => n5 (e 13 (by omega) a), if_neg fun (a : c = (9 : UInt8)) => n6 (e 9 (by omega) a)]
  by_cases a : c.toNat < 32
  · rw [if_pos a, if_pos (show c < 32 from a)]; rfl
  · rw [if_neg a, if_neg (show ¬ c < 32 from a)]
theorem enc_low {n : Nat} (h : n < 128) : Utf8.encode (n : Int) = ofL [b8 n] := by
  unfold Utf8.encode
  have : Utf8.valid (n : Int) = true := by unfold Utf8.valid; simp only [Bool.or_eq_true, Bool.and_eq_true, decide_eq_true_eq]; omega
  simp only [this, if_true, Int.toNat_natCast]
  rw [if_pos h]; rfl
section
variable [HX]
/-- how the library writes the numbers from 256 to 287 with base sixteen -/
def FmtOk (w0 : World) : Prop := ∀ r : Nat, r < 32 → ∀ (w : World) (K : Value → World → Prop), Ext w0 w → (∀ w', Ext w w' → K (str ([49] ++ hexS r)) w') → callF Tryz.prog 154 [i64 ((r + 256 : Nat) : Int), i64 16] w K
theorem short_p {r : Nat} {w : World} {K : Value → World → Prop} (hr : r ≤ 1114111) (hK : K (u8 (shortM r)) w) : callF Tryz.prog 153 [.int .i32 (r : Int)] w K := by
  refine W153_ok ?_
  unfold W153
  unfold shortM at hK
  refine JoinW.cut (fun s' w' => s' = [.bool (decide (r = 34 ∨ r = 92))] ∧ w' = w) ?_ ?_
  · rw [bin_eql, condW_dec]
    refine ⟨fun h => ?_, fun h => ?_⟩
    · rw [decide_eq_true h, decide_eq_true (.inl (by omega))]; exact ⟨rfl, rfl⟩
    · rw [bin_eql]
      rw [show decide (((r : Nat) : Int) = 92) = decide (r = 34 ∨ r = 92) by rw [decide_eq_decide]; omega]
      exact ⟨rfl, rfl⟩
  rintro s' g w' ⟨rfl, rfl⟩
  simp only [List.getD_cons_zero]
  rw [condW_dec]
  refine ⟨fun h => ?_, fun h => ?_⟩
  · rw [cvt_int, u8_wrap, Nat.mod_eq_of_lt (by omega)]
    rw [if_pos h] at hK; exact hK
  rw [if_neg h] at hK
  rw [bin_eql, condW_dec]
  refine ⟨fun h => by rw [if_pos (by omega)] at hK; exact hK, fun h => ?_⟩
  rw [if_neg (by omega)] at hK
  rw [bin_eql, condW_dec]
  refine ⟨fun h => by rw [if_pos (by omega)] at hK; exact hK, fun h => ?_⟩
  rw [if_neg (by omega)] at hK
  rw [bin_eql, condW_dec]
  refine ⟨fun h => by rw [if_pos (by omega)] at hK; exact hK, fun h => ?_⟩
  rw [if_neg (by omega)] at hK
  rw [bin_eql, condW_dec]
  refine ⟨fun h => by rw [if_pos (by omega)] at hK; exact hK, fun h => ?_⟩
  rw [if_neg (by omega)] at hK
  rw [bin_eql, condW_dec]
  refine ⟨fun h => by rw [if_pos (by omega)] at hK; exact hK, fun h => ?_⟩
  rw [if_neg (by omega)] at hK
  exact hK
theorem i32_wrap {n : Nat} (h : n < 2147483648) : IntKind.i32.wrap (n : Int) = (n : Int) := by
  have e1 : (2 : Int) ^ 32 = 4294967296 := by decide
  have e2 : (2 : Int) ^ (32 - 1) = 2147483648 := by decide
  simp only [IntKind.wrap, IntKind.bits, IntKind.signed, Bool.true_and, e1, e2]
  rw [if_neg (by simp; omega)]
  omega
theorem flat_len (s : Str) : (s.flatMap escB).length ≤ 6 * s.length := by
  induction s with
  | nil => simp
  | cons c s ih => rw [List.flatMap_cons, List.length_append, List.length_cons]; have := escB_le c; omega
theorem short_high {r : Nat} (h : 128 ≤ r) : shortM r = 0 := by unfold shortM; repeat' split
                                                                all_goals omega
theorem quote_p {w0 w : World} {B b : Nat} {l s : Str} {K : Value → World → Prop} (h0 : Ext w0 w) (hB0 : w0.heap.size ≤ B) (h : Bld w B b l) (hB : B ≤ w.heap.size) (hs : Utf s) (hl : l.length + 6 * s.length + 2 ≤ 1000000000) (hF : ∀ c ∈ s, c.toNat < 32 → FmtOk w0)
    (hK : ∀ w', Bld w' B b (l ++ quoteM s) → Chg (BCh w B b) w w' → K (.tuple #[]) w') : callF Tryz.prog 105 [.pointer (some ⟨b, 0, none⟩), str s] w K := by
  have hb := h.base
  have hbl := h.lt
  refine W105_ok ?_
  unfold W105
  refine wbyte_p (n := 34) h hB (by omega) (by omega) fun w1 h1 hc1 => ?_
  refine range_str ?_
  have hz1 := hc1.size
  have hc2 : Chg (BCh w B b) w (w1.alloc (.stringIter (ofL s) 0)) := BCh.ext hc1 (Chg.alloc (Chg.refl _ _) _)
  refine ⟨fun s' w4 => ∃ p, p ≤ s.length ∧ s' = [] ∧ Utf (s.drop p) ∧ w4.heap[w1.heap.size]? = some (.stringIter (ofL s) p) ∧ Bld w4 B b (l ++ [34] ++ (s.take p).flatMap escB) ∧ Chg (BCh w B b) w w4,
    fun _ w4 => match w4.heap[w1.heap.size]? with | some (.stringIter _ p) => s.length - p | _ => 0,
    ⟨0, Nat.zero_le _, rfl, by rw [List.drop_zero]; exact hs, heap_anew _ _ _ rfl, by rw [List.take_zero, List.flatMap_nil, List.append_nil]; exact h1.ext (Chg.alloc (Chg.refl _ _) _), hc2⟩, ?_⟩
  rintro s' g w4 ⟨p, hp, rfl, hu, hit, h4, hc4⟩
  have hz4 := hc4.size
  have hfl := flat_len (s.take p)
  have htl : (s.take p).length = p := by rw [List.length_take]; omega
  have hll : (l ++ [34] ++ (s.take p).flatMap escB).length = l.length + 1 + ((s.take p).flatMap escB).length := by simp only [List.length_append, List.length_cons, List.length_nil]
  refine next_str hit (fun hpe => ?_) (fun hpl w5 hit5 hc5 hz5 => ?_)
  · rw [ext_tuple]
    refine ⟨.bool false, rfl, ?_⟩
    rw [condW_false]
    obtain rfl : p = s.length := by omega
    rw [List.take_length] at h4 hll hfl
    refine wbyte_p (n := 34) h4 (by omega) (by omega) (by omega) fun w6 h6 hc6 => ?_
    refine hK w6 ?_ (BCh.trans hc4 hc6)
    rw [List.append_assoc, List.append_assoc] at h6
    unfold quoteM
    rw [List.append_assoc]
    exact h6
  · have hne : s.drop p ≠ [] := fun e => by have := List.drop_eq_nil_iff.1 e; omega
    -- the rune that comes next
    obtain ⟨u, r, hru, hur, hdr⟩ : ∃ u r, Rn u ∧ Utf r ∧ s.drop p = u ++ r := by
      cases hd : s.drop p with
      | nil => exact absurd hd hne
      | cons x y =>
        rw [hd] at hu
        generalize he : x :: y = z at hu
        cases hu with
        | nil => cases he
        | cons h1 h2 => exact ⟨_, _, h1, h2, rfl⟩
    have hrm : runeM s p = u.length := hru.at hdr
    have hup := hru.pos
    obtain ⟨c, hc⟩ := rune_good hpl (by omega)
    rw [hrm] at hc
    have htk : (s.drop p).take u.length = u := by rw [hdr, List.take_left]
    have hnext : s.take (p + u.length) = s.take p ++ u := by rw [List.take_add, htk]
    have hdr2 : s.drop (p + u.length) = r := drop_app hdr
    have hdec := hc.dec
    have hct := hc.top
    have hcv := hc.val
    have hcu : wrM c = u := by rw [← wr_enc (by omega), hc.bytes, htk]
    rw [hdec] at hit5
    have h5 : Bld w5 B b (l ++ [34] ++ (s.take p).flatMap escB) := h4.chg hc5 (fun e => by have := h1.lt; have := e; omega) fun k hk e => by
      obtain ⟨_, c', hc'⟩ := hk
      have e : k = w1.heap.size := e
      rw [e, hit] at hc'; cases hc'
    have hc5' : Chg (BCh w B b) w w5 := hc4.then hc5 fun k hk e => by omega
    have hx0 : Ext w0 w5 := BCh.new h0 hB0 hb hc5'
    have hfit := hc.fits
    -- once the rune's text is written
    have fin : ∀ w6, Bld w6 B b (l ++ [34] ++ (s.take p).flatMap escB ++ u.flatMap escB) → Chg (BCh w5 B b) w5 w6 → (fun (s' : List Value) w4 => ∃ p, p ≤ s.length ∧ s' = [] ∧ Utf (s.drop p) ∧ w4.heap[w1.heap.size]? = some (.stringIter (ofL s) p) ∧ Bld w4 B b (l ++ [34] ++ (s.take p).flatMap escB) ∧ Chg (BCh w B b) w w4) [] w6 ∧
        (match w6.heap[w1.heap.size]? with | some (.stringIter _ p) => s.length - p | _ => 0) < (match w4.heap[w1.heap.size]? with | some (.stringIter _ p) => s.length - p | _ => 0) := by
      intro w6 h6 hc6
      have hit6 := BCh.iter hc6 hit5 (by have := h1.lt; omega)
      refine ⟨⟨p + u.length, hfit, rfl, by rw [hdr2]; exact hur, hit6, ?_, BCh.trans hc5' hc6⟩, ?_⟩
      · rw [hnext, List.flatMap_append, ← List.append_assoc]; exact h6
      · rw [hit6, hit]
        show s.length - (p + u.length) < s.length - p
        omega
    rw [ext_tuple]
    refine ⟨.bool true, rfl, ?_⟩
    rw [condW_true, ext_tuple]
    refine ⟨.int .i32 (c : Int), by rw [hdec]; rfl, ?_⟩
    refine short_p hct ?_
    rw [bin_neq, condW_dec]
    rcases hru.cases with ⟨x, hx, hxl⟩ | hh
    · -- one byte
      subst hx
      have hcx : c = x.toNat := by
        have := (hc.low rfl).1
        rw [this]
        have e := byteM_in hpl
        rw [Go.Eng.byte_at (show s.drop p = x :: r from hdr)] at e
        omega
      subst hcx
      have e1 : [x].flatMap escB = escB x := by simp
      rw [e1] at fin
      refine ⟨fun hne => ?_, fun he => ?_⟩
      · obtain ⟨f1, f2⟩ := esc_short (c := x) (by omega)
        rw [cvt_int, i32_wrap (by omega)]
        show cvsW _ _
        unfold cvsW
        dsimp only
        rw [enc_low f2, bin_sadd]
        refine ⟨by simp only [List.length_cons, List.length_nil]; decide, ?_⟩
        refine wstr_p h5 (by omega) (by rw [hll]; simp only [List.length_append, List.length_cons, List.length_nil]; omega) fun v w6 h6 hc6 => ?_
        refine fin w6 ?_ hc6
        rw [f1]; exact h6
      · have f := esc_long (c := x) (by omega)
        rw [bin_lss, condW_dec]
        refine ⟨fun hlt => ?_, fun hge => ?_⟩
        · rw [if_pos (by omega)] at f
          have hmem : x ∈ s := List.mem_of_mem_drop (i := p) (by rw [hdr]; simp)
          rw [cvt_int, wrap_id (by omega) (by omega), bin_add, wrap_id (by omega) (by omega)]
          have hfm := hF x hmem (by omega) x.toNat (by omega) w5
          rw [show ((x.toNat + 256 : Nat) : Int) = (x.toNat : Int) + 256 by omega] at hfm
          refine hfm _ hx0 fun w6 hx6 => ?_
          rw [sls_str, bd_none, bd_some]
          refine ⟨by decide, by simp [hexS], ?_⟩
          rw [bin_sadd]
          refine ⟨by simp [hexS], ?_⟩
          refine wstr_p (h5.ext hx6) (by have := hx6.size; omega) (by rw [hll]; clear fin h4 h5 hll; generalize ((s.take p).flatMap escB).length = q at *; simp [hexS]; omega) fun v w7 h7 hc7 => ?_
          refine fin w7 ?_ (BCh.from hx6 hc7)
          rw [f]
          simpa [hexS] using h7
        · rw [if_neg (by omega)] at f
          refine wrune_p h5 (by omega) (by omega) (by omega) fun v w6 h6 hc6 => ?_
          refine fin w6 ?_ hc6
          rw [f, ← hcu]; exact h6
    · -- more than one
      have hc128 : 128 ≤ c := by
        have hb0 := byte_pref (j := 0) hdr hup
        have h128 := hh u[0] (List.getElem_mem ..)
        rw [Nat.add_zero, byteM_in hpl] at hb0
        by_cases h1 : u.length = 1
        · have := hc.low h1; omega
        · exact (hc.high (by omega)).1
      rw [esc_high hh] at fin
      refine ⟨fun hne => absurd (short_high hc128) (by omega), fun he => ?_⟩
      rw [bin_lss, condW_dec]
      refine ⟨fun hlt => by omega, fun hge => ?_⟩
      refine wrune_p h5 (by omega) (by omega) (by omega) fun v w6 h6 hc6 => ?_
      refine fin w6 ?_ hc6
      rw [← hcu]; exact h6
end
end Go.Proofs.YtcnjpcadejcenaaGreatDoor

namespace Go.Proofs.YtcnjpcadejcenaaGreatDoor
open Go Go.Eng Go.Num
set_option maxRecDepth 100000
abbrev BT : TypeId := 244
abbrev U64 : TypeId := 182
theorem elem_u : ElemT Tryz.prog 242 U64 1 8 := ⟨by kernel_rfl, by kernel_rfl, by decide⟩
def BRep (w : World) (x : Big) (cs : List Value) : Prop := ∃ sv T, cs = [.bool x.below, sv] ∧ SlAt w T sv x.l.length (x.l.map u64) ∧ x.l.length ≤ 1000 ∧ Lim x.l
theorem BRep.ext {w w' : World} {x : Big} {cs : List Value} (h : BRep w x cs) (hx : Ext w w') : BRep w' x cs := by
  obtain ⟨sv, T, rfl, h1, h2, h3⟩ := h; exact ⟨sv, T, rfl, h1.ext hx, h2, h3⟩
theorem BRep.one {w : World} {x : Big} {cs : List Value} (h : BRep w x cs) : cs.all one1 = true := by
  obtain ⟨sv, T, rfl, h1, _⟩ := h
  obtain ⟨p, c, rfl, _⟩ := h1.shape; rfl
theorem BRep.len {w : World} {x : Big} {cs : List Value} (h : BRep w x cs) : cs.length = 2 := by obtain ⟨sv, T, rfl, _⟩ := h; rfl
/-- in a block of its own -/
structure BigB (w : World) (a : Nat) (x : Big) (sv : Value) : Prop where
  hb : w.heap[a]? = some (.cells [.bool x.below, sv].toArray BT (0, 0))
  l : ∃ T, SlAt w T sv x.l.length (x.l.map u64)
  few : x.l.length ≤ 1000
  lim : Lim x.l
theorem BigB.ext {w w' : World} {a : Nat} {x : Big} {sv : Value} (h : BigB w a x sv) (hx : Ext w w') : BigB w' a x sv := ⟨hx.at h.hb id, let ⟨T, h1⟩ := h.l; ⟨T, h1.ext hx⟩, h.few, h.lim⟩
theorem BigB.rep {w : World} {a : Nat} {x : Big} {sv : Value} (h : BigB w a x sv) : BRep w x [.bool x.below, sv] := by obtain ⟨T, h1⟩ := h.l; exact ⟨sv, T, rfl, h1, h.few, h.lim⟩
theorem BigB.ld {w : World} {a : Nat} {x : Big} {sv : Value} {K : Value → Prop} (h : BigB w a x sv) (hK : ∀ cs, BRep w x cs → K (.agg cs.toArray)) : ldW true 2 (ptr a) w K := ld_all h.hb rfl (hK _ h.rep)
theorem BigB.len {w : World} {a : Nat} {x : Big} {sv : Value} (h : BigB w a x sv) (K : Value → Prop) : lenlW sv K ↔ K (i64 x.l.length) := by obtain ⟨T, h1⟩ := h.l; exact lenl_at h1 K
theorem BigB.at {w : World} {a : Nat} {x : Big} {sv : Value} {k : IntKind} {i n : Nat} {K : Value → Prop} (h : BigB w a x sv) (hi : x.l[i]? = some n) (hK : K (u64 n)) : ixaW none 1 sv (.int k i) fun p => ldW false 1 p w K := by
  obtain ⟨T, h1⟩ := h.l
  exact ixa_ld h1 (by simp) (by simp [hi]) hK
theorem box_big {w : World} {x : Big} {cs : List Value} {K : Value → World → Prop} (h : BRep w x cs) (hK : ∀ a w' sv, BigB w' a x sv → Ext w w' → a = w.heap.size → w'.heap.size = a + 1 → K (ptr a) w') : boxW BT (.agg cs.toArray) w K := by
  obtain ⟨sv, T, rfl, h1, h2, h3⟩ := h
  refine box_new fun a w' ha hz hb hx => hK a w' sv ⟨hb, ⟨T, h1.ext hx⟩, h2, h3⟩ hx ha (by omega)
theorem ret_big {w w0 : World} {b : Nat} {cs ds : List Value} {K : Value → World → Prop} (hb : w.heap[b]? = some (.cells ds.toArray BT (0, 0))) (hd : ds.length = 2) (hl : w0.heap.size ≤ b) (hx : Ext w0 w) (h1 : cs.all one1 = true) (h2 : cs.length = 2)
    (hK : ∀ w', Ext w0 w' → Chg (fun k => k = b) w w' → K (.agg cs.toArray) w') : stW 2 (ptr b) (.agg cs.toArray) w fun w5 => ldW true 2 (ptr b) w5 fun r6 => K r6 w5 :=
  ret_agg hb h2 hd h1 fun w' hc => hK w' (hx.new hc hl) hc
/-- a block that is no row of limbs may turn -/
theorem BRep.keep {w w' : World} {b : Nat} {x : Big} {cs : List Value} {p : Bool} {q : Value} {T0 : TypeId} (h : BRep w x cs) (hb : w.heap[b]? = some (.cells [.bool p, q].toArray T0 (0, 0))) (hq : ∀ n, q ≠ u64 n) (hc : Chg (fun k => k = b) w w') : BRep w' x cs := by
  obtain ⟨sv, T, rfl, ⟨p', cap, hv, h1, h2, h3⟩, h4, h5⟩ := h
  refine ⟨sv, T, rfl, ⟨p', cap, hv, h1, h2, fun hne => ?_⟩, h4, h5⟩
  obtain ⟨k, off, c, fr, hp, hk, hcs⟩ := h3 hne
  have hkb : k ≠ b := by
    rintro rfl
    rw [hb] at hk
    cases hk
    obtain ⟨n, r, e⟩ : ∃ n r, x.l = n :: r := by
      cases hx : x.l with
      | nil => rw [hx] at hne; simp at hne
      | cons n r => exact ⟨n, r, rfl⟩
    have := hcs 0 (by rw [e]; simp)
    rw [e] at this
    simp only [Nat.add_zero, List.map_cons, List.getElem?_cons_zero, List.getElem?_toArray] at this
    rcases off with _ | _ | off
    · simp at this
    · simp only [Nat.zero_add, List.getElem?_cons_succ, List.getElem?_cons_zero, Option.some.injEq] at this; exact hq n this
    · simp at this
  exact ⟨k, off, c, fr, hp, hc.at hk hkb, hcs⟩
theorem u64_wrap {n : Int} (h1 : 0 ≤ n) (h2 : n < 18446744073709551616) : IntKind.u64.wrap n = n := by
  simp only [IntKind.wrap, IntKind.signed, IntKind.bits, IntKind.max, IntKind.min]
  simp
  omega
theorem row_u {w : World} {n : Nat} {K : Value → World → Prop} (hK : ∀ t w', SlAt w' U64 t 1 [u64 n] → Ext w w' → K t w') : bslW U64 1 [(.int .u64 0)] [(0, 1, u64 n)] w K := by
  unfold bslW
  simp only [wsv, wsg, wsh, wsl, cond_true, cond_false, exists_eq_left', Option.some.injEq, Option.isSome_some, List.getElem?_toArray, List.getElem?_cons_zero, List.getElem?_cons_succ, List.length_cons, List.length_nil, List.set_cons_zero, List.set_cons_succ, List.getD_cons_zero, List.getD_cons_succ, Nat.zero_add, Nat.add_zero, Nat.reduceAdd, Nat.reduceLT, Nat.lt_add_one, Nat.zero_lt_succ, decide_true, decide_false, ne_eq, reduceCtorEq]
  exact hK _ _ (own_new (w := w) (base := w.heap.size) (e := U64) (size := 1) (n := 1) (cs := [u64 n]) (Nat.le_refl _) rfl (by omega)).sl (by repeat (first | assumption | exact Chg.refl _ _ | refine Chg.drew ?_ | refine Chg.alloc ?_ _ | refine Chg.set ?_ (by first | exact .inl rfl | exact .inr (by omega) | exact .inr (by simp only [size_set, size_alloc, size_drew]; omega) | (left; simp; done)) _ | exact Chg.of_ext (by assumption)))
/-- one limb more -/
theorem app_u {w : World} {base n : Nat} {v : Value} {l : List Nat} {K : Value → World → Prop} (h : Own w base U64 1 v l.length (l.map u64)) (hb : base ≤ w.heap.size) (hl : l.length ≤ 100000)
    (hK : ∀ v' w', Own w' base U64 1 v' (l ++ [n]).length ((l ++ [n]).map u64) → Chg (fun k => base ≤ k) w w' → K v' w') :
    bslW U64 1 [(.int .u64 0)] [(0, 1, u64 n)] w fun t w1 => semE Tryz.prog (Builtin.append_ #[242, 242] 242 #[v, t]) w1 K := by
  refine row_u fun t w1 ht hx => ?_
  refine append_own2 elem_u (h.ext hx) ht (m := 1) rfl (fun u hu => by simp only [List.mem_singleton] at hu; subst hu; rfl) (by omega) (by omega) (Nat.le_trans hb hx.size) fun v' w' h' hc _ => ?_
  refine hK v' w' (by simpa using h') ((Chg.of_ext hx).trans ?_)
  refine hc.mono fun k _ e => (own_ge (h.ext hx) e).1
  done
section
variable [HX]

/-- the first k of a slice -/
theorem sll_take {w : World} {T : TypeId} {v : Value} {n k : Nat} {cs : List Value} {K : Value → Prop} (h : SlAt w T v n cs) (hl : cs.length = n) (hk : k ≤ n) (hK : ∀ v', SlAt w T v' k (cs.take k) → K v') : sllW 1 v none (some (i64 (k : Nat))) none K := by
  obtain ⟨p, cap, rfl, h1, h2, h3⟩ := h
  rw [sll_sl]
  simp only [bd_none, bd_some]
  refine ⟨by omega, by omega, ?_⟩
  have e : (if cap = 0 then p else p.map (·.add (0 * 1))) = p := by
    split
    · rfl
    · cases p with
      | none => rfl
      | some a => simp [Addr.add]
  rw [e]
  refine hK _ ⟨p, cap - 0, by simp, by omega, fun e => ?_, fun hne => ?_⟩
  · have := h2 e; omega
  · obtain ⟨b, off, c, fr, hp, hb, hcs⟩ := h3 fun e => hne (by rw [e]; simp)
    refine ⟨b, off, c, fr, hp, hb, fun i hi => ?_⟩
    rw [List.length_take] at hi
    rw [hcs i (by omega), List.getElem?_take, if_pos (by omega)]

def lenAt (w : World) (a : Nat) : Nat := match cellO w.heap[a]? 1 with | some (Value.slice _ n _) => n | _ => 0
theorem trim_ref {x : Big} {cs : List Value} {w : World} {K : Value → World → Prop} (h : BRep w x cs) (hK : ∀ cs' w', Ext w w' → BRep w' x.trim cs' → K (.agg cs'.toArray) w') : callF Tryz.prog 285 [.agg cs.toArray] w K := by
  refine W285_ok ?_
  unfold W285
  obtain ⟨sv, T, rfl, h1, h2, h3⟩ := h
  refine box_new fun a w1 ha hz hba hx => ?_
  refine alloc_new fun b w2 hb hz2 hbb hx2 => ?_
  have hba := hx2.at hba id
  have hx12 := hx.trans hx2
  refine ⟨fun s w' => s = [] ∧ ∃ m sv', m ≤ x.l.length ∧ w'.heap[a]? = some (.cells [.bool x.below, sv'].toArray BT (0, 0)) ∧ SlAt w T sv' m ((x.l.take m).map u64) ∧ trimL (x.l.take m) = trimL x.l ∧ Chg (fun k => k = a) w2 w',
    fun _ w' => lenAt w' a, ⟨rfl, x.l.length, sv, Nat.le_refl _, hba, by rw [List.take_length]; exact h1, by rw [List.take_length], Chg.refl _ _⟩, ?_⟩
  rintro s g w3 ⟨rfl, m, sv', hm, hba3, hs, htr, hc3⟩
  have hx3 : Ext w w3 := hx12.new hc3 (by omega)
  have hs3 := hs.ext hx3
  obtain ⟨p, cap, rfl, hcap⟩ := hs.shape
  simp only [wsv, wsg, wsh, wsl, cond_true, cond_false, exists_eq_left', Option.some.injEq, Option.isSome_some, List.getElem?_toArray, List.getElem?_cons_zero, List.getElem?_cons_succ, List.length_cons, List.length_nil, List.set_cons_zero, List.set_cons_succ, List.getD_cons_zero, List.getD_cons_succ, Nat.zero_add, Nat.add_zero, Nat.reduceAdd, Nat.reduceLT, Nat.lt_add_one, Nat.zero_lt_succ, decide_true, decide_false, ne_eq, reduceCtorEq, wsh, hba3]
  have hlen3 : lenAt w3 a = m := by unfold lenAt; rw [hba3]; rfl
  rw [hlen3]
  clear hlen3
  refine GdW.look (decide (x.l[m - 1]? = some 0)) ?_ ?_
  · intro hc J hJ
    obtain ⟨k, rfl⟩ : ∃ k, m = k + 1 := ⟨m - 1, by simp only [decide_eq_true_eq] at hc; omega⟩
    have hw : IntKind.i64.wrap (((k + 1 : Nat) : Int) - 1) = ((k : Nat) : Int) := by rw [wrap_id (by omega) (by omega)]; omega
    obtain ⟨y, hy⟩ : ∃ y, x.l[k]? = some y := ⟨_, List.getElem?_eq_getElem (by omega)⟩
    simp only [wsv, wsg, wsh, wsl, cond_true, cond_false, exists_eq_left', Option.some.injEq, Option.isSome_some, List.getElem?_toArray, List.getElem?_cons_zero, List.getElem?_cons_succ, List.length_cons, List.length_nil, List.set_cons_zero, List.set_cons_succ, List.getD_cons_zero, List.getD_cons_succ, Nat.zero_add, Nat.add_zero, Nat.reduceAdd, Nat.reduceLT, Nat.lt_add_one, Nat.zero_lt_succ, decide_true, decide_false, ne_eq, reduceCtorEq, hw]
    refine ixa_ld hs3 (by simp; omega) (by simp [hy]; rfl) ?_
    simp only [wsv, wsg, wsh, wsl, cond_true, cond_false, exists_eq_left', Option.some.injEq, Option.isSome_some, List.getElem?_toArray, List.getElem?_cons_zero, List.getElem?_cons_succ, List.length_cons, List.length_nil, List.set_cons_zero, List.set_cons_succ, List.getD_cons_zero, List.getD_cons_succ, Nat.zero_add, Nat.add_zero, Nat.reduceAdd, Nat.reduceLT, Nat.lt_add_one, Nat.zero_lt_succ, decide_true, decide_false, ne_eq, reduceCtorEq]
    have e : decide ((y : Int) = 0) = decide (x.l[k + 1 - 1]? = some 0) := decide_eq_decide.2 (by rw [Nat.add_sub_cancel, hy, Option.some.injEq]; omega)
    rw [e]
    exact hJ
  · intro gd
    simp only [wsv, wsg, wsh, wsl, cond_true, cond_false, exists_eq_left', Option.some.injEq, Option.isSome_some, List.getElem?_toArray, List.getElem?_cons_zero, List.getElem?_cons_succ, List.length_cons, List.length_nil, List.set_cons_zero, List.set_cons_succ, List.getD_cons_zero, List.getD_cons_succ, Nat.zero_add, Nat.add_zero, Nat.reduceAdd, Nat.reduceLT, Nat.lt_add_one, Nat.zero_lt_succ, decide_true, decide_false, ne_eq, reduceCtorEq, wsh, hba3]
    rw [condW_b]
    refine ⟨fun hc => ?_, fun hc => ?_⟩
    · simp only [Bool.and_eq_true, decide_eq_true_eq] at hc
      obtain ⟨k, rfl⟩ : ∃ k, m = k + 1 := ⟨m - 1, by omega⟩
      have hw : IntKind.i64.wrap (((k + 1 : Nat) : Int) - 1) = ((k : Nat) : Int) := by rw [wrap_id (by omega) (by omega)]; omega
      rw [hw]
      refine sll_take (k := k) hs (by simp; omega) (by omega) fun v' hv' => ?_
      obtain ⟨p', cap', rfl, _⟩ := hv'.shape
      refine st_at hba3 rfl (by simp) fun w4 hz4 hb4 hc4 => ?_
      have hb4 : w4.heap[a]? = some (.cells [.bool x.below, .slice p' k cap'].toArray BT (0, 0)) := by rw [hb4]; simp
      refine ⟨⟨k, _, by omega, hb4, ?_, ?_, hc3.trans hc4⟩, ?_⟩
      · have e : (x.l.take k).map u64 = ((x.l.take (k + 1)).map u64).take k := by rw [← List.map_take, List.take_take, Nat.min_eq_left (by omega)]
        rw [e]; exact hv'
      · have e : x.l.take (k + 1) = x.l.take k ++ [0] := by
          rw [List.take_add_one]
          have := hc.2
          rw [Nat.add_sub_cancel] at this
          rw [this]; rfl
        rw [← htr, e, trimL_zero]
      · have : lenAt w4 a = k := by unfold lenAt; rw [hb4]; rfl
        rw [this]; omega
    · have hT : trimL x.l = x.l.take m := by
        rw [← htr]
        rcases Nat.eq_zero_or_pos m with h0 | h0
        · subst h0; rw [List.take_zero, trimL_nil]
        · obtain ⟨k, rfl⟩ : ∃ k, m = k + 1 := ⟨m - 1, by omega⟩
          obtain ⟨y, hy⟩ : ∃ y, x.l[k]? = some y := ⟨_, List.getElem?_eq_getElem (by omega)⟩
          have hy0 : y ≠ 0 := by
            rintro rfl
            rw [decide_eq_true (show ((0 : Int) < ((k + 1 : Nat) : Int)) by omega), Nat.add_sub_cancel, hy] at hc
            simp at hc
          have e : x.l.take (k + 1) = x.l.take k ++ [y] := by rw [List.take_add_one, hy]; rfl
          rw [e, trimL_ne hy0]
      have hlt : (trimL x.l).length = m := by rw [hT, List.length_take]; omega
      have hbel : (x.below && decide ((0 : Int) < (m : Int))) = x.trim.below := by
        show _ = (x.below && !(trimL x.l).isEmpty)
        congr 1
        cases hT2 : trimL x.l with
        | nil => rw [hT2] at hlt; simp at hlt; subst hlt; simp
        | cons y r => rw [hT2] at hlt; simp at hlt; simp; omega
      (try simp only [wsv, wsg, wsh, wsl, cond_true, cond_false, exists_eq_left', Option.some.injEq, Option.isSome_some, List.getElem?_toArray, List.getElem?_cons_zero, List.getElem?_cons_succ, List.length_cons, List.length_nil, List.set_cons_zero, List.set_cons_succ, List.getD_cons_zero, List.getD_cons_succ, Nat.zero_add, Nat.add_zero, Nat.reduceAdd, Nat.reduceLT, Nat.lt_add_one, Nat.zero_lt_succ, decide_true, decide_false, ne_eq, reduceCtorEq, wsh, hba3])
      intros
      rw [hbel]
      refine st_at hba3 rfl (by simp) fun w4 hz4 hb4 hc4 => ?_
      have hb4 : w4.heap[a]? = some (.cells [.bool x.trim.below, .slice p m cap].toArray BT (0, 0)) := by rw [hb4]; simp
      refine ld_all hb4 rfl ?_
      have hbb4 := hc4.at (hc3.at hbb (by omega)) (by omega)
      have hx4 : Ext w w4 := hx3.new hc4 (by omega)
      refine ret_big (w0 := w) hbb4 rfl (by have := hx.size; omega) hx4 rfl rfl fun w5 hx5 _ => ?_
      refine hK _ w5 hx5 ⟨_, T, rfl, ?_, ?_, ?_⟩
      · show SlAt w5 T _ (trimL x.l).length ((trimL x.l).map u64)
        rw [hlt, hT]
        exact hs.ext hx5
      · show (trimL x.l).length ≤ 1000
        rw [hlt]; omega
      · exact (trimL_spec x.l).2.2 h3

theorem headD_drop (l : List Nat) (i : Nat) : (l.drop i).headD 0 = l.getD i 0 := by
  induction l generalizing i with
  | nil => simp
  | cons x l ih => cases i <;> simp_all
theorem plusL_step {x y : List Nat} {c : Nat} (h : x ≠ [] ∨ y ≠ []) : plusL x y c = (c + x.headD 0 + y.headD 0) % 1000000000 :: plusL x.tail y.tail ((c + x.headD 0 + y.headD 0) / 1000000000) := by
  cases x with
  | nil => cases y with
    | nil => simp at h
    | cons b y => simp [plusL]
  | cons a x => cases y with
    | nil => simp [plusL]
    | cons b y => simp [plusL]
theorem lim_getD {l : List Nat} (h : Lim l) (i : Nat) : l.getD i 0 < 1000000000 := by
  rw [List.getD_eq_getElem?_getD]
  cases hi : l[i]? with
  | none => simp
  | some x => exact h x (List.mem_of_getElem? hi)
theorem plus_ref {x y : Big} {cs ds : List Value} {w : World} {K : Value → World → Prop} (h : BRep w x cs) (h' : BRep w y ds) (hK : ∀ v w', Ext w w' → SlAt w' U64 v (plusL x.l y.l 0).length ((plusL x.l y.l 0).map u64) → K v w') : callF Tryz.prog 284 [.agg cs.toArray, .agg ds.toArray] w K := by
  refine W284_ok ?_
  unfold W284
  refine box_big h fun a w1 sv hB hx ha hz1 => ?_
  refine box_big (h'.ext hx) fun b w2 sv' hC hx2 hb hz2 => ?_
  have hB := hB.ext hx2
  have hx := hx.trans hx2
  clear hx2
  simp only [wsv, wsg, wsh, wsl, cond_true, cond_false, exists_eq_left', Option.some.injEq, Option.isSome_some, List.getElem?_toArray, List.getElem?_cons_zero, List.getElem?_cons_succ, List.length_cons, List.length_nil, List.set_cons_zero, List.set_cons_succ, List.getD_cons_zero, List.getD_cons_succ, Nat.zero_add, Nat.add_zero, Nat.reduceAdd, Nat.reduceLT, Nat.lt_add_one, Nat.zero_lt_succ, decide_true, decide_false, ne_eq, reduceCtorEq, wsh, hB.hb, hC.hb, hB.len, hC.len]
  have hmax : (if (x.l.length : Int) < (y.l.length : Int) then (y.l.length : Int) else (x.l.length : Int)) = ((max x.l.length y.l.length : Nat) : Int) := by split <;> omega
  rw [hmax]
  generalize hM : max x.l.length y.l.length = M
  have hM1 : M ≤ 1000 := by have := hB.few; have := hC.few; omega
  refine ⟨fun s w' => ∃ i c v l, i ≤ M ∧ c ≤ 1 ∧ s = [v, u64 c, i64 (i : Nat)] ∧ Ext w2 w' ∧ Own w' w2.heap.size U64 1 v l.length (l.map u64) ∧ l.length = i ∧ l ++ plusL (x.l.drop i) (y.l.drop i) c = plusL x.l y.l 0,
    fun s _ => match s with | [_, _, .int _ i] => M - i.toNat | _ => 0, ⟨0, 0, _, [], by omega, by omega, rfl, Chg.refl _ _, ⟨rfl, .inl ⟨rfl, rfl⟩⟩, rfl, by simp⟩, ?_⟩
  rintro s g w3 ⟨i, c, v, l, hi, hc, rfl, hx3, hO, hl, he⟩
  have hB3 := hB.ext hx3
  have hC3 := hC.ext hx3
  rcases Nat.lt_or_ge i M with hlt | hge
  · have hltI : (i : Int) < (M : Int) := by omega
    have hxi := lim_getD hB.lim i
    have hyi := lim_getD hC.lim i
    simp only [wsv, wsg, wsh, wsl, cond_true, cond_false, exists_eq_left', Option.some.injEq, Option.isSome_some, List.getElem?_toArray, List.getElem?_cons_zero, List.getElem?_cons_succ, List.length_cons, List.length_nil, List.set_cons_zero, List.set_cons_succ, List.getD_cons_zero, List.getD_cons_succ, Nat.zero_add, Nat.add_zero, Nat.reduceAdd, Nat.reduceLT, Nat.lt_add_one, Nat.zero_lt_succ, decide_true, decide_false, ne_eq, reduceCtorEq, hltI]
    refine JoinW.cut (fun s w' => s = [u64 (c + x.l.getD i 0)] ∧ w' = w3) ?_ ?_
    · (try simp only [wsv, wsg, wsh, wsl, cond_true, cond_false, exists_eq_left', Option.some.injEq, Option.isSome_some, List.getElem?_toArray, List.getElem?_cons_zero, List.getElem?_cons_succ, List.length_cons, List.length_nil, List.set_cons_zero, List.set_cons_succ, List.getD_cons_zero, List.getD_cons_succ, Nat.zero_add, Nat.add_zero, Nat.reduceAdd, Nat.reduceLT, Nat.lt_add_one, Nat.zero_lt_succ, decide_true, decide_false, ne_eq, reduceCtorEq, wsh, hB3.hb, hB3.len])
      rw [condW_dec]
      refine ⟨fun hi1 => ?_, fun hi1 => ?_⟩
      · obtain ⟨n, hn⟩ : ∃ n, x.l[i]? = some n := ⟨_, List.getElem?_eq_getElem (by omega)⟩
        have hgd : x.l.getD i 0 = n := by rw [List.getD_eq_getElem?_getD, hn]; rfl
        (try simp only [wsv, wsg, wsh, wsl, cond_true, cond_false, exists_eq_left', Option.some.injEq, Option.isSome_some, List.getElem?_toArray, List.getElem?_cons_zero, List.getElem?_cons_succ, List.length_cons, List.length_nil, List.set_cons_zero, List.set_cons_succ, List.getD_cons_zero, List.getD_cons_succ, Nat.zero_add, Nat.add_zero, Nat.reduceAdd, Nat.reduceLT, Nat.lt_add_one, Nat.zero_lt_succ, decide_true, decide_false, ne_eq, reduceCtorEq, wsh, hB3.hb])
        refine hB3.at hn ?_
        simp only [wsv, wsg, wsh, wsl, cond_true, cond_false, exists_eq_left', Option.some.injEq, Option.isSome_some, List.getElem?_toArray, List.getElem?_cons_zero, List.getElem?_cons_succ, List.length_cons, List.length_nil, List.set_cons_zero, List.set_cons_succ, List.getD_cons_zero, List.getD_cons_succ, Nat.zero_add, Nat.add_zero, Nat.reduceAdd, Nat.reduceLT, Nat.lt_add_one, Nat.zero_lt_succ, decide_true, decide_false, ne_eq, reduceCtorEq]
        rw [hgd] at hxi ⊢
        rw [u64_wrap (by omega) (by omega)]
        simp only [u64, Int.natCast_add]
      · have hgd : x.l.getD i 0 = 0 := by rw [List.getD_eq_getElem?_getD, List.getElem?_eq_none (by omega)]; rfl
        rw [hgd]; first | exact ⟨rfl, rfl⟩ | rfl
    · rintro s gg w4 ⟨rfl, rfl⟩
      refine JoinW.cut (fun s w' => s = [u64 (c + x.l.getD i 0 + y.l.getD i 0)] ∧ w' = w4) ?_ ?_
      · (try simp only [wsv, wsg, wsh, wsl, cond_true, cond_false, exists_eq_left', Option.some.injEq, Option.isSome_some, List.getElem?_toArray, List.getElem?_cons_zero, List.getElem?_cons_succ, List.length_cons, List.length_nil, List.set_cons_zero, List.set_cons_succ, List.getD_cons_zero, List.getD_cons_succ, Nat.zero_add, Nat.add_zero, Nat.reduceAdd, Nat.reduceLT, Nat.lt_add_one, Nat.zero_lt_succ, decide_true, decide_false, ne_eq, reduceCtorEq, wsh, hC3.hb, hC3.len])
        rw [condW_dec]
        refine ⟨fun hi1 => ?_, fun hi1 => ?_⟩
        · obtain ⟨n, hn⟩ : ∃ n, y.l[i]? = some n := ⟨_, List.getElem?_eq_getElem (by omega)⟩
          have hgd : y.l.getD i 0 = n := by rw [List.getD_eq_getElem?_getD, hn]; rfl
          (try simp only [wsv, wsg, wsh, wsl, cond_true, cond_false, exists_eq_left', Option.some.injEq, Option.isSome_some, List.getElem?_toArray, List.getElem?_cons_zero, List.getElem?_cons_succ, List.length_cons, List.length_nil, List.set_cons_zero, List.set_cons_succ, List.getD_cons_zero, List.getD_cons_succ, Nat.zero_add, Nat.add_zero, Nat.reduceAdd, Nat.reduceLT, Nat.lt_add_one, Nat.zero_lt_succ, decide_true, decide_false, ne_eq, reduceCtorEq, wsh, hC3.hb])
          refine hC3.at hn ?_
          simp only [wsv, wsg, wsh, wsl, cond_true, cond_false, exists_eq_left', Option.some.injEq, Option.isSome_some, List.getElem?_toArray, List.getElem?_cons_zero, List.getElem?_cons_succ, List.length_cons, List.length_nil, List.set_cons_zero, List.set_cons_succ, List.getD_cons_zero, List.getD_cons_succ, Nat.zero_add, Nat.add_zero, Nat.reduceAdd, Nat.reduceLT, Nat.lt_add_one, Nat.zero_lt_succ, decide_true, decide_false, ne_eq, reduceCtorEq]
          rw [hgd] at hyi ⊢
          rw [u64_wrap (by omega) (by omega)]
          simp only [u64, Int.natCast_add]
        · have hgd : y.l.getD i 0 = 0 := by rw [List.getD_eq_getElem?_getD, List.getElem?_eq_none (by omega)]; rfl
          rw [hgd]; first | exact ⟨rfl, rfl⟩ | rfl
      · rintro s gg w5 ⟨rfl, rfl⟩
        have hst := plusL_step (x := x.l.drop i) (y := y.l.drop i) (c := c) (by
          rcases Nat.lt_or_ge i x.l.length with h1 | h1
          · left; intro e; have := List.drop_eq_nil_iff.1 e; omega
          · right; intro e; have := List.drop_eq_nil_iff.1 e; omega)
        rw [headD_drop, headD_drop, List.tail_drop, List.tail_drop] at hst
        have hn : c + x.l.getD i 0 + y.l.getD i 0 < 2000000000 := by omega
        generalize c + x.l.getD i 0 + y.l.getD i 0 = n at *
        have e1 : ((n : Int).tmod 1000000000) = ((n % 1000000000 : Nat) : Int) := by simp [Int.natCast_emod, Int.tmod_eq_emod_of_nonneg]
        have e2 : IntKind.u64.wrap ((n : Int).tdiv 1000000000) = ((n / 1000000000 : Nat) : Int) := by
          rw [Int.tdiv_eq_ediv_of_nonneg (by omega), u64_wrap (by omega) (by omega)]; omega
        have hne : ¬ (1000000000 : Int) = 0 := by decide
        simp only [wsv, wsg, wsh, wsl, cond_true, cond_false, exists_eq_left', Option.some.injEq, Option.isSome_some, List.getElem?_toArray, List.getElem?_cons_zero, List.getElem?_cons_succ, List.length_cons, List.length_nil, List.set_cons_zero, List.set_cons_succ, List.getD_cons_zero, List.getD_cons_succ, Nat.zero_add, Nat.add_zero, Nat.reduceAdd, Nat.reduceLT, Nat.lt_add_one, Nat.zero_lt_succ, decide_true, decide_false, ne_eq, reduceCtorEq, e1, e2, hne, not_false_eq_true]
        refine app_u hO hx3.size (by omega) fun v' w' h' hc' => ?_
        rw [up1 (by omega)]
        refine ⟨⟨i + 1, n / 1000000000, v', l ++ [n % 1000000000], hlt, by omega, rfl, hx3.then hc' fun k hk e => by omega, h', by simp [hl], ?_⟩, by simp only [Int.toNat_natCast]; omega⟩
        rw [← he, hst]; simp
  · obtain rfl : i = M := by omega
    simp only [wsv, wsg, wsh, wsl, cond_true, cond_false, exists_eq_left', Option.some.injEq, Option.isSome_some, List.getElem?_toArray, List.getElem?_cons_zero, List.getElem?_cons_succ, List.length_cons, List.length_nil, List.set_cons_zero, List.set_cons_succ, List.getD_cons_zero, List.getD_cons_succ, Nat.zero_add, Nat.add_zero, Nat.reduceAdd, Nat.reduceLT, Nat.lt_add_one, Nat.zero_lt_succ, decide_true, decide_false, ne_eq, reduceCtorEq, Int.lt_irrefl]
    refine app_u hO hx3.size (by omega) fun v' w' h' hc' => ?_
    have e1 : x.l.drop i = [] := List.drop_eq_nil_iff.2 (by omega)
    have e2 : y.l.drop i = [] := List.drop_eq_nil_iff.2 (by omega)
    rw [e1, e2] at he
    simp only [plusL] at he
    have := hK v' w' (hx.trans (hx3.then hc' fun k hk e => by omega))
    rw [← he] at this
    exact this h'.sl

theorem minusL_step {a : Nat} {x y : List Nat} {c : Nat} : minusL (a :: x) y c = (if a < c + y.headD 0 then a + 1000000000 - (c + y.headD 0) else a - (c + y.headD 0)) :: minusL x y.tail (if a < c + y.headD 0 then 1 else 0) := by
  simp only [minusL]; split <;> rfl
theorem minus_ref {x y : Big} {cs ds : List Value} {w : World} {K : Value → World → Prop} (h : BRep w x cs) (h' : BRep w y ds) (hK : ∀ v w', Ext w w' → SlAt w' U64 v (minusL x.l y.l 0).length ((minusL x.l y.l 0).map u64) → K v w') : callF Tryz.prog 287 [.agg cs.toArray, .agg ds.toArray] w K := by
  refine W287_ok ?_
  unfold W287
  refine box_big h fun a w1 sv hB hx ha hz1 => ?_
  refine box_big (h'.ext hx) fun b w2 sv' hC hx2 hb hz2 => ?_
  have hB := hB.ext hx2
  have hx := hx.trans hx2
  clear hx2
  simp only [wsv, wsg, wsh, wsl, cond_true, cond_false, exists_eq_left', Option.some.injEq, Option.isSome_some, List.getElem?_toArray, List.getElem?_cons_zero, List.getElem?_cons_succ, List.length_cons, List.length_nil, List.set_cons_zero, List.set_cons_succ, List.getD_cons_zero, List.getD_cons_succ, Nat.zero_add, Nat.add_zero, Nat.reduceAdd, Nat.reduceLT, Nat.lt_add_one, Nat.zero_lt_succ, decide_true, decide_false, ne_eq, reduceCtorEq, wsh, hB.hb, hC.hb, hB.len, hC.len]
  have hM1 : x.l.length ≤ 1000 := hB.few
  refine ⟨fun s w' => ∃ i c v l, i ≤ x.l.length ∧ c ≤ 1 ∧ s = [v, u64 c, i64 (i : Nat)] ∧ Ext w2 w' ∧ Own w' w2.heap.size U64 1 v l.length (l.map u64) ∧ l.length = i ∧ l ++ minusL (x.l.drop i) (y.l.drop i) c = minusL x.l y.l 0,
    fun s _ => match s with | [_, _, .int _ i] => x.l.length - i.toNat | _ => 0, ⟨0, 0, _, [], by omega, by omega, rfl, Chg.refl _ _, ⟨rfl, .inl ⟨rfl, rfl⟩⟩, rfl, by simp⟩, ?_⟩
  rintro s g w3 ⟨i, c, v, l, hi, hc, rfl, hx3, hO, hl, he⟩
  have hB3 := hB.ext hx3
  have hC3 := hC.ext hx3
  rcases Nat.lt_or_ge i x.l.length with hlt | hge
  · have hltI : (i : Int) < (x.l.length : Int) := by omega
    have hyi := lim_getD hC.lim i
    obtain ⟨n, hn⟩ : ∃ n, x.l[i]? = some n := ⟨_, List.getElem?_eq_getElem hlt⟩
    have hnl := hB.lim n (List.mem_of_getElem? hn)
    simp only [wsv, wsg, wsh, wsl, cond_true, cond_false, exists_eq_left', Option.some.injEq, Option.isSome_some, List.getElem?_toArray, List.getElem?_cons_zero, List.getElem?_cons_succ, List.length_cons, List.length_nil, List.set_cons_zero, List.set_cons_succ, List.getD_cons_zero, List.getD_cons_succ, Nat.zero_add, Nat.add_zero, Nat.reduceAdd, Nat.reduceLT, Nat.lt_add_one, Nat.zero_lt_succ, decide_true, decide_false, ne_eq, reduceCtorEq, hltI]
    refine hB3.at hn ?_
    refine JoinW.cut (fun s w' => s = [u64 (c + y.l.getD i 0)] ∧ w' = w3) ?_ ?_
    · (try simp only [wsv, wsg, wsh, wsl, cond_true, cond_false, exists_eq_left', Option.some.injEq, Option.isSome_some, List.getElem?_toArray, List.getElem?_cons_zero, List.getElem?_cons_succ, List.length_cons, List.length_nil, List.set_cons_zero, List.set_cons_succ, List.getD_cons_zero, List.getD_cons_succ, Nat.zero_add, Nat.add_zero, Nat.reduceAdd, Nat.reduceLT, Nat.lt_add_one, Nat.zero_lt_succ, decide_true, decide_false, ne_eq, reduceCtorEq, wsh, hC3.hb, hC3.len])
      rw [condW_dec]
      refine ⟨fun hi1 => ?_, fun hi1 => ?_⟩
      · obtain ⟨m, hm⟩ : ∃ n, y.l[i]? = some n := ⟨_, List.getElem?_eq_getElem (by omega)⟩
        have hgd : y.l.getD i 0 = m := by rw [List.getD_eq_getElem?_getD, hm]; rfl
        (try simp only [wsv, wsg, wsh, wsl, cond_true, cond_false, exists_eq_left', Option.some.injEq, Option.isSome_some, List.getElem?_toArray, List.getElem?_cons_zero, List.getElem?_cons_succ, List.length_cons, List.length_nil, List.set_cons_zero, List.set_cons_succ, List.getD_cons_zero, List.getD_cons_succ, Nat.zero_add, Nat.add_zero, Nat.reduceAdd, Nat.reduceLT, Nat.lt_add_one, Nat.zero_lt_succ, decide_true, decide_false, ne_eq, reduceCtorEq, wsh, hC3.hb])
        refine hC3.at hm ?_
        simp only [wsv, wsg, wsh, wsl, cond_true, cond_false, exists_eq_left', Option.some.injEq, Option.isSome_some, List.getElem?_toArray, List.getElem?_cons_zero, List.getElem?_cons_succ, List.length_cons, List.length_nil, List.set_cons_zero, List.set_cons_succ, List.getD_cons_zero, List.getD_cons_succ, Nat.zero_add, Nat.add_zero, Nat.reduceAdd, Nat.reduceLT, Nat.lt_add_one, Nat.zero_lt_succ, decide_true, decide_false, ne_eq, reduceCtorEq]
        rw [hgd] at hyi ⊢
        rw [u64_wrap (by omega) (by omega)]
        simp only [u64, Int.natCast_add]
      · have hgd : y.l.getD i 0 = 0 := by rw [List.getD_eq_getElem?_getD, List.getElem?_eq_none (by omega)]; rfl
        rw [hgd]; first | exact ⟨rfl, rfl⟩ | rfl
    · rintro s gg w4 ⟨rfl, rfl⟩
      have hdx : x.l.drop i = n :: x.l.drop (i + 1) := by
        rw [List.drop_eq_getElem_cons hlt]; congr 1
        exact Option.some.inj ((List.getElem?_eq_getElem hlt).symm.trans hn)
      rw [hdx, minusL_step, headD_drop, List.tail_drop] at he
      have ht : c + y.l.getD i 0 ≤ 1000000000 := by omega
      generalize c + y.l.getD i 0 = t at *
      refine JoinW.cut (fun s w' => s = [u64 (if n < t then 1 else 0), u64 (if n < t then n + 1000000000 else n)] ∧ w' = w4) ?_ ?_
      · simp only [wsv, wsg, wsh, wsl, cond_true, cond_false, exists_eq_left', Option.some.injEq, Option.isSome_some, List.getElem?_toArray, List.getElem?_cons_zero, List.getElem?_cons_succ, List.length_cons, List.length_nil, List.set_cons_zero, List.set_cons_succ, List.getD_cons_zero, List.getD_cons_succ, Nat.zero_add, Nat.add_zero, Nat.reduceAdd, Nat.reduceLT, Nat.lt_add_one, Nat.zero_lt_succ, decide_true, decide_false, ne_eq, reduceCtorEq, condW_dec]
        refine ⟨fun h1 => ?_, fun h1 => ?_⟩
        · rw [if_pos (by omega), if_pos (by omega), u64_wrap (by omega) (by omega)]
          simp only [u64, Int.natCast_add]; rfl
        · rw [if_neg (by omega), if_neg (by omega)]; rfl
      · rintro s gg w5 ⟨rfl, rfl⟩
        have e1 : IntKind.u64.wrap (((if n < t then n + 1000000000 else n : Nat) : Int) - (t : Int)) = (((if n < t then n + 1000000000 - t else n - t : Nat)) : Int) := by
          split
          · rw [u64_wrap (by omega) (by omega)]; omega
          · rw [u64_wrap (by omega) (by omega)]; omega
        simp only [wsv, wsg, wsh, wsl, cond_true, cond_false, exists_eq_left', Option.some.injEq, Option.isSome_some, List.getElem?_toArray, List.getElem?_cons_zero, List.getElem?_cons_succ, List.length_cons, List.length_nil, List.set_cons_zero, List.set_cons_succ, List.getD_cons_zero, List.getD_cons_succ, Nat.zero_add, Nat.add_zero, Nat.reduceAdd, Nat.reduceLT, Nat.lt_add_one, Nat.zero_lt_succ, decide_true, decide_false, ne_eq, reduceCtorEq, e1]
        refine app_u hO hx3.size (by omega) fun v' w' h' hc' => ?_
        rw [up1 (by omega)]
        refine ⟨⟨i + 1, if n < t then 1 else 0, v', l ++ [if n < t then n + 1000000000 - t else n - t], hlt, by split <;> omega, rfl, hx3.then hc' fun k hk e => by omega, h', by simp [hl], ?_⟩, by simp only [Int.toNat_natCast]; omega⟩
        rw [← he]; simp
  · obtain rfl : i = x.l.length := by omega
    simp only [wsv, wsg, wsh, wsl, cond_true, cond_false, exists_eq_left', Option.some.injEq, Option.isSome_some, List.getElem?_toArray, List.getElem?_cons_zero, List.getElem?_cons_succ, List.length_cons, List.length_nil, List.set_cons_zero, List.set_cons_succ, List.getD_cons_zero, List.getD_cons_succ, Nat.zero_add, Nat.add_zero, Nat.reduceAdd, Nat.reduceLT, Nat.lt_add_one, Nat.zero_lt_succ, decide_true, decide_false, ne_eq, reduceCtorEq, Int.lt_irrefl]
    rw [List.drop_length] at he
    simp only [minusL, List.append_nil] at he
    have := hK v w3 (hx.trans hx3)
    rw [← he] at this
    exact this hO.sl

theorem cmpN_I (a b : Nat) : cmpI (a : Int) (b : Int) = cmpN a b := by unfold cmpN cmpI; simp only [Int.ofNat_lt]
theorem size_num {x y : Big} {cs ds : List Value} {w : World} {K : Value → World → Prop} (h : BRep w x cs) (h' : BRep w y ds) (hK : ∀ w', Ext w w' → K (i64 (sizeL x.l y.l)) w') : callF Tryz.prog 286 [.agg cs.toArray, .agg ds.toArray] w K := by
  refine W286_ok ?_
  unfold W286
  refine box_big h fun a w1 sv hB hx ha hz1 => ?_
  refine box_big (h'.ext hx) fun b w2 sv' hC hx2 hb hz2 => ?_
  have hB := hB.ext hx2
  have hx := hx.trans hx2
  clear hx2
  simp only [wsv, wsg, wsh, wsl, cond_true, cond_false, exists_eq_left', Option.some.injEq, Option.isSome_some, List.getElem?_toArray, List.getElem?_cons_zero, List.getElem?_cons_succ, List.length_cons, List.length_nil, List.set_cons_zero, List.set_cons_succ, List.getD_cons_zero, List.getD_cons_succ, Nat.zero_add, Nat.add_zero, Nat.reduceAdd, Nat.reduceLT, Nat.lt_add_one, Nat.zero_lt_succ, decide_true, decide_false, ne_eq, reduceCtorEq, wsh, hB.hb, hC.hb, hB.len, hC.len]
  refine cmp_i ?_
  rw [cmpN_I]
  unfold sizeL at hK
  simp only [wsv, wsg, wsh, wsl, cond_true, cond_false, exists_eq_left', Option.some.injEq, Option.isSome_some, List.getElem?_toArray, List.getElem?_cons_zero, List.getElem?_cons_succ, List.length_cons, List.length_nil, List.set_cons_zero, List.set_cons_succ, List.getD_cons_zero, List.getD_cons_succ, Nat.zero_add, Nat.add_zero, Nat.reduceAdd, Nat.reduceLT, Nat.lt_add_one, Nat.zero_lt_succ, decide_true, decide_false, ne_eq, reduceCtorEq, condW_dec]
  refine ⟨fun h0 => ?_, fun h0 => ?_⟩
  · have := hK w2 hx
    rw [if_pos h0] at this
    exact this
  · have h0 : cmpN x.l.length y.l.length = 0 := Decidable.not_not.1 h0
    rw [if_neg (by rw [h0]; simp)] at hK
    have hl : x.l.length = y.l.length := by
      rcases cmpN_cases x.l.length y.l.length with ⟨_, e⟩ | ⟨e, _⟩ | ⟨_, e⟩
      · rw [h0] at e; cases e
      · exact e
      · rw [h0] at e; cases e
    have hf := hB.few
    simp only [wsv, wsg, wsh, wsl, cond_true, cond_false, exists_eq_left', Option.some.injEq, Option.isSome_some, List.getElem?_toArray, List.getElem?_cons_zero, List.getElem?_cons_succ, List.length_cons, List.length_nil, List.set_cons_zero, List.set_cons_succ, List.getD_cons_zero, List.getD_cons_succ, Nat.zero_add, Nat.add_zero, Nat.reduceAdd, Nat.reduceLT, Nat.lt_add_one, Nat.zero_lt_succ, decide_true, decide_false, ne_eq, reduceCtorEq, wsh, hB.hb, hB.len]
    refine ⟨fun s w' => ∃ m : Nat, m ≤ x.l.length ∧ s = [i64 ((m : Int) - 1)] ∧ Ext w2 w' ∧ sizeR ((x.l.zip y.l).take m).reverse = sizeR (x.l.zip y.l).reverse,
      fun s _ => match s with | [.int _ i] => (i + 1).toNat | _ => 0, ⟨x.l.length, Nat.le_refl _, by rw [wrap_id (by omega) (by omega)], Chg.refl _ _, by rw [List.take_of_length_le (by rw [List.length_zip]; omega)]⟩, ?_⟩
    rintro s g w3 ⟨m, hm, rfl, hx3, he⟩
    have hxd := hx3.trans (Chg.drew (Chg.refl (fun _ => False) w3))
    have hB3 := hB.ext hx3
    have hC3 := hC.ext hx3
    have hBd := hB.ext hxd
    have hCd := hC.ext hxd
    rcases Nat.eq_zero_or_pos m with h1 | h1
    · subst h1
      have e0 : ¬ (0 : Int) ≤ ((0 : Nat) : Int) - 1 := by omega
      simp only [wsv, wsg, wsh, wsl, cond_true, cond_false, exists_eq_left', Option.some.injEq, Option.isSome_some, List.getElem?_toArray, List.getElem?_cons_zero, List.getElem?_cons_succ, List.length_cons, List.length_nil, List.set_cons_zero, List.set_cons_succ, List.getD_cons_zero, List.getD_cons_succ, Nat.zero_add, Nat.add_zero, Nat.reduceAdd, Nat.reduceLT, Nat.lt_add_one, Nat.zero_lt_succ, decide_true, decide_false, ne_eq, reduceCtorEq, e0]
      have := hK w3 (hx.trans hx3)
      rw [← he] at this
      exact this
    · obtain ⟨k, rfl⟩ : ∃ k, m = k + 1 := ⟨m - 1, by omega⟩
      obtain ⟨p, hp⟩ : ∃ p, x.l[k]? = some p := ⟨_, List.getElem?_eq_getElem (by omega)⟩
      obtain ⟨q, hq⟩ : ∃ q, y.l[k]? = some q := ⟨_, List.getElem?_eq_getElem (by omega)⟩
      have hk : ((k + 1 : Nat) : Int) - 1 = ((k : Nat) : Int) := by omega
      have e0 : (0 : Int) ≤ ((k : Nat) : Int) := by omega
      rw [hk]
      simp only [wsv, wsg, wsh, wsl, cond_true, cond_false, exists_eq_left', Option.some.injEq, Option.isSome_some, List.getElem?_toArray, List.getElem?_cons_zero, List.getElem?_cons_succ, List.length_cons, List.length_nil, List.set_cons_zero, List.set_cons_succ, List.getD_cons_zero, List.getD_cons_succ, Nat.zero_add, Nat.add_zero, Nat.reduceAdd, Nat.reduceLT, Nat.lt_add_one, Nat.zero_lt_succ, decide_true, decide_false, ne_eq, reduceCtorEq, e0, wsh, hB3.hb, hC3.hb]
      refine hBd.at hp ?_
      refine hCd.at hq ?_
      refine cmp_u ?_
      have hz : (x.l.zip y.l).take (k + 1) = (x.l.zip y.l).take k ++ [(p, q)] := by
        rw [List.take_add_one, (List.getElem?_zip_eq_some (z := (p, q))).2 ⟨hp, hq⟩]; rfl
      rw [hz, List.reverse_append] at he
      simp only [List.reverse_cons, List.reverse_nil, List.nil_append, List.singleton_append, sizeR] at he
      simp only [wsv, wsg, wsh, wsl, cond_true, cond_false, exists_eq_left', Option.some.injEq, Option.isSome_some, List.getElem?_toArray, List.getElem?_cons_zero, List.getElem?_cons_succ, List.length_cons, List.length_nil, List.set_cons_zero, List.set_cons_succ, List.getD_cons_zero, List.getD_cons_succ, Nat.zero_add, Nat.add_zero, Nat.reduceAdd, Nat.reduceLT, Nat.lt_add_one, Nat.zero_lt_succ, decide_true, decide_false, ne_eq, reduceCtorEq, condW_dec]
      refine ⟨fun h2 => ?_, fun h2 => ?_⟩
      · rw [if_pos h2] at he
        have := hK w3.drew (hx.trans hxd)
        rw [← he] at this
        exact this
      · rw [if_neg h2] at he
        rw [wrap_id (by omega) (by omega)]
        exact ⟨⟨k, by omega, rfl, hxd, he⟩, by omega⟩

theorem turned_ref {x : Big} {cs : List Value} {w : World} {K : Value → World → Prop} (h : BRep w x cs) (hK : ∀ cs' w', Ext w w' → BRep w' (turnB x) cs' → K (.agg cs'.toArray) w') : callF Tryz.prog 270 [.agg cs.toArray] w K := by
  refine W270_ok ?_
  unfold W270
  refine box_big h fun a w1 sv hB hx ha hz1 => ?_
  refine alloc_new fun b w2 hb hz2 hbb hx2 => ?_
  have hB := hB.ext hx2
  have hx := hx.trans hx2
  obtain ⟨T, hs⟩ := hB.l
  obtain ⟨p, cap, rfl, _⟩ := hs.shape
  simp only [wsv, wsg, wsh, wsl, cond_true, cond_false, exists_eq_left', Option.some.injEq, Option.isSome_some, List.getElem?_toArray, List.getElem?_cons_zero, List.getElem?_cons_succ, List.length_cons, List.length_nil, List.set_cons_zero, List.set_cons_succ, List.getD_cons_zero, List.getD_cons_succ, Nat.zero_add, Nat.add_zero, Nat.reduceAdd, Nat.reduceLT, Nat.lt_add_one, Nat.zero_lt_succ, decide_true, decide_false, ne_eq, reduceCtorEq, wsh, hB.hb]
  refine trim_ref (x := ⟨!x.below, x.l⟩) ⟨_, T, rfl, hs, hB.few, hB.lim⟩ fun cs' w3 hx3 hr => ?_
  have hbb := hx3.at hbb id
  refine ret_agg hbb hr.len rfl hr.one fun w4 hc4 => ?_
  exact hK _ w4 ((hx.trans hx3).new hc4 (by have := hx.size; have := hx2.size; omega)) (hr.keep hbb (by intro n e; cases e) hc4)

theorem sum_ref {x y : Big} {cs ds : List Value} {w : World} {K : Value → World → Prop} (h : BRep w x cs) (h' : BRep w y ds) (hfew : x.l.length + y.l.length < 900) (hK : ∀ cs' w', Ext w w' → BRep w' (sumB x y) cs' → K (.agg cs'.toArray) w') : callF Tryz.prog 268 [.agg cs.toArray, .agg ds.toArray] w K := by
  refine W268_ok ?_
  unfold W268
  refine box_big h fun a w1 sv hB hx ha hz1 => ?_
  refine box_big (h'.ext hx) fun b w2 sv' hC hx2 hb hz2 => ?_
  have hB := hB.ext hx2
  have hx := hx.trans hx2
  refine alloc_new fun g w3 hg hz3 hgg hx3 => ?_
  have hB := hB.ext hx3
  have hC := hC.ext hx3
  have hs2 := hx2.size
  have hs := hx.size
  have hx := hx.trans hx3
  have hfin : ∀ (z : Big) (w4 : World) (v : Value), Ext w3 w4 → SlAt w4 U64 v z.l.length (z.l.map u64) → z.l.length ≤ 1000 → Lim z.l → sumB x y = z.trim →
      callF Tryz.prog 285 [.agg [.bool z.below, v].toArray] w4 fun t w6 => stW 2 (ptr g) t w6 fun w7 => ldW true 2 (ptr g) w7 fun r => K r w7 := by
    intro z w4 v hx4 hv hf hl he
    refine trim_ref (x := z) ⟨v, U64, rfl, hv, hf, hl⟩ fun cs' w5 hx5 hr => ?_
    have hgg := hx5.at (hx4.at hgg id) id
    refine ret_agg hgg hr.len rfl hr.one fun w6 hc6 => ?_
    rw [he] at hK
    exact hK _ w6 ((hx.trans (hx4.trans hx5)).new hc6 (by omega)) (hr.keep hgg (by intro n e; cases e) hc6)
  have hxd : Ext w3 w3.drew := Chg.drew (Chg.refl (fun _ => False) w3)
  have hBd := hB.ext hxd
  have hCd := hC.ext hxd
  have hpl : ∀ (x y : List Nat) (c : Nat), (plusL x y c).length ≤ x.length + y.length + 1 := by
    intro x
    induction x with
    | nil => intro y; induction y with
      | nil => intro c; simp [plusL]
      | cons b y ih => intro c; simp only [plusL, List.length_cons]; have := ih ((c + b) / 1000000000); simp only [List.length_nil] at this ⊢; omega
    | cons a x ih =>
      intro y c
      cases y with
      | nil => simp only [plusL, List.length_cons, List.length_nil]; have := ih [] ((c + a) / 1000000000); simp only [List.length_nil] at this; omega
      | cons b y => simp only [plusL, List.length_cons]; have := ih y ((c + a + b) / 1000000000); omega
  have hml : ∀ (x y : List Nat) (c : Nat), (minusL x y c).length = x.length := by
    intro x
    induction x with
    | nil => intro y c; simp [minusL]
    | cons a x ih => intro y c; rw [minusL_step, List.length_cons, ih, List.length_cons]
  have hmlim : ∀ (x y : List Nat) (c : Nat), Lim x → Lim y → c ≤ 1 → Lim (minusL x y c) := by
    intro x
    induction x with
    | nil => intro y c _ _ _; simp [minusL, Lim]
    | cons a x ih =>
      intro y c h1 h2 h3
      rw [minusL_step]
      have ha := h1 a List.mem_cons_self
      have hy : y.headD 0 < 1000000000 := by
        cases y with
        | nil => simp
        | cons b y => exact h2 b List.mem_cons_self
      have := ih y.tail (if a < c + y.headD 0 then 1 else 0) (fun u hu => h1 u (List.mem_cons_of_mem _ hu)) (fun u hu => h2 u (List.mem_of_mem_tail hu)) (by split <;> omega)
      intro u hu
      rcases List.mem_cons.1 hu with rfl | hu
      · split <;> omega
      · exact this u hu
  simp only [wsv, wsg, wsh, wsl, cond_true, cond_false, exists_eq_left', Option.some.injEq, Option.isSome_some, List.getElem?_toArray, List.getElem?_cons_zero, List.getElem?_cons_succ, List.length_cons, List.length_nil, List.set_cons_zero, List.set_cons_succ, List.getD_cons_zero, List.getD_cons_succ, Nat.zero_add, Nat.add_zero, Nat.reduceAdd, Nat.reduceLT, Nat.lt_add_one, Nat.zero_lt_succ, decide_true, decide_false, ne_eq, reduceCtorEq, wsh, hB.hb, hC.hb, eq_bb]
  rw [condW_b]
  unfold sumB at hfin
  refine ⟨fun he => ?_, fun hne => ?_⟩
  · have he : x.below = y.below := by simpa using he
    refine hBd.ld fun cs1 h1 => ?_
    refine hCd.ld fun cs2 h2 => ?_
    refine plus_ref h1 h2 fun v w4 hx4 hv => ?_
    have hB4 := hBd.ext hx4
    obtain ⟨p, c, rfl, _⟩ := hv.shape
    simp only [wsv, wsg, wsh, wsl, cond_true, cond_false, exists_eq_left', Option.some.injEq, Option.isSome_some, List.getElem?_toArray, List.getElem?_cons_zero, List.getElem?_cons_succ, List.length_cons, List.length_nil, List.set_cons_zero, List.set_cons_succ, List.getD_cons_zero, List.getD_cons_succ, Nat.zero_add, Nat.add_zero, Nat.reduceAdd, Nat.reduceLT, Nat.lt_add_one, Nat.zero_lt_succ, decide_true, decide_false, ne_eq, reduceCtorEq, wsh, hB4.hb]
    rw [if_pos he] at hfin
    refine hfin ⟨x.below, plusL x.l y.l 0⟩ w4 _ (hxd.trans hx4) hv ?_ (plusL_lim _ _ _ hB.lim hC.lim (by omega)) rfl
    have := hpl x.l y.l 0
    show (plusL x.l y.l 0).length ≤ 1000
    omega
  · have hne : x.below ≠ y.below := by simpa using hne
    rw [if_neg hne] at hfin
    refine hB.ld fun cs1 h1 => ?_
    refine hC.ld fun cs2 h2 => ?_
    refine size_num h1 h2 fun w4 hx4 => ?_
    have hB4 := hB.ext hx4
    have hC4 := hC.ext hx4
    have hxd4 : Ext w4 w4.drew := Chg.drew (Chg.refl (fun _ => False) w4)
    have hBd := hB4.ext hxd4
    have hCd := hC4.ext hxd4
    simp only [wsv, wsg, wsh, wsl, cond_true, cond_false, exists_eq_left', Option.some.injEq, Option.isSome_some, List.getElem?_toArray, List.getElem?_cons_zero, List.getElem?_cons_succ, List.length_cons, List.length_nil, List.set_cons_zero, List.set_cons_succ, List.getD_cons_zero, List.getD_cons_succ, Nat.zero_add, Nat.add_zero, Nat.reduceAdd, Nat.reduceLT, Nat.lt_add_one, Nat.zero_lt_succ, decide_true, decide_false, ne_eq, reduceCtorEq, condW_dec]
    refine ⟨fun hs => ?_, fun hs => ?_⟩
    · rw [if_pos hs] at hfin
      (try simp only [wsv, wsg, wsh, wsl, cond_true, cond_false, exists_eq_left', Option.some.injEq, Option.isSome_some, List.getElem?_toArray, List.getElem?_cons_zero, List.getElem?_cons_succ, List.length_cons, List.length_nil, List.set_cons_zero, List.set_cons_succ, List.getD_cons_zero, List.getD_cons_succ, Nat.zero_add, Nat.add_zero, Nat.reduceAdd, Nat.reduceLT, Nat.lt_add_one, Nat.zero_lt_succ, decide_true, decide_false, ne_eq, reduceCtorEq, wsh, hB4.hb])
      refine hBd.ld fun cs3 h3 => ?_
      refine hCd.ld fun cs4 h4 => ?_
      refine minus_ref h3 h4 fun v w5 hx5 hv => ?_
      have hB5 := hBd.ext hx5
      obtain ⟨p, c, rfl, _⟩ := hv.shape
      simp only [wsv, wsg, wsh, wsl, cond_true, cond_false, exists_eq_left', Option.some.injEq, Option.isSome_some, List.getElem?_toArray, List.getElem?_cons_zero, List.getElem?_cons_succ, List.length_cons, List.length_nil, List.set_cons_zero, List.set_cons_succ, List.getD_cons_zero, List.getD_cons_succ, Nat.zero_add, Nat.add_zero, Nat.reduceAdd, Nat.reduceLT, Nat.lt_add_one, Nat.zero_lt_succ, decide_true, decide_false, ne_eq, reduceCtorEq, wsh, hB5.hb]
      refine hfin ⟨x.below, minusL x.l y.l 0⟩ w5 _ (hx4.trans (hxd4.trans hx5)) hv ?_ (hmlim _ _ _ hB.lim hC.lim (by omega)) rfl
      show (minusL x.l y.l 0).length ≤ 1000
      rw [hml]; omega
    · rw [if_neg hs] at hfin
      (try simp only [wsv, wsg, wsh, wsl, cond_true, cond_false, exists_eq_left', Option.some.injEq, Option.isSome_some, List.getElem?_toArray, List.getElem?_cons_zero, List.getElem?_cons_succ, List.length_cons, List.length_nil, List.set_cons_zero, List.set_cons_succ, List.getD_cons_zero, List.getD_cons_succ, Nat.zero_add, Nat.add_zero, Nat.reduceAdd, Nat.reduceLT, Nat.lt_add_one, Nat.zero_lt_succ, decide_true, decide_false, ne_eq, reduceCtorEq, wsh, hC4.hb])
      refine hCd.ld fun cs3 h3 => ?_
      refine hBd.ld fun cs4 h4 => ?_
      refine minus_ref h3 h4 fun v w5 hx5 hv => ?_
      have hC5 := hCd.ext hx5
      obtain ⟨p, c, rfl, _⟩ := hv.shape
      simp only [wsv, wsg, wsh, wsl, cond_true, cond_false, exists_eq_left', Option.some.injEq, Option.isSome_some, List.getElem?_toArray, List.getElem?_cons_zero, List.getElem?_cons_succ, List.length_cons, List.length_nil, List.set_cons_zero, List.set_cons_succ, List.getD_cons_zero, List.getD_cons_succ, Nat.zero_add, Nat.add_zero, Nat.reduceAdd, Nat.reduceLT, Nat.lt_add_one, Nat.zero_lt_succ, decide_true, decide_false, ne_eq, reduceCtorEq, wsh, hC5.hb]
      refine hfin ⟨y.below, minusL y.l x.l 0⟩ w5 _ (hx4.trans (hxd4.trans hx5)) hv ?_ (hmlim _ _ _ hC.lim hB.lim (by omega)) rfl
      show (minusL y.l x.l 0).length ≤ 1000
      rw [hml]; omega
end
end Go.Proofs.YtcnjpcadejcenaaGreatDoor

namespace Go.Proofs.YtcnjpcadejcenaaGreatDoor
open Go Go.Eng Go.Num
set_option maxRecDepth 100000
theorem parse_dec : ∀ (l : Str) (acc : Nat), l.all Num.isDig = true → acc * 10 ^ l.length + dec l < 1000000000000000000 → Lib.parseUintM (2 ^ 64 - 1) acc l = .ok (acc * 10 ^ l.length + dec l)
  | [], acc, _, _ => by simp [Lib.parseUintM, dec]
  | c :: r, acc, h, hb => by
    simp only [List.all_cons, Bool.and_eq_true] at h
    have hc := h.1
    simp only [Num.isDig, Bool.and_eq_true, decide_eq_true_eq] at hc
    have e : acc * 10 ^ (c :: r).length + dec (c :: r) = (acc * 10 + (c.toNat - 48)) * 10 ^ r.length + dec r := by
      rw [dec_cons, List.length_cons, Nat.pow_succ, Nat.add_mul, ← Nat.add_assoc]
      congr 2
      rw [Nat.mul_comm (10 ^ r.length) 10, Nat.mul_assoc]
    rw [e] at hb ⊢
    have hp : 1 ≤ 10 ^ r.length := Nat.pow_pos (by omega)
    have h1 : acc * 10 + (c.toNat - 48) ≤ (acc * 10 + (c.toNat - 48)) * 10 ^ r.length := Nat.le_mul_of_pos_right _ hp
    simp only [Lib.parseUintM]
    rw [if_pos hc, if_neg (by omega), if_neg (by omega)]
    exact parse_dec r _ h.2 hb
section
variable [HX]
theorem puint_ref {l : Str} {w : World} {K : Value → World → Prop} (h0 : l ≠ []) (hl : l.length ≤ 9) (hd : l.all Num.isDig = true) (hK : ∀ w', Ext w w' → K (.tuple #[u64 (dec l), .nilIface]) w') : callF Tryz.prog 225 [str l, i64 10, i64 64] w K := by
  have hlt := dec9 hd hl
  have hp : Lib.parseUintB 64 l = .ok (dec l) := by
    unfold Lib.parseUintB
    rw [if_neg h0]
    have := parse_dec l 0 hd (by rw [Nat.zero_mul, Nat.zero_add]; omega)
    rw [Nat.zero_mul, Nat.zero_add] at this
    exact this
  refine of_calls (args := #[str l, i64 10, i64 64]) Tryz.call225 ((Tryz.strconv_ParseUint_10_at64_ok (ofL l) (by rw [ofL_size]; omega) (dec l) (by rw [ofL_data]; exact hp) w).mono ?_)
  rintro e w' ⟨rfl, rfl | rfl⟩
  · exact ⟨_, rfl, hK _ (Chg.refl _ _)⟩
  · exact ⟨_, rfl, hK _ (bytes_ext _ _ _)⟩

theorem limbs_len : ∀ (n : Nat) (d : Str), d.length ≤ n → (limbs d).length ≤ d.length
  | n, [], _ => by rw [limbs_nil]; simp
  | 0, _ :: _, h => by simp at h
  | n + 1, c :: d, hn => by
    rw [limbs_ne (by simp)]
    generalize hD : c :: d = D at *
    have hpos : 0 < D.length := by rw [← hD]; simp
    have := limbs_len n (D.take (D.length - 9)) (by rw [List.length_take]; omega)
    rw [List.length_take] at this
    simp only [List.length_cons]; omega
theorem read_ref {a : Str} {w : World} {K : Value → World → Prop} (hg : goodN a = true) (ha : a.length ≤ 9223372036854775807) (hK : ∀ cs' w', Ext w w' → BRep w' (readB a) cs' → K (.agg cs'.toArray) w') : callF Tryz.prog 269 [str a] w K := by
  refine W269_ok ?_
  unfold W269
  obtain ⟨g1, g2, _, g4⟩ := goodN_out hg
  refine alloc_new fun b w1 hb hz1 hbb hx1 => ?_
  refine cutpre_ref ha ?_
  simp only [wsv, wsg, wsh, wsl, cond_true, cond_false, exists_eq_left', Option.some.injEq, Option.isSome_some, List.getElem?_toArray, List.getElem?_cons_zero, List.getElem?_cons_succ, List.length_cons, List.length_nil, List.set_cons_zero, List.set_cons_succ, List.getD_cons_zero, List.getD_cons_succ, Nat.zero_add, Nat.add_zero, Nat.reduceAdd, Nat.reduceLT, Nat.lt_add_one, Nat.zero_lt_succ, decide_true, decide_false, ne_eq, reduceCtorEq]
  generalize hd : dig a = d at *
  refine alloc_new fun g w2 hgz hz2 hgg hx2 => ?_
  refine st_agg_at (l := [.bool (neg a), .slice none 0 0]) hgg rfl rfl rfl fun w3 hz3 hg3 hc3 => ?_
  have hx3 : Ext w w3 := (hx1.trans hx2).new hc3 (by omega)
  have hbb := hc3.at (hx2.at hbb id) (by omega)
  refine ⟨fun s w' => ∃ (z : Int) (v : Value) (l : List Nat), s = [i64 z] ∧ z ≤ d.length ∧ -9 ≤ z ∧ l ++ limbs (d.take z.toNat) = limbs d ∧ Own w' (g + 1) U64 1 v l.length (l.map u64) ∧ w'.heap[g]? = some (.cells [.bool (neg a), v].toArray BT (0, 0)) ∧ w'.heap[b]? = some (.cells [.bool false, .slice none 0 0].toArray BT (0, 0)) ∧ Chg (fun k => k = g ∨ g + 1 ≤ k) w3 w' ∧ l.length + z.toNat ≤ 100,
    fun s _ => match s with | [.int _ z] => z.toNat | _ => 0, ⟨d.length, _, [], rfl, by omega, by omega, by rw [Int.toNat_natCast, List.take_length]; rfl, ⟨rfl, .inl ⟨rfl, rfl⟩⟩, hg3, hbb, Chg.refl _ _, by simp; omega⟩, ?_⟩
  rintro s gg w4 ⟨z, v, l, rfl, hzl, hz9, hll, hO, hg4, hb4, hc4, hcnt⟩
  have hsz := hc4.size
  rcases Int.lt_or_le 0 z with hpos | hneg
  · obtain ⟨e, rfl⟩ : ∃ e : Nat, z = (e : Int) := ⟨z.toNat, by omega⟩
    rw [Int.toNat_natCast] at hll hcnt
    have hlo : (if (0 : Int) < IntKind.i64.wrap ((e : Int) - 9) then IntKind.i64.wrap ((e : Int) - 9) else 0) = ((e - 9 : Nat) : Int) := by
      rw [wrap_id (by omega) (by omega)]; split <;> omega
    have hlen : (d.take e).length = e := by rw [List.length_take]; omega
    simp only [wsv, wsg, wsh, wsl, cond_true, cond_false, exists_eq_left', Option.some.injEq, Option.isSome_some, List.getElem?_toArray, List.getElem?_cons_zero, List.getElem?_cons_succ, List.length_cons, List.length_nil, List.set_cons_zero, List.set_cons_succ, List.getD_cons_zero, List.getD_cons_succ, Nat.zero_add, Nat.add_zero, Nat.reduceAdd, Nat.reduceLT, Nat.lt_add_one, Nat.zero_lt_succ, decide_true, decide_false, ne_eq, reduceCtorEq, hpos, hlo, Int.toNat_natCast]
    refine ⟨by omega, by omega, by omega, by omega, ?_⟩
    have hne : d.take e ≠ [] := fun h => by rw [h] at hlen; simp at hlen; omega
    have hchunk := limbs_ne hne
    rw [hlen, List.take_take, Nat.min_eq_left (by omega)] at hchunk
    have hcl : ((d.take e).drop (e - 9)).length ≤ 9 := by rw [List.length_drop, hlen]; omega
    have hcn : (d.take e).drop (e - 9) ≠ [] := fun h => by have := List.drop_eq_nil_iff.1 h; omega
    refine puint_ref hcn hcl (all_drop _ (all_take _ g4)) fun w5 hx5 => ?_
    have hg5 := hx5.at hg4 id
    have hs5 := hx5.size
    simp only [wsv, wsg, wsh, wsl, cond_true, cond_false, exists_eq_left', Option.some.injEq, Option.isSome_some, List.getElem?_toArray, List.getElem?_cons_zero, List.getElem?_cons_succ, List.length_cons, List.length_nil, List.set_cons_zero, List.set_cons_succ, List.getD_cons_zero, List.getD_cons_succ, Nat.zero_add, Nat.add_zero, Nat.reduceAdd, Nat.reduceLT, Nat.lt_add_one, Nat.zero_lt_succ, decide_true, decide_false, ne_eq, reduceCtorEq, wsh, hg5]
    refine app_u (hO.ext hx5) (by have := at_lt hg3; omega) (by omega) fun v' w6 h6 hc6 => ?_
    have hg6 := hc6.at hg5 (by omega)
    have h1v : one1 v' = true := by obtain ⟨p, c, rfl, _⟩ := h6.sl.shape; rfl
    refine st_at hg6 h1v (by simp) fun w7 hz7 hg7 hc7 => ?_
    rw [wrap_id (by omega) (by omega)]
    have hg7 : w7.heap[g]? = some (.cells [.bool (neg a), v'].toArray BT (0, 0)) := by rw [hg7]; simp
    have ht : ((e : Int) - 9).toNat = e - 9 := by omega
    refine ⟨⟨_, v', l ++ [dec ((d.take e).drop (e - 9))], rfl, by omega, by omega, ?_, h6.chg hc7 fun k hk e => by have := hk.1; omega, hg7, hc7.at (hc6.at (hx5.at hb4 id) (by omega)) (by omega), ?_, ?_⟩, ?_⟩
    · rw [ht, ← hll, hchunk, List.append_assoc]; rfl
    · exact ((hc4.trans (Chg.of_ext hx5)).trans (hc6.mono fun k _ e => .inr e)).trans (hc7.mono fun k _ e => .inl e)
    · rw [ht]; simp; omega
    · simp only [ht]; omega
  · have h0 : ¬ (0 : Int) < z := by omega
    have hz0 : z.toNat = 0 := by omega
    rw [hz0, List.take_zero, limbs_nil, List.append_nil] at hll
    subst hll
    simp only [wsv, wsg, wsh, wsl, cond_true, cond_false, exists_eq_left', Option.some.injEq, Option.isSome_some, List.getElem?_toArray, List.getElem?_cons_zero, List.getElem?_cons_succ, List.length_cons, List.length_nil, List.set_cons_zero, List.set_cons_succ, List.getD_cons_zero, List.getD_cons_succ, Nat.zero_add, Nat.add_zero, Nat.reduceAdd, Nat.reduceLT, Nat.lt_add_one, Nat.zero_lt_succ, decide_true, decide_false, ne_eq, reduceCtorEq, h0]
    refine ld_all hg4 rfl ?_
    have hlim := (limbs_val _ d (Nat.le_refl _) g4).2
    refine trim_ref (x := ⟨neg a, limbs d⟩) ⟨v, U64, rfl, hO.sl, by simp at hcnt ⊢; omega, hlim⟩ fun cs' w5 hx5 hr => ?_
    have hb5 := hx5.at hb4 id
    refine ret_agg hb5 hr.len rfl hr.one fun w6 hc6 => ?_
    have e : readB a = (⟨neg a, limbs d⟩ : Big).trim := by unfold readB; rw [hd]
    rw [e] at hK
    have hx4 : Ext w w4 := hx3.then hc4 fun k hk h => by have := hx1.size; omega
    exact hK _ w6 ((hx4.trans hx5).new hc6 (by omega)) (hr.keep hb5 (by intro n e; cases e) hc6)

theorem numcmp_ref {a b : Str} {w : World} {K : Value → World → Prop} (ha : a.length ≤ 9223372036854775807) (hb : b.length ≤ 9223372036854775807) (hK : ∀ w', Ext w w' → K (i64 (cmpS a b)) w') : callF Tryz.prog 242 [str a, str b] w K := by
  refine W242_ok ?_
  unfold W242
  unfold cmpS at hK
  refine numgood_ref ha fun w1 hx1 => ?_
  simp only [wsv, wsg, wsh, wsl, cond_true, cond_false, exists_eq_left', Option.some.injEq, Option.isSome_some, List.getElem?_toArray, List.getElem?_cons_zero, List.getElem?_cons_succ, List.length_cons, List.length_nil, List.set_cons_zero, List.set_cons_succ, List.getD_cons_zero, List.getD_cons_succ, Nat.zero_add, Nat.add_zero, Nat.reduceAdd, Nat.reduceLT, Nat.lt_add_one, Nat.zero_lt_succ, decide_true, decide_false, ne_eq, reduceCtorEq]
  refine GdW.act (!goodN b) (fun w' => Ext w1 w') (fun _ => Chg.refl _ _) ?_ ?_
  · intro hc J hJ
    refine numgood_ref hb fun w2 hx2 => ?_
    simp only [wsv, wsg, wsh, wsl, cond_true, cond_false, exists_eq_left', Option.some.injEq, Option.isSome_some, List.getElem?_toArray, List.getElem?_cons_zero, List.getElem?_cons_succ, List.length_cons, List.length_nil, List.set_cons_zero, List.set_cons_succ, List.getD_cons_zero, List.getD_cons_succ, Nat.zero_add, Nat.add_zero, Nat.reduceAdd, Nat.reduceLT, Nat.lt_add_one, Nat.zero_lt_succ, decide_true, decide_false, ne_eq, reduceCtorEq]
    exact hJ w2 hx2
  intro g w2 hx2
  have hx := hx1.trans hx2
  simp only [wsv, wsg, wsh, wsl, cond_true, cond_false, exists_eq_left', Option.some.injEq, Option.isSome_some, List.getElem?_toArray, List.getElem?_cons_zero, List.getElem?_cons_succ, List.length_cons, List.length_nil, List.set_cons_zero, List.set_cons_succ, List.getD_cons_zero, List.getD_cons_succ, Nat.zero_add, Nat.add_zero, Nat.reduceAdd, Nat.reduceLT, Nat.lt_add_one, Nat.zero_lt_succ, decide_true, decide_false, ne_eq, reduceCtorEq]
  rw [condW_b]
  refine ⟨fun hn => ?_, fun hy => ?_⟩
  · have := hK w2 hx
    have e : (goodN a && goodN b) = false := by revert hn; cases goodN a <;> cases goodN b <;> simp
    rw [e] at this
    exact this
  · have hga : goodN a = true := by revert hy; cases goodN a <;> simp
    have hgb : goodN b = true := by revert hy; cases goodN b <;> simp
    rw [hga, hgb] at hK
    simp only [Bool.and_self, if_true] at hK
    have lenR : ∀ {a : Str}, goodN a = true → (readB a).l.length ≤ 100 := by
      intro a h
      obtain ⟨_, h2, _, _⟩ := goodN_out h
      have h3 := limbs_len _ (dig a) (Nat.le_refl _)
      show (trimL (limbs (dig a))).length ≤ 100
      have : ∀ l : List Nat, (trimL l).length ≤ l.length := fun l => by
        induction l using snoc_ind with
        | h0 => rw [trimL_nil]; simp
        | h1 l x ih =>
          by_cases h : x = 0
          · subst h; rw [trimL_zero]; simp; omega
          · rw [trimL_ne h]; simp
      have := this (limbs (dig a))
      omega
    refine read_ref hga ha fun cs1 w3 hx3 h1 => ?_
    refine read_ref hgb hb fun cs2 w4 hx4 h2 => ?_
    refine turned_ref h2 fun cs3 w5 hx5 h3 => ?_
    have hl3 : (turnB (readB b)).l.length ≤ 100 := by
      have := lenR hgb
      have : ∀ l : List Nat, (trimL l).length ≤ l.length := fun l => by
        induction l using snoc_ind with
        | h0 => rw [trimL_nil]; simp
        | h1 l x ih =>
          by_cases h : x = 0
          · subst h; rw [trimL_zero]; simp; omega
          · rw [trimL_ne h]; simp
      have := this (readB b).l
      show (trimL (readB b).l).length ≤ 100
      omega
    refine sum_ref (h1.ext (hx4.trans hx5)) h3 (by have := lenR hga; omega) fun cs4 w6 hx6 h4 => ?_
    generalize sumB (readB a) (turnB (readB b)) = D at *
    obtain ⟨sv, T, rfl, hs, hf, hlim⟩ := h4
    refine alloc_new fun c w7 hc hz7 hcc hx7 => ?_
    obtain ⟨p, cap, rfl, _⟩ := hs.shape
    refine st_agg_at (l := [.bool D.below, .slice p D.l.length cap]) hcc rfl rfl rfl fun w8 hz8 hb8 hc8 => ?_
    have hx8 : Ext w w8 := (hx.trans (hx3.trans (hx4.trans (hx5.trans (hx6.trans hx7))))).new hc8 (by
      have := (hx.trans (hx3.trans (hx4.trans (hx5.trans hx6)))).size; omega)
    have := hK w8 hx8
    simp only [wsv, wsg, wsh, wsl, cond_true, cond_false, exists_eq_left', Option.some.injEq, Option.isSome_some, List.getElem?_toArray, List.getElem?_cons_zero, List.getElem?_cons_succ, List.length_cons, List.length_nil, List.set_cons_zero, List.set_cons_succ, List.getD_cons_zero, List.getD_cons_succ, Nat.zero_add, Nat.add_zero, Nat.reduceAdd, Nat.reduceLT, Nat.lt_add_one, Nat.zero_lt_succ, decide_true, decide_false, ne_eq, reduceCtorEq, wsh, hb8]
    simp only [condW_dec]
    refine ⟨fun h0 => ?_, fun h0 => ?_⟩
    · have hl : D.l = [] := List.eq_nil_of_length_eq_zero (by omega)
      rw [if_pos hl] at this
      exact this
    · have hl : D.l ≠ [] := fun e => by rw [e] at h0; simp at h0
      rw [if_neg hl] at this
      rw [condW_b]
      refine ⟨fun hb => ?_, fun hb => ?_⟩
      · rw [if_pos hb] at this; exact this
      · rw [if_neg (by rw [hb]; simp)] at this; exact this
end
end Go.Proofs.YtcnjpcadejcenaaGreatDoor

namespace Go.Proofs.YtcnjpcadejcenaaGreatDoor
open Go Go.Eng Go.Num
set_option maxRecDepth 100000
section
variable [HX]
theorem callV_fn {P : Program} {g : FuncId} {args : List Value} {w : World} {K : Value → World → Prop} (h : callF P g args w K) : callV P (.func (.func g) #[] #[]) args w K := by
  unfold callV semN
  unfold callF at h
  have : (do let d ← (Deferred.ofValue (.func (.func g) #[] #[]) args.toArray); invoke d.target d.args : Sem Next) = callFunc g args.toArray := by
    show callFunc g (#[] ++ args.toArray ++ #[]) = _
    simp
  rw [this]
  exact h

/-- a row of values that is read -/
structure ItemsAt (w : World) (sv : Value) (xs : List JV) : Prop where
  it : ∃ T L, SlAt w T sv xs.length L ∧ VReps w xs L
  few : xs.length ≤ 9223372036854775807
theorem ItemsAt.ext {w w' : World} {sv : Value} {xs : List JV} (h : ItemsAt w sv xs) (hx : Ext w w') : ItemsAt w' sv xs := ⟨let ⟨T, L, h1, h2⟩ := h.it; ⟨T, L, h1.ext hx, h2.ext hx⟩, h.few⟩
theorem ValB.itemsAt {w : World} {a : Nat} {v : JV} {sv kv : Value} (h : ValB w a v sv kv) : ItemsAt w sv v.xs := ⟨h.items, h.fits.1⟩
theorem ItemsAt.len {w : World} {sv : Value} {xs : List JV} (h : ItemsAt w sv xs) (K : Value → Prop) : lenlW sv K ↔ K (i64 xs.length) := by obtain ⟨T, L, h1, _⟩ := h.it; exact lenl_at h1 K
theorem ItemsAt.at {w : World} {sv : Value} {xs : List JV} {k : IntKind} {i : Nat} {x : JV} {K : Value → Prop} (h : ItemsAt w sv xs) (hi : xs[i]? = some x) (hK : ∀ cs, VRep w x cs → K (.agg cs.toArray)) : ixaW none 5 sv (.int k i) fun p => ldW true 5 p w K := by
  obtain ⟨T, L, h1, h2⟩ := h.it; exact item_ld h1 h2 hi hK

def findI {α : Type} (p : α → Bool) (xs : List α) : Int := match xs.findIdx? p with | some i => i | none => -1
theorem findI_ge {α : Type} (p : α → Bool) (xs : List α) : decide ((0 : Int) ≤ findI p xs) = xs.any p := by
  unfold findI
  cases h : xs.findIdx? p with
  | none =>
    have := List.findIdx?_eq_none_iff.1 h
    have : xs.any p = false := List.any_eq_false.2 fun x hx => by simp [this x hx]
    rw [this]; decide
  | some i =>
    obtain ⟨hi, hp, _⟩ := List.findIdx?_eq_some_iff_getElem.1 h
    rw [List.any_eq_true.2 ⟨_, List.getElem_mem hi, hp⟩]
    exact decide_eq_true (by simp)
theorem findIdx_hit {α : Type} {p : α → Bool} {xs : List α} {i : Nat} {x : α} (h : (xs.take i).any p = false) (hi : xs[i]? = some x) (hx : p x = true) : xs.findIdx? p = some i := by
  obtain ⟨hl, e⟩ := List.getElem?_eq_some_iff.1 hi
  rw [List.findIdx?_eq_some_iff_getElem]
  refine ⟨hl, by rw [e]; exact hx, fun j hj => ?_⟩
  have := List.any_eq_false.1 h xs[j] (List.mem_of_getElem? (i := j) (by rw [List.getElem?_take, if_pos hj]; exact List.getElem?_eq_getElem _))
  simpa using this
theorem index_v {sv f : Value} {xs : List JV} {p : JV → Bool} {w : World} {K : Value → World → Prop} (h : ItemsAt w sv xs)
    (hf : ∀ x ∈ xs, ∀ {cs : List Value} {w : World} {K : Value → World → Prop}, VRep w x cs → (∀ w', Ext w w' → K (.bool (p x)) w') → callV Tryz.prog f [.agg cs.toArray] w K)
    (hK : ∀ w', Ext w w' → K (i64 (findI p xs)) w') : callF Tryz.prog 150 [sv, f] w K := by
  refine W150_ok ?_
  unfold W150
  rw [h.len]
  refine loop_up xs.length (fun i w' => Ext w w' ∧ (xs.take i).any p = false) ⟨Chg.refl _ _, by simp⟩ ?_ ?_
  · rintro i w2 g L hi ⟨hx2, hno⟩ hL
    obtain ⟨x, hxi⟩ : ∃ x, xs[i]? = some x := ⟨_, List.getElem?_eq_getElem hi⟩
    have hlt : ((i : Int) < (xs.length : Int)) := by omega
    simp only [wsv, wsg, wsh, wsl, cond_true, cond_false, exists_eq_left', Option.some.injEq, Option.isSome_some, List.getElem?_toArray, List.getElem?_cons_zero, List.getElem?_cons_succ, List.length_cons, List.length_nil, List.set_cons_zero, List.set_cons_succ, List.getD_cons_zero, List.getD_cons_succ, Nat.zero_add, Nat.add_zero, Nat.reduceAdd, Nat.reduceLT, Nat.lt_add_one, Nat.zero_lt_succ, decide_true, decide_false, ne_eq, reduceCtorEq, hlt]
    refine (h.ext hx2).at hxi fun cs hcs => ?_
    refine hf x (List.mem_of_getElem? hxi) hcs fun w3 hx3 => ?_
    rw [condW_b]
    refine ⟨fun ht => ?_, fun hn => ?_⟩
    · have := hK w3 (hx2.trans hx3)
      unfold findI at this
      rw [findIdx_hit hno hxi ht] at this
      exact this
    · have := h.few
      rw [up1 (by omega)]
      exact hL w3 ⟨hx2.trans hx3, by rw [any_take hxi, hno, hn]; rfl⟩
  · rintro w2 g L ⟨hx2, hno⟩
    simp only [wsv, wsg, wsh, wsl, cond_true, cond_false, exists_eq_left', Option.some.injEq, Option.isSome_some, List.getElem?_toArray, List.getElem?_cons_zero, List.getElem?_cons_succ, List.length_cons, List.length_nil, List.set_cons_zero, List.set_cons_succ, List.getD_cons_zero, List.getD_cons_succ, Nat.zero_add, Nat.add_zero, Nat.reduceAdd, Nat.reduceLT, Nat.lt_add_one, Nat.zero_lt_succ, decide_true, decide_false, ne_eq, reduceCtorEq, Int.lt_irrefl]
    rw [List.take_length] at hno
    have := hK w2 hx2
    unfold findI at this
    rw [List.findIdx?_eq_none_iff.2 fun x hx => by simpa using List.any_eq_false.1 hno x hx] at this
    exact this
theorem contains_v {sv f : Value} {xs : List JV} {p : JV → Bool} {w : World} {K : Value → World → Prop} (h : ItemsAt w sv xs)
    (hf : ∀ x ∈ xs, ∀ {cs : List Value} {w : World} {K : Value → World → Prop}, VRep w x cs → (∀ w', Ext w w' → K (.bool (p x)) w') → callV Tryz.prog f [.agg cs.toArray] w K)
    (hK : ∀ w', Ext w w' → K (.bool (xs.any p)) w') : callF Tryz.prog 99 [sv, f] w K := by
  refine W99_ok ?_
  unfold W99
  refine index_v h hf fun w1 hx1 => ?_
  simp only [wsv, wsg, wsh, wsl, cond_true, cond_false, exists_eq_left', Option.some.injEq, Option.isSome_some, List.getElem?_toArray, List.getElem?_cons_zero, List.getElem?_cons_succ, List.length_cons, List.length_nil, List.set_cons_zero, List.set_cons_succ, List.getD_cons_zero, List.getD_cons_succ, Nat.zero_add, Nat.add_zero, Nat.reduceAdd, Nat.reduceLT, Nat.lt_add_one, Nat.zero_lt_succ, decide_true, decide_false, ne_eq, reduceCtorEq, findI_ge]
  exact hK w1 hx1

theorem index_x {sv f : Value} {xs : List JV} {p : JV → Bool} {w : World} {K : Value → World → Prop} (h : ItemsAt w sv xs)
    (hf : ∀ x ∈ xs, ∀ {cs : List Value} {w1 : World} {K : Value → World → Prop}, Ext w w1 → VRep w1 x cs → (∀ w', Ext w1 w' → K (.bool (p x)) w') → callV Tryz.prog f [.agg cs.toArray] w1 K)
    (hK : ∀ w', Ext w w' → K (i64 (findI p xs)) w') : callF Tryz.prog 150 [sv, f] w K := by
  refine W150_ok ?_
  unfold W150
  rw [h.len]
  refine loop_up xs.length (fun i w' => Ext w w' ∧ (xs.take i).any p = false) ⟨Chg.refl _ _, by simp⟩ ?_ ?_
  · rintro i w2 g L hi ⟨hx2, hno⟩ hL
    obtain ⟨x, hxi⟩ : ∃ x, xs[i]? = some x := ⟨_, List.getElem?_eq_getElem hi⟩
    have hlt : ((i : Int) < (xs.length : Int)) := by omega
    simp only [wsv, wsg, wsh, wsl, cond_true, cond_false, exists_eq_left', Option.some.injEq, Option.isSome_some, List.getElem?_toArray, List.getElem?_cons_zero, List.getElem?_cons_succ, List.length_cons, List.length_nil, List.set_cons_zero, List.set_cons_succ, List.getD_cons_zero, List.getD_cons_succ, Nat.zero_add, Nat.add_zero, Nat.reduceAdd, Nat.reduceLT, Nat.lt_add_one, Nat.zero_lt_succ, decide_true, decide_false, ne_eq, reduceCtorEq, hlt]
    refine (h.ext hx2).at hxi fun cs hcs => ?_
    refine hf x (List.mem_of_getElem? hxi) hx2 hcs fun w3 hx3 => ?_
    rw [condW_b]
    refine ⟨fun ht => ?_, fun hn => ?_⟩
    · have := hK w3 (hx2.trans hx3)
      unfold findI at this
      rw [findIdx_hit hno hxi ht] at this
      exact this
    · have := h.few
      rw [up1 (by omega)]
      exact hL w3 ⟨hx2.trans hx3, by rw [any_take hxi, hno, hn]; rfl⟩
  · rintro w2 g L ⟨hx2, hno⟩
    simp only [wsv, wsg, wsh, wsl, cond_true, cond_false, exists_eq_left', Option.some.injEq, Option.isSome_some, List.getElem?_toArray, List.getElem?_cons_zero, List.getElem?_cons_succ, List.length_cons, List.length_nil, List.set_cons_zero, List.set_cons_succ, List.getD_cons_zero, List.getD_cons_succ, Nat.zero_add, Nat.add_zero, Nat.reduceAdd, Nat.reduceLT, Nat.lt_add_one, Nat.zero_lt_succ, decide_true, decide_false, ne_eq, reduceCtorEq, Int.lt_irrefl]
    rw [List.take_length] at hno
    have := hK w2 hx2
    unfold findI at this
    rw [List.findIdx?_eq_none_iff.2 fun x hx => by simpa using List.any_eq_false.1 hno x hx] at this
    exact this
theorem contains_x {sv f : Value} {xs : List JV} {p : JV → Bool} {w : World} {K : Value → World → Prop} (h : ItemsAt w sv xs)
    (hf : ∀ x ∈ xs, ∀ {cs : List Value} {w1 : World} {K : Value → World → Prop}, Ext w w1 → VRep w1 x cs → (∀ w', Ext w1 w' → K (.bool (p x)) w') → callV Tryz.prog f [.agg cs.toArray] w1 K)
    (hK : ∀ w', Ext w w' → K (.bool (xs.any p)) w') : callF Tryz.prog 99 [sv, f] w K := by
  refine W99_ok ?_
  unfold W99
  refine index_x h hf fun w1 hx1 => ?_
  simp only [wsv, wsg, wsh, wsl, cond_true, cond_false, exists_eq_left', Option.some.injEq, Option.isSome_some, List.getElem?_toArray, List.getElem?_cons_zero, List.getElem?_cons_succ, List.length_cons, List.length_nil, List.set_cons_zero, List.set_cons_succ, List.getD_cons_zero, List.getD_cons_succ, Nat.zero_add, Nat.add_zero, Nat.reduceAdd, Nat.reduceLT, Nat.lt_add_one, Nat.zero_lt_succ, decide_true, decide_false, ne_eq, reduceCtorEq, findI_ge]
  exact hK w1 hx1

theorem any_not_known (xs : List JV) : (!xs.any fun x => !knownM x) = knownL xs := by
  rw [knownL_all]
  induction xs with
  | nil => rfl
  | cons x xs ih => simp only [List.any_cons, List.all_cons, Bool.not_or, Bool.not_not, ih]
theorem known_p (v : JV) : ∀ {cs : List Value} {w : World} {K : Value → World → Prop}, VRep w v cs → (∀ w', Ext w w' → K (.bool (knownM v)) w') → callF Tryz.prog 43 [.agg cs.toArray] w K := by
  induction v using JV.ind' with
  | h v ih =>
    intro cs w K h hK
    refine W43_ok ?_
    unfold W43
    refine box_val h fun a w1 sv kv hB hx _ => ?_
    rw [knownM_eq] at hK
    simp only [wsv, wsg, wsh, wsl, cond_true, cond_false, exists_eq_left', Option.some.injEq, Option.isSome_some, List.getElem?_toArray, List.getElem?_cons_zero, List.getElem?_cons_succ, List.length_cons, List.length_nil, List.set_cons_zero, List.set_cons_succ, List.getD_cons_zero, List.getD_cons_succ, Nat.zero_add, Nat.add_zero, Nat.reduceAdd, Nat.reduceLT, Nat.lt_add_one, Nat.zero_lt_succ, decide_true, decide_false, ne_eq, reduceCtorEq, wsh, hB.hb]
    refine GdW.act (knownL v.xs) (fun w' => Ext w1 w') (fun _ => Chg.refl _ _) ?_ ?_
    · intro hc J hJ
      refine contains_v (p := fun x => !knownM x) hB.itemsAt ?_ fun w2 hx2 => ?_
      · intro x hx cs w K hr hK
        refine callV_fn ?_
        refine W100_ok ?_
        unfold W100
        refine box_val hr fun b w1 sv kv hB hx1 _ => ?_
        refine hB.ld fun cs2 h2 => ?_
        refine ih x hx h2 fun w2 hx2 => ?_
        simp only [wsv, wsg, wsh, wsl, cond_true, cond_false, exists_eq_left', Option.some.injEq, Option.isSome_some, List.getElem?_toArray, List.getElem?_cons_zero, List.getElem?_cons_succ, List.length_cons, List.length_nil, List.set_cons_zero, List.set_cons_succ, List.getD_cons_zero, List.getD_cons_succ, Nat.zero_add, Nat.add_zero, Nat.reduceAdd, Nat.reduceLT, Nat.lt_add_one, Nat.zero_lt_succ, decide_true, decide_false, ne_eq, reduceCtorEq]
        exact hK w2 (hx1.trans hx2)
      · simp only [wsv, wsg, wsh, wsl, cond_true, cond_false, exists_eq_left', Option.some.injEq, Option.isSome_some, List.getElem?_toArray, List.getElem?_cons_zero, List.getElem?_cons_succ, List.length_cons, List.length_nil, List.set_cons_zero, List.set_cons_succ, List.getD_cons_zero, List.getD_cons_succ, Nat.zero_add, Nat.add_zero, Nat.reduceAdd, Nat.reduceLT, Nat.lt_add_one, Nat.zero_lt_succ, decide_true, decide_false, ne_eq, reduceCtorEq, any_not_known]
        exact hJ w2 hx2
    · intro g w2 hx2
      have := hK w2 (hx.trans hx2)
      simp only [wsv, wsg, wsh, wsl, cond_true, cond_false, exists_eq_left', Option.some.injEq, Option.isSome_some, List.getElem?_toArray, List.getElem?_cons_zero, List.getElem?_cons_succ, List.length_cons, List.length_nil, List.set_cons_zero, List.set_cons_succ, List.getD_cons_zero, List.getD_cons_succ, Nat.zero_add, Nat.add_zero, Nat.reduceAdd, Nat.reduceLT, Nat.lt_add_one, Nat.zero_lt_succ, decide_true, decide_false, ne_eq, reduceCtorEq]
      simpa only [decide_not] using this

theorem truth_p {b : Bool} {w : World} {K : Value → World → Prop} (hK : K (i64 (truthI b)) w) : callF Tryz.prog 241 [.bool b] w K := by
  refine W241_ok ?_
  unfold W241
  rw [condW_b]
  unfold truthI at hK
  exact ⟨fun h => by rw [if_pos h] at hK; exact hK, fun h => by rw [if_neg (by rw [h]; simp)] at hK; exact hK⟩
theorem cmpks_p {a b : List Str} {x y : Value} {T1 T2 : TypeId} {w : World} {K : Value → World → Prop} (h1 : SlAt w T1 x a.length (a.map str)) (h2 : SlAt w T2 y b.length (b.map str)) (ha : a.length ≤ 9223372036854775807)
    (hK : ∀ w', Ext w w' → K (i64 (cmpKs a b)) w') : callF Tryz.prog 91 [x, y] w K := by
  refine W91_ok ?_
  unfold W91
  rw [lenl_at h1]
  refine loop_up a.length (fun i w' => Ext w w' ∧ i ≤ b.length ∧ cmpKs (a.drop i) (b.drop i) = cmpKs a b) ⟨Chg.refl _ _, by omega, rfl⟩ ?_ ?_
  · rintro i w2 g L hi ⟨hx2, hib, he⟩ hL
    obtain ⟨u, hu⟩ : ∃ u, a[i]? = some u := ⟨_, List.getElem?_eq_getElem hi⟩
    have hlt : ((i : Int) < (a.length : Int)) := by omega
    have hda : a.drop i = u :: a.drop (i + 1) := by
      rw [List.drop_eq_getElem_cons hi]; congr 1
      exact Option.some.inj ((List.getElem?_eq_getElem hi).symm.trans hu)
    simp only [wsv, wsg, wsh, wsl, cond_true, cond_false, exists_eq_left', Option.some.injEq, Option.isSome_some, List.getElem?_toArray, List.getElem?_cons_zero, List.getElem?_cons_succ, List.length_cons, List.length_nil, List.set_cons_zero, List.set_cons_succ, List.getD_cons_zero, List.getD_cons_succ, Nat.zero_add, Nat.add_zero, Nat.reduceAdd, Nat.reduceLT, Nat.lt_add_one, Nat.zero_lt_succ, decide_true, decide_false, ne_eq, reduceCtorEq, hlt]
    refine text_ld (h1.ext hx2) hu ?_
    rw [lenl_at h2]
    simp only [wsv, wsg, wsh, wsl, cond_true, cond_false, exists_eq_left', Option.some.injEq, Option.isSome_some, List.getElem?_toArray, List.getElem?_cons_zero, List.getElem?_cons_succ, List.length_cons, List.length_nil, List.set_cons_zero, List.set_cons_succ, List.getD_cons_zero, List.getD_cons_succ, Nat.zero_add, Nat.add_zero, Nat.reduceAdd, Nat.reduceLT, Nat.lt_add_one, Nat.zero_lt_succ, decide_true, decide_false, ne_eq, reduceCtorEq, condW_dec]
    refine ⟨fun hge => ?_, fun hltb => ?_⟩
    · have hdb : b.drop i = [] := List.drop_eq_nil_iff.2 (by omega)
      rw [hda, hdb] at he
      have := hK w2 hx2
      rw [← he] at this
      exact this
    · have hib2 : i < b.length := by omega
      obtain ⟨v, hv⟩ : ∃ v, b[i]? = some v := ⟨_, List.getElem?_eq_getElem hib2⟩
      have hdb : b.drop i = v :: b.drop (i + 1) := by
        rw [List.drop_eq_getElem_cons hib2]; congr 1
        exact Option.some.inj ((List.getElem?_eq_getElem hib2).symm.trans hv)
      rw [hda, hdb] at he
      simp only [cmpKs, orI] at he
      refine text_ld (h2.ext hx2) hv ?_
      refine cmp_s ?_
      simp only [wsv, wsg, wsh, wsl, cond_true, cond_false, exists_eq_left', Option.some.injEq, Option.isSome_some, List.getElem?_toArray, List.getElem?_cons_zero, List.getElem?_cons_succ, List.length_cons, List.length_nil, List.set_cons_zero, List.set_cons_succ, List.getD_cons_zero, List.getD_cons_succ, Nat.zero_add, Nat.add_zero, Nat.reduceAdd, Nat.reduceLT, Nat.lt_add_one, Nat.zero_lt_succ, decide_true, decide_false, ne_eq, reduceCtorEq, condW_dec]
      refine ⟨fun hne => ?_, fun h0 => ?_⟩
      · rw [if_neg hne] at he
        have := hK w2 hx2
        rw [← he] at this
        exact this
      · rw [if_pos (Decidable.not_not.1 h0)] at he
        rw [up1 (by omega)]
        exact hL w2 ⟨hx2, hib2, he⟩
  · rintro w2 g L ⟨hx2, hib, he⟩
    simp only [wsv, wsg, wsh, wsl, cond_true, cond_false, exists_eq_left', Option.some.injEq, Option.isSome_some, List.getElem?_toArray, List.getElem?_cons_zero, List.getElem?_cons_succ, List.length_cons, List.length_nil, List.set_cons_zero, List.set_cons_succ, List.getD_cons_zero, List.getD_cons_succ, Nat.zero_add, Nat.add_zero, Nat.reduceAdd, Nat.reduceLT, Nat.lt_add_one, Nat.zero_lt_succ, decide_true, decide_false, ne_eq, reduceCtorEq, Int.lt_irrefl]
    rw [lenl_at h1, lenl_at h2]
    rw [List.drop_length] at he
    simp only [wsv, wsg, wsh, wsl, cond_true, cond_false, exists_eq_left', Option.some.injEq, Option.isSome_some, List.getElem?_toArray, List.getElem?_cons_zero, List.getElem?_cons_succ, List.length_cons, List.length_nil, List.set_cons_zero, List.set_cons_succ, List.getD_cons_zero, List.getD_cons_succ, Nat.zero_add, Nat.add_zero, Nat.reduceAdd, Nat.reduceLT, Nat.lt_add_one, Nat.zero_lt_succ, decide_true, decide_false, ne_eq, reduceCtorEq, condW_dec]
    have := hK w2 hx2
    rw [← he] at this
    refine ⟨fun hlt => ?_, fun hge => ?_⟩
    · obtain ⟨v, r, e⟩ : ∃ v r, b.drop a.length = v :: r := by
        cases hd : b.drop a.length with
        | nil => have := List.drop_eq_nil_iff.1 hd; omega
        | cons v r => exact ⟨v, r, rfl⟩
      rw [e] at this
      exact this
    · rw [List.drop_eq_nil_iff.2 (show b.length ≤ a.length by omega)] at this
      exact this
theorem or2_p {a b : Int} {v : Value} {w : World} {K : Value → World → Prop} (hv : SlAt w 3 v 2 [i64 a, i64 b]) (hK : ∀ w', Ext w w' → K (i64 (orI a b)) w') : callF Tryz.prog 90 [v] w K := by
  refine W90_ok ?_
  unfold W90
  rw [lenl_at hv]
  unfold orI at hK
  refine loop_up 2 (fun i w' => Ext w w' ∧ (1 ≤ i → a = 0) ∧ (2 ≤ i → b = 0)) ⟨Chg.refl _ _, by omega, by omega⟩ ?_ ?_
  · rintro i w2 g L hi ⟨hx2, h1, h2⟩ hL
    have hlt : ((i : Int) < ((2 : Nat) : Int)) := by omega
    simp only [wsv, wsg, wsh, wsl, cond_true, cond_false, exists_eq_left', Option.some.injEq, Option.isSome_some, List.getElem?_toArray, List.getElem?_cons_zero, List.getElem?_cons_succ, List.length_cons, List.length_nil, List.set_cons_zero, List.set_cons_succ, List.getD_cons_zero, List.getD_cons_succ, Nat.zero_add, Nat.add_zero, Nat.reduceAdd, Nat.reduceLT, Nat.lt_add_one, Nat.zero_lt_succ, decide_true, decide_false, ne_eq, reduceCtorEq, hlt]
    have hc : i = 0 ∨ i = 1 := by omega
    rcases hc with rfl | rfl
    · refine ixa_ld (hv.ext hx2) rfl (show [i64 a, i64 b][0]? = some (i64 a) from rfl) ?_
      simp only [wsv, wsg, wsh, wsl, cond_true, cond_false, exists_eq_left', Option.some.injEq, Option.isSome_some, List.getElem?_toArray, List.getElem?_cons_zero, List.getElem?_cons_succ, List.length_cons, List.length_nil, List.set_cons_zero, List.set_cons_succ, List.getD_cons_zero, List.getD_cons_succ, Nat.zero_add, Nat.add_zero, Nat.reduceAdd, Nat.reduceLT, Nat.lt_add_one, Nat.zero_lt_succ, decide_true, decide_false, ne_eq, reduceCtorEq, condW_dec]
      refine ⟨fun hne => ?_, fun h0 => ?_⟩
      · have := hK w2 hx2
        rw [if_neg hne] at this
        exact this
      · rw [up1 (by omega)]
        exact hL w2 ⟨hx2, fun _ => Decidable.not_not.1 h0, fun h => by omega⟩
    · have ha := h1 (Nat.le_refl _)
      refine ixa_ld (hv.ext hx2) rfl (show [i64 a, i64 b][1]? = some (i64 b) from rfl) ?_
      simp only [wsv, wsg, wsh, wsl, cond_true, cond_false, exists_eq_left', Option.some.injEq, Option.isSome_some, List.getElem?_toArray, List.getElem?_cons_zero, List.getElem?_cons_succ, List.length_cons, List.length_nil, List.set_cons_zero, List.set_cons_succ, List.getD_cons_zero, List.getD_cons_succ, Nat.zero_add, Nat.add_zero, Nat.reduceAdd, Nat.reduceLT, Nat.lt_add_one, Nat.zero_lt_succ, decide_true, decide_false, ne_eq, reduceCtorEq, condW_dec]
      refine ⟨fun hne => ?_, fun h0 => ?_⟩
      · have := hK w2 hx2
        rw [if_pos ha] at this
        exact this
      · rw [up1 (by omega)]
        exact hL w2 ⟨hx2, fun _ => ha, fun _ => Decidable.not_not.1 h0⟩
  · rintro w2 g L ⟨hx2, h1, h2⟩
    simp only [wsv, wsg, wsh, wsl, cond_true, cond_false, exists_eq_left', Option.some.injEq, Option.isSome_some, List.getElem?_toArray, List.getElem?_cons_zero, List.getElem?_cons_succ, List.length_cons, List.length_nil, List.set_cons_zero, List.set_cons_succ, List.getD_cons_zero, List.getD_cons_succ, Nat.zero_add, Nat.add_zero, Nat.reduceAdd, Nat.reduceLT, Nat.lt_add_one, Nat.zero_lt_succ, decide_true, decide_false, ne_eq, reduceCtorEq, Int.lt_irrefl]
    have := hK w2 hx2
    rw [if_pos (h1 (by omega)), h2 (Nat.le_refl _)] at this
    exact this

theorem cmpfunc_p {sv tv f : Value} {xs ys : List JV} {w : World} {K : Value → World → Prop} (h : ItemsAt w sv xs) (h' : ItemsAt w tv ys)
    (hf : ∀ x ∈ xs, ∀ y ∈ ys, ∀ {cs ds : List Value} {w : World} {K : Value → World → Prop}, VRep w x cs → VRep w y ds → (∀ w', Ext w w' → K (i64 (cmpM x y)) w') → callV Tryz.prog f [.agg cs.toArray, .agg ds.toArray] w K)
    (hK : ∀ w', Ext w w' → K (i64 (cmpL xs ys)) w') : callF Tryz.prog 244 [sv, tv, f] w K := by
  refine W244_ok ?_
  unfold W244
  rw [h.len]
  refine loop_up xs.length (fun i w' => Ext w w' ∧ i ≤ ys.length ∧ cmpL (xs.drop i) (ys.drop i) = cmpL xs ys) ⟨Chg.refl _ _, by omega, rfl⟩ ?_ ?_
  · rintro i w2 g L hi ⟨hx2, hib, he⟩ hL
    obtain ⟨u, hu⟩ : ∃ u, xs[i]? = some u := ⟨_, List.getElem?_eq_getElem hi⟩
    have hlt : ((i : Int) < (xs.length : Int)) := by omega
    have hda : xs.drop i = u :: xs.drop (i + 1) := by
      rw [List.drop_eq_getElem_cons hi]; congr 1
      exact Option.some.inj ((List.getElem?_eq_getElem hi).symm.trans hu)
    simp only [wsv, wsg, wsh, wsl, cond_true, cond_false, exists_eq_left', Option.some.injEq, Option.isSome_some, List.getElem?_toArray, List.getElem?_cons_zero, List.getElem?_cons_succ, List.length_cons, List.length_nil, List.set_cons_zero, List.set_cons_succ, List.getD_cons_zero, List.getD_cons_succ, Nat.zero_add, Nat.add_zero, Nat.reduceAdd, Nat.reduceLT, Nat.lt_add_one, Nat.zero_lt_succ, decide_true, decide_false, ne_eq, reduceCtorEq, hlt]
    refine (h.ext hx2).at hu fun cs hcs => ?_
    refine copy_new hcs fun p w3 sp kp hP hx3 => ?_
    rw [h'.len]
    simp only [wsv, wsg, wsh, wsl, cond_true, cond_false, exists_eq_left', Option.some.injEq, Option.isSome_some, List.getElem?_toArray, List.getElem?_cons_zero, List.getElem?_cons_succ, List.length_cons, List.length_nil, List.set_cons_zero, List.set_cons_succ, List.getD_cons_zero, List.getD_cons_succ, Nat.zero_add, Nat.add_zero, Nat.reduceAdd, Nat.reduceLT, Nat.lt_add_one, Nat.zero_lt_succ, decide_true, decide_false, ne_eq, reduceCtorEq, condW_dec]
    refine ⟨fun hge => ?_, fun hltb => ?_⟩
    · have hdb : ys.drop i = [] := List.drop_eq_nil_iff.2 (by omega)
      rw [hda, hdb] at he
      have := hK w3 (hx2.trans hx3)
      rw [← he] at this
      exact this
    · have hib2 : i < ys.length := by omega
      obtain ⟨v, hv⟩ : ∃ v, ys[i]? = some v := ⟨_, List.getElem?_eq_getElem hib2⟩
      have hdb : ys.drop i = v :: ys.drop (i + 1) := by
        rw [List.drop_eq_getElem_cons hib2]; congr 1
        exact Option.some.inj ((List.getElem?_eq_getElem hib2).symm.trans hv)
      rw [hda, hdb] at he
      simp only [cmpL, orI] at he
      refine (h'.ext (hx2.trans hx3)).at hv fun ds hds => ?_
      refine copy_new hds fun q w4 sq kq hQ hx4 => ?_
      refine (hP.ext hx4).ld fun cs2 hc2 => ?_
      refine hQ.ld fun ds2 hd2 => ?_
      refine hf u (List.mem_of_getElem? hu) v (List.mem_of_getElem? hv) hc2 hd2 fun w5 hx5 => ?_
      have hx := hx2.trans (hx3.trans (hx4.trans hx5))
      simp only [wsv, wsg, wsh, wsl, cond_true, cond_false, exists_eq_left', Option.some.injEq, Option.isSome_some, List.getElem?_toArray, List.getElem?_cons_zero, List.getElem?_cons_succ, List.length_cons, List.length_nil, List.set_cons_zero, List.set_cons_succ, List.getD_cons_zero, List.getD_cons_succ, Nat.zero_add, Nat.add_zero, Nat.reduceAdd, Nat.reduceLT, Nat.lt_add_one, Nat.zero_lt_succ, decide_true, decide_false, ne_eq, reduceCtorEq, condW_dec]
      refine ⟨fun hne => ?_, fun h0 => ?_⟩
      · rw [if_neg hne] at he
        have := hK w5 hx
        rw [← he] at this
        exact this
      · rw [if_pos (Decidable.not_not.1 h0)] at he
        have := h.few
        rw [up1 (by omega)]
        exact hL w5 ⟨hx, hib2, he⟩
  · rintro w2 g L ⟨hx2, hib, he⟩
    simp only [wsv, wsg, wsh, wsl, cond_true, cond_false, exists_eq_left', Option.some.injEq, Option.isSome_some, List.getElem?_toArray, List.getElem?_cons_zero, List.getElem?_cons_succ, List.length_cons, List.length_nil, List.set_cons_zero, List.set_cons_succ, List.getD_cons_zero, List.getD_cons_succ, Nat.zero_add, Nat.add_zero, Nat.reduceAdd, Nat.reduceLT, Nat.lt_add_one, Nat.zero_lt_succ, decide_true, decide_false, ne_eq, reduceCtorEq, Int.lt_irrefl]
    rw [h.len, h'.len]
    rw [List.drop_length] at he
    simp only [wsv, wsg, wsh, wsl, cond_true, cond_false, exists_eq_left', Option.some.injEq, Option.isSome_some, List.getElem?_toArray, List.getElem?_cons_zero, List.getElem?_cons_succ, List.length_cons, List.length_nil, List.set_cons_zero, List.set_cons_succ, List.getD_cons_zero, List.getD_cons_succ, Nat.zero_add, Nat.add_zero, Nat.reduceAdd, Nat.reduceLT, Nat.lt_add_one, Nat.zero_lt_succ, decide_true, decide_false, ne_eq, reduceCtorEq, condW_dec]
    have := hK w2 hx2
    rw [← he] at this
    refine ⟨fun hlt => ?_, fun hge => ?_⟩
    · obtain ⟨v, r, e⟩ : ∃ v r, ys.drop xs.length = v :: r := by
        cases hd : ys.drop xs.length with
        | nil => have := List.drop_eq_nil_iff.1 hd; omega
        | cons v r => exact ⟨v, r, rfl⟩
      rw [e] at this
      exact this
    · rw [List.drop_eq_nil_iff.2 (show ys.length ≤ xs.length by omega)] at this
      exact this

theorem cmp_p (v : JV) : ∀ {b : JV} {cs ds : List Value} {w : World} {K : Value → World → Prop}, VRep w v cs → VRep w b ds → (∀ w', Ext w w' → K (i64 (cmpM v b)) w') → callF Tryz.prog 195 [.agg cs.toArray, .agg ds.toArray] w K := by
  induction v using JV.ind' with
  | h v ih =>
    intro b cs ds w K h h' hK
    refine W195_ok ?_
    unfold W195
    refine box_val h fun x w1 sv kv hB hx _ => ?_
    refine box_val (h'.ext hx) fun y w2 sv' kv' hC hx2 _ => ?_
    have hB := hB.ext hx2
    have hx := hx.trans hx2
    clear hx2
    rw [cmpM_eq] at hK
    unfold orI at hK
    simp only [wsv, wsg, wsh, wsl, cond_true, cond_false, exists_eq_left', Option.some.injEq, Option.isSome_some, List.getElem?_toArray, List.getElem?_cons_zero, List.getElem?_cons_succ, List.length_cons, List.length_nil, List.set_cons_zero, List.set_cons_succ, List.getD_cons_zero, List.getD_cons_succ, Nat.zero_add, Nat.add_zero, Nat.reduceAdd, Nat.reduceLT, Nat.lt_add_one, Nat.zero_lt_succ, decide_true, decide_false, ne_eq, reduceCtorEq, wsh, hB.hb, hC.hb]
    refine cmp_k ?_
    simp only [wsv, wsg, wsh, wsl, cond_true, cond_false, exists_eq_left', Option.some.injEq, Option.isSome_some, List.getElem?_toArray, List.getElem?_cons_zero, List.getElem?_cons_succ, List.length_cons, List.length_nil, List.set_cons_zero, List.set_cons_succ, List.getD_cons_zero, List.getD_cons_succ, Nat.zero_add, Nat.add_zero, Nat.reduceAdd, Nat.reduceLT, Nat.lt_add_one, Nat.zero_lt_succ, decide_true, decide_false, ne_eq, reduceCtorEq, condW_dec]
    refine ⟨fun hne => ?_, fun h0 => ?_⟩
    · have := hK w2 hx
      rw [if_neg hne] at this
      exact this
    · rw [if_pos (Decidable.not_not.1 h0)] at hK
      have hxd : Ext w2 w2.drew := Chg.drew (Chg.refl (fun _ => False) w2)
      have hBd := hB.ext hxd
      have hCd := hC.ext hxd
      (try simp only [wsv, wsg, wsh, wsl, cond_true, cond_false, exists_eq_left', Option.some.injEq, Option.isSome_some, List.getElem?_toArray, List.getElem?_cons_zero, List.getElem?_cons_succ, List.length_cons, List.length_nil, List.set_cons_zero, List.set_cons_succ, List.getD_cons_zero, List.getD_cons_succ, Nat.zero_add, Nat.add_zero, Nat.reduceAdd, Nat.reduceLT, Nat.lt_add_one, Nat.zero_lt_succ, decide_true, decide_false, ne_eq, reduceCtorEq, wsh, hB.hb, hC.hb])
      refine ⟨fun h2 => ?_, fun h2 => ?_⟩
      · rw [if_pos (show v.k = 2 by simpa using h2)] at hK
        (try simp only [wsv, wsg, wsh, wsl, cond_true, cond_false, exists_eq_left', Option.some.injEq, Option.isSome_some, List.getElem?_toArray, List.getElem?_cons_zero, List.getElem?_cons_succ, List.length_cons, List.length_nil, List.set_cons_zero, List.set_cons_succ, List.getD_cons_zero, List.getD_cons_succ, Nat.zero_add, Nat.add_zero, Nat.reduceAdd, Nat.reduceLT, Nat.lt_add_one, Nat.zero_lt_succ, decide_true, decide_false, ne_eq, reduceCtorEq, wsh, hB.hb, hC.hb])
        refine truth_p ?_
        (try simp only [wsv, wsg, wsh, wsl, cond_true, cond_false, exists_eq_left', Option.some.injEq, Option.isSome_some, List.getElem?_toArray, List.getElem?_cons_zero, List.getElem?_cons_succ, List.length_cons, List.length_nil, List.set_cons_zero, List.set_cons_succ, List.getD_cons_zero, List.getD_cons_succ, Nat.zero_add, Nat.add_zero, Nat.reduceAdd, Nat.reduceLT, Nat.lt_add_one, Nat.zero_lt_succ, decide_true, decide_false, ne_eq, reduceCtorEq, wsh, hC.hb])
        refine truth_p (cmp_i ?_)
        exact hK _ (hx.trans hxd)
      · rw [if_neg (show ¬ v.k = 2 by simpa using h2)] at hK
        (try simp only [wsv, wsg, wsh, wsl, cond_true, cond_false, exists_eq_left', Option.some.injEq, Option.isSome_some, List.getElem?_toArray, List.getElem?_cons_zero, List.getElem?_cons_succ, List.length_cons, List.length_nil, List.set_cons_zero, List.set_cons_succ, List.getD_cons_zero, List.getD_cons_succ, Nat.zero_add, Nat.add_zero, Nat.reduceAdd, Nat.reduceLT, Nat.lt_add_one, Nat.zero_lt_succ, decide_true, decide_false, ne_eq, reduceCtorEq, condW_dec])
        refine ⟨fun h3 => ?_, fun h3 => ?_⟩
        · rw [if_pos (show v.k = 3 by simpa using h3)] at hK
          (try simp only [wsv, wsg, wsh, wsl, cond_true, cond_false, exists_eq_left', Option.some.injEq, Option.isSome_some, List.getElem?_toArray, List.getElem?_cons_zero, List.getElem?_cons_succ, List.length_cons, List.length_nil, List.set_cons_zero, List.set_cons_succ, List.getD_cons_zero, List.getD_cons_succ, Nat.zero_add, Nat.add_zero, Nat.reduceAdd, Nat.reduceLT, Nat.lt_add_one, Nat.zero_lt_succ, decide_true, decide_false, ne_eq, reduceCtorEq, wsh, hB.hb, hC.hb])
          exact numcmp_ref hB.fits.2.2.1 hC.fits.2.2.1 fun w3 hx3 => hK w3 (hx.trans hx3)
        · rw [if_neg (show ¬ v.k = 3 by simpa using h3)] at hK
          (try simp only [wsv, wsg, wsh, wsl, cond_true, cond_false, exists_eq_left', Option.some.injEq, Option.isSome_some, List.getElem?_toArray, List.getElem?_cons_zero, List.getElem?_cons_succ, List.length_cons, List.length_nil, List.set_cons_zero, List.set_cons_succ, List.getD_cons_zero, List.getD_cons_succ, Nat.zero_add, Nat.add_zero, Nat.reduceAdd, Nat.reduceLT, Nat.lt_add_one, Nat.zero_lt_succ, decide_true, decide_false, ne_eq, reduceCtorEq, condW_dec])
          refine ⟨fun h4 => ?_, fun h4 => ?_⟩
          · rw [if_pos (show v.k = 4 by simpa using h4)] at hK
            (try simp only [wsv, wsg, wsh, wsl, cond_true, cond_false, exists_eq_left', Option.some.injEq, Option.isSome_some, List.getElem?_toArray, List.getElem?_cons_zero, List.getElem?_cons_succ, List.length_cons, List.length_nil, List.set_cons_zero, List.set_cons_succ, List.getD_cons_zero, List.getD_cons_succ, Nat.zero_add, Nat.add_zero, Nat.reduceAdd, Nat.reduceLT, Nat.lt_add_one, Nat.zero_lt_succ, decide_true, decide_false, ne_eq, reduceCtorEq, wsh, hB.hb, hC.hb])
            exact strcmp (hK w2 hx)
          · rw [if_neg (show ¬ v.k = 4 by simpa using h4)] at hK
            (try simp only [wsv, wsg, wsh, wsl, cond_true, cond_false, exists_eq_left', Option.some.injEq, Option.isSome_some, List.getElem?_toArray, List.getElem?_cons_zero, List.getElem?_cons_succ, List.length_cons, List.length_nil, List.set_cons_zero, List.set_cons_succ, List.getD_cons_zero, List.getD_cons_succ, Nat.zero_add, Nat.add_zero, Nat.reduceAdd, Nat.reduceLT, Nat.lt_add_one, Nat.zero_lt_succ, decide_true, decide_false, ne_eq, reduceCtorEq, wsh, hB.hb, hC.hb])
            obtain ⟨T1, k1⟩ := hBd.keys
            obtain ⟨T2, k2⟩ := hCd.keys
            refine cmpks_p k1 k2 hB.fits.2.1 fun w3 hx3 => ?_
            have hB3 := hBd.ext hx3
            have hC3 := hCd.ext hx3
            simp only [wsv, wsg, wsh, wsl, cond_true, cond_false, exists_eq_left', Option.some.injEq, Option.isSome_some, List.getElem?_toArray, List.getElem?_cons_zero, List.getElem?_cons_succ, List.length_cons, List.length_nil, List.set_cons_zero, List.set_cons_succ, List.getD_cons_zero, List.getD_cons_succ, Nat.zero_add, Nat.add_zero, Nat.reduceAdd, Nat.reduceLT, Nat.lt_add_one, Nat.zero_lt_succ, decide_true, decide_false, ne_eq, reduceCtorEq, wsh, hB3.hb, hC3.hb]
            refine cmpfunc_p hB3.itemsAt hC3.itemsAt ?_ fun w4 hx4 => ?_
            · intro p hp q hq cs ds w K hc hd hK
              exact callV_fn (ih p hp hc hd hK)
            unfold bslW
            simp only [wsv, wsg, wsh, wsl, cond_true, cond_false, exists_eq_left', Option.some.injEq, Option.isSome_some, List.getElem?_toArray, List.getElem?_cons_zero, List.getElem?_cons_succ, List.length_cons, List.length_nil, List.set_cons_zero, List.set_cons_succ, List.getD_cons_zero, List.getD_cons_succ, Nat.zero_add, Nat.add_zero, Nat.reduceAdd, Nat.reduceLT, Nat.lt_add_one, Nat.zero_lt_succ, decide_true, decide_false, ne_eq, reduceCtorEq]
            have hs : SlAt (w4.alloc (.cells [i64 (cmpKs v.ks b.ks), i64 (cmpL v.xs b.xs)].toArray 3)) 3 (.slice (some ⟨w4.heap.size, 0, none⟩) 2 2) 2 [i64 (cmpKs v.ks b.ks), i64 (cmpL v.xs b.xs)] :=
              (own_new (w := w4) (base := w4.heap.size) (e := 3) (size := 1) (n := 2) (cs := [i64 (cmpKs v.ks b.ks), i64 (cmpL v.xs b.xs)]) (Nat.le_refl _) rfl (by omega)).sl
            refine or2_p hs fun w5 hx5 => ?_
            have hx' := hx.trans (hxd.trans (hx3.trans (hx4.trans ((Chg.alloc (Chg.refl _ _) _ : Ext w4 _).trans hx5))))
            exact hK w5 hx'
theorem equal_p {a b : JV} {cs ds : List Value} {w : World} {K : Value → World → Prop} (h : VRep w a cs) (h' : VRep w b ds) (hK : ∀ w', Ext w w' → K (.bool (decide (cmpM a b = 0))) w') : callF Tryz.prog 169 [.agg cs.toArray, .agg ds.toArray] w K := by
  refine W169_ok ?_
  unfold W169
  refine box_val h fun x w1 sv kv hB hx _ => ?_
  refine box_val (h'.ext hx) fun y w2 sv' kv' hC hx2 _ => ?_
  have hB := hB.ext hx2
  refine hB.ld fun cs1 h1 => ?_
  refine hC.ld fun cs2 h2 => ?_
  refine cmp_p a h1 h2 fun w3 hx3 => ?_
  simp only [wsv, wsg, wsh, wsl, cond_true, cond_false, exists_eq_left', Option.some.injEq, Option.isSome_some, List.getElem?_toArray, List.getElem?_cons_zero, List.getElem?_cons_succ, List.length_cons, List.length_nil, List.set_cons_zero, List.set_cons_succ, List.getD_cons_zero, List.getD_cons_succ, Nat.zero_add, Nat.add_zero, Nat.reduceAdd, Nat.reduceLT, Nat.lt_add_one, Nat.zero_lt_succ, decide_true, decide_false, ne_eq, reduceCtorEq]
  exact hK w3 (hx.trans (hx2.trans hx3))
end
end Go.Proofs.YtcnjpcadejcenaaGreatDoor

namespace Go.Proofs.YtcnjpcadejcenaaGreatDoor
open Go Go.Eng Go.Num
set_option maxRecDepth 100000

def inG (G : Nat → Prop) (v : Value) : Prop := ∀ k, v.ownBlock = some k → G k
mutual
/-- a value all whose lists lie in blocks of G -/
def VRepP (G : Nat → Prop) (w : World) : JV → List Value → Prop
  | .mk k b t xs ks, cs => ∃ sv kv T1 T2 L, cs = [i64 k, .bool b, str t, sv, kv] ∧ SlAt w T1 sv xs.length L ∧ VRepsP G w xs L ∧ SlAt w T2 kv ks.length (ks.map str) ∧ Fits xs.length ks t ∧ (L ≠ [] → inG G sv) ∧ (ks.map str ≠ [] → inG G kv)
def VRepsP (G : Nat → Prop) (w : World) : List JV → List Value → Prop
  | [], L => L = []
  | x :: xs, L => ∃ c r, L = c ++ r ∧ VRepP G w x c ∧ VRepsP G w xs r
end
theorem slat_chgG {S G : Nat → Prop} {w w' : World} {T : TypeId} {v : Value} {n : Nat} {cs : List Value} (h : SlAt w T v n cs) (hg : cs ≠ [] → inG G v) (hc : Chg S w w') (hS : ∀ k, G k → k < w.heap.size → ¬ S k) : SlAt w' T v n cs := by
  obtain ⟨p, cap, rfl, h1, h2, h3⟩ := h
  refine ⟨p, cap, rfl, h1, h2, fun hne => ?_⟩
  obtain ⟨b, off, c, fr, rfl, hb, hcs⟩ := h3 hne
  exact ⟨b, off, c, fr, rfl, hc.at hb (hS b (hg hne b rfl) (at_lt hb)), hcs⟩
theorem slat_lt {w : World} {T : TypeId} {v : Value} {n : Nat} {cs : List Value} (h : SlAt w T v n cs) (hne : cs ≠ []) : inG (fun k => k < w.heap.size) v := by
  obtain ⟨p, cap, rfl, h1, h2, h3⟩ := h
  obtain ⟨b, off, c, fr, rfl, hb, hcs⟩ := h3 hne
  intro k hk
  cases hk
  exact at_lt hb
mutual
theorem VRepP.chg {S G : Nat → Prop} {w w' : World} (hc : Chg S w w') (hS : ∀ k, G k → k < w.heap.size → ¬ S k) : ∀ {v : JV} {cs : List Value}, VRepP G w v cs → VRepP G w' v cs
  | .mk k b t xs ks, cs, h => by
    simp only [VRepP] at h ⊢
    obtain ⟨sv, kv, T1, T2, L, rfl, h1, h2, h3, h4, h5, h6⟩ := h
    exact ⟨sv, kv, T1, T2, L, rfl, slat_chgG h1 h5 hc hS, VRepsP.chg hc hS h2, slat_chgG h3 h6 hc hS, h4, h5, h6⟩
theorem VRepsP.chg {S G : Nat → Prop} {w w' : World} (hc : Chg S w w') (hS : ∀ k, G k → k < w.heap.size → ¬ S k) : ∀ {xs : List JV} {L : List Value}, VRepsP G w xs L → VRepsP G w' xs L
  | [], L, h => by simp only [VRepsP] at h ⊢; exact h
  | x :: xs, L, h => by
    simp only [VRepsP] at h ⊢
    obtain ⟨c, r, rfl, h1, h2⟩ := h
    exact ⟨c, r, rfl, VRepP.chg hc hS h1, VRepsP.chg hc hS h2⟩
end
mutual
theorem VRepP.mono {G G' : Nat → Prop} {w : World} (hG : ∀ k, k < w.heap.size → G k → G' k) : ∀ {v : JV} {cs : List Value}, VRepP G w v cs → VRepP G' w v cs
  | .mk k b t xs ks, cs, h => by
    simp only [VRepP] at h ⊢
    obtain ⟨sv, kv, T1, T2, L, rfl, h1, h2, h3, h4, h5, h6⟩ := h
    exact ⟨sv, kv, T1, T2, L, rfl, h1, VRepsP.mono hG h2, h3, h4, fun hne k hk => hG k (slat_lt h1 hne k hk) (h5 hne k hk), fun hne k hk => hG k (slat_lt h3 hne k hk) (h6 hne k hk)⟩
theorem VRepsP.mono {G G' : Nat → Prop} {w : World} (hG : ∀ k, k < w.heap.size → G k → G' k) : ∀ {xs : List JV} {L : List Value}, VRepsP G w xs L → VRepsP G' w xs L
  | [], L, h => by simp only [VRepsP] at h ⊢; exact h
  | x :: xs, L, h => by
    simp only [VRepsP] at h ⊢
    obtain ⟨c, r, rfl, h1, h2⟩ := h
    exact ⟨c, r, rfl, VRepP.mono hG h1, VRepsP.mono hG h2⟩
end
mutual
theorem VRepP.rep {G : Nat → Prop} {w : World} : ∀ {v : JV} {cs : List Value}, VRepP G w v cs → VRep w v cs
  | .mk k b t xs ks, cs, h => by
    simp only [VRepP] at h
    simp only [VRep]
    obtain ⟨sv, kv, T1, T2, L, rfl, h1, h2, h3, h4, h5, h6⟩ := h
    exact ⟨sv, kv, T1, T2, L, rfl, h1, VRepsP.rep h2, h3, h4⟩
theorem VRepsP.rep {G : Nat → Prop} {w : World} : ∀ {xs : List JV} {L : List Value}, VRepsP G w xs L → VReps w xs L
  | [], L, h => by simp only [VRepsP] at h; simp only [VReps]; exact h
  | x :: xs, L, h => by
    simp only [VRepsP] at h
    simp only [VReps]
    obtain ⟨c, r, rfl, h1, h2⟩ := h
    exact ⟨c, r, rfl, VRepP.rep h1, VRepsP.rep h2⟩
end
theorem VRepsP.snoc {G : Nat → Prop} {w : World} : ∀ {xs : List JV} {x : JV} {L cs : List Value}, VRepsP G w xs L → VRepP G w x cs → VRepsP G w (xs ++ [x]) (L ++ cs)
  | [], x, L, cs, h, hx => by
    simp only [VRepsP] at h
    subst h
    simp only [List.nil_append, VRepsP]
    exact ⟨cs, [], by simp, hx, rfl⟩
  | y :: xs, x, L, cs, h, hx => by
    simp only [VRepsP] at h
    obtain ⟨c, r, rfl, h1, h2⟩ := h
    simp only [List.cons_append, VRepsP]
    exact ⟨c, r ++ cs, by simp, h1, VRepsP.snoc h2 hx⟩
theorem VRepP.mk {G : Nat → Prop} {w : World} {v : JV} {sv kv : Value} {T1 T2 : TypeId} {L : List Value} (h1 : SlAt w T1 sv v.xs.length L) (h2 : VRepsP G w v.xs L) (h3 : SlAt w T2 kv v.ks.length (v.ks.map str)) (h4 : Fits v.xs.length v.ks v.t) (h5 : L ≠ [] → inG G sv) (h6 : v.ks.map str ≠ [] → inG G kv) : VRepP G w v [i64 v.k, .bool v.b, str v.t, sv, kv] := by
  cases v with
  | mk k b t xs ks => simp only [VRepP]; exact ⟨sv, kv, T1, T2, L, rfl, h1, h2, h3, h4, h5, h6⟩
abbrev From (n : Nat) : Nat → Prop := fun k => n ≤ k
section
variable [HX]
/-- a copy of texts -/
theorem clone_s {v : Value} {T : TypeId} {l : List Str} {w : World} {K : Value → World → Prop} (h : SlAt w T v l.length (l.map str)) (hl : l.length ≤ 1000000)
    (hK : ∀ v' w', Ext w w' → SlAt w' ST v' l.length (l.map str) → inG (From w.heap.size) v' → K v' w') : callF Tryz.prog 228 [v] w K := by
  refine W228_ok ?_
  unfold W228
  obtain ⟨p, cap, rfl, hcap, hp, hc⟩ := h
  cases p with
  | none =>
    obtain ⟨h0, rfl⟩ := hp rfl
    have : l = [] := List.eq_nil_of_length_eq_zero h0
    subst this
    have e : ∀ K : Value → Prop, eqW .slice false (.slice none ([] : List Str).length 0) (.slice none 0 0) K ↔ K (.bool true) := fun K => Iff.rfl
    rw [e]
    simp only [wsv, wsg, wsh, wsl, cond_true, cond_false, exists_eq_left', Option.some.injEq, Option.isSome_some, List.getElem?_toArray, List.getElem?_cons_zero, List.getElem?_cons_succ, List.length_cons, List.length_nil, List.set_cons_zero, List.set_cons_succ, List.getD_cons_zero, List.getD_cons_succ, Nat.zero_add, Nat.add_zero, Nat.reduceAdd, Nat.reduceLT, Nat.lt_add_one, Nat.zero_lt_succ, decide_true, decide_false, ne_eq, reduceCtorEq]
    exact hK _ w (Chg.refl _ _) (SlAt.nil _ _) (by intro k hk; cases hk)
  | some a =>
    have e : ∀ K : Value → Prop, eqW .slice false (.slice (some a) l.length cap) (.slice none 0 0) K ↔ K (.bool false) := fun K => Iff.rfl
    rw [e]
    unfold bslW
    simp only [wsv, wsg, wsh, wsl, cond_true, cond_false, exists_eq_left', Option.some.injEq, Option.isSome_some, List.getElem?_toArray, List.getElem?_cons_zero, List.getElem?_cons_succ, List.length_cons, List.length_nil, List.set_cons_zero, List.set_cons_succ, List.getD_cons_zero, List.getD_cons_succ, Nat.zero_add, Nat.add_zero, Nat.reduceAdd, Nat.reduceLT, Nat.lt_add_one, Nat.zero_lt_succ, decide_true, decide_false, ne_eq, reduceCtorEq]
    refine append_own3 elem_s (base := w.heap.size) (own_new (w := w) (base := w.heap.size) (e := ST) (size := 1) (n := 0) (cs := []) (Nat.le_refl _) rfl (by omega)) (x := .slice (some a) l.length cap) (T := T) (m := l.length) (news := l.map str) ?_ (by simp) ?_ (by omega) (by omega) (by rw [size_alloc]; omega) fun v' w' h' hc' hb' => ?_
    · have hx : Ext w (w.alloc (.cells ([] : List Value).toArray ST)) := (by repeat (first | assumption | exact Chg.refl _ _ | refine Chg.drew ?_ | refine Chg.alloc ?_ _ | refine Chg.set ?_ (by first | exact .inl rfl | exact .inr (by omega) | exact .inr (by simp only [size_set, size_alloc, size_drew]; omega) | (left; simp; done)) _ | exact Chg.of_ext (by assumption)))
      exact SlAt.ext ⟨some a, cap, rfl, hcap, hp, hc⟩ hx
    · intro u hu
      obtain ⟨s, _, rfl⟩ := List.mem_map.1 hu
      rfl
    · have hx : Ext w (w.alloc (.cells ([] : List Value).toArray ST)) := (by repeat (first | assumption | exact Chg.refl _ _ | refine Chg.drew ?_ | refine Chg.alloc ?_ _ | refine Chg.set ?_ (by first | exact .inl rfl | exact .inr (by omega) | exact .inr (by simp only [size_set, size_alloc, size_drew]; omega) | (left; simp; done)) _ | exact Chg.of_ext (by assumption)))
      refine hK v' w' (hx.then hc' fun k hk e => ?_) (by simpa using h'.sl) fun k hk => (h'.block k hk).1
      simp only [Value.ownBlock, Option.some.injEq] at e
      omega

theorem clones_p {xs : List JV} (hcl : ∀ x ∈ xs, ∀ {cs : List Value} {w : World} {K : Value → World → Prop}, VRep w x cs → (∀ cs' w', Ext w w' → VRepP (From w.heap.size) w' x cs' → K (.agg cs'.toArray) w') → callF Tryz.prog 189 [.agg cs.toArray] w K)
    {sv : Value} {w : World} {K : Value → World → Prop} (h : ItemsAt w sv xs) (hl : xs.length ≤ 1000000)
    (hK : ∀ sv' w', Ext w w' → (∃ L, SlAt w' VT sv' xs.length L ∧ VRepsP (From w.heap.size) w' xs L) → inG (From w.heap.size) sv' → K sv' w') : callF Tryz.prog 229 [sv] w K := by
  refine W229_ok ?_
  unfold W229
  rw [h.len]
  refine ⟨fun s w' => ∃ i v L, i ≤ xs.length ∧ s = [v, i64 (i : Nat)] ∧ Ext w w' ∧ Own w' w.heap.size VT 5 v i L ∧ VRepsP (fun k => w.heap.size ≤ k ∧ v.ownBlock ≠ some k) w' (xs.take i) L,
    fun s _ => match s with | [_, .int _ i] => xs.length - i.toNat | _ => 0, ⟨0, _, [], by omega, rfl, Chg.refl _ _, ⟨by simp, .inl ⟨rfl, rfl⟩⟩, by simp [VRepsP]⟩, ?_⟩
  rintro s g w2 ⟨i, v, L, hi, rfl, hx2, hO, hr⟩
  rcases Nat.lt_or_ge i xs.length with hlt | hge
  · obtain ⟨x, hxi⟩ : ∃ x, xs[i]? = some x := ⟨_, List.getElem?_eq_getElem hlt⟩
    have hltI : (i : Int) < (xs.length : Int) := by omega
    simp only [wsv, wsg, wsh, wsl, cond_true, cond_false, exists_eq_left', Option.some.injEq, Option.isSome_some, List.getElem?_toArray, List.getElem?_cons_zero, List.getElem?_cons_succ, List.length_cons, List.length_nil, List.set_cons_zero, List.set_cons_succ, List.getD_cons_zero, List.getD_cons_succ, Nat.zero_add, Nat.add_zero, Nat.reduceAdd, Nat.reduceLT, Nat.lt_add_one, Nat.zero_lt_succ, decide_true, decide_false, ne_eq, reduceCtorEq, hltI]
    refine (h.ext hx2).at hxi fun cs hcs => ?_
    refine copy_new hcs fun p w3 sp kp hP hx3 => ?_
    refine hP.ld fun cs2 h2 => ?_
    refine hcl x (List.mem_of_getElem? hxi) h2 fun cs3 w4 hx4 h3 => ?_
    refine row_v h3.rep.len fun t w5 ht hx5 => ?_
    have hx25 := hx3.trans (hx4.trans hx5)
    have hO5 := hO.ext hx25
    have s0 := hx2.size
    have s3 := hx3.size
    have s25 := hx25.size
    have hglt : ∀ k, v.ownBlock = some k → k < w2.heap.size := fun k hk => (World.ownsRow.lt hO k hk).2
    refine append_own3 elem_v hO5 ht (m := 1) (by rw [h3.rep.len]) h3.rep.one (by omega) (by omega) (by omega) fun v' w6 h6 hc6 hb6 => ?_
    have hx6 : Ext w w6 := (hx2.trans hx25).then hc6 fun k hk e => by
      have := (own_ge hO5 e).1; omega
    rw [up1 (by omega)]
    refine ⟨⟨i + 1, v', L ++ cs3, hlt, rfl, hx6, h6, ?_⟩, by simp only [Int.toNat_natCast]; omega⟩
    have e : xs.take (i + 1) = xs.take i ++ [x] := by rw [List.take_add_one, hxi]; rfl
    rw [e]
    have hr5 := VRepsP.chg hx25 (fun _ _ _ e => e) hr
    have h35 := VRepP.chg hx5 (fun _ _ _ e => e) h3
    have hall : VRepsP (fun k => w.heap.size ≤ k ∧ v.ownBlock ≠ some k) w5 (xs.take i ++ [x]) (L ++ cs3) :=
      hr5.snoc (h35.mono fun k _ hk => ⟨by have : w3.heap.size ≤ k := hk; omega, fun e => by have := hglt k e; have : w3.heap.size ≤ k := hk; omega⟩)
    have hall2 : VRepsP (fun k => (w.heap.size ≤ k ∧ v.ownBlock ≠ some k) ∧ k < w5.heap.size) w5 (xs.take i ++ [x]) (L ++ cs3) := hall.mono fun k hlt hk => ⟨hk, hlt⟩
    have hall3 := VRepsP.chg hc6 (fun k hk _ e => hk.1.2 e) hall2
    exact hall3.mono fun k _ hk => ⟨hk.1.1, fun e => by
      rcases hb6 k e with h | h
      · exact hk.1.2 h
      · omega⟩
  · obtain rfl : i = xs.length := by omega
    simp only [wsv, wsg, wsh, wsl, cond_true, cond_false, exists_eq_left', Option.some.injEq, Option.isSome_some, List.getElem?_toArray, List.getElem?_cons_zero, List.getElem?_cons_succ, List.length_cons, List.length_nil, List.set_cons_zero, List.set_cons_succ, List.getD_cons_zero, List.getD_cons_succ, Nat.zero_add, Nat.add_zero, Nat.reduceAdd, Nat.reduceLT, Nat.lt_add_one, Nat.zero_lt_succ, decide_true, decide_false, ne_eq, reduceCtorEq, Int.lt_irrefl]
    rw [List.take_length] at hr
    exact hK v w2 hx2 ⟨L, hO.sl, hr.mono fun k _ hk => hk.1⟩ fun k hk => (hO.block k hk).1
end
end Go.Proofs.YtcnjpcadejcenaaGreatDoor

namespace Go.Eng
open Go Go.Num

mutual
def fewM : JV → Bool
  | .mk _ _ _ xs ks => decide (xs.length ≤ 100000) && decide (ks.length ≤ 100000) && fewL xs
def fewL : List JV → Bool
  | [] => true
  | x :: xs => fewM x && fewL xs
end
theorem fewM_eq (v : JV) : fewM v = (decide (v.xs.length ≤ 100000) && decide (v.ks.length ≤ 100000) && fewL v.xs) := by cases v; rfl
theorem fewL_all (xs : List JV) : fewL xs = xs.all fewM := by
  induction xs with
  | nil => rfl
  | cons x xs ih => simp [fewL, ih]
theorem size_bound : ∀ (m : Nat), m ≤ 24 → ∀ (v : JV), deepM v m = true → 1 ≤ sizeM v ∧ sizeM v ≤ 2000 * m + 1
  | 0, _, v, h => by rw [deepM_zero] at h; cases h
  | m + 1, hm, v, h => by
    rw [deepM_succ, deepL_all] at h
    rw [sizeM_eq]
    have key : ∀ (xs : List JV) (n : Int), xs.all (deepM · m) = true → 1 ≤ n → n ≤ 2000 * (m + 1) + 1 → 1 ≤ sizeLM xs n ∧ sizeLM xs n ≤ 2000 * (m + 1) + 1 := by
      intro xs
      induction xs with
      | nil => intro n _ h1 h2; exact ⟨h1, h2⟩
      | cons x xs ih =>
        intro n ha h1 h2
        simp only [List.all_cons, Bool.and_eq_true] at ha
        obtain ⟨a1, a2⟩ := size_bound m (by omega) x ha.1
        simp only [sizeLM]
        split
        · rw [wrap_id (by omega) (by omega)]
          exact ih _ ha.2 (by omega) (by omega)
        · exact ⟨h1, h2⟩
    have := key v.xs 1 h (by omega) (by omega)
    exact ⟨this.1, by have := this.2; omega⟩
theorem sizeLM_all {m : Nat} (hm : m ≤ 24) : ∀ (xs : List JV) (n : Int), xs.all (deepM · m) = true → 1 ≤ n → sizeLM xs n ≤ 2000 → n + xs.length ≤ 2000 ∧ ∀ x ∈ xs, sizeM x ≤ 2000
  | [], n, _, _, h => by simp only [sizeLM] at h; exact ⟨by simp; exact h, by simp⟩
  | x :: xs, n, ha, h1, h => by
    simp only [List.all_cons, Bool.and_eq_true] at ha
    obtain ⟨a1, a2⟩ := size_bound m hm x ha.1
    simp only [sizeLM] at h
    split at h
    · rw [wrap_id (by omega) (by omega)] at h
      obtain ⟨i1, i2⟩ := sizeLM_all hm xs _ ha.2 (by omega) h
      refine ⟨by simp only [List.length_cons]; omega, fun y hy => ?_⟩
      rcases List.mem_cons.1 hy with rfl | hy
      · omega
      · exact i2 y hy
    · omega
theorem good_few (v : JV) : ∀ (m : Nat), m ≤ 24 → sizeM v ≤ 2000 → deepM v m = true → plainM v = true → fewM v = true := by
  induction v using JV.ind' with
  | h v ih =>
    intro m hm hs hd hp
    cases m with
    | zero => rw [deepM_zero] at hd; cases hd
    | succ m =>
      rw [deepM_succ, deepL_all] at hd
      rw [sizeM_eq] at hs
      obtain ⟨h1, h2⟩ := sizeLM_all (m := m) (by omega) v.xs 1 hd (by omega) hs
      rw [plainM_eq, Bool.and_eq_true, plainL_all] at hp
      obtain ⟨_, _, _, _, _, k6, _, _, k9, _⟩ := headOk_out hp.1
      rw [fewM_eq, fewL_all]
      have e1 : v.xs.length ≤ 100000 := by omega
      have e2 : v.ks.length ≤ 100000 := by
        by_cases hk : v.ks = []
        · rw [hk]; simp
        · have := k9 (k6 hk); omega
      rw [decide_eq_true e1, decide_eq_true e2]
      simp only [Bool.and_self, Bool.true_and, List.all_eq_true]
      intro x hx
      exact ih x hx m (by omega) (h2 x hx) (List.all_eq_true.1 hd x hx) (List.all_eq_true.1 hp.2 x hx)
structure GoodV (v : JV) : Prop where
  plain : plainM v = true
  few : fewM v = true
theorem good_v {v : JV} (h : goodM v = true) : GoodV v := by
  simp only [goodM, Bool.and_eq_true, decide_eq_true_eq] at h
  exact ⟨h.2, good_few v 24 (Nat.le_refl _) h.1.1 h.1.2 h.2⟩
theorem GoodV.item {v x : JV} (h : GoodV v) (hx : x ∈ v.xs) : GoodV x := by
  have h1 := h.plain
  have h2 := h.few
  rw [plainM_eq, Bool.and_eq_true, plainL_all, List.all_eq_true] at h1
  rw [fewM_eq, fewL_all] at h2
  simp only [Bool.and_eq_true, List.all_eq_true] at h2
  exact ⟨h1.2 x hx, h2.2 x hx⟩
theorem GoodV.lens {v : JV} (h : GoodV v) : v.xs.length ≤ 100000 ∧ v.ks.length ≤ 100000 ∧ (v.k = 6 → v.ks.length = v.xs.length) ∧ keysOk v.ks = true ∧ (v.ks ≠ [] → v.k = 6) := by
  have h1 := h.plain
  have h2 := h.few
  rw [plainM_eq, Bool.and_eq_true] at h1
  rw [fewM_eq] at h2
  simp only [Bool.and_eq_true, decide_eq_true_eq] at h2
  obtain ⟨_, _, _, _, _, k6, _, _, k9, k10⟩ := headOk_out h1.1
  exact ⟨h2.1.1, h2.1.2, k9, k10, k6⟩

/-! ### rising keys -/
theorem less_trans : ∀ {a b c : Str}, Op.bytesLess a b = true → Op.bytesLess b c = true → Op.bytesLess a c = true
  | [], [], _, h, _ => by simp [Op.bytesLess] at h
  | _ :: _, [], _, h, _ => by simp [Op.bytesLess] at h
  | _, _ :: _, [], _, h => by simp [Op.bytesLess] at h
  | [], _ :: _, _ :: _, _, _ => by simp [Op.bytesLess]
  | x :: a, y :: b, z :: c, h1, h2 => by
    simp only [Op.bytesLess, Bool.or_eq_true, Bool.and_eq_true, decide_eq_true_eq, beq_iff_eq] at h1 h2 ⊢
    rcases h1 with h1 | ⟨rfl, h1⟩
    · rcases h2 with h2 | ⟨rfl, h2⟩
      · exact .inl (UInt8.lt_trans h1 h2)
      · exact .inl h1
    · rcases h2 with h2 | ⟨rfl, h2⟩
      · exact .inl h2
      · exact .inr ⟨rfl, less_trans h1 h2⟩
theorem less_tri : ∀ (a b : Str), Op.bytesLess a b = true ∨ a = b ∨ Op.bytesLess b a = true
  | [], [] => .inr (.inl rfl)
  | [], _ :: _ => .inl rfl
  | _ :: _, [] => .inr (.inr rfl)
  | x :: a, y :: b => by
    simp only [Op.bytesLess, Bool.or_eq_true, Bool.and_eq_true, decide_eq_true_eq, beq_iff_eq, List.cons.injEq]
    by_cases h1 : x < y
    · exact .inl (.inl h1)
    · by_cases h2 : y < x
      · exact .inr (.inr (.inl h2))
      · have : x = y := UInt8.le_antisymm (UInt8.not_lt.1 h2) (UInt8.not_lt.1 h1)
        subst this
        rcases less_tri a b with h | h | h
        · exact .inl (.inr ⟨rfl, h⟩)
        · exact .inr (.inl ⟨rfl, h⟩)
        · exact .inr (.inr (.inr ⟨rfl, h⟩))
theorem less_anti {a b : Str} (h : Op.bytesLess a b = true) : Op.bytesLess b a = false := by
  cases hb : Op.bytesLess b a with
  | false => rfl
  | true => have := less_trans h hb; rw [less_irr] at this; cases this
/-- rising -/
def Rise (ks : List Str) : Prop := ks.Pairwise fun a b => Op.bytesLess a b = true
theorem keysOk_rise : ∀ {ks : List Str}, keysOk ks = true → Rise ks
  | [], _ => List.Pairwise.nil
  | [a], _ => List.pairwise_singleton _ _
  | a :: b :: r, h => by
    simp only [keysOk, Bool.and_eq_true] at h
    have ih := keysOk_rise (ks := b :: r) h.2
    refine List.Pairwise.cons (fun c hc => ?_) ih
    rcases List.mem_cons.1 hc with rfl | hc
    · exact h.1.2
    · exact less_trans h.1.2 ((List.pairwise_cons.1 ih).1 c hc)
theorem keysOk_len {ks : List Str} (h : keysOk ks = true) : ∀ k ∈ ks, k.length ≤ 16384 := by
  induction ks with
  | nil => intro k hk; cases hk
  | cons a r ih =>
    intro k hk
    cases r with
    | nil =>
      simp only [keysOk, decide_eq_true_eq] at h
      rw [List.mem_singleton.1 hk]; exact h
    | cons b r =>
      simp only [keysOk, Bool.and_eq_true, decide_eq_true_eq] at h
      rcases List.mem_cons.1 hk with rfl | hk
      · exact h.1.1
      · exact ih h.2 k hk
theorem rise_lt {ks : List Str} (h : Rise ks) {i j : Nat} {a b : Str} (ha : ks[i]? = some a) (hb : ks[j]? = some b) (hij : i < j) : Op.bytesLess a b = true := by
  obtain ⟨h1, e1⟩ := List.getElem?_eq_some_iff.1 ha
  obtain ⟨h2, e2⟩ := List.getElem?_eq_some_iff.1 hb
  have := List.pairwise_iff_getElem.1 h i j h1 h2 hij
  rw [e1, e2] at this
  exact this
end Go.Eng

namespace Go.Proofs.YtcnjpcadejcenaaGreatDoor
open Go Go.Eng Go.Num
set_option maxRecDepth 100000
section
variable [HX]
theorem clone_p (v : JV) : ∀ {cs : List Value} {w : World} {K : Value → World → Prop}, fewM v = true → VRep w v cs → (∀ cs' w', Ext w w' → VRepP (From w.heap.size) w' v cs' → K (.agg cs'.toArray) w') → callF Tryz.prog 189 [.agg cs.toArray] w K := by
  induction v using JV.ind' with
  | h v ih =>
    intro cs w K hfew h hK
    rw [fewM_eq, fewL_all] at hfew
    simp only [Bool.and_eq_true, decide_eq_true_eq, List.all_eq_true] at hfew
    obtain ⟨⟨f1, f2⟩, f3⟩ := hfew
    refine W189_ok ?_
    unfold W189
    refine box_val h fun a w1 sv kv hB hx ha => ?_
    refine alloc_new fun b w2 hb hz2 hbb hx2 => ?_
    have hxd : Ext w2 w2.drew := Chg.drew (Chg.refl (fun _ => False) w2)
    have hB2 := hB.ext hx2
    have hBd := hB2.ext hxd
    have hbd := hxd.at hbb id
    have sd : w2.drew.heap.size = w2.heap.size := rfl
    simp only [wsv, wsg, wsh, wsl, cond_true, cond_false, exists_eq_left', Option.some.injEq, Option.isSome_some, List.getElem?_toArray, List.getElem?_cons_zero, List.getElem?_cons_succ, List.length_cons, List.length_nil, List.set_cons_zero, List.set_cons_succ, List.getD_cons_zero, List.getD_cons_succ, Nat.zero_add, Nat.add_zero, Nat.reduceAdd, Nat.reduceLT, Nat.lt_add_one, Nat.zero_lt_succ, decide_true, decide_false, ne_eq, reduceCtorEq, wsh, hB2.hb]
    obtain ⟨T1, k1⟩ := hBd.keys
    refine clone_s k1 (by omega) fun kv' w3 hx3 hk3 hg3 => ?_
    have hB3 := hBd.ext hx3
    have hb3 := hx3.at hbd id
    have s3 := hx3.size
    simp only [wsv, wsg, wsh, wsl, cond_true, cond_false, exists_eq_left', Option.some.injEq, Option.isSome_some, List.getElem?_toArray, List.getElem?_cons_zero, List.getElem?_cons_succ, List.length_cons, List.length_nil, List.set_cons_zero, List.set_cons_succ, List.getD_cons_zero, List.getD_cons_succ, Nat.zero_add, Nat.add_zero, Nat.reduceAdd, Nat.reduceLT, Nat.lt_add_one, Nat.zero_lt_succ, decide_true, decide_false, ne_eq, reduceCtorEq, wsh, hB3.hb]
    refine clones_p (fun x hx => ih x hx (f3 x hx)) hB3.itemsAt (by omega) fun sv' w4 hx4 hL hg4 => ?_
    obtain ⟨L, hL1, hL2⟩ := hL
    have hB4 := hB3.ext hx4
    have hb4 := hx4.at hb3 id
    have s1 := hx.size
    have hak := at_lt hB.hb
    have one1 : one1 sv' = true ∧ one1 kv' = true := by
      obtain ⟨p, c, rfl, _⟩ := hL1.shape
      obtain ⟨p', c', rfl, _⟩ := hk3.shape
      exact ⟨rfl, rfl⟩
    refine st_at hB4.hb one1.2 (by simp) fun w5 hz5 ha5 hc5 => ?_
    have ha5 : w5.heap[a]? = some (.cells [i64 v.k, .bool v.b, str v.t, sv, kv'].toArray VT (0, 0)) := by rw [ha5]; simp
    refine st_at ha5 one1.1 (by simp) fun w6 hz6 ha6 hc6 => ?_
    have ha6 : w6.heap[a]? = some (.cells [i64 v.k, .bool v.b, str v.t, sv', kv'].toArray VT (0, 0)) := by rw [ha6]; simp
    refine ld_all ha6 rfl ?_
    have hb6 := hc6.at (hc5.at hb4 (by omega)) (by omega)
    refine ret_agg hb6 rfl rfl (obj_one one1.1 one1.2) fun w7 hc7 => ?_
    have hx1 : Ext w w4 := hx.trans (hx2.trans (hxd.trans (hx3.trans hx4)))
    have hx5 : Ext w w7 := ((hx1.new hc5 (by omega)).new hc6 (by omega)).new hc7 (by omega)
    have hch : Chg (fun k => k = a ∨ k = b) w4 w7 := ((hc5.mono fun k _ e => .inl e).trans (hc6.mono fun k _ e => .inl e)).trans (hc7.mono fun k _ e => .inr e)
    refine hK _ w7 hx5 (VRepP.mk (T1 := VT) (T2 := ST) (L := L) ?_ ?_ ?_ hB.fits (fun _ k hk => ?_) (fun _ k hk => ?_))
    · exact slat_chgG hL1 (fun _ => hg4) hch fun k hk _ e => by have : w3.heap.size ≤ k := hk; omega
    · refine VRepsP.mono (fun k _ hk => ?_) (VRepsP.chg (G := From w3.heap.size) hch (fun k hk _ e => by have : w3.heap.size ≤ k := hk; omega) hL2)
      have : w3.heap.size ≤ k := hk
      show w.heap.size ≤ k
      omega
    · exact slat_chgG (hk3.ext hx4) (fun _ => hg3) hch fun k hk _ e => by have : w2.drew.heap.size ≤ k := hk; omega
    · have : w3.heap.size ≤ k := hg4 k hk
      show w.heap.size ≤ k
      omega
    · have : w2.drew.heap.size ≤ k := hg3 k hk
      show w.heap.size ≤ k
      omega

theorem search_p {kv : Value} {T : TypeId} {ks : List Str} {k : Str} {w : World} {K : Value → World → Prop} (h : SlAt w T kv ks.length (ks.map str)) (hl : ks.length ≤ 100000) (hr : Rise ks)
    (hK : ∀ i : Nat, (idxK ks k = none ∨ idxK ks k = some i) → (∀ j a, j < i → ks[j]? = some a → Op.bytesLess a k = true) → (∀ j a, i ≤ j → ks[j]? = some a → Op.bytesLess a k = false) → i ≤ ks.length → K (.tuple #[i64 (i : Nat), .bool (idxK ks k).isSome]) w) :
    callF Tryz.prog 188 [kv, str k] w K := by
  refine W188_ok ?_
  unfold W188
  rw [lenl_at h]
  refine ⟨fun s w' => ∃ lo hi : Nat, lo ≤ hi ∧ hi ≤ ks.length ∧ s = [i64 (lo : Nat), i64 (hi : Nat)] ∧ w' = w ∧ (∀ j a, j < lo → ks[j]? = some a → Op.bytesLess a k = true) ∧ (∀ j a, hi ≤ j → ks[j]? = some a → Op.bytesLess a k = false),
    fun s _ => match s with | [.int _ lo, .int _ hi] => hi.toNat - lo.toNat | _ => 0, ⟨0, ks.length, by omega, by omega, rfl, rfl, fun j a h => by omega, fun j a hj ha => by have := (List.getElem?_eq_some_iff.1 ha).1; omega⟩, ?_⟩
  rintro s g w2 ⟨lo, hi, hle, hhi, rfl, rfl, h1, h2⟩
  rcases Nat.lt_or_ge lo hi with hlt | hge
  · have hltI : (lo : Int) < (hi : Int) := by omega
    have e1 : IntKind.i64.wrap ((lo : Int) + (hi : Int)) = ((lo + hi : Nat) : Int) := by rw [wrap_id (by omega) (by omega)]; omega
    have e2 : IntKind.u64.wrap ((lo + hi : Nat) : Int) = ((lo + hi : Nat) : Int) := u64_wrap (by omega) (by omega)
    have e3 : (((lo + hi : Nat) : Int).fdiv (2 ^ min (1 : Int).toNat IntKind.u64.bits)) = (((lo + hi) / 2 : Nat) : Int) := by
      have : (2 : Int) ^ min (1 : Int).toNat IntKind.u64.bits = 2 := by decide
      rw [this, Int.fdiv_eq_ediv_of_nonneg _ (by omega)]; omega
    have e4 : IntKind.i64.wrap (((lo + hi) / 2 : Nat) : Int) = (((lo + hi) / 2 : Nat) : Int) := wrap_id (by omega) (by omega)
    generalize hm : (lo + hi) / 2 = m at *
    obtain ⟨u, hu⟩ : ∃ u, ks[m]? = some u := ⟨_, List.getElem?_eq_getElem (by omega)⟩
    have h01 : (0 : Int) ≤ 1 := by decide
    simp only [wsv, wsg, wsh, wsl, cond_true, cond_false, exists_eq_left', Option.some.injEq, Option.isSome_some, List.getElem?_toArray, List.getElem?_cons_zero, List.getElem?_cons_succ, List.length_cons, List.length_nil, List.set_cons_zero, List.set_cons_succ, List.getD_cons_zero, List.getD_cons_succ, Nat.zero_add, Nat.add_zero, Nat.reduceAdd, Nat.reduceLT, Nat.lt_add_one, Nat.zero_lt_succ, decide_true, decide_false, ne_eq, reduceCtorEq, hltI, e1, e2, bin_shr, h01, e3, e4]
    refine text_ld h hu ?_
    refine cmp_less ?_
    rw [condW_b]
    refine ⟨fun hl => ?_, fun hn => ?_⟩
    · rw [up1 (by omega)]
      refine ⟨⟨m + 1, hi, by omega, hhi, rfl, rfl, fun j a hj ha => ?_, h2⟩, by simp only [Int.toNat_natCast]; omega⟩
      rcases Nat.lt_or_ge j m with hj2 | hj2
      · exact less_trans (rise_lt hr ha hu hj2) hl
      · obtain rfl : j = m := by omega
        rw [hu] at ha; cases ha; exact hl
    · refine ⟨⟨lo, m, by omega, by omega, rfl, rfl, h1, fun j a hj ha => ?_⟩, by simp only [Int.toNat_natCast]; omega⟩
      rcases Nat.lt_or_ge m j with hj2 | hj2
      · cases hb : Op.bytesLess a k with
        | false => rfl
        | true => have := less_trans (rise_lt hr hu ha hj2) hb; rw [hn] at this; cases this
      · obtain rfl : j = m := by omega
        rw [hu] at ha; cases ha; exact hn
  · obtain rfl : lo = hi := by omega
    have hi0 : idxK ks k = none ∨ idxK ks k = some lo := by
      cases hx : idxK ks k with
      | none => exact .inl rfl
      | some j =>
        right
        have hj := idxK_spec hx
        rcases Nat.lt_trichotomy j lo with h | h | h
        · have := h1 j k h hj; rw [less_irr] at this; cases this
        · rw [h]
        · obtain ⟨u, hu⟩ : ∃ u, ks[lo]? = some u := ⟨_, List.getElem?_eq_getElem (by have := (List.getElem?_eq_some_iff.1 hj).1; omega)⟩
          have a1 := h2 lo u (Nat.le_refl _) hu
          have a2 := rise_lt hr hu hj h
          rw [a1] at a2; cases a2
    have hK := hK lo hi0 h1 h2 hhi
    simp only [wsv, wsg, wsh, wsl, cond_true, cond_false, exists_eq_left', Option.some.injEq, Option.isSome_some, List.getElem?_toArray, List.getElem?_cons_zero, List.getElem?_cons_succ, List.length_cons, List.length_nil, List.set_cons_zero, List.set_cons_succ, List.getD_cons_zero, List.getD_cons_succ, Nat.zero_add, Nat.add_zero, Nat.reduceAdd, Nat.reduceLT, Nat.lt_add_one, Nat.zero_lt_succ, decide_true, decide_false, ne_eq, reduceCtorEq, Int.lt_irrefl]
    rcases Nat.lt_or_ge lo ks.length with hlt | hge2
    · obtain ⟨u, hu⟩ : ∃ u, ks[lo]? = some u := ⟨_, List.getElem?_eq_getElem hlt⟩
      have ed : decide ((lo : Int) < (ks.length : Int)) = true := decide_eq_true (by omega)
      have hsome : (idxK ks k).isSome = decide (u = k) := by
        by_cases e : u = k
        · subst e
          have hm : u ∈ ks := List.mem_of_getElem? hu
          rw [decide_eq_true rfl]
          cases hx : idxK ks u with
          | none => exact absurd hm (idxK_none.1 hx)
          | some _ => rfl
        · rw [decide_eq_false e]
          rcases hi0 with h | h
          · rw [h]; rfl
          · have := idxK_spec h; rw [hu] at this; exact absurd (Option.some.inj this) e
      rw [hsome] at hK
      simp only [wsv, wsg, wsh, wsl, cond_true, cond_false, exists_eq_left', Option.some.injEq, Option.isSome_some, List.getElem?_toArray, List.getElem?_cons_zero, List.getElem?_cons_succ, List.length_cons, List.length_nil, List.set_cons_zero, List.set_cons_succ, List.getD_cons_zero, List.getD_cons_succ, Nat.zero_add, Nat.add_zero, Nat.reduceAdd, Nat.reduceLT, Nat.lt_add_one, Nat.zero_lt_succ, decide_true, decide_false, ne_eq, reduceCtorEq, ed]
      refine GdW.t ?_
      refine text_ld h hu ?_
      intro gg
      simp only [ofL_data]
      simp only [wsv, wsg, wsh, wsl, cond_true, cond_false, exists_eq_left', Option.some.injEq, Option.isSome_some, List.getElem?_toArray, List.getElem?_cons_zero, List.getElem?_cons_succ, List.length_cons, List.length_nil, List.set_cons_zero, List.set_cons_succ, List.getD_cons_zero, List.getD_cons_succ, Nat.zero_add, Nat.add_zero, Nat.reduceAdd, Nat.reduceLT, Nat.lt_add_one, Nat.zero_lt_succ, decide_true, decide_false, ne_eq, reduceCtorEq]
      by_cases e : u = k
      · rw [decide_eq_true e] at hK ⊢
        (try simp only [wsv, wsg, wsh, wsl, cond_true, cond_false, exists_eq_left', Option.some.injEq, Option.isSome_some, List.getElem?_toArray, List.getElem?_cons_zero, List.getElem?_cons_succ, List.length_cons, List.length_nil, List.set_cons_zero, List.set_cons_succ, List.getD_cons_zero, List.getD_cons_succ, Nat.zero_add, Nat.add_zero, Nat.reduceAdd, Nat.reduceLT, Nat.lt_add_one, Nat.zero_lt_succ, decide_true, decide_false, ne_eq, reduceCtorEq])
        intros
        exact hK
      · rw [decide_eq_false e] at hK ⊢
        (try simp only [wsv, wsg, wsh, wsl, cond_true, cond_false, exists_eq_left', Option.some.injEq, Option.isSome_some, List.getElem?_toArray, List.getElem?_cons_zero, List.getElem?_cons_succ, List.length_cons, List.length_nil, List.set_cons_zero, List.set_cons_succ, List.getD_cons_zero, List.getD_cons_succ, Nat.zero_add, Nat.add_zero, Nat.reduceAdd, Nat.reduceLT, Nat.lt_add_one, Nat.zero_lt_succ, decide_true, decide_false, ne_eq, reduceCtorEq])
        refine GdW.t ?_
        refine text_ld h hu ?_
        refine isnan_s2 ?_
        intro gg
        (try simp only [wsv, wsg, wsh, wsl, cond_true, cond_false, exists_eq_left', Option.some.injEq, Option.isSome_some, List.getElem?_toArray, List.getElem?_cons_zero, List.getElem?_cons_succ, List.length_cons, List.length_nil, List.set_cons_zero, List.set_cons_succ, List.getD_cons_zero, List.getD_cons_succ, Nat.zero_add, Nat.add_zero, Nat.reduceAdd, Nat.reduceLT, Nat.lt_add_one, Nat.zero_lt_succ, decide_true, decide_false, ne_eq, reduceCtorEq])
        intros
        exact hK
    · have hsome : idxK ks k = none := by
        rcases hi0 with h | h
        · exact h
        · have := (List.getElem?_eq_some_iff.1 (idxK_spec h)).1; omega
      rw [hsome] at hK
      have ed : decide ((lo : Int) < (ks.length : Int)) = false := decide_eq_false (by omega)
      simp only [wsv, wsg, wsh, wsl, cond_true, cond_false, exists_eq_left', Option.some.injEq, Option.isSome_some, List.getElem?_toArray, List.getElem?_cons_zero, List.getElem?_cons_succ, List.length_cons, List.length_nil, List.set_cons_zero, List.set_cons_succ, List.getD_cons_zero, List.getD_cons_succ, Nat.zero_add, Nat.add_zero, Nat.reduceAdd, Nat.reduceLT, Nat.lt_add_one, Nat.zero_lt_succ, decide_true, decide_false, ne_eq, reduceCtorEq, ed]
      intros
      exact hK
end
end Go.Proofs.YtcnjpcadejcenaaGreatDoor

namespace Go.Proofs.YtcnjpcadejcenaaGreatDoor
open Go Go.Eng Go.RowKit
set_option maxRecDepth 100000
/-- the JSON of a row of values with their keys, behind what is there -/
def catM (pre : List Str) : List Str → Nat → Str
  | [], _ => []
  | x :: xs, i => (if i = 0 then [] else [44]) ++ (pre.getD i []) ++ x ++ catM pre xs (i + 1)
theorem utfM_of {s : Str} (h : utfM s = true) : Utf s := (utf_iff s).1 h
/-- what is written of the items ahead of place i, and what comes with item i -/
def partL (xs : List JV) (i : Nat) : Str := (if i = 0 then [] else [44]) ++ (match xs[i]? with | some x => showM x | none => [])
def partO (xs : List JV) (ks : List Str) (i : Nat) : Str := (if i = 0 then [] else [44]) ++ quoteM (ks.getD i []) ++ [58] ++ (match xs[i]? with | some x => showM x | none => [])
def sumL (f : Nat → Str) : Nat → Str
  | 0 => []
  | n + 1 => sumL f n ++ f n
theorem joinM_cons {x : Str} {xs : List Str} (h : xs ≠ []) : joinM (x :: xs) = x ++ [44] ++ joinM xs := by
  cases xs with
  | nil => exact absurd rfl h
  | cons y r => rfl
theorem joinM_snoc : ∀ (xs : List Str) (x : Str), joinM (xs ++ [x]) = if xs = [] then x else joinM xs ++ [44] ++ x
  | [], x => rfl
  | [y], x => by simp [joinM]
  | y :: z :: r, x => by
    have := joinM_snoc (z :: r) x
    rw [List.cons_append, joinM_cons (by simp), this, if_neg (by simp), if_neg (by simp), joinM_cons (x := y) (xs := z :: r) (by simp)]
    simp [List.append_assoc]
theorem sum_join (f : Nat → Str) (g : List Str) (hf : ∀ i x, g[i]? = some x → f i = (if i = 0 then [] else [44]) ++ x) : ∀ n, n ≤ g.length → sumL f n = joinM (g.take n) := by
  intro n
  induction n with
  | zero => intro _; rfl
  | succ n ih =>
    intro h
    have hn : n < g.length := by omega
    rw [sumL, ih (by omega), hf n g[n] (List.getElem?_eq_getElem hn), List.take_add_one, List.getElem?_eq_getElem hn, Option.toList_some, joinM_snoc]
    cases n with
    | zero => simp [joinM]
    | succ n =>
      rw [if_neg (by omega), if_neg (by
        intro e
        have := congrArg List.length e
        rw [List.length_take, List.length_nil] at this
        omega), List.append_assoc]
theorem showL_get : ∀ (xs : List JV) (i : Nat), (showL xs)[i]? = (xs[i]?).map showM
  | [], i => by simp [showL]
  | x :: xs, 0 => by simp [showL]
  | x :: xs, i + 1 => by simp only [showL, List.getElem?_cons_succ]; exact showL_get xs i
theorem showL_len : ∀ (xs : List JV), (showL xs).length = xs.length
  | [] => rfl
  | x :: xs => by simp only [showL, List.length_cons]; rw [showL_len xs]
theorem list_join (xs : List JV) : sumL (partL xs) xs.length = joinM (showL xs) := by
  rw [sum_join (partL xs) (showL xs) (fun i x h => by
    rw [showL_get] at h
    unfold partL
    cases hx : xs[i]? with
    | none => rw [hx] at h; cases h
    | some y => rw [hx] at h; cases h; rfl) xs.length (by rw [showL_len]; exact Nat.le_refl _), ← showL_len, List.take_length]
theorem obj_join {xs : List JV} {ks : List Str} (hl : ks.length = xs.length) : sumL (partO xs ks) xs.length = joinM (List.zipWith (fun a b => quoteM a ++ [58] ++ b) ks (showL xs)) := by
  have hz : (List.zipWith (fun a b => quoteM a ++ [58] ++ b) ks (showL xs)).length = xs.length := by rw [List.length_zipWith, showL_len]; omega
  rw [sum_join (partO xs ks) (List.zipWith (fun a b => quoteM a ++ [58] ++ b) ks (showL xs)) (fun i x h => by
    rw [List.getElem?_zipWith] at h
    unfold partO
    cases hx : xs[i]? with
    | none =>
      rw [showL_get, hx] at h
      cases hk : ks[i]? with
      | none => rw [hk] at h; cases h
      | some k => rw [hk] at h; cases h
    | some y =>
      cases hk : ks[i]? with
      | none =>
        have := List.getElem?_eq_none_iff.1 hk
        have := (List.getElem?_eq_some_iff.1 hx).1
        omega
      | some k =>
        rw [showL_get, hx, hk] at h
        cases h
        rw [List.getD_eq_getElem?_getD, hk]
        simp [List.append_assoc]) xs.length (by rw [hz]; exact Nat.le_refl _), ← hz, List.take_length]
section
variable [HX]
theorem quote_len (s : Str) : (quoteM s).length ≤ 6 * s.length + 2 := by
  unfold quoteM
  simp only [List.length_append, List.length_cons, List.length_nil]
  have := flat_len s
  omega
theorem join_len : ∀ (l : List Str) (n : Nat), (∀ x ∈ l, x.length + 1 ≤ n) → (joinM l).length ≤ l.length * n
  | [], n, _ => by simp [joinM]
  | [x], n, h => by have := h x (by simp); simp only [joinM, List.length_cons, List.length_nil]; omega
  | x :: y :: r, n, h => by
    have h1 := h x (by simp)
    have h2 := join_len (y :: r) n fun z hz => h z (List.mem_cons_of_mem _ hz)
    rw [joinM_cons (by simp)]
    simp only [List.length_append, List.length_cons, List.length_nil] at h2 ⊢
    rw [Nat.add_mul (r.length + 1) 1 n]
    omega
def cntAt (xs : List JV) (i : Nat) : Nat := match xs[i]? with | some x => cntM x | none => 0
/-- how many values the items ahead of a place have -/
def cntS (xs : List JV) : Nat → Nat
  | 0 => 0
  | n + 1 => cntS xs n + cntAt xs n
theorem cntAt_get {xs : List JV} {i : Nat} {x : JV} (h : xs[i]? = some x) : cntAt xs i = cntM x := by unfold cntAt; rw [h]
theorem cntS_cons (x : JV) (xs : List JV) : ∀ n, cntS (x :: xs) (n + 1) = cntM x + cntS xs n
  | 0 => by simp [cntS, cntAt]
  | n + 1 => by
    rw [cntS, cntS_cons x xs n, cntS]
    have : cntAt (x :: xs) (n + 1) = cntAt xs n := by unfold cntAt; rw [List.getElem?_cons_succ]
    omega
theorem cntS_le : ∀ (xs : List JV) (n : Nat), n ≤ xs.length → cntS xs n ≤ cntL xs
  | xs, 0, _ => Nat.zero_le _
  | [], n + 1, h => by simp at h
  | x :: xs, n + 1, h => by
    have ih := cntS_le xs n (by simpa using h)
    rw [cntS_cons]
    simp only [cntL]
    omega
theorem sum_len {f : Nat → Str} {xs : List JV} : ∀ n, (∀ i, i < n → (f i).length ≤ 200000 * cntAt xs i) → (sumL f n).length ≤ 200000 * cntS xs n := by
  intro n
  induction n with
  | zero => intro _; simp [sumL]
  | succ n ih =>
    intro h
    have ih := ih fun i hi => h i (by omega)
    rw [sumL, List.length_append, cntS]
    have := h n (by omega)
    omega
theorem show_len (v : JV) : plainM v = true → (showM v).length + 100000 ≤ 200000 * cntM v := by
  induction v using JV.ind with
  | h k b t xs ks ih =>
    intro hp
    rw [plainM_eq, Bool.and_eq_true] at hp
    obtain ⟨hp1, hp2⟩ := hp
    have hh := headOk_out hp1
    simp only [JV.k, JV.b, JV.t, JV.xs, JV.ks] at hh hp2
    rw [plainL_all, List.all_eq_true] at hp2
    have hi : ∀ x ∈ xs, (showM x).length + 100000 ≤ 200000 * cntM x := fun x hx => ih x hx (hp2 x hx)
    simp only [cntM]
    rw [showM_eq]
    have hcg := cntS_le xs xs.length (Nat.le_refl _)
    have sums : ∀ (f : Nat → Str) , (∀ i, i < xs.length → (f i).length ≤ 200000 * cntAt xs i) → (sumL f xs.length).length ≤ 200000 * cntL xs := fun f hf => by
      have h1 := sum_len (f := f) xs.length hf
      omega
    split
    · simp; omega
    split
    · cases b <;> simp <;> omega
    split
    · rename_i h3
      have hg := hh.2.2.2.2.2.2.1 h3
      obtain ⟨g1, g2, _, _⟩ := Num.goodN_out hg
      have : t.length ≤ (Num.dig t).length + 1 := by
        cases t with
        | nil => simp [Num.dig]
        | cons c d => unfold Num.dig; dsimp only; split <;> simp
      omega
    split
    · rename_i h4
      have hl := hh.2.2.2.2.2.2.2.1 h4
      have := quote_len t
      omega
    split
    · rename_i h6
      have hkl := hh.2.2.2.2.2.2.2.2.1 h6
      have hks := keysOk_len hh.2.2.2.2.2.2.2.2.2
      rw [← obj_join hkl]
      have := sums (partO xs ks) fun i hlt => by
        unfold partO
        rw [cntAt_get (List.getElem?_eq_getElem hlt), List.getElem?_eq_getElem hlt]
        have h1 := hi xs[i] (List.getElem_mem ..)
        have hk : ks[i]? = some (ks[i]'(by omega)) := List.getElem?_eq_getElem _
        have h2 := hks (ks[i]'(by omega)) (List.getElem_mem ..)
        have h3 := quote_len (ks[i]'(by omega))
        rw [List.getD_eq_getElem?_getD, hk, Option.getD_some]
        simp only [List.length_append, List.length_cons, List.length_nil]
        split
        · rw [List.length_nil]; omega
        · rw [List.length_cons, List.length_nil]; omega
      simp only [List.length_append, List.length_cons, List.length_nil]
      omega
    · rw [← list_join]
      have := sums (partL xs) fun i hlt => by
        unfold partL
        rw [cntAt_get (List.getElem?_eq_getElem hlt), List.getElem?_eq_getElem hlt]
        have h1 := hi xs[i] (List.getElem_mem ..)
        simp only [List.length_append]
        split
        · rw [List.length_nil]; omega
        · rw [List.length_cons, List.length_nil]; omega
      simp only [List.length_append, List.length_cons, List.length_nil]
      omega
end
end Go.Proofs.YtcnjpcadejcenaaGreatDoor

namespace Go.Proofs.YtcnjpcadejcenaaGreatDoor
open Go Go.Eng Go.RowKit
set_option maxRecDepth 100000
section
variable [HX]
theorem wlit_p {w : World} {B b : Nat} {l s : Str} {K : Value → World → Prop} (h : Bld w B b l) (hB : B ≤ w.heap.size) (hl : l.length + s.length ≤ 1000000000)
    (hK : ∀ v w', Bld w' B b (l ++ s) → Chg (BCh w B b) w w' → K v w') : callF Tryz.prog 78 [.pointer (some ⟨b, 0, none⟩), str s] w K := wstr_p h hB (by omega) hK
theorem fbool_p {b : Bool} {w : World} {K : Value → World → Prop} (hK : K (str (if b then [116, 114, 117, 101] else [102, 97, 108, 115, 101])) w) : callF Tryz.prog 104 [.bool b] w K := by
  refine of_calls (args := #[.bool b]) Tryz.call104 ((Tryz.strconv_FormatBool b w).mono ?_)
  rintro e w' ⟨rfl, rfl⟩
  refine ⟨_, rfl, ?_⟩
  have e : (⟨(Lib.formatBool b).toArray⟩ : ByteArray) = ofL (if b then [116, 114, 117, 101] else [102, 97, 108, 115, 101]) := by cases b <;> decide +kernel
  rw [e]
  exact hK
theorem textsL_mem : ∀ {xs : List JV}, textsL xs = true → ∀ x ∈ xs, textsM x = true
  | [], _, x, hx => by cases hx
  | y :: ys, h, x, hx => by
    simp only [textsL, Bool.and_eq_true] at h
    rcases List.mem_cons.1 hx with rfl | hx
    · exact h.1
    · exact textsL_mem h.2 x hx
theorem sum_succ (f : Nat → Str) (n : Nat) : sumL f (n + 1) = sumL f n ++ f n := rfl
theorem BCh.keepv {w w' : World} {B b k : Nat} {l : List Value} (h : Chg (BCh w B b) w w') (hk : w.heap[k]? = some (.cells l.toArray VT (0, 0))) (hb : k ≠ b) : w'.heap[k]? = some (.cells l.toArray VT (0, 0)) := BCh.keep h hk hb (by decide)
theorem write_p (v : JV) : ∀ {w0 w : World} {B b : Nat} {l : Str} {cs : List Value} {K : Value → World → Prop}, VRep w0 v cs → Ext w0 w → w0.heap.size ≤ B → B ≤ w.heap.size → Bld w B b l → plainM v = true → textsM v = true → knownM v = true → fewM v = true →
    l.length + 200000 * cntM v ≤ 900000000 → FmtOk w0 → (∀ w', Bld w' B b (l ++ showM v) → Chg (BCh w B b) w w' → K (.tuple #[]) w') → callF Tryz.prog 45 [.pointer (some ⟨b, 0, none⟩), .agg cs.toArray] w K := by
  induction v using JV.ind with
  | h k bb t xs ks ih =>
    intro w0 w B b l cs K hr h0 hB0 hB hbd hp hu hkn hfew hl hF hK
    have hsl := show_len _ hp
    have hbb := hbd.base
    have hblt := hbd.lt
    rw [plainM_eq, Bool.and_eq_true] at hp
    obtain ⟨hp1, hp2⟩ := hp
    have hh := headOk_out hp1
    simp only [JV.k, JV.b, JV.t, JV.xs, JV.ks] at hh hp2
    rw [knownM_eq, Bool.and_eq_true, Bool.not_eq_true', decide_eq_false_iff_not] at hkn
    obtain ⟨hkn1, hkn2⟩ := hkn
    simp only [JV.k, JV.xs] at hkn1 hkn2
    simp only [textsM, Bool.and_eq_true] at hu
    obtain ⟨⟨hu1, hu2⟩, hu3⟩ := hu
    rw [fewM_eq] at hfew
    simp only [JV.xs, JV.ks, Bool.and_eq_true] at hfew
    obtain ⟨⟨hf1, hf2⟩, hf3⟩ := hfew
    have hf1 : xs.length ≤ 100000 := of_decide_eq_true hf1
    rw [plainL_all, List.all_eq_true] at hp2
    rw [knownL_all, List.all_eq_true] at hkn2
    rw [fewL_all, List.all_eq_true] at hf3
    have hu3' := textsL_mem hu3
    simp only [cntM] at hl hsl
    rw [showM_eq] at hK hsl
    refine W45_ok ?_
    unfold W45
    refine box_vali hr fun a w1 sv kv ha hI hx1 hage hz1 => ?_
    simp only [JV.k, JV.b, JV.t, JV.xs, JV.ks] at ha
    have hab : a ≠ b := by omega
    have hx01 := h0.trans hx1
    have hb1 := hbd.ext hx1
    have ld : ∀ (w' : World) (off : Nat) (v : Value) (KK : Value → Prop), w'.heap[a]? = some (.cells [i64 k, .bool bb, str t, sv, kv].toArray VT (0, 0)) → [i64 k, .bool bb, str t, sv, kv][off]? = some v → KK v → fldW off (.pointer (some ⟨a, 0, none⟩)) fun p => ldW false 1 p w' KK := by
      intro w' off v KK hw hv hk
      rw [fld_ptr, ld_one]
      refine ⟨v, ?_, hk⟩
      rw [add_mk, cell_eq, hw, cellO_some, Nat.zero_add]
      simpa using hv
    have mk : ∀ {w' : World}, Chg (BCh w1 B b) w1 w' → Chg (BCh w B b) w w' := fun hc => BCh.from hx1 hc
    refine ld w1 0 _ _ ha rfl ?_
    rw [bin_eql, condW_dec]
    refine ⟨fun e0 => ?_, fun e0 => ?_⟩
    · rw [if_pos e0] at hK
      exact wlit_p hb1 (by omega) (by simp; omega) fun v w2 h2 hc2 => hK w2 h2 (mk hc2)
    rw [if_neg e0] at hK hsl
    rw [bin_eql, condW_dec]
    refine ⟨fun e2 => ?_, fun e2 => ?_⟩
    · rw [if_pos e2] at hK
      refine ld w1 1 _ _ ha rfl ?_
      refine fbool_p ?_
      refine wlit_p hb1 (by omega) (by cases bb <;> simp <;> omega) fun v w2 h2 hc2 => hK w2 h2 (mk hc2)
    rw [if_neg e2] at hK hsl
    rw [bin_eql, condW_dec]
    refine ⟨fun e3 => ?_, fun e3 => ?_⟩
    · rw [if_pos e3] at hK hsl
      refine ld w1 2 _ _ ha rfl ?_
      exact wlit_p hb1 (by omega) (by omega) fun v w2 h2 hc2 => hK w2 h2 (mk hc2)
    rw [if_neg e3] at hK hsl
    rw [bin_eql, condW_dec]
    refine ⟨fun e4 => ?_, fun e4 => ?_⟩
    · rw [if_pos e4] at hK hsl
      have ht4 := hh.2.2.2.2.2.2.2.1 e4
      refine ld w1 2 _ _ ha rfl ?_
      exact quote_p hx01 hB0 hb1 (by omega) (utfM_of hu1) (by omega) (fun _ _ _ => hF) fun w2 h2 hc2 => hK w2 h2 (mk hc2)
    rw [if_neg e4] at hK hsl
    have hcg := fun n hn => cntS_le xs n hn
    rw [bin_eql, condW_dec]
    refine ⟨fun e5 => ?_, fun e5 => ?_⟩
    · rw [if_neg (by omega), ← list_join] at hK
      refine wbyte_p (n := 91) hb1 (by omega) (by omega) (by omega) fun w2 h2 hc2 => ?_
      have ha2 := BCh.keepv hc2 ha hab
      refine ld w2 3 _ _ ha2 rfl ?_
      have hit : lenlW sv = fun K => K (i64 (xs.length : Int)) := by
        funext K
        obtain ⟨T, L, i1, _⟩ := hI.items
        exact propext (lenl_at i1 K)
      rw [hit]
      dsimp only
      refine loop_up xs.length (fun i w' => Chg (BCh w B b) w w' ∧ w'.heap[a]? = some (.cells [i64 k, .bool bb, str t, sv, kv].toArray VT (0, 0)) ∧ Bld w' B b (l ++ [91] ++ sumL (partL xs) i) ∧ (sumL (partL xs) i).length ≤ 200000 * cntS xs i) ⟨mk hc2, ha2, by simpa [sumL] using h2, by simp [sumL]⟩ ?_ ?_
      · rintro i w3 g L hi ⟨hc3, ha3, h3, hs3⟩ hL
        obtain ⟨x, hxi⟩ : ∃ x, xs[i]? = some x := ⟨_, List.getElem?_eq_getElem hi⟩
        have hxm := List.mem_of_getElem? hxi
        have hcs := hcg (i + 1) hi
        rw [cntS, cntAt_get hxi] at hcs
        have hz3 := hc3.size
        have hx03 : Ext w0 w3 := BCh.new h0 hB0 hbb hc3
        simp only [List.getD_cons_zero]
        rw [bin_lss, decide_eq_true (by omega), condW_true]
        refine ValI.item_old hI hx03 hxi fun cs2 hr2 => ?_
        refine alloc_new fun a2 w4 ha2 hz4 hb4 hx4 => ?_
        have hlen := hr2.len
        refine st_agg_at (l := cs2) hb4 (by omega) (by simp) hr2.all_one fun w5 hz5 hb5 hc5 => ?_
        have hx5 : Ext w3 w5 := hx4.new hc5 (by omega)
        have h5 := h3.ext hx5
        have hc5' := BCh.ext hc3 hx5
        have ha5 := hx5.at ha3 id
        have ha2b : a2 ≠ b := by have := h3.lt; omega
        have hll : (l ++ [91] ++ sumL (partL xs) i).length = l.length + 1 + (sumL (partL xs) i).length := by simp only [List.length_append, List.length_cons, List.length_nil]
        refine JoinW.cut (fun s' w6 => s' = [] ∧ Chg (BCh w5 B b) w5 w6 ∧ Bld w6 B b (l ++ [91] ++ sumL (partL xs) i ++ (if i = 0 then [] else [44]))) ?_ ?_
        · rw [bin_gtr, condW_dec]
          refine ⟨fun hpos => ?_, fun hz => ?_⟩
          · refine wbyte_p (n := 44) h5 (by omega) (by omega) (by omega) fun w6 h6 hc6 => ⟨rfl, hc6, ?_⟩
            rw [if_neg (by omega)]; exact h6
          · refine ⟨rfl, Chg.refl _ _, ?_⟩
            rw [if_pos (by omega), List.append_nil]; exact h5
        rintro s' g6 w6 ⟨rfl, hc6, h6⟩
        have hb6 := BCh.keepv hc6 hb5 ha2b
        have hz6 := hc6.size
        refine ld_all hb6 (by omega) ?_
        refine ih x hxm (w0 := w0) hr2 (BCh.new hx03 (by omega) hbb (BCh.from hx5 hc6) ) hB0 (by omega) h6 (hp2 x hxm) (hu3' x hxm) (hkn2 x hxm) (hf3 x hxm) ?_ hF fun w7 h7 hc7 => ?_
        · simp only [List.length_append] at hll ⊢
          have : (if i = 0 then ([] : Str) else [44]).length ≤ 1 := by split <;> simp
          omega
        have hi2 : i < 100000 := by omega
        rw [bin_add, up1 (i := i) (by omega)]
        have hcc := BCh.trans (BCh.trans hc5' hc6) hc7
        refine hL w7 ⟨hcc, BCh.keepv hc7 (BCh.keepv hc6 ha5 hab) hab, ?_, ?_⟩
        · rw [sum_succ]
          unfold partL
          rw [hxi, ← List.append_assoc, ← List.append_assoc]
          exact h7
        · rw [sum_succ, List.length_append, cntS, cntAt_get hxi]
          have := show_len x (hp2 x hxm)
          have h9 : (partL xs i).length ≤ 1 + (showM x).length := by
            unfold partL; rw [hxi, List.length_append]; split <;> simp
          omega
      · rintro w3 g L ⟨hc3, ha3, h3, hs3⟩
        have hz3 := hc3.size
        have hcs := hcg xs.length (Nat.le_refl _)
        simp only [List.getD_cons_zero]
        rw [bin_lss, decide_eq_false (by omega), condW_false]
        refine wbyte_p (n := 93) h3 (by omega) (by simp only [List.length_append, List.length_cons, List.length_nil]; omega) (by omega) fun w4 h4 hc4 => ?_
        refine hK w4 ?_ (BCh.trans hc3 hc4)
        simpa [List.append_assoc] using h4
    have e6 : k = 6 := by
      have := hh.1; have := hh.2.1; omega
    have hkl := hh.2.2.2.2.2.2.2.2.1 e6
    have hks := keysOk_len hh.2.2.2.2.2.2.2.2.2
    rw [List.all_eq_true] at hu2
    rw [bin_eql, decide_eq_true e6, condW_true]
    rw [if_pos e6, ← obj_join hkl] at hK
    refine wbyte_p (n := 123) hb1 (by omega) (by omega) (by omega) fun w2 h2 hc2 => ?_
    have ha2 := BCh.keepv hc2 ha hab
    refine ld w2 3 _ _ ha2 rfl ?_
    have hit : lenlW sv = fun K => K (i64 (xs.length : Int)) := by
      funext K
      obtain ⟨T, L, i1, _⟩ := hI.items
      exact propext (lenl_at i1 K)
    rw [hit]
    dsimp only
    refine loop_up xs.length (fun i w' => Chg (BCh w B b) w w' ∧ w'.heap[a]? = some (.cells [i64 k, .bool bb, str t, sv, kv].toArray VT (0, 0)) ∧ Bld w' B b (l ++ [123] ++ sumL (partO xs ks) i) ∧ (sumL (partO xs ks) i).length ≤ 200000 * cntS xs i) ⟨mk hc2, ha2, by simpa [sumL] using h2, by simp [sumL]⟩ ?_ ?_
    · rintro i w3 g L hi ⟨hc3, ha3, h3, hs3⟩ hL
      obtain ⟨x, hxi⟩ : ∃ x, xs[i]? = some x := ⟨_, List.getElem?_eq_getElem hi⟩
      obtain ⟨key, hki⟩ : ∃ key, ks[i]? = some key := ⟨_, List.getElem?_eq_getElem (by omega)⟩
      have hkm := List.mem_of_getElem? hki
      have hklen := hks key hkm
      have hql := quote_len key
      have hxm := List.mem_of_getElem? hxi
      have hcs := hcg (i + 1) hi
      rw [cntS, cntAt_get hxi] at hcs
      have hpart : partO xs ks i = (if i = 0 then [] else [44]) ++ quoteM key ++ [58] ++ showM x := by
        unfold partO
        rw [hxi, List.getD_eq_getElem?_getD, hki]; rfl
      have hz3 := hc3.size
      have hx03 : Ext w0 w3 := BCh.new h0 hB0 hbb hc3
      simp only [List.getD_cons_zero]
      rw [bin_lss, decide_eq_true (by omega), condW_true]
      refine ValI.item_old hI hx03 hxi fun cs2 hr2 => ?_
      refine alloc_new fun a2 w4 ha2 hz4 hb4 hx4 => ?_
      have hlen := hr2.len
      refine st_agg_at (l := cs2) hb4 (by omega) (by simp) hr2.all_one fun w5 hz5 hb5 hc5 => ?_
      have hx5 : Ext w3 w5 := hx4.new hc5 (by omega)
      have h5 := h3.ext hx5
      have hc5' := BCh.ext hc3 hx5
      have ha5 := hx5.at ha3 id
      have ha2b : a2 ≠ b := by have := h3.lt; omega
      have hll : (l ++ [123] ++ sumL (partO xs ks) i).length = l.length + 1 + (sumL (partO xs ks) i).length := by simp only [List.length_append, List.length_cons, List.length_nil]
      have hif : (if i = 0 then ([] : Str) else [44]).length ≤ 1 := by split <;> simp
      have hx1 := show_len x (hp2 x hxm)
      refine JoinW.cut (fun s' w6 => s' = [] ∧ Chg (BCh w5 B b) w5 w6 ∧ Bld w6 B b (l ++ [123] ++ sumL (partO xs ks) i ++ (if i = 0 then [] else [44]))) ?_ ?_
      · rw [bin_gtr, condW_dec]
        refine ⟨fun hpos => ?_, fun hz => ?_⟩
        · refine wbyte_p (n := 44) h5 (by omega) (by omega) (by omega) fun w6 h6 hc6 => ⟨rfl, hc6, ?_⟩
          rw [if_neg (by omega)]; exact h6
        · refine ⟨rfl, Chg.refl _ _, ?_⟩
          rw [if_pos (by omega), List.append_nil]; exact h5
      rintro s' g6 w6 ⟨rfl, hc6, h6⟩
      have hb6 := BCh.keepv hc6 hb5 ha2b
      have ha6 := BCh.keepv hc6 ha5 hab
      have hz6 := hc6.size
      have hx06 : Ext w0 w6 := BCh.new hx03 (by omega) hbb (BCh.from hx5 hc6)
      refine ld w6 4 _ _ ha6 rfl ?_
      obtain ⟨T, hkv⟩ := hI.keys
      refine text_ld (hkv.ext hx06) hki ?_
      refine quote_p hx06 hB0 h6 (by omega) (utfM_of (hu2 key hkm)) ?_ (fun _ _ _ => hF) fun w7 h7 hc7 => ?_
      · simp only [List.length_append] at hll ⊢
        omega
      have hb7 := BCh.keepv hc7 hb6 ha2b
      have ha7 := BCh.keepv hc7 ha6 hab
      have hz7 := hc7.size
      refine wbyte_p (n := 58) h7 (by omega) ?_ (by omega) fun w8 h8 hc8 => ?_
      · simp only [List.length_append] at hll ⊢
        omega
      have hb8 := BCh.keepv hc8 hb7 ha2b
      have ha8 := BCh.keepv hc8 ha7 hab
      have hz8 := hc8.size
      refine ld_all hb8 (by omega) ?_
      have hc58 := BCh.trans (BCh.trans hc6 hc7) hc8
      refine ih x hxm (w0 := w0) hr2 (BCh.new hx03 (by omega) hbb (BCh.from hx5 hc58)) hB0 (by omega) h8 (hp2 x hxm) (hu3' x hxm) (hkn2 x hxm) (hf3 x hxm) ?_ hF fun w9 h9 hc9 => ?_
      · simp only [List.length_append, List.length_cons, List.length_nil] at hll ⊢
        omega
      have hi2 : i < 100000 := by omega
      rw [bin_add, up1 (i := i) (by omega)]
      have hcc := BCh.trans (BCh.trans hc5' hc58) hc9
      refine hL w9 ⟨hcc, BCh.keepv hc9 ha8 hab, ?_, ?_⟩
      · rw [sum_succ, hpart]
        simpa [List.append_assoc] using h9
      · rw [sum_succ, List.length_append, cntS, cntAt_get hxi, hpart]
        simp only [List.length_append, List.length_cons, List.length_nil]
        omega
    · rintro w3 g L ⟨hc3, ha3, h3, hs3⟩
      have hz3 := hc3.size
      have hcs := hcg xs.length (Nat.le_refl _)
      simp only [List.getD_cons_zero]
      rw [bin_lss, decide_eq_false (by omega), condW_false]
      refine wbyte_p (n := 125) h3 (by omega) (by simp only [List.length_append, List.length_cons, List.length_nil]; omega) (by omega) fun w4 h4 hc4 => ?_
      refine hK w4 ?_ (BCh.trans hc3 hc4)
      simpa [List.append_assoc] using h4
end
end Go.Proofs.YtcnjpcadejcenaaGreatDoor

namespace Go.Proofs.YtcnjpcadejcenaaGreatDoor
open Go Go.Eng Go.Num
set_option maxRecDepth 100000
section
variable [HX]
theorem get_p {v : JV} {cs : List Value} {k : Str} {w : World} {K : Value → World → Prop} (h : VRep w v cs) (k6 : v.k = 6) (hl : v.ks.length = v.xs.length) (hfew : fewM v = true) (hr : Rise v.ks)
    (hK : ∀ cs' w', Ext w w' → VRep w' ((getM v k).getD JV.null) cs' → K (.tuple #[.agg cs'.toArray, .bool (getM v k).isSome]) w') : callF Tryz.prog 162 [.agg cs.toArray, str k] w K := by
  have hfew2 := hfew
  rw [fewM_eq, fewL_all] at hfew2
  simp only [Bool.and_eq_true, decide_eq_true_eq, List.all_eq_true] at hfew2
  obtain ⟨⟨f1, f2⟩, f3⟩ := hfew2
  refine W162_ok ?_
  unfold W162
  refine box_val h fun a w1 sv kv hB hx _ => ?_
  refine alloc_new fun b w2 hb hz2 hbb hx2 => ?_
  have hB0 := hB
  have hB := hB.ext hx2
  have hgb : w1.heap.size ≤ b := by omega
  simp only [wsv, wsg, wsh, wsl, cond_true, cond_false, exists_eq_left', Option.some.injEq, Option.isSome_some, List.getElem?_toArray, List.getElem?_cons_zero, List.getElem?_cons_succ, List.length_cons, List.length_nil, List.set_cons_zero, List.set_cons_succ, List.getD_cons_zero, List.getD_cons_succ, Nat.zero_add, Nat.add_zero, Nat.reduceAdd, Nat.reduceLT, Nat.lt_add_one, Nat.zero_lt_succ, decide_true, decide_false, ne_eq, reduceCtorEq, wsh, hB.hb]
  obtain ⟨T2, hk2⟩ := hB.keys
  refine search_p hk2 f2 hr fun i hi0 _ _ hile => ?_
  have e6 : decide (v.k = 6) = true := decide_eq_true k6
  cases hx0 : idxK v.ks k with
  | none =>
    have hg : getM v k = none := by unfold getM; rw [if_pos k6, hx0]
    rw [hg] at hK
    simp only [Option.isSome_none]
    simp only [wsv, wsg, wsh, wsl, cond_true, cond_false, exists_eq_left', Option.some.injEq, Option.isSome_some, List.getElem?_toArray, List.getElem?_cons_zero, List.getElem?_cons_succ, List.length_cons, List.length_nil, List.set_cons_zero, List.set_cons_succ, List.getD_cons_zero, List.getD_cons_succ, Nat.zero_add, Nat.add_zero, Nat.reduceAdd, Nat.reduceLT, Nat.lt_add_one, Nat.zero_lt_succ, decide_true, decide_false, ne_eq, reduceCtorEq, wsh, hB.hb, e6]
    intros
    (try simp only [wsv, wsg, wsh, wsl, cond_true, cond_false, exists_eq_left', Option.some.injEq, Option.isSome_some, List.getElem?_toArray, List.getElem?_cons_zero, List.getElem?_cons_succ, List.length_cons, List.length_nil, List.set_cons_zero, List.set_cons_succ, List.getD_cons_zero, List.getD_cons_succ, Nat.zero_add, Nat.add_zero, Nat.reduceAdd, Nat.reduceLT, Nat.lt_add_one, Nat.zero_lt_succ, decide_true, decide_false, ne_eq, reduceCtorEq, wsh, hB.hb, e6])
    refine ret_val (K := fun r w => K (.tuple #[r, .bool false]) w) hbb rfl hgb hx2 (vrep_null w1) fun w4 hx4 _ h4 => ?_
    exact hK _ w4 (hx.trans hx4) h4
  | some j =>
    obtain rfl : j = i := by
      rcases hi0 with h | h
      · rw [h] at hx0; cases hx0
      · rw [h] at hx0; exact (Option.some.inj hx0).symm
    obtain ⟨x, hxi⟩ : ∃ x, v.xs[j]? = some x := ⟨_, List.getElem?_eq_getElem (by
      have := (List.getElem?_eq_some_iff.1 (idxK_spec hx0)).1
      omega)⟩
    have hg : getM v k = some x := by unfold getM; rw [if_pos k6, hx0]; exact hxi
    rw [hg] at hK
    simp only [Option.isSome_some]
    simp only [wsv, wsg, wsh, wsl, cond_true, cond_false, exists_eq_left', Option.some.injEq, Option.isSome_some, List.getElem?_toArray, List.getElem?_cons_zero, List.getElem?_cons_succ, List.length_cons, List.length_nil, List.set_cons_zero, List.set_cons_succ, List.getD_cons_zero, List.getD_cons_succ, Nat.zero_add, Nat.add_zero, Nat.reduceAdd, Nat.reduceLT, Nat.lt_add_one, Nat.zero_lt_succ, decide_true, decide_false, ne_eq, reduceCtorEq, wsh, hB.hb, e6]
    intros
    (try simp only [wsv, wsg, wsh, wsl, cond_true, cond_false, exists_eq_left', Option.some.injEq, Option.isSome_some, List.getElem?_toArray, List.getElem?_cons_zero, List.getElem?_cons_succ, List.length_cons, List.length_nil, List.set_cons_zero, List.set_cons_succ, List.getD_cons_zero, List.getD_cons_succ, Nat.zero_add, Nat.add_zero, Nat.reduceAdd, Nat.reduceLT, Nat.lt_add_one, Nat.zero_lt_succ, decide_true, decide_false, ne_eq, reduceCtorEq, wsh, hB.hb, e6])
    refine hB0.item_old hx2 hxi fun cs2 h2 => ?_
    refine clone_p x (f3 x (List.mem_of_getElem? hxi)) (h2.ext hx2) fun cs3 w3 hx3 h3 => ?_
    have hb3 := hx3.at hbb id
    refine ret_agg (K := fun r w => K (.tuple #[r, .bool true]) w) hb3 h3.rep.len rfl h3.rep.all_one fun w4 hc4 => ?_
    have hx4 : Ext w1 w4 := (hx2.trans hx3).new hc4 hgb
    refine hK _ w4 (hx.trans hx4) (VRepP.rep (VRepP.chg hc4 (fun q hq _ e => ?_) h3))
    have : w2.heap.size ≤ q := hq
    omega
end
end Go.Proofs.YtcnjpcadejcenaaGreatDoor

namespace Go.Proofs.YtcnjpcadejcenaaGreatDoor
open Go Go.Eng Go.Num
theorem rise_ext : ∀ {a b : List Str}, Rise a → Rise b → (∀ x, x ∈ a ↔ x ∈ b) → a = b
  | [], [], _, _, _ => rfl
  | [], y :: b, _, _, h => by have := (h y).2 (by simp); simp at this
  | x :: a, [], _, _, h => by have := (h x).1 (by simp); simp at this
  | x :: a, y :: b, ha, hb, h => by
    have ha' := List.pairwise_cons.1 ha
    have hb' := List.pairwise_cons.1 hb
    have hxy : x = y := by
      rcases List.mem_cons.1 ((h x).1 (by simp)) with e | e
      · exact e
      · rcases List.mem_cons.1 ((h y).2 (by simp)) with e2 | e2
        · exact e2.symm
        · have h1 := ha'.1 y e2
          have h2 := hb'.1 x e
          rw [less_anti h1] at h2; cases h2
    subst hxy
    have : a = b := rise_ext ha'.2 hb'.2 fun z => by
      constructor
      · intro hz
        rcases List.mem_cons.1 ((h z).1 (List.mem_cons_of_mem _ hz)) with e | e
        · subst e; have := ha'.1 z hz; rw [less_irr] at this; cases this
        · exact e
      · intro hz
        rcases List.mem_cons.1 ((h z).2 (List.mem_cons_of_mem _ hz)) with e | e
        · subst e; have := hb'.1 z hz; rw [less_irr] at this; cases this
        · exact e
    rw [this]
theorem mrg_mem : ∀ (a b : List Str) (x : Str), x ∈ mrg a b ↔ x ∈ a ∨ x ∈ b
  | [], b, x => by simp [mrg]
  | a :: az, [], x => by simp [mrg]
  | a :: az, b :: bs, x => by
    rw [mrg]
    split
    · rw [List.mem_cons, mrg_mem az (b :: bs) x, List.mem_cons, List.mem_cons]
      constructor
      · rintro (h | h | h | h)
        · exact .inl (.inl h)
        · exact .inl (.inr h)
        · exact .inr (.inl h)
        · exact .inr (.inr h)
      · rintro ((h | h) | h | h)
        · exact .inl h
        · exact .inr (.inl h)
        · exact .inr (.inr (.inl h))
        · exact .inr (.inr (.inr h))
    · split
      · rename_i h; subst h
        rw [List.mem_cons, mrg_mem az bs x, List.mem_cons, List.mem_cons]
        constructor
        · rintro (h | h | h)
          · exact .inl (.inl h)
          · exact .inl (.inr h)
          · exact .inr (.inr h)
        · rintro ((h | h) | h | h)
          · exact .inl h
          · exact .inr (.inl h)
          · exact .inl h
          · exact .inr (.inr h)
      · rw [List.mem_cons, mrg_mem (a :: az) bs x, List.mem_cons, List.mem_cons]
        constructor
        · rintro (h | (h | h) | h)
          · exact .inr (.inl h)
          · exact .inl (.inl h)
          · exact .inl (.inr h)
          · exact .inr (.inr h)
        · rintro ((h | h) | h | h)
          · exact .inr (.inl (.inl h))
          · exact .inr (.inl (.inr h))
          · exact .inl h
          · exact .inr (.inr h)
theorem mrg_rise : ∀ {a b : List Str}, Rise a → Rise b → Rise (mrg a b)
  | [], b, _, hb => by simpa [mrg] using hb
  | a :: az, [], ha, _ => by simpa [mrg] using ha
  | a :: az, b :: bs, ha, hb => by
    have ha' := List.pairwise_cons.1 ha
    have hb' := List.pairwise_cons.1 hb
    rw [mrg]
    split
    · rename_i h
      refine List.pairwise_cons.2 ⟨fun x hx => ?_, mrg_rise ha'.2 hb⟩
      rcases (mrg_mem _ _ _).1 hx with e | e
      · exact ha'.1 x e
      · rcases List.mem_cons.1 e with e | e
        · subst e; exact h
        · exact less_trans h (hb'.1 x e)
    · rename_i h
      split
      · rename_i h2; subst h2
        refine List.pairwise_cons.2 ⟨fun x hx => ?_, mrg_rise ha'.2 hb'.2⟩
        rcases (mrg_mem _ _ _).1 hx with e | e
        · exact ha'.1 x e
        · exact hb'.1 x e
      · rename_i h2
        have h3 : Op.bytesLess b a = true := by
          rcases less_tri a b with e | e | e
          · exact absurd e h
          · exact absurd e h2
          · exact e
        refine List.pairwise_cons.2 ⟨fun x hx => ?_, mrg_rise ha hb'.2⟩
        rcases (mrg_mem _ _ _).1 hx with e | e
        · rcases List.mem_cons.1 e with e | e
          · subst e; exact h3
          · exact less_trans h3 (ha'.1 x e)
        · exact hb'.1 x e
theorem le_less (x y : Str) : decide (x ≤ y) = !Op.bytesLess y x := by
  rw [bytesLess_eq, ← decide_not]
  rfl
/-- what is sorted and has its doubles dropped -/
theorem compact_rise (d : Array Str) (hs : ∀ i j : Nat, i < j → j < d.size → Op.bytesLess d[j]! d[i]! = false) : ∀ m, m ≤ d.size → Rise (Lib.compactUpTo d m) ∧ ∀ x, x ∈ Lib.compactUpTo d m ↔ ∃ j, j < m ∧ d[j]! = x
  | 0, _ => ⟨by simp [Lib.compactUpTo, Rise], by simp [Lib.compactUpTo]⟩
  | m + 1, hm => by
    obtain ⟨h1, h2⟩ := compact_rise d hs m (by omega)
    rw [Lib.compactUpTo_succ]
    by_cases hk : Lib.keeps d m = true
    · rw [if_pos hk]
      constructor
      · refine List.pairwise_append.2 ⟨h1, by simp, fun a ha b hb => ?_⟩
        obtain rfl : b = d[m]! := by simpa using hb
        obtain ⟨j, hj, rfl⟩ := (h2 a).1 ha
        simp only [Lib.keeps, decide_eq_true_eq] at hk
        have hne : d[m]! ≠ d[m - 1]! := hk.resolve_left (by omega)
        have h3 : Op.bytesLess d[m - 1]! d[m]! = true := by
          rcases less_tri d[m - 1]! d[m]! with e | e | e
          · exact e
          · exact absurd e.symm hne
          · rw [hs (m - 1) m (by omega) (by omega)] at e; cases e
        rcases Nat.lt_or_ge j (m - 1) with hj2 | hj2
        · rcases less_tri d[j]! d[m - 1]! with e | e | e
          · exact less_trans e h3
          · rw [e]; exact h3
          · rw [hs j (m - 1) hj2 (by omega)] at e; cases e
        · obtain rfl : j = m - 1 := by omega
          exact h3
      · intro x
        rw [List.mem_append, h2 x, List.mem_singleton]
        constructor
        · rintro (⟨j, hj, rfl⟩ | rfl)
          · exact ⟨j, by omega, rfl⟩
          · exact ⟨m, by omega, rfl⟩
        · rintro ⟨j, hj, rfl⟩
          rcases Nat.lt_or_ge j m with h | h
          · exact .inl ⟨j, h, rfl⟩
          · obtain rfl : j = m := by omega
            exact .inr rfl
    · rw [if_neg hk, List.append_nil]
      refine ⟨h1, fun x => ?_⟩
      rw [h2 x]
      simp only [Lib.keeps, decide_eq_true_eq, not_or, ne_eq, Decidable.not_not] at hk
      constructor
      · rintro ⟨j, hj, rfl⟩; exact ⟨j, by omega, rfl⟩
      · rintro ⟨j, hj, rfl⟩
        rcases Nat.lt_or_ge j m with h | h
        · exact ⟨j, h, rfl⟩
        · obtain rfl : j = m := by omega
          exact ⟨j - 1, by omega, hk.2.symm⟩
theorem compact_merge {a b : List Str} (ha : Rise a) (hb : Rise b) : Lib.compact ((a ++ b).mergeSort fun x y => decide (x ≤ y)) = mrg a b := by
  have hp : ((a ++ b).mergeSort fun x y => decide (x ≤ y)).Pairwise fun x y => decide (x ≤ y) = true := by
    refine List.pairwise_mergeSort ?_ ?_ _
    · intro x y z h1 h2
      rw [le_less, Bool.not_eq_true'] at h1 h2 ⊢
      cases h : Op.bytesLess z x with
      | false => rfl
      | true =>
        rcases less_tri y z with e | e | e
        · have := less_trans e h; rw [h1] at this; cases this
        · subst e; rw [h1] at h; cases h
        · rw [h2] at e; cases e
    · intro x y
      rw [le_less, le_less]
      cases h : Op.bytesLess y x with
      | false => rfl
      | true => rw [less_anti h]; rfl
  generalize hl : ((a ++ b).mergeSort fun x y => decide (x ≤ y)) = l at *
  have hm : ∀ x, x ∈ l ↔ x ∈ a ∨ x ∈ b := fun x => by rw [← hl, List.mem_mergeSort, List.mem_append]
  obtain ⟨h1, h2⟩ := compact_rise l.toArray (fun i j hij hj => by
    have hj' : j < l.length := by simpa using hj
    have := (List.pairwise_iff_getElem.1 hp) i j (by omega) hj' hij
    rw [le_less, Bool.not_eq_true'] at this
    rw [getElem!_pos _ j (by simpa using hj'), getElem!_pos _ i (by simp; omega)]
    simpa using this) l.length (by simp)
  refine rise_ext h1 (mrg_rise ha hb) fun x => ?_
  rw [mrg_mem, ← hm x]
  refine (h2 x).trans ?_
  rw [List.mem_iff_getElem]
  constructor
  · rintro ⟨j, hj, rfl⟩
    exact ⟨j, hj, by rw [getElem!_pos _ j (by simpa using hj)]; simp⟩
  · rintro ⟨j, hj, rfl⟩
    exact ⟨j, hj, by rw [getElem!_pos _ j (by simpa using hj)]; simp⟩
end Go.Proofs.YtcnjpcadejcenaaGreatDoor

namespace Go.Proofs.YtcnjpcadejcenaaGreatDoor
open Go Go.Eng
set_option maxRecDepth 100000
variable [HX]

/- slices.Sort___string_string_ -/
def plan167 : Plan := { js := [], ds := [] }
def W167 (v0 : Value) (w : World) (K : Value → World → Prop) : Prop :=
  lenlW v0 fun t4 =>
  cvtW .u64 t4 fun t8 =>
  callF Tryz.prog 175 [t8] w fun t9 w1 =>
  callF Tryz.prog 194 [v0, (.int .i64 0), t4, t9] w1 fun t10 w2 =>
  K (.tuple #[]) w2
theorem W167_eq (v0 : Value) (w : World) (K : Value → World → Prop) : funW Tryz.prog Tryz.f167 plan167 [v0] w K = W167 v0 w K := by kernel_rfl
theorem W167_chk : chkFun Tryz.prog Tryz.f167 plan167 1 = true := by kernel_rfl
theorem W167_ok {v0 : Value} {w : World} {K : Value → World → Prop} (h : W167 v0 w K) : callF Tryz.prog 167 [v0] w K :=
  tie Tryz.prog 167 Tryz.f167 plan167 [v0] w K 1 (W167 v0 w K) rfl mixed Tryz.func167 W167_chk (W167_eq v0 w K) Tryz.call167 h

/- slices.pdqsortOrdered_string_ -/
def plan194 : Plan := { js := [(45, ⟨[], [], 12⟩), (47003, ⟨[67], [], 66⟩), (47006, ⟨[63], [], 63⟩), (35, ⟨[11, 12], [], 11⟩), (25, ⟨[3], [3], 11⟩), (5, ⟨[1, 2, 3, 8, 9], [], 1⟩)], ds := [(57, ⟨[0, 1, 2, 3, 4, 5, 6, 7, 8, 9, 10, 11, 13, 14], [[], [0], [0, 1], [0, 1, 2], [0, 1, 2], [0, 1, 2, 4], [0, 1, 2, 3, 4, 5], [0, 1, 2, 3, 4, 5, 6], [0, 1, 2], [0, 1, 2], [0, 1, 2, 8, 9], [0, 1, 2, 8, 9, 10], [0, 1, 2, 3, 4, 5, 6, 7, 8, 9, 10, 11], [0, 1, 2, 3, 4, 5, 6, 7, 8, 9, 10, 11, 12], [0, 1, 2, 3, 4, 5, 6, 7, 8, 9, 10, 11, 12, 13]]⟩)] }
def W194 (v0 v1 v2 v3 : Value) (w : World) (K : Value → World → Prop) : Prop :=
  LoopW [v1, v2, v3, (.bool true), (.bool true)] w fun s1 _ w2 L1 =>
    binW .sub (s1.getD 1 undef) (s1.getD 0 undef) fun t21 =>
    binW .leq t21 (.int .i64 12) fun t23 =>
    condW t23 (
      callF Tryz.prog 232 [v0, (s1.getD 0 undef), (s1.getD 1 undef)] w2 fun t27 w3 =>
      K (.tuple #[]) w3) (
      binW .eql (s1.getD 2 undef) (.int .i64 0) fun t29 =>
      condW t29 (
        callF Tryz.prog 233 [v0, (s1.getD 0 undef), (s1.getD 1 undef)] w2 fun t33 w4 =>
        K (.tuple #[]) w4) (
        JoinW (fun J5 =>
          unW .not (s1.getD 3 undef) fun t35 =>
          condW t35 (
            callF Tryz.prog 234 [v0, (s1.getD 0 undef), (s1.getD 1 undef)] w2 fun t39 w6 =>
            binW .sub (s1.getD 2 undef) (.int .i64 1) fun t41 =>
            J5 [t41] w6) (
            J5 [(s1.getD 2 undef)] w2))
        fun s5 _ w7 =>
        callF Tryz.prog 235 [v0, (s1.getD 0 undef), (s1.getD 1 undef)] w7 fun t46 w8 =>
        extW 0 t46 fun t47 =>
        extW 1 t46 fun t48 =>
        JoinW (fun J9 =>
          binW .eql t48 (.int .i64 2) fun t50 =>
          condW t50 (
            callF Tryz.prog 236 [v0, (s1.getD 0 undef), (s1.getD 1 undef)] w8 fun t54 w10 =>
            binW .sub (s1.getD 1 undef) (.int .i64 1) fun t56 =>
            binW .sub t47 (s1.getD 0 undef) fun t59 =>
            binW .sub t56 t59 fun t60 =>
            J9 [t60, (.int .i64 1)] w10) (
            J9 [t47, t48] w8))
        fun s9 _ w11 =>
        JoinW (fun J12 =>
          GdW (isB (s1.getD 3 undef) true) [undef] w11 (fun J13 =>
            J13 [(s1.getD 4 undef)] w11)
          fun s13 _ w14 =>
          pickW (s1.getD 3 undef) (s13.getD 0 undef) (.bool false) fun t64 =>
          GdW (isB t64 true) [undef] w14 (fun J15 =>
            binW .eql (s9.getD 1 undef) (.int .i64 1) fun t67 =>
            J15 [t67] w14)
          fun s15 _ w16 =>
          pickW t64 (s15.getD 0 undef) (.bool false) fun t68 =>
          condW t68 (
            callF Tryz.prog 237 [v0, (s1.getD 0 undef), (s1.getD 1 undef)] w16 fun t72 w17 =>
            condW t72 (
              K (.tuple #[]) w17) (
              J12 [] w17)) (
            J12 [] w16))
        fun s12 _ w18 =>
        binW .gtr (s1.getD 0 undef) (.int .i64 0) fun t74 =>
        GqW (isB t74 true) (fun k19 => k19 v0) fun t76 =>
        GqW (isB t74 true) (fun k20 => k20 (s1.getD 0 undef)) fun t77 =>
        GqW (isB t74 true) (fun k21 => binW .sub t77 (.int .i64 1) k21) fun t78 =>
        GqW (isB t74 true) (fun k22 => ixaW none 1 t76 t78 k22) fun t79 =>
        GqW (isB t74 true) (fun k23 => ldW false 1 t79 w18.drew k23) fun t80 =>
        GqW (isB t74 true) (fun k24 => k24 v0) fun t81 =>
        GqW (isB t74 true) (fun k25 => k25 (s9.getD 0 undef)) fun t82 =>
        GqW (isB t74 true) (fun k26 => ixaW none 1 t81 t82 k26) fun t83 =>
        GqW (isB t74 true) (fun k27 => ldW false 1 t83 w18.drew k27) fun t84 =>
        GeW (isB t74 true) w18.drew (fun k28 => callF Tryz.prog 226 [t80, t84] w18.drew k28) fun t85 w29 =>
        GqW (isB t74 true) (fun k30 => unW .not t85 k30) fun t86 =>
        pickW t74 t86 (.bool false) fun t87 =>
        condW t87 (
          callF Tryz.prog 238 [v0, (s1.getD 0 undef), (s1.getD 1 undef), (s9.getD 0 undef)] w29 fun t92 w31 =>
          L1 [t92, (s1.getD 1 undef), (s5.getD 0 undef), (s1.getD 3 undef), (s1.getD 4 undef)] w31) (
          callF Tryz.prog 239 [v0, (s1.getD 0 undef), (s1.getD 1 undef), (s9.getD 0 undef)] w29 fun t99 w32 =>
          extW 0 t99 fun t100 =>
          extW 1 t99 fun t101 =>
          binW .sub t100 (s1.getD 0 undef) fun t105 =>
          binW .sub (s1.getD 1 undef) t100 fun t108 =>
          binW .quo t21 (.int .i64 8) fun t110 =>
          binW .lss t105 t108 fun t113 =>
          condW t113 (
            binW .geq t105 t110 fun t116 =>
            callF Tryz.prog 194 [v0, (s1.getD 0 undef), t100, (s5.getD 0 undef)] w32 fun t121 w33 =>
            binW .add t100 (.int .i64 1) fun t123 =>
            L1 [t123, (s1.getD 1 undef), (s5.getD 0 undef), t116, t101] w33) (
            binW .geq t108 t110 fun t126 =>
            binW .add t100 (.int .i64 1) fun t129 =>
            callF Tryz.prog 194 [v0, t129, (s1.getD 1 undef), (s5.getD 0 undef)] w32 fun t132 w34 =>
            L1 [(s1.getD 0 undef), t100, (s5.getD 0 undef), t126, t101] w34))))
theorem W194_eq (v0 v1 v2 v3 : Value) (w : World) (K : Value → World → Prop) : funW Tryz.prog Tryz.f194 plan194 [v0, v1, v2, v3] w K = W194 v0 v1 v2 v3 w K := by kernel_rfl
theorem W194_chk : chkFun Tryz.prog Tryz.f194 plan194 4 = true := by kernel_rfl
theorem W194_ok {v0 v1 v2 v3 : Value} {w : World} {K : Value → World → Prop} (h : W194 v0 v1 v2 v3 w K) : callF Tryz.prog 194 [v0, v1, v2, v3] w K :=
  tie Tryz.prog 194 Tryz.f194 plan194 [v0, v1, v2, v3] w K 4 (W194 v0 v1 v2 v3 w K) rfl mixed Tryz.func194 W194_chk (W194_eq v0 v1 v2 v3 w K) Tryz.call194 h

/- math_bits.Len -/
def plan175 : Plan := { js := [], ds := [] }
def W175 (v0 : Value) (w : World) (K : Value → World → Prop) : Prop :=
  condW (.bool false) (
    cvtW .u32 v0 fun t4 =>
    callF Tryz.prog 211 [t4] w fun t5 w1 =>
    K t5 w1) (
    callF Tryz.prog 212 [v0] w fun t7 w2 =>
    K t7 w2)
theorem W175_eq (v0 : Value) (w : World) (K : Value → World → Prop) : funW Tryz.prog Tryz.f175 plan175 [v0] w K = W175 v0 w K := by kernel_rfl
theorem W175_chk : chkFun Tryz.prog Tryz.f175 plan175 1 = true := by kernel_rfl
theorem W175_ok {v0 : Value} {w : World} {K : Value → World → Prop} (h : W175 v0 w K) : callF Tryz.prog 175 [v0] w K :=
  tie Tryz.prog 175 Tryz.f175 plan175 [v0] w K 1 (W175 v0 w K) rfl mixed Tryz.func175 W175_chk (W175_eq v0 w K) Tryz.call175 h

/- math_bits.Len64 -/
def plan212 : Plan := { js := [(18, ⟨[0, 2], [], 0⟩), (10, ⟨[0, 2], [], 0⟩), (2, ⟨[0, 2], [], 0⟩)], ds := [] }
def W212 (v0 : Value) (w : World) (K : Value → World → Prop) : Prop :=
  JoinW (fun J1 =>
    binW .geq v0 (.int .u64 4294967296) fun t4 =>
    condW t4 (
      binW .shr v0 (.int .u64 32) fun t6 =>
      J1 [t6, (.int .i64 32)] w) (
      J1 [v0, (.int .i64 0)] w))
  fun s1 _ w2 =>
  JoinW (fun J3 =>
    binW .geq (s1.getD 0 undef) (.int .u64 65536) fun t8 =>
    condW t8 (
      binW .shr (s1.getD 0 undef) (.int .u64 16) fun t10 =>
      binW .add (s1.getD 1 undef) (.int .i64 16) fun t12 =>
      J3 [t10, t12] w2) (
      J3 [(s1.getD 0 undef), (s1.getD 1 undef)] w2))
  fun s3 _ w4 =>
  JoinW (fun J5 =>
    binW .geq (s3.getD 0 undef) (.int .u64 256) fun t14 =>
    condW t14 (
      binW .shr (s3.getD 0 undef) (.int .u64 8) fun t16 =>
      binW .add (s3.getD 1 undef) (.int .i64 8) fun t18 =>
      J5 [t16, t18] w4) (
      J5 [(s3.getD 0 undef), (s3.getD 1 undef)] w4))
  fun s5 _ w6 =>
  cvtW .u8 (s5.getD 0 undef) fun t21 =>
  ixsW (.string (ofL [0, 1, 2, 2, 3, 3, 3, 3, 4, 4, 4, 4, 4, 4, 4, 4, 5, 5, 5, 5, 5, 5, 5, 5, 5, 5, 5, 5, 5, 5, 5, 5, 6, 6, 6, 6, 6, 6, 6, 6, 6, 6, 6, 6, 6, 6, 6, 6, 6, 6, 6, 6, 6, 6, 6, 6, 6, 6, 6, 6, 6, 6, 6, 6, 7, 7, 7, 7, 7, 7, 7, 7, 7, 7, 7, 7, 7, 7, 7, 7, 7, 7, 7, 7, 7, 7, 7, 7, 7, 7, 7, 7, 7, 7, 7, 7, 7, 7, 7, 7, 7, 7, 7, 7, 7, 7, 7, 7, 7, 7, 7, 7, 7, 7, 7, 7, 7, 7, 7, 7, 7, 7, 7, 7, 7, 7, 7, 7, 8, 8, 8, 8, 8, 8, 8, 8, 8, 8, 8, 8, 8, 8, 8, 8, 8, 8, 8, 8, 8, 8, 8, 8, 8, 8, 8, 8, 8, 8, 8, 8, 8, 8, 8, 8, 8, 8, 8, 8, 8, 8, 8, 8, 8, 8, 8, 8, 8, 8, 8, 8, 8, 8, 8, 8, 8, 8, 8, 8, 8, 8, 8, 8, 8, 8, 8, 8, 8, 8, 8, 8, 8, 8, 8, 8, 8, 8, 8, 8, 8, 8, 8, 8, 8, 8, 8, 8, 8, 8, 8, 8, 8, 8, 8, 8, 8, 8, 8, 8, 8, 8, 8, 8, 8, 8, 8, 8, 8, 8, 8, 8, 8, 8, 8, 8, 8, 8, 8, 8, 8, 8, 8, 8, 8, 8, 8, 8])) t21 fun t22 =>
  cvtW .i64 t22 fun t23 =>
  binW .add (s5.getD 1 undef) t23 fun t24 =>
  K t24 w6
theorem W212_eq (v0 : Value) (w : World) (K : Value → World → Prop) : funW Tryz.prog Tryz.f212 plan212 [v0] w K = W212 v0 w K := by kernel_rfl
theorem W212_chk : chkFun Tryz.prog Tryz.f212 plan212 1 = true := by kernel_rfl
theorem W212_ok {v0 : Value} {w : World} {K : Value → World → Prop} (h : W212 v0 w K) : callF Tryz.prog 212 [v0] w K :=
  tie Tryz.prog 212 Tryz.f212 plan212 [v0] w K 1 (W212 v0 w K) rfl mixed Tryz.func212 W212_chk (W212_eq v0 w K) Tryz.call212 h

/- slices.insertionSortOrdered_string_ -/
def plan232 : Plan := { js := [(15, ⟨[7], [], 7⟩), (3, ⟨[6], [], 3⟩)], ds := [(24, ⟨[0, 1, 2, 3, 4, 5, 6, 7, 8, 9, 10, 11, 12, 13, 14, 16], [[], [], [], [], [3], [], [], [6], [5, 6, 7], [5, 6, 7, 8], [], [], [10, 11], [10, 11, 12], [0, 1, 5, 6, 7, 8, 9, 10, 11, 12, 13], [0, 1, 5, 6, 7, 8, 9, 10, 11, 12, 13, 14], [0, 1, 2, 3, 4, 5, 6, 7, 8, 9, 10, 11, 12, 13, 14, 15], [0, 1, 2, 3, 4, 5, 6, 7, 8, 9, 10, 11, 12, 13, 14, 15, 16]]⟩), (18, ⟨[0, 1, 2, 3, 4, 5, 6, 7, 8, 9, 10, 11, 12, 14], [[], [], [0, 1], [0, 1, 2], [0, 1, 2, 3], [0, 1, 2, 3], [0, 1, 2, 3, 4, 5], [0, 1, 2, 3, 4, 5, 6], [0, 1, 2, 3], [0, 1, 2, 3], [0, 1, 2, 3, 9], [0, 1, 2, 3, 8, 9, 10], [0, 1, 2, 3, 8, 9, 10, 11], [0, 1, 2, 3, 4, 5, 6, 7, 8, 9, 10, 11, 12], [0, 1, 2, 3, 4, 5, 6, 7, 8, 9, 10, 11, 12, 13]]⟩)] }
def W232 (v0 v1 v2 : Value) (w : World) (K : Value → World → Prop) : Prop :=
  binW .add v1 (.int .i64 1) fun t9 =>
  LoopW [t9] w fun s1 _ w2 L1 =>
    binW .lss (s1.getD 0 undef) v2 fun t12 =>
    condW t12 (
      LoopW [(s1.getD 0 undef)] w2 fun s3 _ w4 L3 =>
        binW .gtr (s3.getD 0 undef) v1 fun t18 =>
        GqW (isB t18 true) (fun k5 => k5 v0) fun t20 =>
        GqW (isB t18 true) (fun k6 => k6 (s3.getD 0 undef)) fun t21 =>
        GqW (isB t18 true) (fun k7 => ixaW none 1 t20 t21 k7) fun t22 =>
        GqW (isB t18 true) (fun k8 => ldW false 1 t22 w4.drew k8) fun t23 =>
        GqW (isB t18 true) (fun k9 => k9 v0) fun t24 =>
        GqW (isB t18 true) (fun k10 => k10 (s3.getD 0 undef)) fun t25 =>
        GqW (isB t18 true) (fun k11 => binW .sub t25 (.int .i64 1) k11) fun t26 =>
        GqW (isB t18 true) (fun k12 => ixaW none 1 t24 t26 k12) fun t27 =>
        GqW (isB t18 true) (fun k13 => ldW false 1 t27 w4.drew k13) fun t28 =>
        GeW (isB t18 true) w4.drew (fun k14 => callF Tryz.prog 226 [t23, t28] w4.drew k14) fun t29 w15 =>
        pickW t18 t29 (.bool false) fun t30 =>
        condW t30 (
          binW .sub (s3.getD 0 undef) (.int .i64 1) fun t37 =>
          binW .sub (s3.getD 0 undef) (.int .i64 1) fun t40 =>
          ixaW none 1 v0 t40 fun t41 =>
          ldW false 1 t41 w15.drew fun t42 =>
          ixaW none 1 v0 (s3.getD 0 undef) fun t45 =>
          ldW false 1 t45 w15.drew fun t46 =>
          ixaW none 1 v0 (s3.getD 0 undef) fun t47 =>
          stW 1 t47 t42 w15.drew fun w16 =>
          ixaW none 1 v0 t37 fun t48 =>
          stW 1 t48 t46 w16 fun w17 =>
          binW .sub (s3.getD 0 undef) (.int .i64 1) fun t32 =>
          L3 [t32] w17) (
          binW .add (s1.getD 0 undef) (.int .i64 1) fun t14 =>
          L1 [t14] w15)) (
      K (.tuple #[]) w2)
theorem W232_eq (v0 v1 v2 : Value) (w : World) (K : Value → World → Prop) : funW Tryz.prog Tryz.f232 plan232 [v0, v1, v2] w K = W232 v0 v1 v2 w K := by kernel_rfl
theorem W232_chk : chkFun Tryz.prog Tryz.f232 plan232 3 = true := by kernel_rfl
theorem W232_ok {v0 v1 v2 : Value} {w : World} {K : Value → World → Prop} (h : W232 v0 v1 v2 w K) : callF Tryz.prog 232 [v0, v1, v2] w K :=
  tie Tryz.prog 232 Tryz.f232 plan232 [v0, v1, v2] w K 3 (W232 v0 v1 v2 w K) rfl mixed Tryz.func232 W232_chk (W232_eq v0 v1 v2 w K) Tryz.call232 h

/- math_bits.Len32 -/
def plan211 : Plan := { js := [(10, ⟨[0, 2], [], 0⟩), (2, ⟨[0, 2], [], 0⟩)], ds := [] }
def W211 (v0 : Value) (w : World) (K : Value → World → Prop) : Prop :=
  JoinW (fun J1 =>
    binW .geq v0 (.int .u32 65536) fun t4 =>
    condW t4 (
      binW .shr v0 (.int .u64 16) fun t6 =>
      J1 [t6, (.int .i64 16)] w) (
      J1 [v0, (.int .i64 0)] w))
  fun s1 _ w2 =>
  JoinW (fun J3 =>
    binW .geq (s1.getD 0 undef) (.int .u32 256) fun t8 =>
    condW t8 (
      binW .shr (s1.getD 0 undef) (.int .u64 8) fun t10 =>
      binW .add (s1.getD 1 undef) (.int .i64 8) fun t12 =>
      J3 [t10, t12] w2) (
      J3 [(s1.getD 0 undef), (s1.getD 1 undef)] w2))
  fun s3 _ w4 =>
  cvtW .u8 (s3.getD 0 undef) fun t15 =>
  ixsW (.string (ofL [0, 1, 2, 2, 3, 3, 3, 3, 4, 4, 4, 4, 4, 4, 4, 4, 5, 5, 5, 5, 5, 5, 5, 5, 5, 5, 5, 5, 5, 5, 5, 5, 6, 6, 6, 6, 6, 6, 6, 6, 6, 6, 6, 6, 6, 6, 6, 6, 6, 6, 6, 6, 6, 6, 6, 6, 6, 6, 6, 6, 6, 6, 6, 6, 7, 7, 7, 7, 7, 7, 7, 7, 7, 7, 7, 7, 7, 7, 7, 7, 7, 7, 7, 7, 7, 7, 7, 7, 7, 7, 7, 7, 7, 7, 7, 7, 7, 7, 7, 7, 7, 7, 7, 7, 7, 7, 7, 7, 7, 7, 7, 7, 7, 7, 7, 7, 7, 7, 7, 7, 7, 7, 7, 7, 7, 7, 7, 7, 8, 8, 8, 8, 8, 8, 8, 8, 8, 8, 8, 8, 8, 8, 8, 8, 8, 8, 8, 8, 8, 8, 8, 8, 8, 8, 8, 8, 8, 8, 8, 8, 8, 8, 8, 8, 8, 8, 8, 8, 8, 8, 8, 8, 8, 8, 8, 8, 8, 8, 8, 8, 8, 8, 8, 8, 8, 8, 8, 8, 8, 8, 8, 8, 8, 8, 8, 8, 8, 8, 8, 8, 8, 8, 8, 8, 8, 8, 8, 8, 8, 8, 8, 8, 8, 8, 8, 8, 8, 8, 8, 8, 8, 8, 8, 8, 8, 8, 8, 8, 8, 8, 8, 8, 8, 8, 8, 8, 8, 8, 8, 8, 8, 8, 8, 8, 8, 8, 8, 8, 8, 8, 8, 8, 8, 8, 8, 8])) t15 fun t16 =>
  cvtW .i64 t16 fun t17 =>
  binW .add (s3.getD 1 undef) t17 fun t18 =>
  K t18 w4
theorem W211_eq (v0 : Value) (w : World) (K : Value → World → Prop) : funW Tryz.prog Tryz.f211 plan211 [v0] w K = W211 v0 w K := by kernel_rfl
theorem W211_chk : chkFun Tryz.prog Tryz.f211 plan211 1 = true := by kernel_rfl
theorem W211_ok {v0 : Value} {w : World} {K : Value → World → Prop} (h : W211 v0 w K) : callF Tryz.prog 211 [v0] w K :=
  tie Tryz.prog 211 Tryz.f211 plan211 [v0] w K 1 (W211 v0 w K) rfl mixed Tryz.func211 W211_chk (W211_eq v0 w K) Tryz.call211 h


end Go.Proofs.YtcnjpcadejcenaaGreatDoor

namespace Go.Proofs.YtcnjpcadejcenaaGreatDoor
open Go Go.Eng Go.Num
set_option maxRecDepth 100000
section
variable [HX]
theorem len64_0 {w : World} {K : Value → World → Prop} (hK : K (i64 0) w) : callF Tryz.prog 212 [.int .u64 0] w K := by
  refine W212_ok ?_
  unfold W212
  have e1 : decide ((4294967296 : Int) ≤ 0) = false := rfl
  have e2 : decide ((65536 : Int) ≤ 0) = false := rfl
  have e3 : decide ((256 : Int) ≤ 0) = false := rfl
  refine JoinW.go ?_
  simp only [wsv, wsg, wsh, wsl, cond_true, cond_false, exists_eq_left', Option.some.injEq, Option.isSome_some, List.getElem?_toArray, List.getElem?_cons_zero, List.getElem?_cons_succ, List.length_cons, List.length_nil, List.set_cons_zero, List.set_cons_succ, List.getD_cons_zero, List.getD_cons_succ, Nat.zero_add, Nat.add_zero, Nat.reduceAdd, Nat.reduceLT, Nat.lt_add_one, Nat.zero_lt_succ, decide_true, decide_false, ne_eq, reduceCtorEq, e1]
  intro g1
  refine JoinW.go ?_
  simp only [wsv, wsg, wsh, wsl, cond_true, cond_false, exists_eq_left', Option.some.injEq, Option.isSome_some, List.getElem?_toArray, List.getElem?_cons_zero, List.getElem?_cons_succ, List.length_cons, List.length_nil, List.set_cons_zero, List.set_cons_succ, List.getD_cons_zero, List.getD_cons_succ, Nat.zero_add, Nat.add_zero, Nat.reduceAdd, Nat.reduceLT, Nat.lt_add_one, Nat.zero_lt_succ, decide_true, decide_false, ne_eq, reduceCtorEq, e2]
  intro g2
  refine JoinW.go ?_
  simp only [wsv, wsg, wsh, wsl, cond_true, cond_false, exists_eq_left', Option.some.injEq, Option.isSome_some, List.getElem?_toArray, List.getElem?_cons_zero, List.getElem?_cons_succ, List.length_cons, List.length_nil, List.set_cons_zero, List.set_cons_succ, List.getD_cons_zero, List.getD_cons_succ, Nat.zero_add, Nat.add_zero, Nat.reduceAdd, Nat.reduceLT, Nat.lt_add_one, Nat.zero_lt_succ, decide_true, decide_false, ne_eq, reduceCtorEq, e3]
  intro g3
  refine ⟨Int.le_refl _, 0, rfl, ?_⟩
  exact hK
theorem len_0 {w : World} {K : Value → World → Prop} (hK : K (i64 0) w) : callF Tryz.prog 175 [.int .u64 0] w K := by
  refine W175_ok ?_
  unfold W175
  rw [condW_false]
  exact len64_0 hK
theorem insert_0 {a : Option Addr} {cap : Nat} {w : World} {K : Value → World → Prop} (hK : ∀ w', Ext w w' → w'.heap = w.heap → K (.tuple #[]) w') : callF Tryz.prog 232 [.slice a 0 cap, i64 0, i64 0] w K := by
  refine W232_ok ?_
  unfold W232
  simp only [wsv, wsg, wsh, wsl, cond_true, cond_false, exists_eq_left', Option.some.injEq, Option.isSome_some, List.getElem?_toArray, List.getElem?_cons_zero, List.getElem?_cons_succ, List.length_cons, List.length_nil, List.set_cons_zero, List.set_cons_succ, List.getD_cons_zero, List.getD_cons_succ, Nat.zero_add, Nat.add_zero, Nat.reduceAdd, Nat.reduceLT, Nat.lt_add_one, Nat.zero_lt_succ, decide_true, decide_false, ne_eq, reduceCtorEq]
  refine ⟨fun s w' => s = [i64 1] ∧ w' = w, fun _ _ => 0, ⟨rfl, rfl⟩, ?_⟩
  rintro s g w2 ⟨rfl, rfl⟩
  have e1 : decide ((1 : Int) < 0) = false := rfl
  simp only [wsv, wsg, wsh, wsl, cond_true, cond_false, exists_eq_left', Option.some.injEq, Option.isSome_some, List.getElem?_toArray, List.getElem?_cons_zero, List.getElem?_cons_succ, List.length_cons, List.length_nil, List.set_cons_zero, List.set_cons_succ, List.getD_cons_zero, List.getD_cons_succ, Nat.zero_add, Nat.add_zero, Nat.reduceAdd, Nat.reduceLT, Nat.lt_add_one, Nat.zero_lt_succ, decide_true, decide_false, ne_eq, reduceCtorEq, e1]
  exact hK _ (Chg.refl _ _) rfl
theorem pdq_0 {a : Option Addr} {cap : Nat} {w : World} {K : Value → World → Prop} (hK : ∀ w', Ext w w' → w'.heap = w.heap → K (.tuple #[]) w') : callF Tryz.prog 194 [.slice a 0 cap, i64 0, i64 0, i64 0] w K := by
  refine W194_ok ?_
  unfold W194
  refine ⟨fun s w' => s = [i64 0, i64 0, i64 0, .bool true, .bool true] ∧ w' = w, fun _ _ => 0, ⟨rfl, rfl⟩, ?_⟩
  rintro s g w2 ⟨rfl, rfl⟩
  simp only [List.getD_cons_zero, List.getD_cons_succ]
  rw [bin_sub, bin_leq]
  have e1 : decide (IntKind.i64.wrap (0 - 0) ≤ (12 : Int)) = true := rfl
  rw [e1, condW_true]
  exact insert_0 hK
theorem sort_0 {a : Option Addr} {cap : Nat} {w : World} {K : Value → World → Prop} (hK : ∀ w', Ext w w' → w'.heap = w.heap → K (.tuple #[]) w') : callF Tryz.prog 167 [.slice a 0 cap] w K := by
  refine W167_ok ?_
  unfold W167
  rw [lenl_sl]
  rw [cvt_int]
  show callF _ _ [.int .u64 0] _ _
  refine len_0 ?_
  show callF _ _ [.slice a 0 cap, i64 0, i64 0, i64 0] _ _
  exact pdq_0 hK
theorem sort_p {l : List Str} {v : Value} {base : Nat} {w : World} {K : Value → World → Prop} (h : Own w base ST 1 v l.length (l.map str)) (hl : l.length < 4611686018427387904)
    (hK : ∀ w', Chg (fun k => v.ownBlock = some k) w w' → Own w' base ST 1 v l.length ((l.mergeSort fun x y => decide (x ≤ y)).map str) → K (.tuple #[]) w') : callF Tryz.prog 167 [v] w K := by
  obtain ⟨hn, ⟨rfl, h0⟩ | ⟨g, cap, cur, rfl, hb, hg, h1, h2, h3, h4⟩⟩ := h
  · have : l = [] := List.eq_nil_of_length_eq_zero h0
    subst this
    refine sort_0 fun w' hx hh => hK w' (Chg.of_ext hx) ⟨by simp, .inl ⟨rfl, rfl⟩⟩
  · refine of_calls (args := #[.slice (some ⟨g, 0, none⟩) l.length cap]) Tryz.call167 ((Tryz.slices_Sort_string g 0 cap l w (holds_of_block hg (by have := h4; rw [Nat.mul_one] at this; exact this)) (at_lt hg) hl).mono ?_)
    rintro e w' ⟨rfl, n, os, rfl⟩
    refine ⟨_, rfl, hK _ (Chg.of_grown (grownBy_sorted _) fun k hk => hk) (ownsRow_sorted (by simp) hb hg h1 h2 h3)⟩
theorem compact_p {l : List Str} {v : Value} {base : Nat} {w : World} {K : Value → World → Prop} (h : Own w base ST 1 v l.length (l.map str)) (hl : l.length ≤ 9223372036854775807)
    (hK : ∀ v' w', Chg (fun k => v.ownBlock = some k) w w' → Own w' base ST 1 v' (Lib.compact l).length ((Lib.compact l).map str) → K v' w') : callF Tryz.prog 168 [v] w K := by
  obtain ⟨hn, ⟨rfl, h0⟩ | ⟨g, cap, cur, rfl, hb, hg, h1, h2, h3, h4⟩⟩ := h
  · have : l = [] := List.eq_nil_of_length_eq_zero h0
    subst this
    refine of_calls (args := #[.slice none 0 0]) Tryz.call168 ((Tryz.slices_Compact_string_empty none 0 w).mono ?_)
    rintro e w' ⟨rfl, rfl⟩
    exact ⟨_, rfl, hK _ _ (Chg.refl _ _) ⟨rfl, .inl ⟨rfl, rfl⟩⟩⟩
  · refine of_calls (args := #[.slice (some ⟨g, 0, none⟩) l.length cap]) Tryz.call168 ((Tryz.slices_Compact_string g 0 cap l w (holds_of_block hg (by have := h4; rw [Nat.mul_one] at this; exact this)) hl h1).mono ?_)
    rintro e w' ⟨rfl, n, rfl⟩
    have hle : (Lib.compact l).length ≤ l.length := by
      unfold Lib.compact Lib.compactUpTo
      rw [List.length_map]
      exact Nat.le_trans (List.length_filter_le _ _) (by simp)
    have ho := ownsRow_sorted (w := w) (n := n) (os := #[]) (ss := l) (ts := Lib.compact l ++ List.replicate (l.length - (Lib.compact l).length) []) (by simp; omega) hb hg h1 h2 h3
    have eg : ∀ w : World, Sort.grow w #[] = w := fun w => by unfold Sort.grow; simp
    rw [eg] at ho
    refine ⟨_, rfl, hK _ _ (Chg.of_grown (w' := Sort.putRow encStr (Sort.ahead w n) g 0 _) (row := some g) ?_ fun k hk => hk) ?_⟩
    · have := grownBy_sorted (w := w) (g := g) (n := n) (os := #[]) (Lib.compact l ++ List.replicate (l.length - (Lib.compact l).length) []).toArray
      rw [eg] at this
      exact this
    · obtain ⟨_, ⟨h, _⟩ | ⟨g', cap', cur', he, hb', hg', h1', h2', h3', h4'⟩⟩ := ho
      · cases h
      · cases he
        refine ⟨by simp, .inr ⟨g, cap, cur', rfl, hb', hg', by omega, h2', h3', ?_⟩⟩
        have : (cur'.toList.take (l.length * 1)).take ((Lib.compact l).length * 1) = (Lib.compact l).map str := by
          rw [h4', List.map_append, Nat.mul_one, List.take_append_of_le_length (by simp), List.take_of_length_le (by simp)]; rfl
        rw [List.take_take, Nat.min_eq_left (by omega)] at this
        exact this
end
end Go.Proofs.YtcnjpcadejcenaaGreatDoor

namespace Go.Proofs.YtcnjpcadejcenaaGreatDoor
open Go Go.Eng Go.Num
set_option maxRecDepth 100000
section
variable [HX]
theorem cap_sl (p : Option Addr) (n c : Nat) (K : Value → Prop) : capW (.slice p n c) K ↔ K (.int .i64 c) := Iff.rfl
theorem grow_p {n : Nat} {w : World} {K : Value → World → Prop} (hn : n ≤ 1000000) (hK : ∀ v' w', Ext w w' → Own w' w.heap.size ST 1 v' 0 [] → K v' w') : callF Tryz.prog 193 [.slice none 0 0, i64 n] w K := by
  refine W193_ok ?_
  unfold W193
  refine JoinW.go ?_
  have e1 : decide ((n : Int) < 0) = false := decide_eq_false (by omega)
  have e2 : IntKind.i64.wrap ((n : Int) - IntKind.i64.wrap (((0 : Nat) : Int) - ((0 : Nat) : Int))) = (n : Int) := by
    have : IntKind.i64.wrap (((0 : Nat) : Int) - ((0 : Nat) : Int)) = 0 := rfl
    rw [this, wrap_id (by omega) (by omega)]; omega
  rw [bin_lss, e1, condW_false]
  intro g
  rw [cap_sl, lenl_sl, bin_sub, bin_sub, e2, bin_gtr]
  rcases Nat.eq_zero_or_pos n with rfl | hp
  · have e3 : decide ((0 : Int) < ((0 : Nat) : Int)) = false := rfl
    rw [e3, condW_false]
    exact hK _ w (Chg.refl _ _) ⟨rfl, .inl ⟨rfl, rfl⟩⟩
  · have e3 : decide ((0 : Int) < (n : Int)) = true := decide_eq_true (by omega)
    rw [e3, condW_true]
    rw [cap_sl, sll_sl, bd_none, bd_some]
    refine ⟨by decide, by decide, ?_⟩
    rw [bd_none]
    obtain ⟨i, z, hi, hz, h2, h3, h4⟩ := elem_s.get
    have hr := Lib.run_append_grow_zeros (P := Tryz.prog) w 24 3 24 ST i z .i64 .i64 elem_s.und (by kernel_rfl) hi hz none 0 0 [] (by simp [Builtin.firstCells, run_pure]) n hp (by omega) (by omega) (by omega) (by rw [h3]; omega) (growslice_fits (by omega) (by rw [h3]; omega))
    unfold semE
    show (match (Builtin.append_ #[24, 3] 24 #[.slice none 0 0, .int .i64 n]).run Tryz.prog w with | .ok v' w' => _ | _ => False)
    rw [hr]
    show lenlW (.slice none 0 0) _
    rw [lenl_sl, sll_sl, bd_none, bd_some]
    refine ⟨by decide, by simp, ?_⟩
    rw [bd_none]
    have hz1 : z.cells.size = 1 := h4
    refine hK _ _ (Chg.alloc (Chg.drew (Chg.refl _ _)) _) ⟨rfl, .inr ⟨w.heap.size, grownCap w (0 + n) 0 ST, #[] ++ Builtin.zeroCells z.cells n ++ Builtin.zeroCells z.cells (grownCap w (0 + n) 0 ST - (0 + n)), ?_, Nat.le_refl _, ?_, Nat.zero_le _, grownCap_le_maxLen _ _ _ _ (by simp [maxLen]; omega), ?_, by simp⟩⟩
    · simp [Addr.add]
    · exact heap_anew _ _ _ rfl
    · have := grownCap_ge w (0 + n) 0 ST
      simp only [Array.size_append, size_zeroCells, hz1, List.size_toArray, List.length_nil]
      omega
/-- the texts and the count after i of the two rows -/
def pre2 (a b : List Str) : Nat → List Str
  | 0 => []
  | 1 => a
  | _ => a ++ b
theorem concat_p {v x y : Value} {T1 T2 : TypeId} {a b : List Str} {w : World} {K : Value → World → Prop} (h : SlAt w 24 v 2 [x, y]) (h1 : SlAt w T1 x a.length (a.map str)) (h2 : SlAt w T2 y b.length (b.map str)) (ha : a.length ≤ 100000) (hb : b.length ≤ 100000)
    (hK : ∀ v' w', Ext w w' → Own w' w.heap.size ST 1 v' (a ++ b).length ((a ++ b).map str) → K v' w') : callF Tryz.prog 166 [v] w K := by
  refine W166_ok ?_
  unfold W166
  rw [lenl_at h]
  refine ⟨fun s w' => ∃ i : Nat, i ≤ 2 ∧ s = [i64 ((pre2 a b i).length : Nat), i64 i] ∧ w' = w, fun s _ => match s with | [_, .int _ i] => 2 - i.toNat | _ => 0, ⟨0, by omega, rfl, rfl⟩, ?_⟩
  rintro s g w2 ⟨i, hi, rfl, rfl⟩
  have step : i < 2 → ∃ u l T, [x, y][i]? = some u ∧ SlAt w2 T u l.length (l.map str) ∧ pre2 a b (i + 1) = pre2 a b i ++ l ∧ l.length ≤ 100000 ∧ (pre2 a b i).length ≤ 100000 := by
    intro h
    obtain rfl | rfl : i = 0 ∨ i = 1 := by omega
    · exact ⟨x, a, T1, rfl, h1, by simp [pre2], ha, by simp [pre2]⟩
    · exact ⟨y, b, T2, rfl, h2, by simp [pre2], hb, by simpa [pre2] using ha⟩
  rcases Nat.lt_or_ge i 2 with hlt | hge
  · obtain ⟨u, l, T, hu, hl, hp, hl2, hl3⟩ := step hlt
    have e1 : decide ((i : Int) < 2) = true := decide_eq_true (by omega)
    have e1' : decide ((i : Int) < ((2 : Nat) : Int)) = true := decide_eq_true (by omega)
    simp only [List.getD_cons_zero, List.getD_cons_succ]
    rw [bin_lss, e1', condW_true]
    refine JoinW.go ?_
    refine ixa_ld h rfl hu ?_
    rw [lenl_at hl, bin_add]
    have e2 : IntKind.i64.wrap (((pre2 a b i).length : Int) + (l.length : Int)) = (((pre2 a b (i + 1)).length : Nat) : Int) := by
      rw [hp, List.length_append, wrap_id (by omega) (by omega)]; omega
    rw [e2, bin_lss, decide_eq_false (by omega), condW_false]
    intro g1
    simp only [List.getD_cons_zero, List.getD_cons_succ]
    rw [bin_add, up1 (by omega)]
    exact ⟨⟨i + 1, hlt, rfl, (by trivial)⟩, by simp only [Int.toNat_natCast]; omega⟩
  · obtain rfl : i = 2 := by omega
    have e1' : decide (((2 : Nat) : Int) < ((2 : Nat) : Int)) = false := rfl
    simp only [List.getD_cons_zero, List.getD_cons_succ]
    rw [bin_lss, e1', condW_false]
    refine grow_p (by simp [pre2]; omega) fun v' w3 hx3 hO3 => ?_
    rw [lenl_at h]
    refine ⟨fun s w' => ∃ i v, i ≤ 2 ∧ s = [v, i64 (i : Nat)] ∧ Ext w2 w' ∧ Own w' w2.heap.size ST 1 v (pre2 a b i).length ((pre2 a b i).map str), fun s _ => match s with | [_, .int _ i] => 2 - i.toNat | _ => 0, ⟨0, v', by omega, rfl, hx3, hO3⟩, ?_⟩
    clear step
    rintro s g2 w4 ⟨i, v4, hi, rfl, hx4, hO4⟩
    have step : i < 2 → ∃ u l T, [x, y][i]? = some u ∧ SlAt w2 T u l.length (l.map str) ∧ pre2 a b (i + 1) = pre2 a b i ++ l ∧ l.length ≤ 100000 ∧ (pre2 a b i).length ≤ 100000 := by
      intro h
      obtain rfl | rfl : i = 0 ∨ i = 1 := by omega
      · exact ⟨x, a, T1, rfl, h1, by simp [pre2], ha, by simp [pre2]⟩
      · exact ⟨y, b, T2, rfl, h2, by simp [pre2], hb, by simpa [pre2] using ha⟩
    simp only [List.getD_cons_zero, List.getD_cons_succ]
    rcases Nat.lt_or_ge i 2 with hlt | hge
    · obtain ⟨u, l, T, hu, hl, hp, hl2, hl3⟩ := step hlt
      have e1' : decide ((i : Int) < ((2 : Nat) : Int)) = true := decide_eq_true (by omega)
      rw [bin_lss, e1', condW_true]
      refine ixa_ld (h.ext hx4) rfl hu ?_
      refine append_own3 elem_s hO4 (hl.ext hx4) (by simp) ?_ (by omega) (by omega) hx4.size fun v5 w5 hO5 hc5 hb5 => ?_
      · intro z hz
        obtain ⟨t, _, rfl⟩ := List.mem_map.1 hz
        rfl
      rw [bin_add, up1 (by omega)]
      refine ⟨⟨i + 1, v5, hlt, rfl, hx4.then hc5 fun k hk e => ?_, ?_⟩, by simp only [Int.toNat_natCast]; omega⟩
      · have := (hO4.block k e).1; omega
      · rw [hp, List.length_append, List.map_append]
        exact hO5
    · obtain rfl : i = 2 := by omega
      have e1' : decide (((2 : Nat) : Int) < ((2 : Nat) : Int)) = false := rfl
      rw [bin_lss, e1', condW_false]
      exact hK _ _ hx4 hO4
end
end Go.Proofs.YtcnjpcadejcenaaGreatDoor

