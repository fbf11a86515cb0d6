/- One plain sentence: weakest preconditions, contracts and plain laws that the claim rests on, text behind text. Conditions: those that each states. -/
import Derived.Test.YtdkikjcpgihjlaaGreatDoorNG1
import Derived.Shelf.Strings.BuilderF
import Derived.Shelf.Strings.BuilderK
import Derived.Shelf.Strconv.AtoiInnerAll
import Derived.Shelf.Strconv.ParseUint10
import Derived.Shelf.Slices.ReverseS
import Derived.Shelf.Sort.Plain
import Derived.Shelf.Strconv.Itoa3
import Derived.Shelf.Pu.ParseUintPublic10
import Derived.Shelf.Strconv.ToErrorRange
import Derived.Shelf.Strconv.ToError
import Derived.Shelf.Small.Strs
import Derived.Shelf.Strings.Count
import Derived.Shelf.Small.Wraps
import Derived.Shelf.Strings.OnBuilder
import Derived.Shelf.Strings.Repeat
import Derived.Shelf.Strings.Split
import Derived.Shelf.Strings.Prefix
import Derived.Shelf.Strings.Search1
import Derived.Shelf.Strings.BuilderX
import Derived.Shelf.Lays
import Derived.Shelf.Lays2
import Derived.Shelf.LaysC
import Derived.Shelf.LaysM
import Derived.Shelf.Pu.Lays
import Derived.Ground.MpProg
import Derived.Ground.Names2Prog
import Derived.Ground.SlgnProg
import Derived.Test.YtdkikjcpgihjlaaGreatDoorProg
import Derived.Lib.ConvBytes
import Derived.Lib.ParseIntBCases
set_option linter.all false
set_option linter.unusedSimpArgs false
set_option linter.unusedVariables false
set_option linter.unusedSectionVars false
namespace Go.Proofs.YtdkikjcpgihjlaaGreatDoor
open Go Go.Eng
set_option maxRecDepth 100000
variable [HX]
def plan79 : Plan := { js := [(6004, ⟨[15], [], 13⟩)], ds := [] }
def W79 (v0 v1 : Value) (w : World) (K : Value → World → Prop) : Prop :=
  boxW 28 v0 w fun t2 w1 =>
  allocW 28 [(.int .i64 0), (.bool false), (.string (ofL [])), (.slice none 0 0), (.slice none 0 0)] w1 fun t4 w2 =>
  ldW true 5 t2 w2 fun t7 =>
  callF Tryz.prog 21 [t7, v1] w2 fun t9 w3 =>
  binW .lss t9 (.int .i64 0) fun t11 =>
  GdW (isB t11 false) [undef] w3 (fun J4 =>
    fldW 0 t2 fun t13 =>
    ldW false 1 t13 w3 fun t14 =>
    binW .neq t14 (.int .i64 6) fun t15 =>
    J4 [t15] w3)
  fun s4 _ w5 =>
  pickW t11 (.bool true) (s4.getD 0 undef) fun t16 =>
  condW t16 (
    putW [(.int .i64 0), (.bool false), (.string (ofL [])), (.slice none 0 0), (.slice none 0 0)] [] fun c6 =>
    stW 5 t4 (.agg c6.toArray) w5 fun w7 =>
    ldW true 5 t4 w7 fun r8 =>
    K (.tuple #[r8, (.bool false)]) w7) (
    fldW 3 t2 fun t18 =>
    ldW false 1 t18 w5 fun t19 =>
    ixaW none 5 t19 t9 fun t21 =>
    ldW true 5 t21 w5 fun t22 =>
    stW 5 t4 t22 w5 fun w9 =>
    ldW true 5 t4 w9 fun r10 =>
    K (.tuple #[r10, (.bool true)]) w9)
theorem W79_eq (v0 v1 : Value) (w : World) (K : Value → World → Prop) : funW Tryz.prog Tryz.f79 plan79 [v0, v1] w K = W79 v0 v1 w K := by kernel_rfl
theorem W79_chk : chkFun Tryz.prog Tryz.f79 plan79 2 = true := by kernel_rfl
theorem W79_ok {v0 v1 : Value} {w : World} {K : Value → World → Prop} (h : W79 v0 v1 w K) : callF Tryz.prog 79 [v0, v1] w K :=
  tie Tryz.prog 79 Tryz.f79 plan79 [v0, v1] w K 2 (W79 v0 v1 w K) rfl mixed Tryz.func79 W79_chk (W79_eq v0 v1 w K) Tryz.call79 h
def plan14 : Plan := { js := [(14, ⟨[10], [2, 3], 10⟩)], ds := [] }
def W14 (v0 : Value) (w : World) (K : Value → World → Prop) : Prop :=
  boxW 28 v0 w fun t1 w1 =>
  fldW 0 t1 fun t4 =>
  ldW false 1 t4 w1 fun t5 =>
  binW .eql t5 (.int .i64 1) fun t6 =>
  condW t6 (
    K (.bool false) w1) (
    fldW 3 t1 fun t7 =>
    ldW false 1 t7 w1 fun t8 =>
    lenlW t8 fun t9 =>
    LoopW [(.int .i64 0)] w1 fun s2 _ w3 L2 =>
      binW .lss (s2.getD 0 undef) t9 fun t11 =>
      condW t11 (
        fldW 3 t1 fun t13 =>
        ldW false 1 t13 w3 fun t14 =>
        ixaW none 5 t14 (s2.getD 0 undef) fun t16 =>
        ldW true 5 t16 w3 fun t17 =>
        callF Tryz.prog 14 [t17] w3 fun t18 w4 =>
        unW .not t18 fun t19 =>
        condW t19 (
          K (.bool false) w4) (
          binW .add (s2.getD 0 undef) (.int .i64 1) fun t20 =>
          L2 [t20] w4)) (
        K (.bool true) w3))
theorem W14_eq (v0 : Value) (w : World) (K : Value → World → Prop) : funW Tryz.prog Tryz.f14 plan14 [v0] w K = W14 v0 w K := by kernel_rfl
theorem W14_chk : chkFun Tryz.prog Tryz.f14 plan14 1 = true := by kernel_rfl
theorem W14_ok {v0 : Value} {w : World} {K : Value → World → Prop} (h : W14 v0 w K) : callF Tryz.prog 14 [v0] w K :=
  tie Tryz.prog 14 Tryz.f14 plan14 [v0] w K 1 (W14 v0 w K) rfl mixed Tryz.func14 W14_chk (W14_eq v0 w K) Tryz.call14 h
def plan38 : Plan := { js := [(14, ⟨[13], [4, 5], 13⟩)], ds := [(26, ⟨[0, 1, 2, 3, 4, 5, 6, 7, 8], [[], [], [0, 1], [0, 1, 2], [], [], [4, 5], [4, 5, 6], [0, 1, 2, 3, 4, 5, 6, 7]]⟩)] }
def W38 (v0 v1 : Value) (w : World) (K : Value → World → Prop) : Prop :=
  lenlW v0 fun t7 =>
  lenlW v1 fun t9 =>
  binW .neq t7 t9 fun t10 =>
  condW t10 (
    K (.bool false) w) (
    lenlW v0 fun t12 =>
    LoopW [(.int .i64 0)] w fun s1 _ w2 L1 =>
      binW .lss (s1.getD 0 undef) t12 fun t14 =>
      condW t14 (
        ixaW none 1 v0 (s1.getD 0 undef) fun t18 =>
        ldW false 1 t18 w2.drew fun t19 =>
        ixaW none 1 v1 (s1.getD 0 undef) fun t22 =>
        ldW false 1 t22 w2.drew fun t23 =>
        binW .neq t19 t23 fun t24 =>
        condW t24 (
          K (.bool false) w2.drew) (
          binW .add (s1.getD 0 undef) (.int .i64 1) fun t25 =>
          L1 [t25] w2.drew)) (
        K (.bool true) w2))
theorem W38_eq (v0 v1 : Value) (w : World) (K : Value → World → Prop) : funW Tryz.prog Tryz.f38 plan38 [v0, v1] w K = W38 v0 v1 w K := by kernel_rfl
theorem W38_chk : chkFun Tryz.prog Tryz.f38 plan38 2 = true := by kernel_rfl
theorem W38_ok {v0 v1 : Value} {w : World} {K : Value → World → Prop} (h : W38 v0 v1 w K) : callF Tryz.prog 38 [v0, v1] w K :=
  tie Tryz.prog 38 Tryz.f38 plan38 [v0, v1] w K 2 (W38 v0 v1 w K) rfl mixed Tryz.func38 W38_chk (W38_eq v0 v1 w K) Tryz.call38 h
def plan116 : Plan := { js := [(41, ⟨[], [], 8⟩), (6, ⟨[8], [], 8⟩), (26, ⟨[8], [8], 21⟩), (28008, ⟨[32], [], 26⟩), (15, ⟨[8, 20], [8, 9], 20⟩)], ds := [(38, ⟨[0, 1, 2, 3, 4, 5, 6, 9], [[], [0], [], [2], [], [2, 3, 4], [2, 3, 4, 5], [2, 3, 4, 5, 6], [0, 1, 2, 3, 4, 5, 6, 7], [0, 1, 2, 3, 4, 5, 6, 7, 8], [0, 1, 2, 3, 4, 5, 6, 7, 8, 9]]⟩), (37, ⟨[0, 1, 2, 3, 4, 5, 6, 9], [[], [0], [], [2], [], [2, 3, 4], [2, 3, 4, 5], [2, 3, 4, 5, 6], [0, 1, 2, 3, 4, 5, 6, 7], [0, 1, 2, 3, 4, 5, 6, 7, 8], [0, 1, 2, 3, 4, 5, 6, 7, 8, 9]]⟩)] }
def W116 (v0 v1 v2 : Value) (w : World) (K : Value → World → Prop) : Prop :=
  boxW 28 v0 w fun t3 w1 =>
  boxW 28 v2 w1 fun t5 w2 =>
  allocW 28 [(.int .i64 0), (.bool false), (.string (ofL [])), (.slice none 0 0), (.slice none 0 0)] w2 fun t6 w3 =>
  putW [(.int .i64 0), (.bool false), (.string (ofL [])), (.slice none 0 0), (.slice none 0 0)] [(0, 1, (.int .i64 6))] fun c4 =>
  allocW 28 [(.int .i64 0), (.bool false), (.string (ofL [])), (.slice none 0 0), (.slice none 0 0)] w3 fun t7 w5 =>
  stW 5 t7 (.agg c4.toArray) w5 fun w6 =>
  JoinW (fun J7 =>
    fldW 0 t3 fun t11 =>
    ldW false 1 t11 w6 fun t12 =>
    binW .eql t12 (.int .i64 6) fun t13 =>
    condW t13 (
      ldW true 5 t3 w6 fun t14 =>
      callF Tryz.prog 146 [t14, v1] w6 fun t16 w8 =>
      stW 5 t3 t16 w8 fun w9 =>
      fldW 4 t3 fun t17 =>
      ldW false 1 t17 w9 fun t18 =>
      lenlW t18 fun t19 =>
      LoopW [(.bool false), (.int .i64 0)] w9 fun s10 _ w11 L10 =>
        binW .lss (s10.getD 1 undef) t19 fun t21 =>
        condW t21 (
          JoinW (fun J12 =>
            unW .not (s10.getD 0 undef) fun t24 =>
            GdW (isB t24 true) [undef] w11 (fun J13 =>
              fldW 4 t3 fun t27 =>
              ldW false 1 t27 w11 fun t28 =>
              ixaW none 1 t28 (s10.getD 1 undef) fun t30 =>
              ldW false 1 t30 w11 fun t31 =>
              binW .lss v1 t31 fun t32 =>
              J13 [t32] w11)
            fun s13 _ w14 =>
            pickW t24 (s13.getD 0 undef) (.bool false) fun t33 =>
            condW t33 (
              fldW 4 t7 fun t34 =>
              ldW false 1 t34 w14 fun t35 =>
              bslW 9 1 [(.string (ofL []))] [(0, 1, v1)] w14 fun t37 w15 =>
              semE Tryz.prog (Builtin.append_ #[26, 26] 26 #[t35, t37]) w15 fun t38 w16 =>
              fldW 4 t7 fun t39 =>
              stW 1 t39 t38 w16 fun w17 =>
              fldW 3 t7 fun t40 =>
              ldW false 1 t40 w17 fun t41 =>
              ldW true 5 t5 w17 fun t42 =>
              bslW 28 1 [(.int .i64 0), (.bool false), (.string (ofL [])), (.slice none 0 0), (.slice none 0 0)] [(0, 5, t42)] w17 fun t43 w18 =>
              semE Tryz.prog (Builtin.append_ #[22, 22] 22 #[t41, t43]) w18 fun t44 w19 =>
              fldW 3 t7 fun t45 =>
              stW 1 t45 t44 w19 fun w20 =>
              J12 [(.bool true)] w20) (
              J12 [(s10.getD 0 undef)] w14))
          fun s12 _ w21 =>
          fldW 4 t7 fun t46 =>
          ldW false 1 t46 w21.drew fun t47 =>
          fldW 4 t3 fun t48 =>
          ldW false 1 t48 w21.drew fun t49 =>
          ixaW none 1 t49 (s10.getD 1 undef) fun t51 =>
          ldW false 1 t51 w21.drew fun t52 =>
          bslW 9 1 [(.string (ofL []))] [(0, 1, t52)] w21.drew fun t53 w22 =>
          (ldW false 1 t46 w22 fun x => x = t47) ∧
          semE Tryz.prog (Builtin.append_ #[26, 26] 26 #[t47, t53]) w22 fun t54 w23 =>
          fldW 4 t7 fun t55 =>
          stW 1 t55 t54 w23 fun w24 =>
          fldW 3 t7 fun t56 =>
          ldW false 1 t56 w24.drew fun t57 =>
          fldW 3 t3 fun t58 =>
          ldW false 1 t58 w24.drew fun t59 =>
          ixaW none 5 t59 (s10.getD 1 undef) fun t61 =>
          ldW true 5 t61 w24.drew fun t62 =>
          bslW 28 1 [(.int .i64 0), (.bool false), (.string (ofL [])), (.slice none 0 0), (.slice none 0 0)] [(0, 5, t62)] w24.drew fun t63 w25 =>
          (ldW false 1 t56 w25 fun x => x = t57) ∧
          semE Tryz.prog (Builtin.append_ #[22, 22] 22 #[t57, t63]) w25 fun t64 w26 =>
          fldW 3 t7 fun t65 =>
          stW 1 t65 t64 w26 fun w27 =>
          binW .add (s10.getD 1 undef) (.int .i64 1) fun t66 =>
          L10 [(s12.getD 0 undef), t66] w27) (
          J7 [(s10.getD 0 undef)] w11)) (
      J7 [(.bool false)] w6))
  fun s7 _ w28 =>
  JoinW (fun J29 =>
    unW .not (s7.getD 0 undef) fun t68 =>
    condW t68 (
      fldW 4 t7 fun t69 =>
      ldW false 1 t69 w28 fun t70 =>
      bslW 9 1 [(.string (ofL []))] [(0, 1, v1)] w28 fun t72 w30 =>
      semE Tryz.prog (Builtin.append_ #[26, 26] 26 #[t70, t72]) w30 fun t73 w31 =>
      fldW 4 t7 fun t74 =>
      stW 1 t74 t73 w31 fun w32 =>
      fldW 3 t7 fun t75 =>
      ldW false 1 t75 w32 fun t76 =>
      ldW true 5 t5 w32 fun t77 =>
      bslW 28 1 [(.int .i64 0), (.bool false), (.string (ofL [])), (.slice none 0 0), (.slice none 0 0)] [(0, 5, t77)] w32 fun t78 w33 =>
      semE Tryz.prog (Builtin.append_ #[22, 22] 22 #[t76, t78]) w33 fun t79 w34 =>
      fldW 3 t7 fun t80 =>
      stW 1 t80 t79 w34 fun w35 =>
      J29 [] w35) (
      J29 [] w28))
  fun s29 _ w36 =>
  ldW true 5 t7 w36 fun t81 =>
  stW 5 t6 t81 w36 fun w37 =>
  ldW true 5 t6 w37 fun r38 =>
  K r38 w37
theorem W116_eq (v0 v1 v2 : Value) (w : World) (K : Value → World → Prop) : funW Tryz.prog Tryz.f116 plan116 [v0, v1, v2] w K = W116 v0 v1 v2 w K := by kernel_rfl
theorem W116_chk : chkFun Tryz.prog Tryz.f116 plan116 3 = true := by kernel_rfl
theorem W116_ok {v0 v1 v2 : Value} {w : World} {K : Value → World → Prop} (h : W116 v0 v1 v2 w K) : callF Tryz.prog 116 [v0, v1, v2] w K :=
  tie Tryz.prog 116 Tryz.f116 plan116 [v0, v1, v2] w K 3 (W116 v0 v1 v2 w K) rfl mixed Tryz.func116 W116_chk (W116_eq v0 v1 v2 w K) Tryz.call116 h
def plan15 : Plan := { js := [], ds := [] }
def W15 (v0 : Value) (w : World) (K : Value → World → Prop) : Prop :=
  allocW 28 [(.int .i64 0), (.bool false), (.string (ofL [])), (.slice none 0 0), (.slice none 0 0)] w fun t2 w1 =>
  putW [(.int .i64 0), (.bool false), (.string (ofL [])), (.slice none 0 0), (.slice none 0 0)] [(0, 1, (.int .i64 4)), (2, 1, v0)] fun c2 =>
  stW 5 t2 (.agg c2.toArray) w1 fun w3 =>
  ldW true 5 t2 w3 fun r4 =>
  K r4 w3
theorem W15_eq (v0 : Value) (w : World) (K : Value → World → Prop) : funW Tryz.prog Tryz.f15 plan15 [v0] w K = W15 v0 w K := by kernel_rfl
theorem W15_chk : chkFun Tryz.prog Tryz.f15 plan15 1 = true := by kernel_rfl
theorem W15_ok {v0 : Value} {w : World} {K : Value → World → Prop} (h : W15 v0 w K) : callF Tryz.prog 15 [v0] w K :=
  tie Tryz.prog 15 Tryz.f15 plan15 [v0] w K 1 (W15 v0 w K) rfl mixed Tryz.func15 W15_chk (W15_eq v0 w K) Tryz.call15 h
def plan20 : Plan := { js := [(3004, ⟨[12], [], 11⟩), (3008, ⟨[8], [], 7⟩)], ds := [] }
def W20 (v0 : Value) (w : World) (K : Value → World → Prop) : Prop :=
  boxW 28 v0 w fun t1 w1 =>
  ldW true 5 t1 w1 fun t3 =>
  callF Tryz.prog 27 [t3] w1 fun t4 w2 =>
  binW .leq t4 (.int .i64 2000) fun t5 =>
  GdW (isB t5 true) [undef] w2 (fun J3 =>
    ldW true 5 t1 w2 fun t7 =>
    callF Tryz.prog 41 [t7, (.int .i64 24)] w2 fun t8 w4 =>
    J3 [t8] w4)
  fun s3 _ w5 =>
  pickW t5 (s3.getD 0 undef) (.bool false) fun t9 =>
  GdW (isB t9 true) [undef] w5 (fun J6 =>
    ldW true 5 t1 w5 fun t11 =>
    callF Tryz.prog 42 [t11] w5 fun t12 w7 =>
    J6 [t12] w7)
  fun s6 _ w8 =>
  pickW t9 (s6.getD 0 undef) (.bool false) fun t13 =>
  K t13 w8
theorem W20_eq (v0 : Value) (w : World) (K : Value → World → Prop) : funW Tryz.prog Tryz.f20 plan20 [v0] w K = W20 v0 w K := by kernel_rfl
theorem W20_chk : chkFun Tryz.prog Tryz.f20 plan20 1 = true := by kernel_rfl
theorem W20_ok {v0 : Value} {w : World} {K : Value → World → Prop} (h : W20 v0 w K) : callF Tryz.prog 20 [v0] w K :=
  tie Tryz.prog 20 Tryz.f20 plan20 [v0] w K 1 (W20 v0 w K) rfl mixed Tryz.func20 W20_chk (W20_eq v0 w K) Tryz.call20 h
def plan146 : Plan := { js := [(23, ⟨[], [6], 16⟩), (16, ⟨[15], [6], 15⟩)], ds := [(32, ⟨[0, 1, 2, 3, 4, 5, 6, 9], [[], [0], [], [2], [], [2, 3, 4], [2, 3, 4, 5], [2, 3, 4, 5, 6], [0, 1, 2, 3, 4, 5, 6, 7], [0, 1, 2, 3, 4, 5, 6, 7, 8], [0, 1, 2, 3, 4, 5, 6, 7, 8, 9]]⟩), (31, ⟨[0, 1, 2, 3, 4, 5, 6, 9], [[], [0], [], [2], [], [2, 3, 4], [2, 3, 4, 5], [2, 3, 4, 5, 6], [0, 1, 2, 3, 4, 5, 6, 7], [0, 1, 2, 3, 4, 5, 6, 7, 8], [0, 1, 2, 3, 4, 5, 6, 7, 8, 9]]⟩)] }
def W146 (v0 v1 : Value) (w : World) (K : Value → World → Prop) : Prop :=
  boxW 28 v0 w fun t2 w1 =>
  allocW 28 [(.int .i64 0), (.bool false), (.string (ofL [])), (.slice none 0 0), (.slice none 0 0)] w1 fun t4 w2 =>
  fldW 0 t2 fun t7 =>
  ldW false 1 t7 w2 fun t8 =>
  binW .neq t8 (.int .i64 6) fun t9 =>
  condW t9 (
    ldW true 5 t2 w2 fun t10 =>
    stW 5 t4 t10 w2 fun w3 =>
    ldW true 5 t4 w3 fun r4 =>
    K r4 w3) (
    putW [(.int .i64 0), (.bool false), (.string (ofL [])), (.slice none 0 0), (.slice none 0 0)] [(0, 1, (.int .i64 6))] fun c5 =>
    allocW 28 [(.int .i64 0), (.bool false), (.string (ofL [])), (.slice none 0 0), (.slice none 0 0)] w2 fun t5 w6 =>
    stW 5 t5 (.agg c5.toArray) w6 fun w7 =>
    fldW 4 t2 fun t12 =>
    ldW false 1 t12 w7 fun t13 =>
    lenlW t13 fun t14 =>
    LoopW [(.int .i64 0)] w7 fun s8 _ w9 L8 =>
      binW .lss (s8.getD 0 undef) t14 fun t16 =>
      condW t16 (
        JoinW (fun J10 =>
          fldW 4 t2 fun t18 =>
          ldW false 1 t18 w9 fun t19 =>
          ixaW none 1 t19 (s8.getD 0 undef) fun t21 =>
          ldW false 1 t21 w9 fun t22 =>
          binW .neq t22 v1 fun t24 =>
          condW t24 (
            fldW 4 t5 fun t25 =>
            ldW false 1 t25 w9.drew fun t26 =>
            fldW 4 t2 fun t27 =>
            ldW false 1 t27 w9.drew fun t28 =>
            ixaW none 1 t28 (s8.getD 0 undef) fun t30 =>
            ldW false 1 t30 w9.drew fun t31 =>
            bslW 9 1 [(.string (ofL []))] [(0, 1, t31)] w9.drew fun t32 w11 =>
            (ldW false 1 t25 w11 fun x => x = t26) ∧
            semE Tryz.prog (Builtin.append_ #[26, 26] 26 #[t26, t32]) w11 fun t33 w12 =>
            fldW 4 t5 fun t34 =>
            stW 1 t34 t33 w12 fun w13 =>
            fldW 3 t5 fun t35 =>
            ldW false 1 t35 w13.drew fun t36 =>
            fldW 3 t2 fun t37 =>
            ldW false 1 t37 w13.drew fun t38 =>
            ixaW none 5 t38 (s8.getD 0 undef) fun t40 =>
            ldW true 5 t40 w13.drew fun t41 =>
            bslW 28 1 [(.int .i64 0), (.bool false), (.string (ofL [])), (.slice none 0 0), (.slice none 0 0)] [(0, 5, t41)] w13.drew fun t42 w14 =>
            (ldW false 1 t35 w14 fun x => x = t36) ∧
            semE Tryz.prog (Builtin.append_ #[22, 22] 22 #[t36, t42]) w14 fun t43 w15 =>
            fldW 3 t5 fun t44 =>
            stW 1 t44 t43 w15 fun w16 =>
            J10 [] w16) (
            J10 [] w9))
        fun s10 _ w17 =>
        binW .add (s8.getD 0 undef) (.int .i64 1) fun t45 =>
        L8 [t45] w17) (
        ldW true 5 t5 w9 fun t46 =>
        stW 5 t4 t46 w9 fun w18 =>
        ldW true 5 t4 w18 fun r19 =>
        K r19 w18))
theorem W146_eq (v0 v1 : Value) (w : World) (K : Value → World → Prop) : funW Tryz.prog Tryz.f146 plan146 [v0, v1] w K = W146 v0 v1 w K := by kernel_rfl
theorem W146_chk : chkFun Tryz.prog Tryz.f146 plan146 2 = true := by kernel_rfl
theorem W146_ok {v0 v1 : Value} {w : World} {K : Value → World → Prop} (h : W146 v0 v1 w K) : callF Tryz.prog 146 [v0, v1] w K :=
  tie Tryz.prog 146 Tryz.f146 plan146 [v0, v1] w K 2 (W146 v0 v1 w K) rfl mixed Tryz.func146 W146_chk (W146_eq v0 v1 w K) Tryz.call146 h
def plan21 : Plan := { js := [(6, ⟨[9], [4, 5], 9⟩)], ds := [] }
def W21 (v0 v1 : Value) (w : World) (K : Value → World → Prop) : Prop :=
  boxW 28 v0 w fun t2 w1 =>
  fldW 4 t2 fun t6 =>
  ldW false 1 t6 w1 fun t7 =>
  lenlW t7 fun t8 =>
  LoopW [(.int .i64 0)] w1 fun s2 _ w3 L2 =>
    binW .lss (s2.getD 0 undef) t8 fun t10 =>
    condW t10 (
      fldW 4 t2 fun t12 =>
      ldW false 1 t12 w3 fun t13 =>
      ixaW none 1 t13 (s2.getD 0 undef) fun t15 =>
      ldW false 1 t15 w3 fun t16 =>
      binW .eql t16 v1 fun t18 =>
      condW t18 (
        K (s2.getD 0 undef) w3) (
        binW .add (s2.getD 0 undef) (.int .i64 1) fun t20 =>
        L2 [t20] w3)) (
      K (.int .i64 (-1)) w3)
theorem W21_eq (v0 v1 : Value) (w : World) (K : Value → World → Prop) : funW Tryz.prog Tryz.f21 plan21 [v0, v1] w K = W21 v0 v1 w K := by kernel_rfl
theorem W21_chk : chkFun Tryz.prog Tryz.f21 plan21 2 = true := by kernel_rfl
theorem W21_ok {v0 v1 : Value} {w : World} {K : Value → World → Prop} (h : W21 v0 v1 w K) : callF Tryz.prog 21 [v0, v1] w K :=
  tie Tryz.prog 21 Tryz.f21 plan21 [v0, v1] w K 2 (W21 v0 v1 w K) rfl mixed Tryz.func21 W21_chk (W21_eq v0 v1 w K) Tryz.call21 h
def plan27 : Plan := { js := [(11003, ⟨[12], [], 11⟩), (8, ⟨[3, 4], [], 2⟩)], ds := [] }
def W27 (v0 : Value) (w : World) (K : Value → World → Prop) : Prop :=
  boxW 28 v0 w fun t1 w1 =>
  LoopW [(.int .i64 1), (.int .i64 0)] w1 fun s2 _ w3 L2 =>
    fldW 3 t1 fun t6 =>
    ldW false 1 t6 w3 fun t7 =>
    lenlW t7 fun t8 =>
    binW .lss (s2.getD 1 undef) t8 fun t9 =>
    GdW (isB t9 true) [undef] w3 (fun J4 =>
      binW .leq (s2.getD 0 undef) (.int .i64 2000) fun t12 =>
      J4 [t12] w3)
    fun s4 _ w5 =>
    pickW t9 (s4.getD 0 undef) (.bool false) fun t13 =>
    condW t13 (
      fldW 3 t1 fun t17 =>
      ldW false 1 t17 w5 fun t18 =>
      ixaW none 5 t18 (s2.getD 1 undef) fun t20 =>
      ldW true 5 t20 w5 fun t21 =>
      callF Tryz.prog 27 [t21] w5 fun t22 w6 =>
      binW .add (s2.getD 0 undef) t22 fun t23 =>
      binW .add (s2.getD 1 undef) (.int .i64 1) fun t15 =>
      L2 [t23, t15] w6) (
      K (s2.getD 0 undef) w5)
theorem W27_eq (v0 : Value) (w : World) (K : Value → World → Prop) : funW Tryz.prog Tryz.f27 plan27 [v0] w K = W27 v0 w K := by kernel_rfl
theorem W27_chk : chkFun Tryz.prog Tryz.f27 plan27 1 = true := by kernel_rfl
theorem W27_ok {v0 : Value} {w : World} {K : Value → World → Prop} (h : W27 v0 w K) : callF Tryz.prog 27 [v0] w K :=
  tie Tryz.prog 27 Tryz.f27 plan27 [v0] w K 1 (W27 v0 w K) rfl mixed Tryz.func27 W27_chk (W27_eq v0 w K) Tryz.call27 h
def plan41 : Plan := { js := [(14, ⟨[11], [4, 5], 11⟩)], ds := [] }
def W41 (v0 v1 : Value) (w : World) (K : Value → World → Prop) : Prop :=
  boxW 28 v0 w fun t2 w1 =>
  binW .eql v1 (.int .i64 0) fun t7 =>
  condW t7 (
    K (.bool false) w1) (
    fldW 3 t2 fun t8 =>
    ldW false 1 t8 w1 fun t9 =>
    lenlW t9 fun t10 =>
    LoopW [(.int .i64 0)] w1 fun s2 _ w3 L2 =>
      binW .lss (s2.getD 0 undef) t10 fun t12 =>
      condW t12 (
        fldW 3 t2 fun t14 =>
        ldW false 1 t14 w3 fun t15 =>
        ixaW none 5 t15 (s2.getD 0 undef) fun t17 =>
        ldW true 5 t17 w3 fun t18 =>
        binW .sub v1 (.int .i64 1) fun t20 =>
        callF Tryz.prog 41 [t18, t20] w3 fun t21 w4 =>
        unW .not t21 fun t22 =>
        condW t22 (
          K (.bool false) w4) (
          binW .add (s2.getD 0 undef) (.int .i64 1) fun t23 =>
          L2 [t23] w4)) (
        K (.bool true) w3))
theorem W41_eq (v0 v1 : Value) (w : World) (K : Value → World → Prop) : funW Tryz.prog Tryz.f41 plan41 [v0, v1] w K = W41 v0 v1 w K := by kernel_rfl
theorem W41_chk : chkFun Tryz.prog Tryz.f41 plan41 2 = true := by kernel_rfl
theorem W41_ok {v0 v1 : Value} {w : World} {K : Value → World → Prop} (h : W41 v0 v1 w K) : callF Tryz.prog 41 [v0, v1] w K :=
  tie Tryz.prog 41 Tryz.f41 plan41 [v0, v1] w K 2 (W41 v0 v1 w K) rfl mixed Tryz.func41 W41_chk (W41_eq v0 v1 w K) Tryz.call41 h
def plan42 : Plan := { js := [(47, ⟨[121], [2, 5], 121⟩), (24, ⟨[89], [2, 4], 89⟩), (14002, ⟨[84], [], 74⟩), (14009, ⟨[83], [], 77⟩), (14012, ⟨[76], [], 74⟩), (14015, ⟨[71], [], 64⟩), (14019, ⟨[70], [], 67⟩), (14022, ⟨[66], [], 64⟩), (14028, ⟨[61], [], 58⟩), (6002, ⟨[53], [], 46⟩), (6006, ⟨[52], [], 49⟩), (6009, ⟨[48], [], 46⟩), (6012, ⟨[43], [], 36⟩), (6014, ⟨[42], [], 41⟩), (6019, ⟨[40], [], 36⟩), (6022, ⟨[33], [], 23⟩), (6024, ⟨[32], [], 31⟩), (6026, ⟨[30], [], 23⟩), (6028, ⟨[28], [], 27⟩), (6032, ⟨[26], [], 23⟩), (6035, ⟨[20], [], 15⟩), (6037, ⟨[19], [], 18⟩), (6040, ⟨[17], [], 15⟩), (6044, ⟨[12], [], 11⟩)], ds := [(36, ⟨[0, 1, 2, 3, 4, 5, 6, 7, 8, 9, 10, 11, 12, 13, 14, 15, 16, 17, 18, 19, 20, 21, 22, 23, 24], [[], [0], [], [0, 1, 2], [0, 1, 2, 3], [0, 1, 2, 3, 4], [0, 1, 2, 3, 4, 5], [0, 1, 2, 3, 4, 5, 6], [0, 1, 2, 3, 4, 5, 6, 7], [0, 1, 2, 3, 4, 5, 6, 7, 8], [0, 1, 2, 3, 4, 5, 6, 7, 8, 9], [0, 1, 2, 3, 4, 5, 6, 7, 8, 9, 10], [0, 1, 2, 3, 4, 5, 6, 7, 8, 9, 10, 11], [0, 1, 2, 3, 4, 5, 6, 7, 8, 9, 10], [0, 1, 2, 3, 4, 5, 6, 7, 8, 9, 10, 13], [0, 1, 2, 3, 4, 5, 6, 7, 8, 9, 10, 11, 12, 13, 14], [0, 1, 2, 3, 4, 5, 6, 7, 8, 9, 10, 11, 12, 13, 14, 15], [0, 1, 2, 3, 4, 5, 6, 7, 8, 9, 10], [0, 1, 2, 3, 4, 5, 6, 7, 8, 9, 10, 17], [0, 1, 2, 3, 4, 5, 6, 7, 8, 9, 10], [0, 1, 2, 3, 4, 5, 6, 7, 8, 9, 10, 17, 18, 19], [0, 1, 2, 3, 4, 5, 6, 7, 8, 9, 10, 17, 18, 19, 20], [0, 1, 2, 3, 4, 5, 6, 7, 8, 9, 10, 11, 12, 13, 14, 15, 16, 17, 18, 19, 20, 21], [0, 1, 2, 3, 4, 5, 6, 7, 8, 9, 10, 11, 12, 13, 14, 15, 16, 17, 18, 19, 20, 21, 22], [0, 1, 2, 3, 4, 5, 6, 7, 8, 9, 10, 11, 12, 13, 14, 15, 16, 17, 18, 19, 20, 21, 22, 23]]⟩)] }
def W42 (v0 : Value) (w : World) (K : Value → World → Prop) : Prop :=
  boxW 28 v0 w fun t1 w1 =>
  fldW 0 t1 fun t6 =>
  ldW false 1 t6 w1 fun t7 =>
  binW .lss t7 (.int .i64 0) fun t9 =>
  GdW (isB t9 false) [undef] w1 (fun J2 =>
    binW .gtr t7 (.int .i64 6) fun t12 =>
    J2 [t12] w1)
  fun s2 _ w3 =>
  pickW t9 (.bool true) (s2.getD 0 undef) fun t13 =>
  GdW (isB t13 false) [undef] w3 (fun J4 =>
    fldW 1 t1 fun t15 =>
    ldW false 1 t15 w3 fun t16 =>
    J4 [t16] w3)
  fun s4 _ w5 =>
  GdW (isB (s4.getD 0 undef) true) [undef] w5 (fun J6 =>
    binW .neq t7 (.int .i64 2) fun t19 =>
    J6 [t19] w5)
  fun s6 _ w7 =>
  GdW (isB t13 false) [undef] w7 (fun J8 =>
    pickW (s4.getD 0 undef) (s6.getD 0 undef) (.bool false) fun t20 =>
    J8 [t20] w7)
  fun s8 _ w9 =>
  pickW t13 (.bool true) (s8.getD 0 undef) fun t21 =>
  GdW (isB t21 false) [undef] w9 (fun J10 =>
    fldW 2 t1 fun t23 =>
    ldW false 1 t23 w9 fun t24 =>
    binW .neq t24 (.string (ofL [])) fun t25 =>
    J10 [t25] w9)
  fun s10 _ w11 =>
  GdW (isB (s10.getD 0 undef) true) [undef] w11 (fun J12 =>
    binW .neq t7 (.int .i64 3) fun t28 =>
    J12 [t28] w11)
  fun s12 _ w13 =>
  GdW (isB t21 false) [undef] w13 (fun J14 =>
    pickW (s10.getD 0 undef) (s12.getD 0 undef) (.bool false) fun t29 =>
    J14 [t29] w13)
  fun s14 _ w15 =>
  GdW (isB (s14.getD 0 undef) true) [undef] w15 (fun J16 =>
    binW .neq t7 (.int .i64 4) fun t32 =>
    J16 [t32] w15)
  fun s16 _ w17 =>
  GdW (isB t21 false) [undef] w17 (fun J18 =>
    pickW (s14.getD 0 undef) (s16.getD 0 undef) (.bool false) fun t33 =>
    J18 [t33] w17)
  fun s18 _ w19 =>
  pickW t21 (.bool true) (s18.getD 0 undef) fun t34 =>
  GdW (isB t34 false) [undef] w19 (fun J20 =>
    fldW 3 t1 fun t36 =>
    ldW false 1 t36 w19 fun t37 =>
    lenlW t37 fun t38 =>
    binW .gtr t38 (.int .i64 0) fun t39 =>
    J20 [t39] w19)
  fun s20 _ w21 =>
  GdW (isB (s20.getD 0 undef) true) [undef] w21 (fun J22 =>
    binW .lss t7 (.int .i64 5) fun t42 =>
    J22 [t42] w21)
  fun s22 _ w23 =>
  GdW (isB t34 false) [undef] w23 (fun J24 =>
    pickW (s20.getD 0 undef) (s22.getD 0 undef) (.bool false) fun t43 =>
    J24 [t43] w23)
  fun s24 _ w25 =>
  pickW t34 (.bool true) (s24.getD 0 undef) fun t44 =>
  GdW (isB t44 false) [undef] w25 (fun J26 =>
    binW .neq t7 (.int .i64 6) fun t47 =>
    J26 [t47] w25)
  fun s26 _ w27 =>
  GdW (isB (s26.getD 0 undef) true) [undef] w27 (fun J28 =>
    fldW 4 t1 fun t49 =>
    ldW false 1 t49 w27 fun t50 =>
    lenlW t50 fun t51 =>
    binW .gtr t51 (.int .i64 0) fun t52 =>
    J28 [t52] w27)
  fun s28 _ w29 =>
  GdW (isB t44 false) [undef] w29 (fun J30 =>
    pickW (s26.getD 0 undef) (s28.getD 0 undef) (.bool false) fun t53 =>
    J30 [t53] w29)
  fun s30 _ w31 =>
  pickW t44 (.bool true) (s30.getD 0 undef) fun t54 =>
  condW t54 (
    K (.bool false) w31) (
    binW .eql t7 (.int .i64 3) fun t56 =>
    GdW (isB t56 true) [undef] w31 (fun J32 =>
      fldW 2 t1 fun t58 =>
      ldW false 1 t58 w31 fun t59 =>
      callF Tryz.prog 81 [t59] w31 fun t60 w33 =>
      unW .not t60 fun t61 =>
      J32 [t61] w33)
    fun s32 _ w34 =>
    pickW t56 (s32.getD 0 undef) (.bool false) fun t62 =>
    GdW (isB t62 false) [undef] w34 (fun J35 =>
      binW .eql t7 (.int .i64 4) fun t65 =>
      J35 [t65] w34)
    fun s35 _ w36 =>
    GdW (isB (s35.getD 0 undef) true) [undef] w36 (fun J37 =>
      fldW 2 t1 fun t67 =>
      ldW false 1 t67 w36 fun t68 =>
      lensW t68 fun t69 =>
      binW .gtr t69 (.int .i64 16384) fun t70 =>
      J37 [t70] w36)
    fun s37 _ w38 =>
    GdW (isB t62 false) [undef] w38 (fun J39 =>
      pickW (s35.getD 0 undef) (s37.getD 0 undef) (.bool false) fun t71 =>
      J39 [t71] w38)
    fun s39 _ w40 =>
    pickW t62 (.bool true) (s39.getD 0 undef) fun t72 =>
    GdW (isB t72 false) [undef] w40 (fun J41 =>
      binW .eql t7 (.int .i64 6) fun t75 =>
      J41 [t75] w40)
    fun s41 _ w42 =>
    GdW (isB (s41.getD 0 undef) true) [undef] w42 (fun J43 =>
      fldW 4 t1 fun t77 =>
      ldW false 1 t77 w42 fun t78 =>
      lenlW t78 fun t79 =>
      fldW 3 t1 fun t80 =>
      ldW false 1 t80 w42 fun t81 =>
      lenlW t81 fun t82 =>
      binW .neq t79 t82 fun t83 =>
      J43 [t83] w42)
    fun s43 _ w44 =>
    GdW (isB t72 false) [undef] w44 (fun J45 =>
      pickW (s41.getD 0 undef) (s43.getD 0 undef) (.bool false) fun t84 =>
      J45 [t84] w44)
    fun s45 _ w46 =>
    pickW t72 (.bool true) (s45.getD 0 undef) fun t85 =>
    condW t85 (
      K (.bool false) w46) (
      fldW 4 t1 fun t86 =>
      ldW false 1 t86 w46 fun t87 =>
      lenlW t87 fun t88 =>
      LoopW [(.int .i64 0)] w46 fun s47 _ w48 L47 =>
        binW .lss (s47.getD 0 undef) t88 fun t90 =>
        condW t90 (
          fldW 4 t1 fun t92 =>
          ldW false 1 t92 w48.drew fun t93 =>
          ixaW none 1 t93 (s47.getD 0 undef) fun t95 =>
          ldW false 1 t95 w48.drew fun t96 =>
          lensW t96 fun t97 =>
          binW .gtr t97 (.int .i64 16384) fun t98 =>
          GqW (isB t98 false) (fun k49 => k49 (s47.getD 0 undef)) fun t100 =>
          GqW (isB t98 false) (fun k50 => binW .gtr t100 (.int .i64 0) k50) fun t101 =>
          GqW (isB t98 false) (fun k51 => k51 t101) fun t102 =>
          GqW (isB t102 true) (fun k52 => fldW 4 t1 k52) fun t103 =>
          GqW (isB t102 true) (fun k53 => ldW false 1 t103 w48.drew k53) fun t104 =>
          GqW (isB t102 true) (fun k54 => k54 (s47.getD 0 undef)) fun t105 =>
          GqW (isB t102 true) (fun k55 => binW .sub t105 (.int .i64 1) k55) fun t106 =>
          GqW (isB t102 true) (fun k56 => ixaW none 1 t104 t106 k56) fun t107 =>
          GqW (isB t102 true) (fun k57 => ldW false 1 t107 w48.drew k57) fun t108 =>
          GqW (isB t102 true) (fun k58 => fldW 4 t1 k58) fun t109 =>
          GqW (isB t102 true) (fun k59 => ldW false 1 t109 w48.drew k59) fun t110 =>
          GqW (isB t102 true) (fun k60 => k60 (s47.getD 0 undef)) fun t111 =>
          GqW (isB t102 true) (fun k61 => ixaW none 1 t110 t111 k61) fun t112 =>
          GqW (isB t102 true) (fun k62 => ldW false 1 t112 w48.drew k62) fun t113 =>
          GqW (isB t102 true) (fun k63 => binW .geq t108 t113 k63) fun t114 =>
          GqW (isB t98 false) (fun k64 => pickW t102 t114 (.bool false) k64) fun t115 =>
          pickW t98 (.bool true) t115 fun t116 =>
          condW t116 (
            K (.bool false) w48.drew) (
            binW .add (s47.getD 0 undef) (.int .i64 1) fun t117 =>
            L47 [t117] w48.drew)) (
          fldW 3 t1 fun t118 =>
          ldW false 1 t118 w48 fun t119 =>
          lenlW t119 fun t120 =>
          LoopW [(.int .i64 0)] w48 fun s65 _ w66 L65 =>
            binW .lss (s65.getD 0 undef) t120 fun t122 =>
            condW t122 (
              fldW 3 t1 fun t124 =>
              ldW false 1 t124 w66 fun t125 =>
              ixaW none 5 t125 (s65.getD 0 undef) fun t127 =>
              ldW true 5 t127 w66 fun t128 =>
              callF Tryz.prog 42 [t128] w66 fun t129 w67 =>
              unW .not t129 fun t130 =>
              condW t130 (
                K (.bool false) w67) (
                binW .add (s65.getD 0 undef) (.int .i64 1) fun t131 =>
                L65 [t131] w67)) (
              K (.bool true) w66))))
theorem W42_eq (v0 : Value) (w : World) (K : Value → World → Prop) : funW Tryz.prog Tryz.f42 plan42 [v0] w K = W42 v0 w K := by kernel_rfl
theorem W42_chk : chkFun Tryz.prog Tryz.f42 plan42 1 = true := by kernel_rfl
theorem W42_ok {v0 : Value} {w : World} {K : Value → World → Prop} (h : W42 v0 w K) : callF Tryz.prog 42 [v0] w K :=
  tie Tryz.prog 42 Tryz.f42 plan42 [v0] w K 1 (W42 v0 w K) rfl mixed Tryz.func42 W42_chk (W42_eq v0 w K) Tryz.call42 h
def plan81 : Plan := { js := [(32005, ⟨[53], [], 50⟩), (22, ⟨[4], [2], 4⟩), (12002, ⟨[37], [], 25⟩), (12003, ⟨[36], [], 29⟩), (12006, ⟨[35], [], 33⟩), (12010, ⟨[32], [], 29⟩), (12014, ⟨[28], [], 25⟩), (12019, ⟨[22], [], 20⟩), (4, ⟨[3], [], 1⟩), (6004, ⟨[12], [], 10⟩)], ds := [] }
def W81 (v0 : Value) (w : World) (K : Value → World → Prop) : Prop :=
  JoinW (fun J1 =>
    lensW v0 fun t7 =>
    binW .gtr t7 (.int .i64 0) fun t8 =>
    GdW (isB t8 true) [undef] w (fun J2 =>
      ixsW v0 (.int .i64 0) fun t11 =>
      binW .eql t11 (.int .u8 45) fun t12 =>
      J2 [t12] w)
    fun s2 _ w3 =>
    pickW t8 (s2.getD 0 undef) (.bool false) fun t13 =>
    condW t13 (
      slsW v0 (some (.int .i64 1)) none fun t15 =>
      J1 [t15] w3) (
      J1 [v0] w3))
  fun s1 _ w4 =>
  lensW (s1.getD 0 undef) fun t17 =>
  binW .eql t17 (.int .i64 0) fun t18 =>
  GdW (isB t18 false) [undef] w4 (fun J5 =>
    lensW (s1.getD 0 undef) fun t21 =>
    binW .gtr t21 (.int .i64 100) fun t22 =>
    J5 [t22] w4)
  fun s5 _ w6 =>
  pickW t18 (.bool true) (s5.getD 0 undef) fun t23 =>
  GdW (isB t23 false) [undef] w6 (fun J7 =>
    ixsW (s1.getD 0 undef) (.int .i64 0) fun t26 =>
    binW .eql t26 (.int .u8 48) fun t27 =>
    J7 [t27] w6)
  fun s7 _ w8 =>
  GdW (isB (s7.getD 0 undef) true) [undef] w8 (fun J9 =>
    lensW (s1.getD 0 undef) fun t30 =>
    binW .gtr t30 (.int .i64 1) fun t31 =>
    J9 [t31] w8)
  fun s9 _ w10 =>
  GdW (isB (s9.getD 0 undef) false) [undef] w10 (fun J11 =>
    lensW v0 fun t34 =>
    binW .gtr t34 (.int .i64 1) fun t35 =>
    J11 [t35] w10)
  fun s11 _ w12 =>
  GdW (isB (s7.getD 0 undef) true) [undef] w12 (fun J13 =>
    pickW (s9.getD 0 undef) (.bool true) (s11.getD 0 undef) fun t36 =>
    J13 [t36] w12)
  fun s13 _ w14 =>
  GdW (isB t23 false) [undef] w14 (fun J15 =>
    pickW (s7.getD 0 undef) (s13.getD 0 undef) (.bool false) fun t37 =>
    J15 [t37] w14)
  fun s15 _ w16 =>
  pickW t23 (.bool true) (s15.getD 0 undef) fun t38 =>
  condW t38 (
    K (.bool false) w16) (
    LoopW [(.int .i64 0)] w16 fun s17 _ w18 L17 =>
      lensW (s1.getD 0 undef) fun t41 =>
      binW .lss (s17.getD 0 undef) t41 fun t42 =>
      condW t42 (
        ixsW (s1.getD 0 undef) (s17.getD 0 undef) fun t47 =>
        binW .lss t47 (.int .u8 48) fun t48 =>
        GdW (isB t48 false) [undef] w18 (fun J19 =>
          ixsW (s1.getD 0 undef) (s17.getD 0 undef) fun t52 =>
          binW .gtr t52 (.int .u8 57) fun t53 =>
          J19 [t53] w18)
        fun s19 _ w20 =>
        pickW t48 (.bool true) (s19.getD 0 undef) fun t54 =>
        condW t54 (
          K (.bool false) w20) (
          binW .add (s17.getD 0 undef) (.int .i64 1) fun t44 =>
          L17 [t44] w20)) (
        K (.bool true) w18))
theorem W81_eq (v0 : Value) (w : World) (K : Value → World → Prop) : funW Tryz.prog Tryz.f81 plan81 [v0] w K = W81 v0 w K := by kernel_rfl
theorem W81_chk : chkFun Tryz.prog Tryz.f81 plan81 1 = true := by kernel_rfl
theorem W81_ok {v0 : Value} {w : World} {K : Value → World → Prop} (h : W81 v0 w K) : callF Tryz.prog 81 [v0] w K :=
  tie Tryz.prog 81 Tryz.f81 plan81 [v0] w K 1 (W81 v0 w K) rfl mixed Tryz.func81 W81_chk (W81_eq v0 w K) Tryz.call81 h
def plan13 : Plan := { js := [(14, ⟨[45], [4, 5], 45⟩), (4008, ⟨[40], [], 34⟩), (4016, ⟨[31], [], 26⟩), (4023, ⟨[23], [], 19⟩), (4030, ⟨[16], [], 12⟩)], ds := [(26, ⟨[0, 1, 2, 3, 4, 5, 6, 7, 8, 9, 11], [[], [0], [], [0, 1, 2], [0, 1, 2, 3], [], [5], [], [5, 6, 7], [5, 6, 7, 8], [0, 1, 2, 3, 4, 5, 6, 7, 8, 9], [0, 1, 2, 3, 4, 5, 6, 7, 8, 9, 10]]⟩)] }
def W13 (v0 v1 : Value) (w : World) (K : Value → World → Prop) : Prop :=
  boxW 28 v0 w fun t2 w1 =>
  boxW 28 v1 w1 fun t3 w2 =>
  fldW 0 t2 fun t6 =>
  ldW false 1 t6 w2 fun t7 =>
  fldW 0 t3 fun t8 =>
  ldW false 1 t8 w2 fun t9 =>
  binW .neq t7 t9 fun t10 =>
  GdW (isB t10 false) [undef] w2 (fun J3 =>
    fldW 1 t2 fun t12 =>
    ldW false 1 t12 w2 fun t13 =>
    fldW 1 t3 fun t14 =>
    ldW false 1 t14 w2 fun t15 =>
    eqW .bool true t13 t15 fun t16 =>
    J3 [t16] w2)
  fun s3 _ w4 =>
  pickW t10 (.bool true) (s3.getD 0 undef) fun t17 =>
  GdW (isB t17 false) [undef] w4 (fun J5 =>
    fldW 2 t2 fun t19 =>
    ldW false 1 t19 w4 fun t20 =>
    fldW 2 t3 fun t21 =>
    ldW false 1 t21 w4 fun t22 =>
    binW .neq t20 t22 fun t23 =>
    J5 [t23] w4)
  fun s5 _ w6 =>
  pickW t17 (.bool true) (s5.getD 0 undef) fun t24 =>
  GdW (isB t24 false) [undef] w6 (fun J7 =>
    fldW 4 t2 fun t26 =>
    ldW false 1 t26 w6 fun t27 =>
    fldW 4 t3 fun t28 =>
    ldW false 1 t28 w6 fun t29 =>
    callF Tryz.prog 38 [t27, t29] w6 fun t30 w8 =>
    unW .not t30 fun t31 =>
    J7 [t31] w8)
  fun s7 _ w9 =>
  pickW t24 (.bool true) (s7.getD 0 undef) fun t32 =>
  GdW (isB t32 false) [undef] w9 (fun J10 =>
    fldW 3 t2 fun t34 =>
    ldW false 1 t34 w9 fun t35 =>
    lenlW t35 fun t36 =>
    fldW 3 t3 fun t37 =>
    ldW false 1 t37 w9 fun t38 =>
    lenlW t38 fun t39 =>
    binW .neq t36 t39 fun t40 =>
    J10 [t40] w9)
  fun s10 _ w11 =>
  pickW t32 (.bool true) (s10.getD 0 undef) fun t41 =>
  condW t41 (
    K (.bool false) w11) (
    fldW 3 t2 fun t42 =>
    ldW false 1 t42 w11 fun t43 =>
    lenlW t43 fun t44 =>
    LoopW [(.int .i64 0)] w11 fun s12 _ w13 L12 =>
      binW .lss (s12.getD 0 undef) t44 fun t46 =>
      condW t46 (
        fldW 3 t2 fun t48 =>
        ldW false 1 t48 w13.drew fun t49 =>
        ixaW none 5 t49 (s12.getD 0 undef) fun t51 =>
        ldW true 5 t51 w13.drew fun t52 =>
        fldW 3 t3 fun t53 =>
        ldW false 1 t53 w13.drew fun t54 =>
        ixaW none 5 t54 (s12.getD 0 undef) fun t56 =>
        ldW true 5 t56 w13.drew fun t57 =>
        callF Tryz.prog 13 [t52, t57] w13.drew fun t58 w14 =>
        unW .not t58 fun t59 =>
        condW t59 (
          K (.bool false) w14) (
          binW .add (s12.getD 0 undef) (.int .i64 1) fun t60 =>
          L12 [t60] w14)) (
        K (.bool true) w13))
theorem W13_eq (v0 v1 : Value) (w : World) (K : Value → World → Prop) : funW Tryz.prog Tryz.f13 plan13 [v0, v1] w K = W13 v0 v1 w K := by kernel_rfl
theorem W13_chk : chkFun Tryz.prog Tryz.f13 plan13 2 = true := by kernel_rfl
theorem W13_ok {v0 v1 : Value} {w : World} {K : Value → World → Prop} (h : W13 v0 v1 w K) : callF Tryz.prog 13 [v0, v1] w K :=
  tie Tryz.prog 13 Tryz.f13 plan13 [v0, v1] w K 2 (W13 v0 v1 w K) rfl mixed Tryz.func13 W13_chk (W13_eq v0 v1 w K) Tryz.call13 h
def plan18 : Plan := { js := [], ds := [] }
def W18 (v0 : Value) (w : World) (K : Value → World → Prop) : Prop :=
  allocW 28 [(.int .i64 0), (.bool false), (.string (ofL [])), (.slice none 0 0), (.slice none 0 0)] w fun t2 w1 =>
  callF Tryz.prog 19 [v0] w1 fun t4 w2 =>
  putW [(.int .i64 0), (.bool false), (.string (ofL [])), (.slice none 0 0), (.slice none 0 0)] [(0, 1, (.int .i64 3)), (2, 1, t4)] fun c3 =>
  stW 5 t2 (.agg c3.toArray) w2 fun w4 =>
  ldW true 5 t2 w4 fun r5 =>
  K r5 w4
theorem W18_eq (v0 : Value) (w : World) (K : Value → World → Prop) : funW Tryz.prog Tryz.f18 plan18 [v0] w K = W18 v0 w K := by kernel_rfl
theorem W18_chk : chkFun Tryz.prog Tryz.f18 plan18 1 = true := by kernel_rfl
theorem W18_ok {v0 : Value} {w : World} {K : Value → World → Prop} (h : W18 v0 w K) : callF Tryz.prog 18 [v0] w K :=
  tie Tryz.prog 18 Tryz.f18 plan18 [v0] w K 1 (W18 v0 w K) rfl mixed Tryz.func18 W18_chk (W18_eq v0 w K) Tryz.call18 h
def plan19 : Plan := { js := [(27, ⟨[5], [], 5⟩), (16, ⟨[3, 4], [], 1⟩)], ds := [] }
def W19 (v0 : Value) (w : World) (K : Value → World → Prop) : Prop :=
  binW .eql v0 (.int .i64 0) fun t7 =>
  condW t7 (
    K (.string (ofL [48])) w) (
    LoopW [(.string (ofL [])), v0] w fun s1 _ w2 L1 =>
      binW .neq (s1.getD 1 undef) (.int .i64 0) fun t10 =>
      condW t10 (
        binW .rem (s1.getD 1 undef) (.int .i64 10) fun t14 =>
        JoinW (fun J3 =>
          binW .lss t14 (.int .i64 0) fun t16 =>
          condW t16 (
            unW .neg t14 fun t18 =>
            J3 [t18] w2) (
            J3 [t14] w2))
        fun s3 _ w4 =>
        binW .add (.int .i64 48) (s3.getD 0 undef) fun t20 =>
        cvtW .u8 t20 fun t21 =>
        bslW 5 1 [(.int .u8 0)] [(0, 1, t21)] w4 fun t22 w5 =>
        semQ Tryz.prog (convert 66 9 t22) w5 fun t23 =>
        binW .add t23 (s1.getD 0 undef) fun t25 =>
        binW .quo (s1.getD 1 undef) (.int .i64 10) fun t12 =>
        L1 [t25, t12] w5) (
        binW .lss v0 (.int .i64 0) fun t27 =>
        callF Tryz.prog 40 [t27, (s1.getD 0 undef)] w2 fun t29 w6 =>
        K t29 w6))
theorem W19_eq (v0 : Value) (w : World) (K : Value → World → Prop) : funW Tryz.prog Tryz.f19 plan19 [v0] w K = W19 v0 w K := by kernel_rfl
theorem W19_chk : chkFun Tryz.prog Tryz.f19 plan19 1 = true := by kernel_rfl
theorem W19_ok {v0 : Value} {w : World} {K : Value → World → Prop} (h : W19 v0 w K) : callF Tryz.prog 19 [v0] w K :=
  tie Tryz.prog 19 Tryz.f19 plan19 [v0] w K 1 (W19 v0 w K) rfl mixed Tryz.func19 W19_chk (W19_eq v0 w K) Tryz.call19 h
def plan40 : Plan := { js := [(4003, ⟨[8], [], 7⟩)], ds := [] }
def W40 (v0 v1 : Value) (w : World) (K : Value → World → Prop) : Prop :=
  GdW (isB v0 true) [undef] w (fun J1 =>
    binW .neq v1 (.string (ofL [48])) fun t8 =>
    J1 [t8] w)
  fun s1 _ w2 =>
  pickW v0 (s1.getD 0 undef) (.bool false) fun t9 =>
  condW t9 (
    binW .add (.string (ofL [45])) v1 fun t11 =>
    K t11 w2) (
    K v1 w2)
theorem W40_eq (v0 v1 : Value) (w : World) (K : Value → World → Prop) : funW Tryz.prog Tryz.f40 plan40 [v0, v1] w K = W40 v0 v1 w K := by kernel_rfl
theorem W40_chk : chkFun Tryz.prog Tryz.f40 plan40 2 = true := by kernel_rfl
theorem W40_ok {v0 v1 : Value} {w : World} {K : Value → World → Prop} (h : W40 v0 v1 w K) : callF Tryz.prog 40 [v0, v1] w K :=
  tie Tryz.prog 40 Tryz.f40 plan40 [v0, v1] w K 2 (W40 v0 v1 w K) rfl mixed Tryz.func40 W40_chk (W40_eq v0 v1 w K) Tryz.call40 h
end Go.Proofs.YtdkikjcpgihjlaaGreatDoor
namespace Go.Proofs.YtdkikjcpgihjlaaGreatDoor
open Go Go.Eng Go.Num
set_option maxRecDepth 100000
abbrev VT : TypeId := 28
structure ValB (w : World) (a : Nat) (v : JV) (sv kv : Value) : Prop where
  hb : w.heap[a]? = some (.cells [i64 v.k, .bool v.b, str v.t, sv, kv].toArray VT (0, 0))
  items : ∃ T L, SlAt w T sv v.xs.length L ∧ VReps w v.xs L
  keys : ∃ T, SlAt w T kv v.ks.length (v.ks.map str)
  fits : Fits v.xs.length v.ks v.t
theorem ValB.ext {w w' : World} {a : Nat} {v : JV} {sv kv : Value} (h : ValB w a v sv kv) (hx : Ext w w') : ValB w' a v sv kv :=
  ⟨hx.at h.hb id, let ⟨T, L, h1, h2⟩ := h.items; ⟨T, L, h1.ext hx, h2.ext hx⟩, let ⟨T, h1⟩ := h.keys; ⟨T, h1.ext hx⟩, h.fits⟩
theorem ValB.rep {w : World} {a : Nat} {v : JV} {sv kv : Value} (h : ValB w a v sv kv) : VRep w v [i64 v.k, .bool v.b, str v.t, sv, kv] := by
  obtain ⟨T, L, h1, h2⟩ := h.items
  obtain ⟨T', h3⟩ := h.keys
  exact VRep.mk h1 h2 h3 h.fits
theorem ValB.ld {w : World} {a : Nat} {v : JV} {sv kv : Value} {K : Value → Prop} (h : ValB w a v sv kv) (hK : ∀ cs, VRep w v cs → K (.agg cs.toArray)) : ldW true 5 (.pointer (some ⟨a, 0, none⟩)) w K := ld_all h.hb rfl (hK _ h.rep)
theorem ValB.lenx {w : World} {a : Nat} {v : JV} {sv kv : Value} (h : ValB w a v sv kv) (K : Value → Prop) : lenlW sv K ↔ K (i64 v.xs.length) := by obtain ⟨T, L, h1, _⟩ := h.items; exact lenl_at h1 K
theorem ValB.lenk {w : World} {a : Nat} {v : JV} {sv kv : Value} (h : ValB w a v sv kv) (K : Value → Prop) : lenlW kv K ↔ K (i64 v.ks.length) := by obtain ⟨T, h1⟩ := h.keys; exact lenl_at h1 K
theorem ValB.item {w : World} {a : Nat} {v : JV} {sv kv : Value} {k : IntKind} {i : Nat} {x : JV} {K : Value → Prop} (h : ValB w a v sv kv) (hi : v.xs[i]? = some x) (hK : ∀ cs, VRep w x cs → K (.agg cs.toArray)) : ixaW none 5 sv (.int k i) fun p => ldW true 5 p w K := by
  obtain ⟨T, L, h1, h2⟩ := h.items; exact item_ld h1 h2 hi hK
theorem ValB.key {w : World} {a : Nat} {v : JV} {sv kv : Value} {k : IntKind} {i : Nat} {x : Str} {K : Value → Prop} (h : ValB w a v sv kv) (hi : v.ks[i]? = some x) (hK : K (str x)) : ixaW none 1 kv (.int k i) fun p => ldW false 1 p w K := by
  obtain ⟨T, h1⟩ := h.keys; exact text_ld h1 hi hK
theorem box_val {w : World} {v : JV} {cs : List Value} {K : Value → World → Prop} (h : VRep w v cs) (hK : ∀ a w' sv kv, ValB w' a v sv kv → Ext w w' → w.heap.size ≤ a → K (.pointer (some ⟨a, 0, none⟩)) w') : boxW VT (.agg cs.toArray) w K := by
  obtain ⟨sv, kv, T1, T2, L, rfl, h1, h2, h3, h4⟩ := h.out
  refine box_new fun a w' ha hz hb hx => hK a w' sv kv ⟨hb, ⟨T1, L, h1.ext hx, h2.ext hx⟩, ⟨T2, h3.ext hx⟩, h4⟩ hx (by omega)
structure ValI (w : World) (v : JV) (sv kv : Value) : Prop where
  items : ∃ T L, SlAt w T sv v.xs.length L ∧ VReps w v.xs L
  keys : ∃ T, SlAt w T kv v.ks.length (v.ks.map str)
  fits : Fits v.xs.length v.ks v.t
theorem ValI.box {w w' : World} {a : Nat} {v : JV} {sv kv : Value} (h : ValI w v sv kv) (hx : Ext w w') (hb : w'.heap[a]? = some (.cells [i64 v.k, .bool v.b, str v.t, sv, kv].toArray VT (0, 0))) : ValB w' a v sv kv :=
  ⟨hb, let ⟨T, L, h1, h2⟩ := h.items; ⟨T, L, h1.ext hx, h2.ext hx⟩, let ⟨T, h1⟩ := h.keys; ⟨T, h1.ext hx⟩, h.fits⟩
theorem box_vali {w0 w : World} {v : JV} {cs : List Value} {K : Value → World → Prop} (h : VRep w0 v cs) (hK : ∀ a w' sv kv, w'.heap[a]? = some (.cells [i64 v.k, .bool v.b, str v.t, sv, kv].toArray VT (0, 0)) → ValI w0 v sv kv → Ext w w' → w.heap.size ≤ a → w'.heap.size = a + 1 → K (.pointer (some ⟨a, 0, none⟩)) w') : boxW VT (.agg cs.toArray) w K := by
  obtain ⟨sv, kv, T1, T2, L, rfl, h1, h2, h3, h4⟩ := h.out
  refine box_new fun a w' ha hz hb hx => hK a w' sv kv hb ⟨⟨T1, L, h1, h2⟩, ⟨T2, h3⟩, h4⟩ hx (by omega) (by omega)
theorem ValI.item_old {w0 w : World} {v : JV} {sv kv : Value} {k : IntKind} {i : Nat} {x : JV} {K : Value → Prop} (h : ValI w0 v sv kv) (hx : Ext w0 w) (hi : v.xs[i]? = some x) (hK : ∀ cs, VRep w0 x cs → K (.agg cs.toArray)) : ixaW none 5 sv (.int k i) fun p => ldW true 5 p w K := by
  obtain ⟨T, L, h1, h2⟩ := h.items
  obtain ⟨cs, hc, hg⟩ := h2.get hi
  refine ixa_at (size := 5) (h1.ext hx) h2.len (by omega) (List.getElem?_eq_some_iff.1 hi).1 fun b o c fr hb hcc => ?_
  exact ld_cells hb hc.len (fun j hj => (hcc j hj).trans (hg j hj)) (hK cs hc)
def VRepS (w0 w : World) (v : JV) (cs : List Value) : Prop := ∃ sv kv T1 T2 L, cs = [i64 v.k, .bool v.b, str v.t, sv, kv] ∧ SlAt w T1 sv v.xs.length L ∧ VReps w0 v.xs L ∧ SlAt w T2 kv v.ks.length (v.ks.map str) ∧ Fits v.xs.length v.ks v.t
theorem VRepS.rep {w0 w : World} {v : JV} {cs : List Value} (h : VRepS w0 w v cs) (hx : Ext w0 w) : VRep w v cs := by
  obtain ⟨sv, kv, T1, T2, L, rfl, h1, h2, h3, h4⟩ := h
  exact VRep.mk h1 (h2.ext hx) h3 h4
theorem VRepS.ext {w0 w w' : World} {v : JV} {cs : List Value} (h : VRepS w0 w v cs) (hx : Ext w w') : VRepS w0 w' v cs := by
  obtain ⟨sv, kv, T1, T2, L, rfl, h1, h2, h3, h4⟩ := h
  exact ⟨sv, kv, T1, T2, L, rfl, h1.ext hx, h2, h3.ext hx, h4⟩
theorem VRep.s {w w' : World} {v : JV} {cs : List Value} (h : VRep w v cs) (hx : Ext w w') : VRepS w w' v cs := by
  obtain ⟨sv, kv, T1, T2, L, rfl, h1, h2, h3, h4⟩ := h.out
  exact ⟨sv, kv, T1, T2, L, rfl, h1.ext hx, h2, h3.ext hx, h4⟩
theorem loop_up (n : Nat) {w1 : World} {B : List Value → Fr → World → (List Value → World → Prop) → Prop} (R : Nat → World → Prop) (h0 : R 0 w1)
    (step : ∀ i w g L, i < n → R i w → (∀ w', R (i + 1) w' → L [i64 ((i + 1 : Nat) : Int)] w') → B [i64 (i : Nat)] g w L)
    (fin : ∀ w g L, R n w → B [i64 (n : Nat)] g w L) : LoopW [i64 0] w1 B := by
  refine ⟨fun s w => ∃ i, i ≤ n ∧ s = [i64 (i : Nat)] ∧ R i w, fun s _ => match s with | [.int _ i] => n - i.toNat | _ => 0, ⟨0, Nat.zero_le _, rfl, h0⟩, ?_⟩
  rintro s g w ⟨i, hi, rfl, hR⟩
  rcases Nat.lt_or_ge i n with hlt | hge
  · exact step i w g _ hlt hR fun w' h' => ⟨⟨i + 1, hlt, rfl, h'⟩, by simp only [Int.toNat_natCast]; omega⟩
  · obtain rfl : i = n := by omega
    exact fin w g _ hR
theorem up1 {i : Nat} (h : (i : Int) < 9223372036854775807) : IntKind.i64.wrap ((i : Int) + 1) = ((i + 1 : Nat) : Int) := by rw [wrap_id (by omega) (by omega)]; simp
section
variable [HX]
theorem known_ref (v : JV) : ∀ {cs : List Value} {w : World} {K : Value → World → Prop}, VRep w v cs → (∀ w', Ext w w' → K (.bool (knownM v)) w') → callF Tryz.prog 14 [.agg cs.toArray] w K := by
  induction v using JV.ind' with
  | h v ih =>
    intro cs w K h hK
    refine W14_ok ?_
    unfold W14
    refine box_val h fun a w1 sv kv hB hx _ => ?_
    rw [knownM_eq] at hK
    simp only [wsv, wsg, wsh, wsl, cond_true, cond_false, exists_eq_left', Option.some.injEq, Option.isSome_some, List.getElem?_toArray, List.getElem?_cons_zero, List.getElem?_cons_succ, List.length_cons, List.length_nil, List.set_cons_zero, List.set_cons_succ, List.getD_cons_zero, List.getD_cons_succ, Nat.zero_add, Nat.add_zero, Nat.reduceAdd, Nat.reduceLT, Nat.lt_add_one, Nat.zero_lt_succ, decide_true, decide_false, ne_eq, reduceCtorEq, wsh, hB.hb, condW_dec]
    refine ⟨fun h1 => ?_, fun h1 => ?_⟩
    · have := hK w1 hx
      rw [decide_eq_true h1] at this
      exact this
    · rw [hB.lenx]
      rw [decide_eq_false h1, knownL_all] at hK
      refine loop_up v.xs.length (fun i w' => Ext w1 w' ∧ (v.xs.take i).all knownM = true) ⟨Chg.refl _ _, rfl⟩ ?_ ?_
      · rintro i w2 g L hi ⟨hx2, hall⟩ hL
        have hB := hB.ext hx2
        obtain ⟨x, hxi⟩ : ∃ x, v.xs[i]? = some x := ⟨_, List.getElem?_eq_getElem hi⟩
        have hlt : ((i : Int) < (v.xs.length : Int)) := by omega
        simp only [wsv, wsg, wsh, wsl, cond_true, cond_false, exists_eq_left', Option.some.injEq, Option.isSome_some, List.getElem?_toArray, List.getElem?_cons_zero, List.getElem?_cons_succ, List.length_cons, List.length_nil, List.set_cons_zero, List.set_cons_succ, List.getD_cons_zero, List.getD_cons_succ, Nat.zero_add, Nat.add_zero, Nat.reduceAdd, Nat.reduceLT, Nat.lt_add_one, Nat.zero_lt_succ, decide_true, decide_false, ne_eq, reduceCtorEq, wsh, hB.hb, hlt]
        refine hB.item hxi fun cs hcs => ?_
        refine ih x (List.mem_of_getElem? hxi) hcs fun w3 hx3 => ?_
        simp only [wsv, wsg, wsh, wsl, cond_true, cond_false, exists_eq_left', Option.some.injEq, Option.isSome_some, List.getElem?_toArray, List.getElem?_cons_zero, List.getElem?_cons_succ, List.length_cons, List.length_nil, List.set_cons_zero, List.set_cons_succ, List.getD_cons_zero, List.getD_cons_succ, Nat.zero_add, Nat.add_zero, Nat.reduceAdd, Nat.reduceLT, Nat.lt_add_one, Nat.zero_lt_succ, decide_true, decide_false, ne_eq, reduceCtorEq, condW_b]
        refine ⟨fun hf => ?_, fun ht => ?_⟩
        · have hf : knownM x = false := by simpa using hf
          have := hK w3 (hx.trans (hx2.trans hx3))
          rw [all_no hxi hf] at this
          exact this
        · have ht : knownM x = true := by simpa using ht
          rw [up1 (by have := hB.fits.1; omega)]
          exact hL w3 ⟨hx2.trans hx3, by rw [all_take hxi, hall, ht]; rfl⟩
      · rintro w2 g L ⟨hx2, hall⟩
        simp only [wsv, wsg, wsh, wsl, cond_true, cond_false, exists_eq_left', Option.some.injEq, Option.isSome_some, List.getElem?_toArray, List.getElem?_cons_zero, List.getElem?_cons_succ, List.length_cons, List.length_nil, List.set_cons_zero, List.set_cons_succ, List.getD_cons_zero, List.getD_cons_succ, Nat.zero_add, Nat.add_zero, Nat.reduceAdd, Nat.reduceLT, Nat.lt_add_one, Nat.zero_lt_succ, decide_true, decide_false, ne_eq, reduceCtorEq, Int.lt_irrefl]
        rw [List.take_length] at hall
        have := hK w2 (hx.trans hx2)
        rw [hall] at this
        exact this
theorem texts_ref {a b : List Str} {x y : Value} {T1 T2 : TypeId} {w : World} {K : Value → World → Prop} (h1 : SlAt w T1 x a.length (a.map str)) (h2 : SlAt w T2 y b.length (b.map str)) (ha : a.length ≤ 9223372036854775807)
    (hK : ∀ w', Ext w w' → K (.bool (decide (a = b))) w') : callF Tryz.prog 38 [x, y] w K := by
  refine W38_ok ?_
  unfold W38
  rw [lenl_at h1, lenl_at h2]
  simp only [wsv, wsg, wsh, wsl, cond_true, cond_false, exists_eq_left', Option.some.injEq, Option.isSome_some, List.getElem?_toArray, List.getElem?_cons_zero, List.getElem?_cons_succ, List.length_cons, List.length_nil, List.set_cons_zero, List.set_cons_succ, List.getD_cons_zero, List.getD_cons_succ, Nat.zero_add, Nat.add_zero, Nat.reduceAdd, Nat.reduceLT, Nat.lt_add_one, Nat.zero_lt_succ, decide_true, decide_false, ne_eq, reduceCtorEq, condW_dec]
  refine ⟨fun hne => ?_, fun he => ?_⟩
  · have : a ≠ b := by rintro rfl; exact hne rfl
    have := hK w (Chg.refl _ _)
    rw [decide_eq_false ‹a ≠ b›] at this
    exact this
  · have hl : a.length = b.length := by omega
    rw [lenl_at h1]
    refine loop_up a.length (fun i w' => Ext w w' ∧ a.take i = b.take i) ⟨Chg.refl _ _, rfl⟩ ?_ ?_
    · rintro i w2 g L hi ⟨hx2, htk⟩ hL
      have hx3 := hx2.trans (Chg.drew (Chg.refl (fun _ => False) w2))
      obtain ⟨u, hu⟩ : ∃ u, a[i]? = some u := ⟨_, List.getElem?_eq_getElem hi⟩
      obtain ⟨v, hv⟩ : ∃ v, b[i]? = some v := ⟨_, List.getElem?_eq_getElem (by omega)⟩
      have hlt : ((i : Int) < (a.length : Int)) := by omega
      simp only [wsv, wsg, wsh, wsl, cond_true, cond_false, exists_eq_left', Option.some.injEq, Option.isSome_some, List.getElem?_toArray, List.getElem?_cons_zero, List.getElem?_cons_succ, List.length_cons, List.length_nil, List.set_cons_zero, List.set_cons_succ, List.getD_cons_zero, List.getD_cons_succ, Nat.zero_add, Nat.add_zero, Nat.reduceAdd, Nat.reduceLT, Nat.lt_add_one, Nat.zero_lt_succ, decide_true, decide_false, ne_eq, reduceCtorEq, hlt]
      refine text_ld (h1.ext hx3) hu ?_
      refine text_ld (h2.ext hx3) hv ?_
      simp only [wsv, wsg, wsh, wsl, cond_true, cond_false, exists_eq_left', Option.some.injEq, Option.isSome_some, List.getElem?_toArray, List.getElem?_cons_zero, List.getElem?_cons_succ, List.length_cons, List.length_nil, List.set_cons_zero, List.set_cons_succ, List.getD_cons_zero, List.getD_cons_succ, Nat.zero_add, Nat.add_zero, Nat.reduceAdd, Nat.reduceLT, Nat.lt_add_one, Nat.zero_lt_succ, decide_true, decide_false, ne_eq, reduceCtorEq, condW_dec]
      refine ⟨fun hne => ?_, fun he => ?_⟩
      · have := hK _ hx3
        rw [decide_eq_false (take_ne hu hv hne)] at this
        exact this
      · rw [up1 (by omega)]
        have he : u = v := by simpa using he
        exact hL _ ⟨hx3, take_eq htk hu (by rw [he]; exact hv)⟩
    · rintro w2 g L ⟨hx2, htk⟩
      simp only [wsv, wsg, wsh, wsl, cond_true, cond_false, exists_eq_left', Option.some.injEq, Option.isSome_some, List.getElem?_toArray, List.getElem?_cons_zero, List.getElem?_cons_succ, List.length_cons, List.length_nil, List.set_cons_zero, List.set_cons_succ, List.getD_cons_zero, List.getD_cons_succ, Nat.zero_add, Nat.add_zero, Nat.reduceAdd, Nat.reduceLT, Nat.lt_add_one, Nat.zero_lt_succ, decide_true, decide_false, ne_eq, reduceCtorEq, Int.lt_irrefl]
      rw [List.take_length, hl, List.take_length] at htk
      have := hK w2 hx2
      rw [decide_eq_true htk] at this
      exact this
theorem at_ref {v : JV} {cs : List Value} {k : Str} {w : World} {K : Value → World → Prop} (h : VRep w v cs) (hK : ∀ w', Ext w w' → K (i64 (idxI v.ks k)) w') : callF Tryz.prog 21 [.agg cs.toArray, str k] w K := by
  refine W21_ok ?_
  unfold W21
  refine box_val h fun a w1 sv kv hB hx _ => ?_
  simp only [wsv, wsg, wsh, wsl, cond_true, cond_false, exists_eq_left', Option.some.injEq, Option.isSome_some, List.getElem?_toArray, List.getElem?_cons_zero, List.getElem?_cons_succ, List.length_cons, List.length_nil, List.set_cons_zero, List.set_cons_succ, List.getD_cons_zero, List.getD_cons_succ, Nat.zero_add, Nat.add_zero, Nat.reduceAdd, Nat.reduceLT, Nat.lt_add_one, Nat.zero_lt_succ, decide_true, decide_false, ne_eq, reduceCtorEq, wsh, hB.hb]
  rw [hB.lenk]
  refine loop_up v.ks.length (fun i w' => Ext w1 w' ∧ idxK (v.ks.take i) k = none) ⟨Chg.refl _ _, rfl⟩ ?_ ?_
  · rintro i w2 g L hi ⟨hx2, hno⟩ hL
    have hB := hB.ext hx2
    obtain ⟨u, hu⟩ : ∃ u, v.ks[i]? = some u := ⟨_, List.getElem?_eq_getElem hi⟩
    have hlt : ((i : Int) < (v.ks.length : Int)) := by omega
    simp only [wsv, wsg, wsh, wsl, cond_true, cond_false, exists_eq_left', Option.some.injEq, Option.isSome_some, List.getElem?_toArray, List.getElem?_cons_zero, List.getElem?_cons_succ, List.length_cons, List.length_nil, List.set_cons_zero, List.set_cons_succ, List.getD_cons_zero, List.getD_cons_succ, Nat.zero_add, Nat.add_zero, Nat.reduceAdd, Nat.reduceLT, Nat.lt_add_one, Nat.zero_lt_succ, decide_true, decide_false, ne_eq, reduceCtorEq, wsh, hB.hb, hlt]
    refine hB.key hu ?_
    simp only [wsv, wsg, wsh, wsl, cond_true, cond_false, exists_eq_left', Option.some.injEq, Option.isSome_some, List.getElem?_toArray, List.getElem?_cons_zero, List.getElem?_cons_succ, List.length_cons, List.length_nil, List.set_cons_zero, List.set_cons_succ, List.getD_cons_zero, List.getD_cons_succ, Nat.zero_add, Nat.add_zero, Nat.reduceAdd, Nat.reduceLT, Nat.lt_add_one, Nat.zero_lt_succ, decide_true, decide_false, ne_eq, reduceCtorEq, condW_dec]
    refine ⟨fun he => ?_, fun hne => ?_⟩
    · have := hK w2 (hx.trans hx2)
      rw [idxI, idxK_hit hno (by rw [hu, he])] at this
      exact this
    · rw [up1 (by have := hB.fits.2.1; omega)]
      exact hL w2 ⟨hx2, idxK_miss hno hu hne⟩
  · rintro w2 g L ⟨hx2, hno⟩
    simp only [wsv, wsg, wsh, wsl, cond_true, cond_false, exists_eq_left', Option.some.injEq, Option.isSome_some, List.getElem?_toArray, List.getElem?_cons_zero, List.getElem?_cons_succ, List.length_cons, List.length_nil, List.set_cons_zero, List.set_cons_succ, List.getD_cons_zero, List.getD_cons_succ, Nat.zero_add, Nat.add_zero, Nat.reduceAdd, Nat.reduceLT, Nat.lt_add_one, Nat.zero_lt_succ, decide_true, decide_false, ne_eq, reduceCtorEq, Int.lt_irrefl]
    rw [List.take_length] at hno
    have := hK w2 (hx.trans hx2)
    rw [idxI, hno] at this
    exact this
theorem size_ref (v : JV) : ∀ {cs : List Value} {w : World} {K : Value → World → Prop}, VRep w v cs → (∀ w', Ext w w' → K (i64 (sizeM v)) w') → callF Tryz.prog 27 [.agg cs.toArray] w K := by
  induction v using JV.ind' with
  | h v ih =>
    intro cs w K h hK
    refine W27_ok ?_
    unfold W27
    refine box_val h fun a w1 sv kv hB hx _ => ?_
    rw [sizeM_eq] at hK
    refine ⟨fun s w' => ∃ i, i ≤ v.xs.length ∧ s = [i64 (sizeLM (v.xs.take i) 1), i64 (i : Nat)] ∧ Ext w1 w', fun s _ => match s with | [_, .int _ i] => v.xs.length - i.toNat | _ => 0, ⟨0, Nat.zero_le _, rfl, Chg.refl _ _⟩, ?_⟩
    rintro s g w2 ⟨i, hi, rfl, hx2⟩
    have hB := hB.ext hx2
    simp only [wsv, wsg, wsh, wsl, cond_true, cond_false, exists_eq_left', Option.some.injEq, Option.isSome_some, List.getElem?_toArray, List.getElem?_cons_zero, List.getElem?_cons_succ, List.length_cons, List.length_nil, List.set_cons_zero, List.set_cons_succ, List.getD_cons_zero, List.getD_cons_succ, Nat.zero_add, Nat.add_zero, Nat.reduceAdd, Nat.reduceLT, Nat.lt_add_one, Nat.zero_lt_succ, decide_true, decide_false, ne_eq, reduceCtorEq, wsh, hB.hb]
    rw [hB.lenx]
    simp only [wsv, wsg, wsh, wsl, cond_true, cond_false, exists_eq_left', Option.some.injEq, Option.isSome_some, List.getElem?_toArray, List.getElem?_cons_zero, List.getElem?_cons_succ, List.length_cons, List.length_nil, List.set_cons_zero, List.set_cons_succ, List.getD_cons_zero, List.getD_cons_succ, Nat.zero_add, Nat.add_zero, Nat.reduceAdd, Nat.reduceLT, Nat.lt_add_one, Nat.zero_lt_succ, decide_true, decide_false, ne_eq, reduceCtorEq]
    intro _
    simp only [wsv, wsg, wsh, wsl, cond_true, cond_false, exists_eq_left', Option.some.injEq, Option.isSome_some, List.getElem?_toArray, List.getElem?_cons_zero, List.getElem?_cons_succ, List.length_cons, List.length_nil, List.set_cons_zero, List.set_cons_succ, List.getD_cons_zero, List.getD_cons_succ, Nat.zero_add, Nat.add_zero, Nat.reduceAdd, Nat.reduceLT, Nat.lt_add_one, Nat.zero_lt_succ, decide_true, decide_false, ne_eq, reduceCtorEq, condW_b]
    refine ⟨fun hc => ?_, fun hc => ?_⟩
    · simp only [Bool.and_eq_true, decide_eq_true_eq] at hc
      obtain ⟨x, hxi⟩ : ∃ x, v.xs[i]? = some x := ⟨_, List.getElem?_eq_getElem (by omega)⟩
      refine hB.item hxi fun cs hcs => ?_
      refine ih x (List.mem_of_getElem? hxi) hcs fun w3 hx3 => ?_
      simp only [wsv, wsg, wsh, wsl, cond_true, cond_false, exists_eq_left', Option.some.injEq, Option.isSome_some, List.getElem?_toArray, List.getElem?_cons_zero, List.getElem?_cons_succ, List.length_cons, List.length_nil, List.set_cons_zero, List.set_cons_succ, List.getD_cons_zero, List.getD_cons_succ, Nat.zero_add, Nat.add_zero, Nat.reduceAdd, Nat.reduceLT, Nat.lt_add_one, Nat.zero_lt_succ, decide_true, decide_false, ne_eq, reduceCtorEq]
      rw [up1 (by have := hB.fits.1; omega)]
      refine ⟨⟨i + 1, by omega, ?_, hx2.trans hx3⟩, by simp only [Int.toNat_natCast]; omega⟩
      have : v.xs.take (i + 1) = v.xs.take i ++ [x] := by rw [List.take_add_one, hxi]; rfl
      rw [this, sizeLM_app _ _ _ hc.2]
      simp only [sizeLM]
      rw [if_pos hc.2]
    · have := hK w2 (hx.trans hx2)
      have e : sizeLM v.xs 1 = sizeLM (v.xs.take i) 1 := by
        by_cases hb : sizeLM (v.xs.take i) 1 ≤ 2000
        · have : i = v.xs.length := by
            simp only [Bool.and_eq_false_iff, decide_eq_false_iff_not] at hc
            omega
          rw [this, List.take_length]
        · have := sizeLM_stop (v.xs.take i) (v.xs.drop i) 1 hb
          rw [List.take_append_drop] at this
          exact this
      rw [e] at this
      exact this
theorem deep_ref (v : JV) : ∀ {cs : List Value} {m : Nat} {w : World} {K : Value → World → Prop}, m ≤ 1000 → VRep w v cs → (∀ w', Ext w w' → K (.bool (deepM v m)) w') → callF Tryz.prog 41 [.agg cs.toArray, i64 (m : Nat)] w K := by
  induction v using JV.ind' with
  | h v ih =>
    intro cs m w K hm h hK
    refine W41_ok ?_
    unfold W41
    refine box_val h fun a w1 sv kv hB hx _ => ?_
    simp only [wsv, wsg, wsh, wsl, cond_true, cond_false, exists_eq_left', Option.some.injEq, Option.isSome_some, List.getElem?_toArray, List.getElem?_cons_zero, List.getElem?_cons_succ, List.length_cons, List.length_nil, List.set_cons_zero, List.set_cons_succ, List.getD_cons_zero, List.getD_cons_succ, Nat.zero_add, Nat.add_zero, Nat.reduceAdd, Nat.reduceLT, Nat.lt_add_one, Nat.zero_lt_succ, decide_true, decide_false, ne_eq, reduceCtorEq, wsh, hB.hb, condW_dec]
    refine ⟨fun h1 => ?_, fun h1 => ?_⟩
    · obtain rfl : m = 0 := by omega
      have := hK w1 hx
      rw [deepM_zero] at this
      exact this
    · obtain ⟨m, rfl⟩ : ∃ k, m = k + 1 := ⟨m - 1, by omega⟩
      rw [hB.lenx]
      rw [deepM_succ, deepL_all] at hK
      refine loop_up v.xs.length (fun i w' => Ext w1 w' ∧ (v.xs.take i).all (deepM · m) = true) ⟨Chg.refl _ _, rfl⟩ ?_ ?_
      · rintro i w2 g L hi ⟨hx2, hall⟩ hL
        have hB := hB.ext hx2
        obtain ⟨x, hxi⟩ : ∃ x, v.xs[i]? = some x := ⟨_, List.getElem?_eq_getElem hi⟩
        have hlt : ((i : Int) < (v.xs.length : Int)) := by omega
        simp only [wsv, wsg, wsh, wsl, cond_true, cond_false, exists_eq_left', Option.some.injEq, Option.isSome_some, List.getElem?_toArray, List.getElem?_cons_zero, List.getElem?_cons_succ, List.length_cons, List.length_nil, List.set_cons_zero, List.set_cons_succ, List.getD_cons_zero, List.getD_cons_succ, Nat.zero_add, Nat.add_zero, Nat.reduceAdd, Nat.reduceLT, Nat.lt_add_one, Nat.zero_lt_succ, decide_true, decide_false, ne_eq, reduceCtorEq, wsh, hB.hb, hlt]
        refine hB.item hxi fun cs hcs => ?_
        have hw : IntKind.i64.wrap (((m + 1 : Nat) : Int) - 1) = ((m : Nat) : Int) := by rw [wrap_id (by omega) (by omega)]; omega
        rw [hw]
        refine ih x (List.mem_of_getElem? hxi) (by omega) hcs fun w3 hx3 => ?_
        simp only [wsv, wsg, wsh, wsl, cond_true, cond_false, exists_eq_left', Option.some.injEq, Option.isSome_some, List.getElem?_toArray, List.getElem?_cons_zero, List.getElem?_cons_succ, List.length_cons, List.length_nil, List.set_cons_zero, List.set_cons_succ, List.getD_cons_zero, List.getD_cons_succ, Nat.zero_add, Nat.add_zero, Nat.reduceAdd, Nat.reduceLT, Nat.lt_add_one, Nat.zero_lt_succ, decide_true, decide_false, ne_eq, reduceCtorEq, condW_b]
        refine ⟨fun hf => ?_, fun ht => ?_⟩
        · have hf : deepM x m = false := by simpa using hf
          have := hK w3 (hx.trans (hx2.trans hx3))
          rw [all_no (p := (deepM · m)) hxi hf] at this
          exact this
        · have ht : deepM x m = true := by simpa using ht
          rw [up1 (by have := hB.fits.1; omega)]
          exact hL w3 ⟨hx2.trans hx3, by rw [all_take (p := (deepM · m)) hxi, hall, ht]; rfl⟩
      · rintro w2 g L ⟨hx2, hall⟩
        simp only [wsv, wsg, wsh, wsl, cond_true, cond_false, exists_eq_left', Option.some.injEq, Option.isSome_some, List.getElem?_toArray, List.getElem?_cons_zero, List.getElem?_cons_succ, List.length_cons, List.length_nil, List.set_cons_zero, List.set_cons_succ, List.getD_cons_zero, List.getD_cons_succ, Nat.zero_add, Nat.add_zero, Nat.reduceAdd, Nat.reduceLT, Nat.lt_add_one, Nat.zero_lt_succ, decide_true, decide_false, ne_eq, reduceCtorEq, Int.lt_irrefl]
        rw [List.take_length] at hall
        have := hK w2 (hx.trans hx2)
        rw [hall] at this
        exact this
end
end Go.Proofs.YtdkikjcpgihjlaaGreatDoor
namespace Go.Proofs.YtdkikjcpgihjlaaGreatDoor
open Go Go.Eng Go.Num
set_option maxRecDepth 100000
section
variable [HX]
theorem isDig_out (c : UInt8) : (decide (((c.toNat : Nat) : Int) < 48) || decide ((57 : Int) < ((c.toNat : Nat) : Int))) = !Num.isDig c := by
  unfold Num.isDig
  rcases Nat.lt_or_ge c.toNat 48 with h | h
  · rw [decide_eq_true (by omega), decide_eq_false (show ¬ 48 ≤ c.toNat by omega)]; rfl
  · rw [decide_eq_false (show ¬ ((c.toNat : Nat) : Int) < 48 by omega), decide_eq_true (show 48 ≤ c.toNat by omega)]
    rcases Nat.lt_or_ge 57 c.toNat with h2 | h2
    · rw [decide_eq_true (by omega), decide_eq_false (show ¬ c.toNat ≤ 57 by omega)]; rfl
    · rw [decide_eq_false (by omega), decide_eq_true (show c.toNat ≤ 57 by omega)]; rfl
theorem u8_is (c : UInt8) (m : Int) (d : UInt8) (hm : m = (d.toNat : Nat)) : decide (((c.toNat : Nat) : Int) = m) = (c == d) := by
  rw [Bool.eq_iff_iff, decide_eq_true_eq, beq_iff_eq, hm]
  constructor
  · intro h; exact UInt8.toNat_inj.1 (by omega)
  · intro h; rw [h]
theorem goodN_def (a : Str) : goodN a = (!decide ((dig a).length = 0) && !decide (100 < (dig a).length) && !((dig a).head? == some 48 && (decide (1 < (dig a).length) || decide (1 < a.length))) && (dig a).all Num.isDig) := by
  unfold goodN
  have key : (dig a).head? = some 48 → (decide (a = [48]) = !(decide (1 < (dig a).length) || decide (1 < a.length))) := by
    intro h
    have h1 : a = [48] ↔ ¬ (1 < (dig a).length ∨ 1 < a.length) := by
      cases a with
      | nil => simp [dig] at h
      | cons c r =>
        by_cases hc : c = 45
        · have e : dig (c :: r) = r := by simp [dig, hc]
          rw [e] at h ⊢
          cases r with
          | nil => simp at h
          | cons e r => simp
        · have e : dig (c :: r) = c :: r := by simp [dig, hc]
          rw [e] at h ⊢
          simp only [List.head?_cons, Option.some.injEq] at h
          subst h
          cases r <;> simp
    rw [← Bool.decide_or, ← decide_not]
    exact decide_eq_decide.2 h1
  have e1 : decide (1 ≤ (dig a).length) = !decide ((dig a).length = 0) := by rw [← decide_not]; exact decide_eq_decide.2 (by omega)
  have e2 : decide ((dig a).length ≤ 100) = !decide (100 < (dig a).length) := by rw [← decide_not]; exact decide_eq_decide.2 (by omega)
  rw [e1, e2]
  cases hh : ((dig a).head? == some 48) with
  | false => simp
  | true => rw [key (by simpa using hh)]; simp
theorem good01_ref {a : Str} {w : World} {K : Value → World → Prop} (ha : a.length ≤ 9223372036854775807) (hK : ∀ w', Ext w w' → K (.bool (goodN a)) w') : callF Tryz.prog 81 [str a] w K := by
  refine W81_ok ?_
  unfold W81
  refine JoinW.cut (fun s w' => s = [str (dig a)] ∧ w' = w) ?_ ?_
  · cases a with
    | nil =>
      have h0 : ¬ (0 : Int) < ((0 : Nat) : Int) := by simp
      simp only [wsv, wsg, wsh, wsl, cond_true, cond_false, exists_eq_left', Option.some.injEq, Option.isSome_some, List.getElem?_toArray, List.getElem?_cons_zero, List.getElem?_cons_succ, List.length_cons, List.length_nil, List.set_cons_zero, List.set_cons_succ, List.getD_cons_zero, List.getD_cons_succ, Nat.zero_add, Nat.add_zero, Nat.reduceAdd, Nat.reduceLT, Nat.lt_add_one, Nat.zero_lt_succ, decide_true, decide_false, ne_eq, reduceCtorEq, h0]
      intros
      (try simp only [wsv, wsg, wsh, wsl, cond_true, cond_false, exists_eq_left', Option.some.injEq, Option.isSome_some, List.getElem?_toArray, List.getElem?_cons_zero, List.getElem?_cons_succ, List.length_cons, List.length_nil, List.set_cons_zero, List.set_cons_succ, List.getD_cons_zero, List.getD_cons_succ, Nat.zero_add, Nat.add_zero, Nat.reduceAdd, Nat.reduceLT, Nat.lt_add_one, Nat.zero_lt_succ, decide_true, decide_false, ne_eq, reduceCtorEq])
      first | exact ⟨rfl, rfl⟩ | rfl
    | cons c r =>
      have h0 : (0 : Int) < ((r.length + 1 : Nat) : Int) := by omega
      simp only [wsv, wsg, wsh, wsl, cond_true, cond_false, exists_eq_left', Option.some.injEq, Option.isSome_some, List.getElem?_toArray, List.getElem?_cons_zero, List.getElem?_cons_succ, List.length_cons, List.length_nil, List.set_cons_zero, List.set_cons_succ, List.getD_cons_zero, List.getD_cons_succ, Nat.zero_add, Nat.add_zero, Nat.reduceAdd, Nat.reduceLT, Nat.lt_add_one, Nat.zero_lt_succ, decide_true, decide_false, ne_eq, reduceCtorEq, h0, Int.le_refl, Int.toNat_zero]
      intro _
      rw [u8_is c 45 45 rfl]
      simp only [wsv, wsg, wsh, wsl, cond_true, cond_false, exists_eq_left', Option.some.injEq, Option.isSome_some, List.getElem?_toArray, List.getElem?_cons_zero, List.getElem?_cons_succ, List.length_cons, List.length_nil, List.set_cons_zero, List.set_cons_succ, List.getD_cons_zero, List.getD_cons_succ, Nat.zero_add, Nat.add_zero, Nat.reduceAdd, Nat.reduceLT, Nat.lt_add_one, Nat.zero_lt_succ, decide_true, decide_false, ne_eq, reduceCtorEq, condW_b]
      refine ⟨fun h => ?_, fun h => ?_⟩
      · have e : dig (c :: r) = r := by simp [dig, (beq_iff_eq.1 h)]
        rw [e, show (1 : Int).toNat = 1 from rfl, ← List.length_cons (a := c), List.take_length]
        exact ⟨by omega, by simp only [List.length_cons]; omega, rfl⟩
      · have : c ≠ 45 := by simpa using h
        have e : dig (c :: r) = c :: r := by simp [dig, this]
        rw [e]
  · rintro s g w' ⟨rfl, rfl⟩
    have hdl : (dig a).length ≤ a.length := by
      cases a with
      | nil => simp [dig]
      | cons c r => simp only [dig]; split <;> simp
    rw [goodN_def] at hK
    cases hd : dig a with
    | nil =>
      rw [hd] at hK
      have hz : decide (((0 : Nat) : Int) = 0) = true := by decide
      simp only [wsv, wsg, wsh, wsl, cond_true, cond_false, exists_eq_left', Option.some.injEq, Option.isSome_some, List.getElem?_toArray, List.getElem?_cons_zero, List.getElem?_cons_succ, List.length_cons, List.length_nil, List.set_cons_zero, List.set_cons_succ, List.getD_cons_zero, List.getD_cons_succ, Nat.zero_add, Nat.add_zero, Nat.reduceAdd, Nat.reduceLT, Nat.lt_add_one, Nat.zero_lt_succ, decide_true, decide_false, ne_eq, reduceCtorEq, hz]
      intros
      exact hK _ (Chg.refl _ _)
    | cons c r =>
      rw [hd] at hK hdl
      have hz : decide (((r.length + 1 : Nat) : Int) = 0) = false := decide_eq_false (by omega)
      simp only [wsv, wsg, wsh, wsl, cond_true, cond_false, exists_eq_left', Option.some.injEq, Option.isSome_some, List.getElem?_toArray, List.getElem?_cons_zero, List.getElem?_cons_succ, List.length_cons, List.length_nil, List.set_cons_zero, List.set_cons_succ, List.getD_cons_zero, List.getD_cons_succ, Nat.zero_add, Nat.add_zero, Nat.reduceAdd, Nat.reduceLT, Nat.lt_add_one, Nat.zero_lt_succ, decide_true, decide_false, ne_eq, reduceCtorEq, Int.le_refl, Int.toNat_zero, u8_is c 48 48 rfl, hz, condW_b]
      intros
      have e1 : decide ((100 : Int) < ((r.length + 1 : Nat) : Int)) = decide (100 < (c :: r).length) := decide_eq_decide.2 (by simp only [List.length_cons]; omega)
      have e2 : decide ((1 : Int) < ((r.length + 1 : Nat) : Int)) = decide (1 < (c :: r).length) := decide_eq_decide.2 (by simp only [List.length_cons]; omega)
      have e3 : decide ((1 : Int) < (a.length : Int)) = decide (1 < a.length) := decide_eq_decide.2 (by omega)
      rw [e1, e2, e3]
      have e4 : decide ((c :: r).length = 0) = false := decide_eq_false (by simp)
      have e5 : ((c :: r).head? == some 48) = (c == 48) := by simp
      rw [e4, e5] at hK
      generalize decide (100 < (c :: r).length) = b1 at *
      generalize ((c == 48) && (decide (1 < (c :: r).length) || decide (1 < a.length))) = b2 at *
      refine ⟨fun h => ?_, fun h => ?_⟩
      · have := hK _ (Chg.refl _ _)
        have e : (!false && !b1 && !b2 && (c :: r).all Num.isDig) = false := by
          cases b1 <;> cases b2 <;> simp at h ⊢
        rw [e] at this
        exact this
      · have hb : b1 = false ∧ b2 = false := by simpa using h
        rw [hb.1, hb.2] at hK
        have hn : ((r.length + 1 : Nat) : Int) = (((c :: r).length : Nat) : Int) := by simp
        rw [hn]
        generalize c :: r = D at *
        refine loop_up D.length (fun i w2 => Ext w' w2 ∧ (D.take i).all Num.isDig = true) ⟨Chg.refl _ _, rfl⟩ ?_ ?_
        · rintro i w2 g L hi ⟨hx2, hall⟩ hL
          obtain ⟨e, he⟩ : ∃ e, D[i]? = some e := ⟨_, List.getElem?_eq_getElem hi⟩
          have hlt : ((i : Int) < ((D.length : Nat) : Int)) := by omega
          simp only [wsv, wsg, wsh, wsl, cond_true, cond_false, exists_eq_left', Option.some.injEq, Option.isSome_some, List.getElem?_toArray, List.getElem?_cons_zero, List.getElem?_cons_succ, List.length_cons, List.length_nil, List.set_cons_zero, List.set_cons_succ, List.getD_cons_zero, List.getD_cons_succ, Nat.zero_add, Nat.add_zero, Nat.reduceAdd, Nat.reduceLT, Nat.lt_add_one, Nat.zero_lt_succ, decide_true, decide_false, ne_eq, reduceCtorEq, hlt, Int.toNat_natCast, Int.natCast_nonneg, he, isDig_out]
          intros
          rw [condW_b]
          refine ⟨fun hf => ?_, fun ht => ?_⟩
          · have hf : Num.isDig e = false := by simpa using hf
            have := hK _ hx2
            rw [all_no he hf] at this
            exact this
          · have ht : Num.isDig e = true := by simpa using ht
            rw [up1 (by omega)]
            exact hL _ ⟨hx2, by rw [all_take he, hall, ht]; rfl⟩
        · rintro w2 g L ⟨hx2, hall⟩
          simp only [wsv, wsg, wsh, wsl, cond_true, cond_false, exists_eq_left', Option.some.injEq, Option.isSome_some, List.getElem?_toArray, List.getElem?_cons_zero, List.getElem?_cons_succ, List.length_cons, List.length_nil, List.set_cons_zero, List.set_cons_succ, List.getD_cons_zero, List.getD_cons_succ, Nat.zero_add, Nat.add_zero, Nat.reduceAdd, Nat.reduceLT, Nat.lt_add_one, Nat.zero_lt_succ, decide_true, decide_false, ne_eq, reduceCtorEq, Int.lt_irrefl]
          rw [List.take_length] at hall
          have := hK w2 hx2
          rw [hall] at this
          exact this
theorem keysOk_two {ks : List Str} {i : Nat} {a b : Str} (ha : ks[i]? = some a) (hb : ks[i + 1]? = some b) (h : Op.bytesLess a b = false) : keysOk ks = false := by
  induction ks generalizing i with
  | nil => simp at ha
  | cons x r ih =>
    cases r with
    | nil => simp at hb
    | cons y r =>
      cases i with
      | zero => simp only [List.getElem?_cons_zero, Option.some.injEq, Nat.zero_add, List.getElem?_cons_succ] at ha hb; subst ha hb; simp [keysOk, h]
      | succ i =>
        simp only [List.getElem?_cons_succ] at ha hb
        rw [keysOk, ih (by simpa using ha) (by simpa using hb)]; simp
theorem keysOk_long {ks : List Str} {i : Nat} {a : Str} (ha : ks[i]? = some a) (h : 16384 < a.length) : keysOk ks = false := by
  induction ks generalizing i with
  | nil => simp at ha
  | cons x r ih =>
    cases i with
    | zero =>
      simp only [List.getElem?_cons_zero, Option.some.injEq] at ha
      subst ha
      cases r with
      | nil => simp only [keysOk, decide_eq_false_iff_not]; omega
      | cons y r => rw [keysOk, decide_eq_false (by omega)]; rfl
    | succ i =>
      simp only [List.getElem?_cons_succ] at ha
      cases r with
      | nil => simp at ha
      | cons y r => rw [keysOk, ih ha]; simp
theorem keysOk_mk {ks : List Str} (h1 : ∀ (i : Nat) (a : Str), ks[i]? = some a → a.length ≤ 16384) (h2 : ∀ (i : Nat) (a b : Str), ks[i]? = some a → ks[i + 1]? = some b → Op.bytesLess a b = true) : keysOk ks = true := by
  induction ks with
  | nil => rfl
  | cons x r ih =>
    have := ih (fun i a h => h1 (i + 1) a (by rw [List.getElem?_cons_succ]; exact h)) (fun i a b ha hb => h2 (i + 1) a b (by rw [List.getElem?_cons_succ]; exact ha) (by rw [List.getElem?_cons_succ]; exact hb))
    cases r with
    | nil => simp only [keysOk, decide_eq_true_eq]; exact h1 0 x rfl
    | cons y r => rw [keysOk, this, h2 0 x y rfl rfl, decide_eq_true (h1 0 x rfl)]; rfl
theorem plain_ref (v : JV) : ∀ {cs : List Value} {w : World} {K : Value → World → Prop}, VRep w v cs → (∀ w', Ext w w' → K (.bool (plainM v)) w') → callF Tryz.prog 42 [.agg cs.toArray] w K := by
  induction v using JV.ind' with
  | h v ih =>
    intro cs w K h hK
    refine W42_ok ?_
    unfold W42
    refine box_val h fun a w1 sv kv hB hx _ => ?_
    rw [plainM_eq] at hK
    simp only [wsv, wsg, wsh, wsl, cond_true, cond_false, exists_eq_left', Option.some.injEq, Option.isSome_some, List.getElem?_toArray, List.getElem?_cons_zero, List.getElem?_cons_succ, List.length_cons, List.length_nil, List.set_cons_zero, List.set_cons_succ, List.getD_cons_zero, List.getD_cons_succ, Nat.zero_add, Nat.add_zero, Nat.reduceAdd, Nat.reduceLT, Nat.lt_add_one, Nat.zero_lt_succ, decide_true, decide_false, ne_eq, reduceCtorEq, wsh, hB.hb, hB.lenx, hB.lenk]
    intros
    rw [condW_b]
    refine ⟨fun hbad => ?_, fun hok => ?_⟩
    · have := hK w1 hx
      have e : headOk v.k v.b v.t v.xs.length v.ks = false := by
        cases he : headOk v.k v.b v.t v.xs.length v.ks with
        | false => rfl
        | true =>
          obtain ⟨a1, a2, a3, a4, a5, a6, _⟩ := headOk_out he
          exfalso
          simp only [Bool.or_eq_true, Bool.and_eq_true, decide_eq_true_eq] at hbad
          rcases hbad with ((((h1 | h1) | ⟨h1, h2⟩) | ⟨⟨h1, h2⟩, h3⟩) | ⟨h1, h2⟩) | ⟨h1, h2⟩
          · omega
          · omega
          · exact h2 (a3 h1)
          · rcases a4 h1 with h | h
            · exact h2 h
            · exact h3 h
          · have := a5 (by omega); omega
          · exact h1 (a6 fun e => by rw [e] at h2; simp at h2)
      rw [e] at this
      exact this
    · refine GdW.act (!goodN v.t) (fun w' => Ext w1 w') (fun _ => Chg.refl _ _) ?_ ?_
      · intro hc J hJ
        refine good01_ref hB.fits.2.2.1 fun w2 hx2 => ?_
        simp only [wsv, wsg, wsh, wsl, cond_true, cond_false, exists_eq_left', Option.some.injEq, Option.isSome_some, List.getElem?_toArray, List.getElem?_cons_zero, List.getElem?_cons_succ, List.length_cons, List.length_nil, List.set_cons_zero, List.set_cons_succ, List.getD_cons_zero, List.getD_cons_succ, Nat.zero_add, Nat.add_zero, Nat.reduceAdd, Nat.reduceLT, Nat.lt_add_one, Nat.zero_lt_succ, decide_true, decide_false, ne_eq, reduceCtorEq]
        exact hJ w2 hx2
      · intro g w2 hx2
        have hB := hB.ext hx2
        have hx := hx.trans hx2
        clear hx2
        simp only [wsv, wsg, wsh, wsl, cond_true, cond_false, exists_eq_left', Option.some.injEq, Option.isSome_some, List.getElem?_toArray, List.getElem?_cons_zero, List.getElem?_cons_succ, List.length_cons, List.length_nil, List.set_cons_zero, List.set_cons_succ, List.getD_cons_zero, List.getD_cons_succ, Nat.zero_add, Nat.add_zero, Nat.reduceAdd, Nat.reduceLT, Nat.lt_add_one, Nat.zero_lt_succ, decide_true, decide_false, ne_eq, reduceCtorEq, wsh, hB.hb, hB.lenx, hB.lenk]
        intros
        rw [condW_b]
        have hhead : headOk v.k v.b v.t v.xs.length v.ks = (!(decide (v.k = 3) && !goodN v.t || decide (v.k = 4) && decide (16384 < v.t.length) || decide (v.k = 6) && !decide (v.ks.length = v.xs.length)) && keysOk v.ks) := by
          simp only [Bool.or_eq_false_iff, Bool.and_eq_false_iff, decide_eq_false_iff_not] at hok
          obtain ⟨⟨⟨⟨⟨h1, h2⟩, h3⟩, h4⟩, h5⟩, h6⟩ := hok
          unfold headOk
          have a1 : decide (0 ≤ v.k) = true := decide_eq_true (by omega)
          have a2 : decide (v.k ≤ 6) = true := decide_eq_true (by omega)
          have a3 : (!v.b || decide (v.k = 2)) = true := by
            rcases h3 with h3 | h3
            · rw [h3]; rfl
            · rw [decide_eq_true (Decidable.not_not.1 h3)]; simp
          have a4 : (decide (v.t = []) || decide (v.k = 3) || decide (v.k = 4)) = true := by
            simp only [Bool.or_eq_true, decide_eq_true_eq]
            rcases h4 with (h4 | h4) | h4
            · exact .inl (.inl (Decidable.not_not.1 h4))
            · exact .inl (.inr (Decidable.not_not.1 h4))
            · exact .inr (Decidable.not_not.1 h4)
          have a5 : (decide (v.xs.length = 0) || decide (5 ≤ v.k)) = true := by
            simp only [Bool.or_eq_true, decide_eq_true_eq]; omega
          have a6 : (decide (v.k = 6) || decide (v.ks = [])) = true := by
            simp only [Bool.or_eq_true, decide_eq_true_eq]
            rcases h6 with h6 | h6
            · exact .inl (Decidable.not_not.1 h6)
            · exact .inr (List.eq_nil_of_length_eq_zero (by omega))
          rw [a1, a2, a3, a4, a5, a6]
          have a8 : decide (v.t.length ≤ 16384) = !decide (16384 < v.t.length) := by rw [← decide_not]; exact decide_eq_decide.2 (by omega)
          rw [a8]
          cases decide (v.k = 3) <;> cases goodN v.t <;> cases decide (v.k = 4) <;> cases decide (16384 < v.t.length) <;> cases decide (v.k = 6) <;> cases decide (v.ks.length = v.xs.length) <;> rfl
        rw [hhead] at hK
        have e1 : decide ((16384 : Int) < (v.t.length : Int)) = decide (16384 < v.t.length) := decide_eq_decide.2 (by omega)
        have e2 : decide (¬ (v.ks.length : Int) = (v.xs.length : Int)) = !decide (v.ks.length = v.xs.length) := by rw [← decide_not]; exact decide_eq_decide.2 (by omega)
        rw [e1, e2]
        generalize (decide (v.k = 3) && !goodN v.t || decide (v.k = 4) && decide (16384 < v.t.length) || decide (v.k = 6) && !decide (v.ks.length = v.xs.length)) = bb at *
        refine ⟨fun hb => ?_, fun hb => ?_⟩
        · have := hK w2 hx
          rw [hb] at this
          exact this
        · rw [hb] at hK
          refine loop_up v.ks.length (fun i w' => Ext w2 w' ∧ (∀ (j : Nat) (a : Str), j < i → v.ks[j]? = some a → a.length ≤ 16384) ∧ (∀ (j : Nat) (a b : Str), j + 1 < i → v.ks[j]? = some a → v.ks[j + 1]? = some b → Op.bytesLess a b = true)) ⟨Chg.refl _ _, (fun j a h => by omega), fun j a b h => by omega⟩ ?_ ?_
          · rintro i w3 g L hi ⟨hx3, hl, hs⟩ hL
            have hxd := hx3.trans (Chg.drew (Chg.refl (fun _ => False) w3))
            have hB := hB.ext hx3
            have hBd : ValB w3.drew a v sv kv := hB.ext (Chg.drew (Chg.refl (fun _ => False) w3))
            obtain ⟨u, hu⟩ : ∃ u, v.ks[i]? = some u := ⟨_, List.getElem?_eq_getElem hi⟩
            have hlt : ((i : Int) < (v.ks.length : Int)) := by omega
            simp only [wsv, wsg, wsh, wsl, cond_true, cond_false, exists_eq_left', Option.some.injEq, Option.isSome_some, List.getElem?_toArray, List.getElem?_cons_zero, List.getElem?_cons_succ, List.length_cons, List.length_nil, List.set_cons_zero, List.set_cons_succ, List.getD_cons_zero, List.getD_cons_succ, Nat.zero_add, Nat.add_zero, Nat.reduceAdd, Nat.reduceLT, Nat.lt_add_one, Nat.zero_lt_succ, decide_true, decide_false, ne_eq, reduceCtorEq, wsh, hB.hb, hlt]
            refine hBd.key hu ?_
            have hfin : keysOk v.ks = false → K (.bool false) w3.drew := fun hf => by
              have := hK _ (hx.trans hxd)
              rw [hf] at this
              exact this
            have hnext : u.length ≤ 16384 → (∀ x, 0 < i → v.ks[i - 1]? = some x → Op.bytesLess x u = true) → L [i64 ((i + 1 : Nat) : Int)] w3.drew := fun h1 h2 => by
              refine hL _ ⟨hxd, fun j a hj ha => ?_, fun j a b hj ha hb => ?_⟩
              · rcases Nat.lt_or_ge j i with h | h
                · exact hl j a h ha
                · obtain rfl : j = i := by omega
                  rw [hu] at ha; cases ha; exact h1
              · rcases Nat.lt_or_ge (j + 1) i with h | h
                · exact hs j a b h ha hb
                · obtain rfl : i = j + 1 := by omega
                  rw [hu] at hb; cases hb
                  exact h2 a (by omega) (by simpa using ha)
            by_cases hlong : 16384 < u.length
            · have e : decide ((16384 : Int) < (u.length : Int)) = true := decide_eq_true (by omega)
              simp only [wsv, wsg, wsh, wsl, cond_true, cond_false, exists_eq_left', Option.some.injEq, Option.isSome_some, List.getElem?_toArray, List.getElem?_cons_zero, List.getElem?_cons_succ, List.length_cons, List.length_nil, List.set_cons_zero, List.set_cons_succ, List.getD_cons_zero, List.getD_cons_succ, Nat.zero_add, Nat.add_zero, Nat.reduceAdd, Nat.reduceLT, Nat.lt_add_one, Nat.zero_lt_succ, decide_true, decide_false, ne_eq, reduceCtorEq, e]
              exact hfin (keysOk_long hu hlong)
            · have e : decide ((16384 : Int) < (u.length : Int)) = false := decide_eq_false (by omega)
              by_cases h0 : i = 0
              · subst h0
                have e0 : decide ((0 : Int) < ((0 : Nat) : Int)) = false := by decide
                simp only [wsv, wsg, wsh, wsl, cond_true, cond_false, exists_eq_left', Option.some.injEq, Option.isSome_some, List.getElem?_toArray, List.getElem?_cons_zero, List.getElem?_cons_succ, List.length_cons, List.length_nil, List.set_cons_zero, List.set_cons_succ, List.getD_cons_zero, List.getD_cons_succ, Nat.zero_add, Nat.add_zero, Nat.reduceAdd, Nat.reduceLT, Nat.lt_add_one, Nat.zero_lt_succ, decide_true, decide_false, ne_eq, reduceCtorEq, e, e0]
                rw [up1 (by omega)]
                exact hnext (by omega) fun x h => by omega
              · obtain ⟨j, rfl⟩ : ∃ j, i = j + 1 := ⟨i - 1, by omega⟩
                obtain ⟨x, hxj⟩ : ∃ x, v.ks[j]? = some x := ⟨_, List.getElem?_eq_getElem (by omega)⟩
                have e0 : decide ((0 : Int) < ((j + 1 : Nat) : Int)) = true := decide_eq_true (by omega)
                have hw : IntKind.i64.wrap (((j + 1 : Nat) : Int) - 1) = ((j : Nat) : Int) := by rw [wrap_id (by have := hB.fits.2.1; omega) (by have := hB.fits.2.1; omega)]; omega
                obtain ⟨T, hks⟩ := hBd.keys
                obtain ⟨b, o, c, fr, p, hp, hb, hg⟩ : ∃ b o c fr p, kv = .slice (some ⟨b, o, none⟩) v.ks.length p ∧ w3.heap[b]? = some (.cells c T fr) ∧ ∀ m y, v.ks[m]? = some y → c[o + m]? = some (str y) := by
                  obtain ⟨p, cap, rfl, _, _, h3⟩ := hks
                  obtain ⟨b, off, c, fr, rfl, hb, hcs⟩ := h3 (fun e => by
                    have : v.ks = [] := by simpa using e
                    rw [this] at hi; simp at hi)
                  refine ⟨b, off, c, fr, cap, rfl, hb, fun m y hy => ?_⟩
                  rw [hcs m (by simpa using (List.getElem?_eq_some_iff.1 hy).1)]
                  simp [hy]
                subst hp
                have c1 := hg j x hxj
                have c2 := hg (j + 1) u hu
                have d1 : ((j : Nat) : Int) < (v.ks.length : Int) := by omega
                have d2 : ((j + 1 : Nat) : Int) < (v.ks.length : Int) := by omega
                simp only [wsv, wsg, wsh, wsl, cond_true, cond_false, exists_eq_left', Option.some.injEq, Option.isSome_some, List.getElem?_toArray, List.getElem?_cons_zero, List.getElem?_cons_succ, List.length_cons, List.length_nil, List.set_cons_zero, List.set_cons_succ, List.getD_cons_zero, List.getD_cons_succ, Nat.zero_add, Nat.add_zero, Nat.reduceAdd, Nat.reduceLT, Nat.lt_add_one, Nat.zero_lt_succ, decide_true, decide_false, ne_eq, reduceCtorEq, wsh, e, e0, hw, hB.hb, hb, Int.toNat_natCast, Int.natCast_nonneg, d1, d2, Nat.mul_one, c1, c2, condW_b]
                refine ⟨fun hge => ?_, fun hlt2 => ?_⟩
                · exact hfin (keysOk_two hxj hu (by simpa using hge))
                · rw [up1 (by have := hB.fits.2.1; omega)]
                  exact hnext (by omega) fun y _ hy => by
                    have : v.ks[j]? = some y := by simpa using hy
                    rw [hxj] at this; cases this
                    simpa using hlt2
          · rintro w3 g L ⟨hx3, hl, hs⟩
            have hB := hB.ext hx3
            have hkeys : keysOk v.ks = true := keysOk_mk (fun i a h => hl i a (List.getElem?_eq_some_iff.1 h).1 h) (fun i a b h1 h2 => hs i a b (List.getElem?_eq_some_iff.1 h2).1 h1 h2)
            rw [hkeys, plainL_all] at hK
            simp only [wsv, wsg, wsh, wsl, cond_true, cond_false, exists_eq_left', Option.some.injEq, Option.isSome_some, List.getElem?_toArray, List.getElem?_cons_zero, List.getElem?_cons_succ, List.length_cons, List.length_nil, List.set_cons_zero, List.set_cons_succ, List.getD_cons_zero, List.getD_cons_succ, Nat.zero_add, Nat.add_zero, Nat.reduceAdd, Nat.reduceLT, Nat.lt_add_one, Nat.zero_lt_succ, decide_true, decide_false, ne_eq, reduceCtorEq, Int.lt_irrefl, wsh, hB.hb]
            rw [hB.lenx]
            refine loop_up v.xs.length (fun i w' => Ext w3 w' ∧ (v.xs.take i).all plainM = true) ⟨Chg.refl _ _, rfl⟩ ?_ ?_
            · rintro i w4 g L hi ⟨hx4, hall⟩ hL
              have hB := hB.ext hx4
              obtain ⟨x, hxi⟩ : ∃ x, v.xs[i]? = some x := ⟨_, List.getElem?_eq_getElem hi⟩
              have hlt : ((i : Int) < (v.xs.length : Int)) := by omega
              simp only [wsv, wsg, wsh, wsl, cond_true, cond_false, exists_eq_left', Option.some.injEq, Option.isSome_some, List.getElem?_toArray, List.getElem?_cons_zero, List.getElem?_cons_succ, List.length_cons, List.length_nil, List.set_cons_zero, List.set_cons_succ, List.getD_cons_zero, List.getD_cons_succ, Nat.zero_add, Nat.add_zero, Nat.reduceAdd, Nat.reduceLT, Nat.lt_add_one, Nat.zero_lt_succ, decide_true, decide_false, ne_eq, reduceCtorEq, wsh, hB.hb, hlt]
              refine hB.item hxi fun cs hcs => ?_
              refine ih x (List.mem_of_getElem? hxi) hcs fun w5 hx5 => ?_
              simp only [wsv, wsg, wsh, wsl, cond_true, cond_false, exists_eq_left', Option.some.injEq, Option.isSome_some, List.getElem?_toArray, List.getElem?_cons_zero, List.getElem?_cons_succ, List.length_cons, List.length_nil, List.set_cons_zero, List.set_cons_succ, List.getD_cons_zero, List.getD_cons_succ, Nat.zero_add, Nat.add_zero, Nat.reduceAdd, Nat.reduceLT, Nat.lt_add_one, Nat.zero_lt_succ, decide_true, decide_false, ne_eq, reduceCtorEq, condW_b]
              refine ⟨fun hf => ?_, fun ht => ?_⟩
              · have hf : plainM x = false := by simpa using hf
                have := hK w5 (hx.trans (hx3.trans (hx4.trans hx5)))
                rw [all_no hxi hf] at this
                exact this
              · have ht : plainM x = true := by simpa using ht
                rw [up1 (by have := hB.fits.1; omega)]
                exact hL w5 ⟨hx4.trans hx5, by rw [all_take hxi, hall, ht]; rfl⟩
            · rintro w4 g L ⟨hx4, hall⟩
              simp only [wsv, wsg, wsh, wsl, cond_true, cond_false, exists_eq_left', Option.some.injEq, Option.isSome_some, List.getElem?_toArray, List.getElem?_cons_zero, List.getElem?_cons_succ, List.length_cons, List.length_nil, List.set_cons_zero, List.set_cons_succ, List.getD_cons_zero, List.getD_cons_succ, Nat.zero_add, Nat.add_zero, Nat.reduceAdd, Nat.reduceLT, Nat.lt_add_one, Nat.zero_lt_succ, decide_true, decide_false, ne_eq, reduceCtorEq, Int.lt_irrefl]
              rw [List.take_length] at hall
              have := hK w4 (hx.trans (hx3.trans hx4))
              rw [hall] at this
              exact this
theorem good_ref {v : JV} {cs : List Value} {w : World} {K : Value → World → Prop} (h : VRep w v cs) (hK : ∀ w', Ext w w' → K (.bool (goodM v)) w') : callF Tryz.prog 20 [.agg cs.toArray] w K := by
  refine W20_ok ?_
  unfold W20
  refine box_val h fun a w1 sv kv hB hx _ => ?_
  refine hB.ld fun cs1 h1 => ?_
  refine size_ref v h1 fun w2 hx2 => ?_
  have hB := hB.ext hx2
  have hx := hx.trans hx2
  simp only [wsv, wsg, wsh, wsl, cond_true, cond_false, exists_eq_left', Option.some.injEq, Option.isSome_some, List.getElem?_toArray, List.getElem?_cons_zero, List.getElem?_cons_succ, List.length_cons, List.length_nil, List.set_cons_zero, List.set_cons_succ, List.getD_cons_zero, List.getD_cons_succ, Nat.zero_add, Nat.add_zero, Nat.reduceAdd, Nat.reduceLT, Nat.lt_add_one, Nat.zero_lt_succ, decide_true, decide_false, ne_eq, reduceCtorEq]
  refine GdW.act (deepM v 24) (fun w' => Ext w2 w') (fun _ => Chg.refl _ _) ?_ ?_
  · intro hc J hJ
    refine hB.ld fun cs2 h2 => ?_
    exact deep_ref v (m := 24) (by omega) h2 hJ
  intro g w3 hx3
  have hB := hB.ext hx3
  have hx := hx.trans hx3
  simp only [wsv, wsg, wsh, wsl, cond_true, cond_false, exists_eq_left', Option.some.injEq, Option.isSome_some, List.getElem?_toArray, List.getElem?_cons_zero, List.getElem?_cons_succ, List.length_cons, List.length_nil, List.set_cons_zero, List.set_cons_succ, List.getD_cons_zero, List.getD_cons_succ, Nat.zero_add, Nat.add_zero, Nat.reduceAdd, Nat.reduceLT, Nat.lt_add_one, Nat.zero_lt_succ, decide_true, decide_false, ne_eq, reduceCtorEq]
  refine GdW.act (plainM v) (fun w' => Ext w3 w') (fun _ => Chg.refl _ _) ?_ ?_
  · intro hc J hJ
    refine hB.ld fun cs2 h2 => ?_
    exact plain_ref v h2 hJ
  intro g w4 hx4
  have := hK w4 (hx.trans hx4)
  simp only [wsv, wsg, wsh, wsl, cond_true, cond_false, exists_eq_left', Option.some.injEq, Option.isSome_some, List.getElem?_toArray, List.getElem?_cons_zero, List.getElem?_cons_succ, List.length_cons, List.length_nil, List.set_cons_zero, List.set_cons_succ, List.getD_cons_zero, List.getD_cons_succ, Nat.zero_add, Nat.add_zero, Nat.reduceAdd, Nat.reduceLT, Nat.lt_add_one, Nat.zero_lt_succ, decide_true, decide_false, ne_eq, reduceCtorEq]
  exact this
theorem same_ref (a : JV) : ∀ {b : JV} {cs ds : List Value} {w : World} {K : Value → World → Prop}, VRep w a cs → VRep w b ds → (∀ w', Ext w w' → K (.bool (sameM a b)) w') → callF Tryz.prog 13 [.agg cs.toArray, .agg ds.toArray] w K := by
  induction a using JV.ind' with
  | h v ih =>
    intro b cs ds w K h h' hK
    refine W13_ok ?_
    unfold W13
    refine box_val h fun x w1 sv kv hB hx _ => ?_
    refine box_val (h'.ext hx) fun y w2 sv' kv' hC hx2 _ => ?_
    have hB := hB.ext hx2
    have hx := hx.trans hx2
    clear hx2
    rw [sameM_eq] at hK
    simp only [wsv, wsg, wsh, wsl, cond_true, cond_false, exists_eq_left', Option.some.injEq, Option.isSome_some, List.getElem?_toArray, List.getElem?_cons_zero, List.getElem?_cons_succ, List.length_cons, List.length_nil, List.set_cons_zero, List.set_cons_succ, List.getD_cons_zero, List.getD_cons_succ, Nat.zero_add, Nat.add_zero, Nat.reduceAdd, Nat.reduceLT, Nat.lt_add_one, Nat.zero_lt_succ, decide_true, decide_false, ne_eq, reduceCtorEq, wsh, hB.hb, hC.hb, eq_bb, ne_bb]
    intros
    refine GdW.act (!decide (v.ks = b.ks)) (fun w' => Ext w2 w') (fun _ => Chg.refl _ _) ?_ ?_
    · intro hc J hJ
      obtain ⟨T1, k1⟩ := hB.keys
      obtain ⟨T2, k2⟩ := hC.keys
      refine texts_ref k1 k2 hB.fits.2.1 fun w3 hx3 => ?_
      simp only [wsv, wsg, wsh, wsl, cond_true, cond_false, exists_eq_left', Option.some.injEq, Option.isSome_some, List.getElem?_toArray, List.getElem?_cons_zero, List.getElem?_cons_succ, List.length_cons, List.length_nil, List.set_cons_zero, List.set_cons_succ, List.getD_cons_zero, List.getD_cons_succ, Nat.zero_add, Nat.add_zero, Nat.reduceAdd, Nat.reduceLT, Nat.lt_add_one, Nat.zero_lt_succ, decide_true, decide_false, ne_eq, reduceCtorEq]
      exact hJ w3 hx3
    intro g w3 hx3
    have hB := hB.ext hx3
    have hC := hC.ext hx3
    have hx := hx.trans hx3
    clear hx3
    simp only [wsv, wsg, wsh, wsl, cond_true, cond_false, exists_eq_left', Option.some.injEq, Option.isSome_some, List.getElem?_toArray, List.getElem?_cons_zero, List.getElem?_cons_succ, List.length_cons, List.length_nil, List.set_cons_zero, List.set_cons_succ, List.getD_cons_zero, List.getD_cons_succ, Nat.zero_add, Nat.add_zero, Nat.reduceAdd, Nat.reduceLT, Nat.lt_add_one, Nat.zero_lt_succ, decide_true, decide_false, ne_eq, reduceCtorEq, wsh, hB.hb, hC.hb, hB.lenx, hC.lenx]
    intros
    have e1 : (!v.b == b.b) = !decide (v.b = b.b) := by cases v.b <;> cases b.b <;> rfl
    have e2 : decide (¬ (v.xs.length : Int) = (b.xs.length : Int)) = !decide (v.xs.length = b.xs.length) := by rw [← decide_not]; exact decide_eq_decide.2 (by omega)
    rw [e2]
    simp only [decide_not]
    have hsl : v.xs.length ≠ b.xs.length → sameL v.xs b.xs = false := sameL_len
    by_cases hl : v.xs.length = b.xs.length
    · rw [decide_eq_true hl, condW_b]
      refine ⟨fun hne => ?_, fun heq => ?_⟩
      · have := hK w3 hx
        have e : (decide (v.k = b.k) && decide (v.b = b.b) && decide (v.t = b.t) && decide (v.ks = b.ks) && sameL v.xs b.xs) = false := by
          have e1 : (v.b == b.b) = decide (v.b = b.b) := by cases v.b <;> cases b.b <;> rfl
          rw [e1] at hne
          revert hne
          cases decide (v.k = b.k) <;> cases decide (v.b = b.b) <;> cases decide (v.t = b.t) <;> cases decide (v.ks = b.ks) <;> simp
        rw [e] at this
        exact this
      · have e : (decide (v.k = b.k) && decide (v.b = b.b) && decide (v.t = b.t) && decide (v.ks = b.ks)) = true := by
          have e1 : (v.b == b.b) = decide (v.b = b.b) := by cases v.b <;> cases b.b <;> rfl
          rw [e1] at heq
          revert heq
          cases decide (v.k = b.k) <;> cases decide (v.b = b.b) <;> cases decide (v.t = b.t) <;> cases decide (v.ks = b.ks) <;> simp
        rw [e] at hK
        refine loop_up v.xs.length (fun i w' => Ext w3 w' ∧ v.xs.take i = b.xs.take i) ⟨Chg.refl _ _, rfl⟩ ?_ ?_
        · rintro i w4 g L hi ⟨hx4, hall⟩ hL
          have hxd : Ext w3 w4.drew := hx4.trans (Chg.drew (Chg.refl (fun _ => False) w4))
          have hB4 := hB.ext hx4
          have hC4 := hC.ext hx4
          have hB := hB.ext hxd
          have hC := hC.ext hxd
          obtain ⟨p, hp⟩ : ∃ p, v.xs[i]? = some p := ⟨_, List.getElem?_eq_getElem hi⟩
          obtain ⟨q, hq⟩ : ∃ q, b.xs[i]? = some q := ⟨_, List.getElem?_eq_getElem (by omega)⟩
          have hlt : ((i : Int) < (v.xs.length : Int)) := by omega
          simp only [wsv, wsg, wsh, wsl, cond_true, cond_false, exists_eq_left', Option.some.injEq, Option.isSome_some, List.getElem?_toArray, List.getElem?_cons_zero, List.getElem?_cons_succ, List.length_cons, List.length_nil, List.set_cons_zero, List.set_cons_succ, List.getD_cons_zero, List.getD_cons_succ, Nat.zero_add, Nat.add_zero, Nat.reduceAdd, Nat.reduceLT, Nat.lt_add_one, Nat.zero_lt_succ, decide_true, decide_false, ne_eq, reduceCtorEq, wsh, hB4.hb, hC4.hb, hlt]
          refine hB.item hp fun cs1 h1 => ?_
          refine hC.item hq fun cs2 h2 => ?_
          refine ih p (List.mem_of_getElem? hp) h1 h2 fun w5 hx5 => ?_
          simp only [wsv, wsg, wsh, wsl, cond_true, cond_false, exists_eq_left', Option.some.injEq, Option.isSome_some, List.getElem?_toArray, List.getElem?_cons_zero, List.getElem?_cons_succ, List.length_cons, List.length_nil, List.set_cons_zero, List.set_cons_succ, List.getD_cons_zero, List.getD_cons_succ, Nat.zero_add, Nat.add_zero, Nat.reduceAdd, Nat.reduceLT, Nat.lt_add_one, Nat.zero_lt_succ, decide_true, decide_false, ne_eq, reduceCtorEq, condW_b]
          refine ⟨fun hf => ?_, fun ht => ?_⟩
          · have hf : sameM p q = false := by simpa using hf
            have := hK w5 (hx.trans (hxd.trans hx5))
            rw [sameL_take hl hp hq hf] at this
            exact this
          · have ht : sameM p q = true := by simpa using ht
            have := (same_iff p q).1 ht
            subst this
            rw [up1 (by have := hB.fits.1; omega)]
            exact hL w5 ⟨hxd.trans hx5, take_eq hall hp hq⟩
        · rintro w4 g L ⟨hx4, hall⟩
          simp only [wsv, wsg, wsh, wsl, cond_true, cond_false, exists_eq_left', Option.some.injEq, Option.isSome_some, List.getElem?_toArray, List.getElem?_cons_zero, List.getElem?_cons_succ, List.length_cons, List.length_nil, List.set_cons_zero, List.set_cons_succ, List.getD_cons_zero, List.getD_cons_succ, Nat.zero_add, Nat.add_zero, Nat.reduceAdd, Nat.reduceLT, Nat.lt_add_one, Nat.zero_lt_succ, decide_true, decide_false, ne_eq, reduceCtorEq, Int.lt_irrefl]
          rw [List.take_length, hl, List.take_length] at hall
          have := hK w4 (hx.trans hx4)
          rw [(sameL_iff _ _).2 hall] at this
          exact this
    · rw [decide_eq_false hl, Bool.not_false, Bool.or_true, condW_true]
      have := hK w3 hx
      rw [hsl hl, Bool.and_false] at this
      exact this
end
end Go.Proofs.YtdkikjcpgihjlaaGreatDoor
namespace Go.Proofs.YtdkikjcpgihjlaaGreatDoor
open Go Go.Eng Go.Num
set_option maxRecDepth 100000
abbrev ST : TypeId := 9
theorem elem_s : ElemT Tryz.prog 26 ST 1 16 := ⟨by kernel_rfl, by kernel_rfl, by decide⟩
theorem elem_v : ElemT Tryz.prog 22 VT 5 80 := ⟨by kernel_rfl, by kernel_rfl, by decide⟩
abbrev zv : List Value := [i64 0, .bool false, str [], .slice none 0 0, .slice none 0 0]
abbrev ptr (b : Nat) : Value := .pointer (some ⟨b, 0, none⟩)
structure Grow (w0 w : World) (b base : Nat) (sv0 kv0 sv kv : Value) (xs : List JV) (ks : List Str) : Prop where
  ext : Ext w0 w
  hb : w.heap[b]? = some (.cells [i64 6, .bool false, str [], sv0, kv0].toArray VT (0, 0))
  low : w0.heap.size ≤ b
  lt : b < base
  le : base ≤ w.heap.size
  items : ∃ L, Own w base VT 5 sv xs.length L ∧ VReps w0 xs L
  keys : Own w base ST 1 kv ks.length (ks.map str)
theorem Grow.more {w0 w w' : World} {b base : Nat} {sv0 kv0 sv kv : Value} {xs : List JV} {ks : List Str} (h : Grow w0 w b base sv0 kv0 sv kv xs ks) (hx : Ext w w') : Grow w0 w' b base sv0 kv0 sv kv xs ks :=
  ⟨h.ext.trans hx, hx.at h.hb id, h.low, h.lt, Nat.le_trans h.le hx.size, let ⟨L, h1, h2⟩ := h.items; ⟨L, h1.ext hx, h2⟩, h.keys.ext hx⟩
theorem Grow.chg {w0 w w' : World} {b b' base : Nat} {sv0 kv0 sv kv : Value} {xs : List JV} {ks : List Str} (h : Grow w0 w b base sv0 kv0 sv kv xs ks) (hc : Chg (fun k => k = b') w w') (h1 : b' ≠ b) (h2 : b' < base) (h3 : w0.heap.size ≤ b') : Grow w0 w' b base sv0 kv0 sv kv xs ks :=
  ⟨h.ext.new hc h3, hc.at h.hb (fun e => h1 e.symm), h.low, h.lt, Nat.le_trans h.le hc.size, let ⟨L, g1, g2⟩ := h.items; ⟨L, g1.chg hc fun k hk e => by have := hk.1; omega, g2⟩, h.keys.chg hc fun k hk e => by have := hk.1; omega⟩
theorem own_ge {w : World} {base : Nat} {e : TypeId} {size : Nat} {v : Value} {n : Nat} {xs : List Value} (h : Own w base e size v n xs) {k : Nat} (hk : v.ownBlock = some k) : base ≤ k ∧ ∃ c, w.heap[k]? = some (.cells c e (0, 0)) := h.block k hk
theorem Grow.appk {w0 w : World} {b base : Nat} {sv0 kv0 sv kv t : Value} {xs : List JV} {ks : List Str} {x : Str} {T : TypeId} {K : Value → World → Prop} (h : Grow w0 w b base sv0 kv0 sv kv xs ks) (ht : SlAt w T t 1 [str x]) (hl : ks.length ≤ 1000000)
    (hK : ∀ kv' w', Grow w0 w' b base sv0 kv0 sv kv' xs (ks ++ [x]) → Chg (fun k => base ≤ k) w w' → K kv' w') : semE Tryz.prog (Builtin.append_ #[26, 26] 26 #[kv, t]) w K := by
  refine append_own2 elem_s h.keys ht (m := 1) rfl (fun u hu => by simp only [List.mem_singleton] at hu; subst hu; rfl) (by omega) (by omega) h.le fun v' w' h' hc _ => ?_
  refine hK v' w' ⟨h.ext.then hc fun k hk e => ?_, hc.at h.hb fun e => ?_, h.low, h.lt, Nat.le_trans h.le hc.size, ?_, by simpa using h'⟩ (hc.mono fun k _ e => (own_ge h.keys e).1)
  · have := (own_ge h.keys e).1; have := h.low; have := h.lt; omega
  · have := (own_ge h.keys e).1; have := h.lt; omega
  · obtain ⟨L, h1, h2⟩ := h.items
    refine ⟨L, h1.chg hc fun k hk e => ?_, h2⟩
    obtain ⟨_, c, hc1⟩ := hk
    obtain ⟨_, c', hc2⟩ := own_ge h.keys e
    rw [hc1] at hc2; cases hc2
theorem Grow.appx {w0 w : World} {b base : Nat} {sv0 kv0 sv kv t : Value} {xs : List JV} {ks : List Str} {x : JV} {cs : List Value} {T : TypeId} {K : Value → World → Prop} (h : Grow w0 w b base sv0 kv0 sv kv xs ks) (ht : SlAt w T t 1 cs) (hx : VRep w0 x cs) (hl : xs.length ≤ 1000000)
    (hK : ∀ sv' w', Grow w0 w' b base sv0 kv0 sv' kv (xs ++ [x]) ks → Chg (fun k => base ≤ k) w w' → K sv' w') : semE Tryz.prog (Builtin.append_ #[22, 22] 22 #[sv, t]) w K := by
  obtain ⟨L, h1, h2⟩ := h.items
  refine append_own2 elem_v h1 ht (m := 1) (by rw [hx.len]) hx.one (by omega) (by omega) h.le fun v' w' h' hc _ => ?_
  refine hK v' w' ⟨h.ext.then hc fun k hk e => ?_, hc.at h.hb fun e => ?_, h.low, h.lt, Nat.le_trans h.le hc.size, ⟨L ++ cs, by simpa using h', h2.snoc hx⟩, h.keys.chg hc fun k hk e => ?_⟩ (hc.mono fun k _ e => (own_ge h1 e).1)
  · have := (own_ge h1 e).1; have := h.low; have := h.lt; omega
  · have := (own_ge h1 e).1; have := h.lt; omega
  · obtain ⟨_, c, hc1⟩ := hk
    obtain ⟨_, c', hc2⟩ := own_ge h1 e
    rw [hc1] at hc2; cases hc2
theorem Grow.set {w0 w : World} {b base off : Nat} {sv0 kv0 sv kv v sv1 kv1 : Value} {xs : List JV} {ks : List Str} {K : World → Prop} (h : Grow w0 w b base sv0 kv0 sv kv xs ks) (h1 : one1 v = true) (ho : off < 5)
    (he : ([i64 6, .bool false, str [], sv0, kv0] : List Value).set off v = [i64 6, .bool false, str [], sv1, kv1]) (hK : ∀ w', Grow w0 w' b base sv1 kv1 sv kv xs ks → Chg (fun k => k = b) w w' → K w') : stW 1 (.pointer (some ⟨b, off, none⟩)) v w K := by
  refine st_at h.hb h1 (by simpa using ho) fun w' hz hb' hc => ?_
  refine hK w' ⟨h.ext.new hc h.low, ?_, h.low, h.lt, by rw [hz]; exact h.le, ?_, h.keys.chg hc fun k hk e => ?_⟩ hc
  · rw [hb', ← he]; simp
  · obtain ⟨L, h1, h2⟩ := h.items
    exact ⟨L, h1.chg hc fun k hk e => by have := hk.1; have := h.lt; omega, h2⟩
  · have := hk.1; have := h.lt; omega
theorem Grow.one {w0 w : World} {b base : Nat} {sv0 kv0 sv kv : Value} {xs : List JV} {ks : List Str} (h : Grow w0 w b base sv0 kv0 sv kv xs ks) : one1 sv = true ∧ one1 kv = true := by
  obtain ⟨L, h1, _⟩ := h.items
  obtain ⟨p, c, rfl, _⟩ := h1.sl.shape
  obtain ⟨p', c', rfl, _⟩ := h.keys.sl.shape
  exact ⟨rfl, rfl⟩
abbrev Low (g base : Nat) (w w' : World) : Prop := Chg (fun k => k = g ∨ base ≤ k) w w'
theorem low_ext {g base : Nat} {w w1 w2 : World} (h1 : Low g base w w1) (h2 : Ext w1 w2) : Low g base w w2 := h1.trans (Chg.of_ext h2)
theorem low_step {g base : Nat} {w w1 w2 : World} (h1 : Low g base w w1) (h2 : Chg (fun k => base ≤ k) w1 w2) : Low g base w w2 := h1.trans (h2.mono fun k _ e => .inr e)
theorem low_set {g base : Nat} {w w1 w2 : World} (h1 : Low g base w w1) (h2 : Chg (fun k => k = g) w1 w2) : Low g base w w2 := h1.trans (h2.mono fun k _ e => .inl e)
theorem low_get {g base : Nat} {w w1 : World} (h1 : Low g base w w1) {j : Nat} (hj : j < base) (hg : j ≠ g) {o : Obj} (h : w.heap[j]? = some o) : w1.heap[j]? = some o := h1.at h (by omega)
theorem low_new {g base : Nat} {w w1 w2 : World} (h1 : Ext w w1) (hg : w.heap.size ≤ g) (hb : w.heap.size ≤ base) (h2 : Low g base w1 w2) : Ext w w2 := h1.then h2 fun k hk e => by omega
structure OwnV (w0 w : World) (base : Nat) (v : JV) (sv kv : Value) : Prop where
  items : ∃ L, Own w base VT 5 sv v.xs.length L ∧ VReps w0 v.xs L
  keys : Own w base ST 1 kv v.ks.length (v.ks.map str)
  fits : Fits v.xs.length v.ks v.t
theorem OwnV.chg {w0 w w' : World} {base : Nat} {v : JV} {sv kv : Value} {S : Nat → Prop} (h : OwnV w0 w base v sv kv) (hc : Chg S w w') (hS : ∀ k, base ≤ k → k < w.heap.size → ¬ S k) : OwnV w0 w' base v sv kv :=
  ⟨let ⟨L, h1, h2⟩ := h.items; ⟨L, h1.chg hc fun k hk => hS k hk.1 (by obtain ⟨_, c, hk⟩ := hk; exact at_lt hk), h2⟩, h.keys.chg hc fun k hk => hS k hk.1 (by obtain ⟨_, c, hk⟩ := hk; exact at_lt hk), h.fits⟩
theorem OwnV.one {w0 w : World} {base : Nat} {v : JV} {sv kv : Value} (h : OwnV w0 w base v sv kv) : one1 sv = true ∧ one1 kv = true := by
  obtain ⟨L, h1, _⟩ := h.items
  obtain ⟨p, c, rfl, _⟩ := h1.sl.shape
  obtain ⟨p', c', rfl, _⟩ := h.keys.sl.shape
  exact ⟨rfl, rfl⟩
theorem OwnV.val {w0 w : World} {base : Nat} {v : JV} {sv kv : Value} (h : OwnV w0 w base v sv kv) : VRepS w0 w v [i64 v.k, .bool v.b, str v.t, sv, kv] := by
  obtain ⟨L, h1, h2⟩ := h.items
  exact ⟨sv, kv, VT, ST, L, rfl, h1.sl, h2, h.keys.sl, h.fits⟩
theorem Grow.own {w0 w : World} {b base : Nat} {sv kv : Value} {l : List (Str × JV)} (h : Grow w0 w b base sv kv sv kv (l.map (·.2)) (l.map (·.1))) (hl : l.length ≤ 1000000) (hk : ∀ p ∈ l, p.1.length ≤ 9223372036854775807) : OwnV w0 w base (mkO l) sv kv := by
  refine ⟨h.items, h.keys, ?_, ?_, ?_, ?_⟩
  · simp only [mkO, JV.xs, List.length_map]; omega
  · simp only [mkO, JV.ks, List.length_map]; omega
  · simp [mkO, JV.t]
  · intro s hs
    simp only [mkO, JV.ks, List.mem_map] at hs
    obtain ⟨p, hp, rfl⟩ := hs
    exact hk p hp
theorem Grow.rebase {w0 w : World} {b base base' : Nat} (h : Grow w0 w b base (.slice none 0 0) (.slice none 0 0) (.slice none 0 0) (.slice none 0 0) [] []) (h1 : b < base') (h2 : base' ≤ w.heap.size) : Grow w0 w b base' (.slice none 0 0) (.slice none 0 0) (.slice none 0 0) (.slice none 0 0) [] [] :=
  ⟨h.ext, h.hb, h.low, h1, h2, ⟨[], ⟨rfl, .inl ⟨rfl, rfl⟩⟩, by simp [VReps]⟩, ⟨rfl, .inl ⟨rfl, rfl⟩⟩⟩
theorem row_s {w : World} {x : Str} {K : Value → World → Prop} (hK : ∀ t w', SlAt w' ST t 1 [str x] → Ext w w' → K t w') : bslW ST 1 [.string (ofL [])] [(0, 1, str x)] w K := by
  unfold bslW
  simp only [wsv, wsg, wsh, wsl, cond_true, cond_false, exists_eq_left', Option.some.injEq, Option.isSome_some, List.getElem?_toArray, List.getElem?_cons_zero, List.getElem?_cons_succ, List.length_cons, List.length_nil, List.set_cons_zero, List.set_cons_succ, List.getD_cons_zero, List.getD_cons_succ, Nat.zero_add, Nat.add_zero, Nat.reduceAdd, Nat.reduceLT, Nat.lt_add_one, Nat.zero_lt_succ, decide_true, decide_false, ne_eq, reduceCtorEq]
  exact hK _ _ (own_new (w := w) (base := w.heap.size) (e := ST) (size := 1) (n := 1) (cs := [str x]) (Nat.le_refl _) rfl (by omega)).sl (by repeat (first | assumption | exact Chg.refl _ _ | refine Chg.drew ?_ | refine Chg.alloc ?_ _ | refine Chg.set ?_ (by first | exact .inl rfl | exact .inr (by omega) | exact .inr (by simp only [size_set, size_alloc, size_drew]; omega) | (left; simp; done)) _ | exact Chg.of_ext (by assumption)))
theorem row_v {w : World} {cs : List Value} {K : Value → World → Prop} (hc : cs.length = 5) (hK : ∀ t w', SlAt w' VT t 1 cs → Ext w w' → K t w') : bslW VT 1 [(.int .i64 0), (.bool false), (.string (ofL [])), (.slice none 0 0), (.slice none 0 0)] [(0, 5, .agg cs.toArray)] w K := by
  unfold bslW
  have hp : ∀ K : List Value → Prop, K cs → putW [(.int .i64 0), (.bool false), (.string (ofL [])), (.slice none 0 0), (.slice none 0 0)] [(0, 5, .agg cs.toArray)] K := by
    intro K hK
    refine ⟨by simp [Value.cells, hc], by simp, ?_⟩
    have : List.take 0 [(Value.int .i64 0), (.bool false), (.string (ofL [])), (.slice none 0 0), (.slice none 0 0)] ++ ((Value.agg cs.toArray).cells.toList ++ List.drop (0 + 5) [(Value.int .i64 0), (.bool false), (.string (ofL [])), (.slice none 0 0), (.slice none 0 0)]) = cs := by simp [Value.cells]
    rw [this]
    exact hK
  refine hp _ ?_
  exact hK _ _ (own_new (w := w) (base := w.heap.size) (e := VT) (size := 5) (n := 1) (cs := cs) (Nat.le_refl _) (by omega) (by omega)).sl (by repeat (first | assumption | exact Chg.refl _ _ | refine Chg.drew ?_ | refine Chg.alloc ?_ _ | refine Chg.set ?_ (by first | exact .inl rfl | exact .inr (by omega) | exact .inr (by simp only [size_set, size_alloc, size_drew]; omega) | (left; simp; done)) _ | exact Chg.of_ext (by assumption)))
theorem OwnV.item_old {w0 w : World} {base : Nat} {v : JV} {sv kv : Value} {k : IntKind} {i : Nat} {x : JV} {K : Value → Prop} (h : OwnV w0 w base v sv kv) (hi : v.xs[i]? = some x) (hK : ∀ cs, VRep w0 x cs → K (.agg cs.toArray)) : ixaW none 5 sv (.int k i) fun p => ldW true 5 p w K := by
  obtain ⟨L, h1, h2⟩ := h.items
  obtain ⟨cs, hc, hg⟩ := h2.get hi
  refine ixa_at (size := 5) h1.sl h2.len (by omega) (List.getElem?_eq_some_iff.1 hi).1 fun b o c fr hb hcc => ?_
  exact ld_cells hb hc.len (fun j hj => (hcc j hj).trans (hg j hj)) (hK cs hc)
end Go.Proofs.YtdkikjcpgihjlaaGreatDoor
namespace Go.Proofs.YtdkikjcpgihjlaaGreatDoor
open Go Go.Eng Go.Num
set_option maxRecDepth 100000
section
variable [HX]
theorem ValB.item_old {w0 w : World} {a : Nat} {v : JV} {sv kv : Value} {k : IntKind} {i : Nat} {x : JV} {K : Value → Prop} (h : ValB w0 a v sv kv) (hx : Ext w0 w) (hi : v.xs[i]? = some x) (hK : ∀ cs, VRep w0 x cs → K (.agg cs.toArray)) : ixaW none 5 sv (.int k i) fun p => ldW true 5 p w K := by
  obtain ⟨T, L, h1, h2⟩ := h.items
  obtain ⟨cs, hc, hg⟩ := h2.get hi
  refine ixa_at (size := 5) (h1.ext hx) h2.len (by omega) (List.getElem?_eq_some_iff.1 hi).1 fun b o c fr hb hcc => ?_
  exact ld_cells hb hc.len (fun j hj => (hcc j hj).trans (hg j hj)) (hK cs hc)
theorem idxI_neg {ks : List Str} {k : Str} : idxI ks k < 0 ↔ idxK ks k = none := by
  unfold idxI
  cases h : idxK ks k with
  | none => simp
  | some i => simp
theorem obj_one {k : Int} {b : Bool} {t : Str} {sv kv : Value} (h1 : one1 sv = true) (h2 : one1 kv = true) : ([i64 k, .bool b, str t, sv, kv] : List Value).all one1 = true := by
  simp only [List.all_cons, List.all_nil, h1, h2, Bool.and_true]; rfl
theorem dropP_take {l : List (Str × JV)} {k : Str} {i : Nat} {p : Str × JV} (hi : l[i]? = some p) : dropP (l.take (i + 1)) k = if p.1 = k then dropP (l.take i) k else dropP (l.take i) k ++ [p] := by
  rw [List.take_add_one, hi]
  simp only [dropP, Option.toList_some, List.filter_append]
  by_cases h : p.1 = k <;> simp [h]
theorem zip_get {ks : List Str} {xs : List JV} {i : Nat} {u : Str} {x : JV} (hu : ks[i]? = some u) (hx : xs[i]? = some x) : (ks.zip xs)[i]? = some (u, x) := by
  rw [List.getElem?_zip_eq_some]; exact ⟨hu, hx⟩
theorem insP_take {l : List (Str × JV)} {k : Str} {x : JV} : ∀ (i : Nat), (∀ p ∈ l.take i, Op.bytesLess k p.1 = false) → insP l k x = l.take i ++ insP (l.drop i) k x := by
  induction l with
  | nil => intro i _; simp [insP]
  | cons p l ih =>
    intro i hi
    cases i with
    | zero => rfl
    | succ i =>
      simp only [List.take_succ_cons, List.drop_succ_cons, List.cons_append]
      obtain ⟨a, y⟩ := p
      have h0 := hi (a, y) (by simp)
      simp only [insP, h0, Bool.false_eq_true, if_false]
      rw [ih i fun q hq => hi q (by simp [hq])]
def putGo (l : List (Str × JV)) (k : Str) (x : JV) : Nat → List (Str × JV) × Bool
  | 0 => ([], false)
  | i + 1 => match l[i]? with
    | none => putGo l k x i
    | some p => if (!(putGo l k x i).2 && Op.bytesLess k p.1) then ((putGo l k x i).1 ++ [(k, x)] ++ [p], true) else ((putGo l k x i).1 ++ [p], (putGo l k x i).2)
theorem putGo_spec {l : List (Str × JV)} {k : Str} {x : JV} : ∀ (i : Nat), i ≤ l.length → ((putGo l k x i).2 = false → (putGo l k x i).1 = l.take i ∧ ∀ p ∈ l.take i, Op.bytesLess k p.1 = false) ∧ ((putGo l k x i).2 = true → (putGo l k x i).1 ++ l.drop i = insP l k x)
  | 0, _ => by simp [putGo]
  | i + 1, h => by
    obtain ⟨h1, h2⟩ := putGo_spec (l := l) (k := k) (x := x) i (by omega)
    obtain ⟨p, hp⟩ : ∃ p, l[i]? = some p := ⟨_, List.getElem?_eq_getElem (by omega)⟩
    have hd : l.drop i = p :: l.drop (i + 1) := by
      have hi : i < l.length := h
      rw [List.drop_eq_getElem_cons hi]
      congr 1
      exact Option.some.inj ((List.getElem?_eq_getElem hi).symm.trans hp)
    have ht : l.take (i + 1) = l.take i ++ [p] := by rw [List.take_add_one, hp]; rfl
    simp only [putGo, hp]
    cases hg : (putGo l k x i).2 with
    | true =>
      simp only [Bool.not_true, Bool.false_and, Bool.false_eq_true, if_false]
      refine ⟨(fun e => by cases e), fun _ => ?_⟩
      rw [← h2 hg, hd]; simp
    | false =>
      obtain ⟨e1, e2⟩ := h1 hg
      cases hb : Op.bytesLess k p.1 with
      | true =>
        simp only [Bool.not_false, Bool.and_self, if_true]
        refine ⟨(fun e => by cases e), fun _ => ?_⟩
        obtain ⟨a, y⟩ := p
        rw [e1, insP_take i e2, hd]
        simp only [insP, hb, if_true]
        simp
      | false =>
        simp only [Bool.not_false, Bool.true_and, Bool.false_eq_true, if_false]
        refine ⟨fun _ => ⟨by rw [e1, ht], fun q hq => ?_⟩, fun e => by cases e⟩
        rw [ht] at hq
        rcases List.mem_append.1 hq with hq | hq
        · exact e2 q hq
        · rw [List.mem_singleton.1 hq]; exact hb
theorem putGo_end {l : List (Str × JV)} {k : Str} {x : JV} : insP l k x = if (putGo l k x l.length).2 then (putGo l k x l.length).1 else (putGo l k x l.length).1 ++ [(k, x)] := by
  obtain ⟨h1, h2⟩ := putGo_spec (k := k) (x := x) l.length (Nat.le_refl _)
  cases hg : (putGo l k x l.length).2 with
  | true =>
    rw [if_pos rfl, ← h2 hg]; simp
  | false =>
    obtain ⟨e1, e2⟩ := h1 hg
    rw [List.take_length] at e1 e2
    rw [if_neg (by simp), e1]
    have := insP_take (l := l) (k := k) (x := x) l.length (by rw [List.take_length]; exact e2)
    rw [this]; simp [insP]
theorem putGo_len (l : List (Str × JV)) (k : Str) (x : JV) : ∀ i, (putGo l k x i).1.length ≤ 2 * i
  | 0 => by simp [putGo]
  | i + 1 => by
    have := putGo_len l k x i
    simp only [putGo]
    split
    · omega
    · split <;> simp <;> omega
end
end Go.Proofs.YtdkikjcpgihjlaaGreatDoor

namespace Go.Proofs.YtdkikjcpgihjlaaGreatDoor
open Go Go.Eng Go.Num
set_option maxRecDepth 100000
section
variable [HX]
theorem copy_new {w : World} {v : JV} {cs : List Value} {K : Value → World → Prop} (h : VRep w v cs) (hK : ∀ a w' sv kv, ValB w' a v sv kv → Ext w w' → K (ptr a) w') :
    allocW VT [(.int .i64 0), (.bool false), (.string (ofL [])), (.slice none 0 0), (.slice none 0 0)] w fun t w1 => stW 5 t (.agg cs.toArray) w1 fun w2 => K t w2 := by
  obtain ⟨sv, kv, T1, T2, L, rfl, h1, h2, h3, h4⟩ := h.out
  refine alloc_new fun a w1 ha hz hb hx => ?_
  refine st_agg_at hb rfl rfl h.all_one fun w2 hz2 hb2 hc2 => ?_
  have hx' := hx.new hc2 (by omega)
  exact hK a w2 sv kv ⟨hb2, ⟨T1, L, h1.ext hx', h2.ext hx'⟩, ⟨T2, h3.ext hx'⟩, h4⟩ hx'
theorem any_take {α : Type} {p : α → Bool} {xs : List α} {i : Nat} {x : α} (hi : xs[i]? = some x) : (xs.take (i + 1)).any p = ((xs.take i).any p || p x) := by
  rw [List.take_add_one, hi]; simp
theorem any_yes {α : Type} {p : α → Bool} {xs : List α} {i : Nat} {x : α} (hi : xs[i]? = some x) (h : p x = true) : xs.any p = true := List.any_eq_true.2 ⟨x, List.mem_of_getElem? hi, h⟩
end
end Go.Proofs.YtdkikjcpgihjlaaGreatDoor
namespace Go.Proofs.YtdkikjcpgihjlaaGreatDoor
open Go Go.Eng
set_option maxRecDepth 100000
variable [HX]
def plan97 : Plan := { js := [(6004, ⟨[19], [], 17⟩)], ds := [] }
def W97 (v0 v1 : Value) (w : World) (K : Value → World → Prop) : Prop :=
  boxW 28 v0 w fun t2 w1 =>
  allocW 28 [(.int .i64 0), (.bool false), (.string (ofL [])), (.slice none 0 0), (.slice none 0 0)] w1 fun t4 w2 =>
  fldW 4 t2 fun t9 =>
  ldW false 1 t9 w2 fun t10 =>
  callF Tryz.prog 133 [t10, v1] w2 fun t12 w3 =>
  extW 0 t12 fun t13 =>
  extW 1 t12 fun t14 =>
  GdW (isB t14 true) [undef] w3 (fun J4 =>
    fldW 0 t2 fun t17 =>
    ldW false 1 t17 w3 fun t18 =>
    binW .eql t18 (.int .i64 6) fun t19 =>
    J4 [t19] w3)
  fun s4 _ w5 =>
  pickW t14 (s4.getD 0 undef) (.bool false) fun t20 =>
  condW t20 (
    fldW 3 t2 fun t21 =>
    ldW false 1 t21 w5 fun t22 =>
    ixaW none 5 t22 t13 fun t24 =>
    ldW true 5 t24 w5 fun t25 =>
    callF Tryz.prog 90 [t25] w5 fun t26 w6 =>
    stW 5 t4 t26 w6 fun w7 =>
    ldW true 5 t4 w7 fun r8 =>
    K (.tuple #[r8, (.bool true)]) w7) (
    putW [(.int .i64 0), (.bool false), (.string (ofL [])), (.slice none 0 0), (.slice none 0 0)] [] fun c9 =>
    stW 5 t4 (.agg c9.toArray) w5 fun w10 =>
    ldW true 5 t4 w10 fun r11 =>
    K (.tuple #[r11, (.bool false)]) w10)
theorem W97_eq (v0 v1 : Value) (w : World) (K : Value → World → Prop) : funW Tryz.prog Tryz.f97 plan97 [v0, v1] w K = W97 v0 v1 w K := by kernel_rfl
theorem W97_chk : chkFun Tryz.prog Tryz.f97 plan97 2 = true := by kernel_rfl
theorem W97_ok {v0 v1 : Value} {w : World} {K : Value → World → Prop} (h : W97 v0 v1 w K) : callF Tryz.prog 97 [v0, v1] w K :=
  tie Tryz.prog 97 Tryz.f97 plan97 [v0, v1] w K 2 (W97 v0 v1 w K) rfl mixed Tryz.func97 W97_chk (W97_eq v0 v1 w K) Tryz.call97 h
def plan93 : Plan := { js := [], ds := [] }
def W93 (v0 v1 : Value) (w : World) (K : Value → World → Prop) : Prop :=
  boxW 28 v0 w fun t2 w1 =>
  boxW 28 v1 w1 fun t3 w2 =>
  ldW true 5 t2 w2 fun t5 =>
  ldW true 5 t3 w2 fun t6 =>
  callF Tryz.prog 131 [t5, t6] w2 fun t7 w3 =>
  binW .eql t7 (.int .i64 0) fun t8 =>
  K t8 w3
theorem W93_eq (v0 v1 : Value) (w : World) (K : Value → World → Prop) : funW Tryz.prog Tryz.f93 plan93 [v0, v1] w K = W93 v0 v1 w K := by kernel_rfl
theorem W93_chk : chkFun Tryz.prog Tryz.f93 plan93 2 = true := by kernel_rfl
theorem W93_ok {v0 v1 : Value} {w : World} {K : Value → World → Prop} (h : W93 v0 v1 w K) : callF Tryz.prog 93 [v0, v1] w K :=
  tie Tryz.prog 93 Tryz.f93 plan93 [v0, v1] w K 2 (W93 v0 v1 w K) rfl mixed Tryz.func93 W93_chk (W93_eq v0 v1 w K) Tryz.call93 h
def plan33 : Plan := { js := [(3006, ⟨[10], [], 7⟩)], ds := [] }
def W33 (v0 : Value) (w : World) (K : Value → World → Prop) : Prop :=
  boxW 28 v0 w fun t1 w1 =>
  fldW 0 t1 fun t3 =>
  ldW false 1 t3 w1 fun t4 =>
  binW .neq t4 (.int .i64 1) fun t5 =>
  GdW (isB t5 true) [undef] w1 (fun J2 =>
    fldW 3 t1 fun t7 =>
    ldW false 1 t7 w1 fun t8 =>
    callF Tryz.prog 28 [t8, (.func (.func 71) #[] #[])] w1 fun t9 w3 =>
    unW .not t9 fun t10 =>
    J2 [t10] w3)
  fun s2 _ w4 =>
  pickW t5 (s2.getD 0 undef) (.bool false) fun t11 =>
  K t11 w4
theorem W33_eq (v0 : Value) (w : World) (K : Value → World → Prop) : funW Tryz.prog Tryz.f33 plan33 [v0] w K = W33 v0 w K := by kernel_rfl
theorem W33_chk : chkFun Tryz.prog Tryz.f33 plan33 1 = true := by kernel_rfl
theorem W33_ok {v0 : Value} {w : World} {K : Value → World → Prop} (h : W33 v0 w K) : callF Tryz.prog 33 [v0] w K :=
  tie Tryz.prog 33 Tryz.f33 plan33 [v0] w K 1 (W33 v0 w K) rfl mixed Tryz.func33 W33_chk (W33_eq v0 w K) Tryz.call33 h
def plan133 : Plan := { js := [(24004, ⟨[52], [], 36⟩), (24005, ⟨[51], [], 43⟩), (24007, ⟨[50], [], 49⟩), (24013, ⟨[48], [], 43⟩), (24020, ⟨[42], [], 36⟩), (8, ⟨[7, 8], [], 7⟩)], ds := [] }
def W133 (v0 v1 : Value) (w : World) (K : Value → World → Prop) : Prop :=
  lenlW v0 fun t11 =>
  LoopW [(.int .i64 0), t11] w fun s1 _ w2 L1 =>
    binW .lss (s1.getD 0 undef) (s1.getD 1 undef) fun t15 =>
    condW t15 (
      binW .add (s1.getD 0 undef) (s1.getD 1 undef) fun t18 =>
      cvtW .u64 t18 fun t19 =>
      binW .shr t19 (.int .u64 1) fun t20 =>
      cvtW .i64 t20 fun t21 =>
      ixaW none 1 v0 t21 fun t24 =>
      ldW false 1 t24 w2 fun t25 =>
      callF Tryz.prog 124 [t25, v1] w2 fun t27 w3 =>
      condW t27 (
        binW .add t21 (.int .i64 1) fun t29 =>
        L1 [t29, (s1.getD 1 undef)] w3) (
        L1 [(s1.getD 0 undef), t21] w3)) (
      binW .lss (s1.getD 0 undef) t11 fun t34 =>
      GdW (isB t34 true) [undef] w2 (fun J4 =>
        ixaW none 1 v0 (s1.getD 0 undef) fun t38 =>
        ldW false 1 t38 w2 fun t39 =>
        binW .eql t39 v1 fun t41 =>
        J4 [t41] w2)
      fun s4 _ w5 =>
      GdW (isB (s4.getD 0 undef) false) [undef] w5 (fun J6 =>
        ixaW none 1 v0 (s1.getD 0 undef) fun t45 =>
        ldW false 1 t45 w5 fun t46 =>
        callF Tryz.prog 163 [t46] w5 fun t47 w7 =>
        J6 [t47] w7)
      fun s6 _ w8 =>
      GdW (isB (s6.getD 0 undef) true) [undef] w8 (fun J9 =>
        callF Tryz.prog 163 [v1] w8 fun t50 w10 =>
        J9 [t50] w10)
      fun s9 _ w11 =>
      GdW (isB (s4.getD 0 undef) false) [undef] w11 (fun J12 =>
        pickW (s6.getD 0 undef) (s9.getD 0 undef) (.bool false) fun t51 =>
        J12 [t51] w11)
      fun s12 _ w13 =>
      GdW (isB t34 true) [undef] w13 (fun J14 =>
        pickW (s4.getD 0 undef) (.bool true) (s12.getD 0 undef) fun t52 =>
        J14 [t52] w13)
      fun s14 _ w15 =>
      pickW t34 (s14.getD 0 undef) (.bool false) fun t53 =>
      K (.tuple #[(s1.getD 0 undef), t53]) w15)
theorem W133_eq (v0 v1 : Value) (w : World) (K : Value → World → Prop) : funW Tryz.prog Tryz.f133 plan133 [v0, v1] w K = W133 v0 v1 w K := by kernel_rfl
theorem W133_chk : chkFun Tryz.prog Tryz.f133 plan133 2 = true := by kernel_rfl
theorem W133_ok {v0 v1 : Value} {w : World} {K : Value → World → Prop} (h : W133 v0 v1 w K) : callF Tryz.prog 133 [v0, v1] w K :=
  tie Tryz.prog 133 Tryz.f133 plan133 [v0, v1] w K 2 (W133 v0 v1 w K) rfl mixed Tryz.func133 W133_chk (W133_eq v0 v1 w K) Tryz.call133 h
def plan90 : Plan := { js := [], ds := [(3, ⟨[0, 1, 3, 4, 6, 8], [[], [0], [0, 1], [], [3], [0, 1, 2, 3, 4], [0, 1, 2, 3, 4], [0, 1, 2, 3, 4, 5, 6], [0, 1, 2, 3, 4, 5, 6, 7], [0, 1, 2, 3, 4, 5, 6, 7, 8]]⟩)] }
def W90 (v0 : Value) (w : World) (K : Value → World → Prop) : Prop :=
  boxW 28 v0 w fun t1 w1 =>
  allocW 28 [(.int .i64 0), (.bool false), (.string (ofL [])), (.slice none 0 0), (.slice none 0 0)] w1 fun t2 w2 =>
  fldW 4 t1 fun t3 =>
  ldW false 1 t3 w2.drew fun t4 =>
  fldW 3 t1 fun t6 =>
  ldW false 1 t6 w2.drew fun t7 =>
  callF Tryz.prog 130 [t4] w2.drew fun t5 w3 =>
  (ldW false 1 t6 w3 fun x => x = t7) ∧
  fldW 4 t1 fun t9 =>
  callF Tryz.prog 104 [t7] w3 fun t8 w4 =>
  stW 1 t9 t5 w4 fun w5 =>
  fldW 3 t1 fun t10 =>
  stW 1 t10 t8 w5 fun w6 =>
  ldW true 5 t1 w6 fun t11 =>
  stW 5 t2 t11 w6 fun w7 =>
  ldW true 5 t2 w7 fun r8 =>
  K r8 w7
theorem W90_eq (v0 : Value) (w : World) (K : Value → World → Prop) : funW Tryz.prog Tryz.f90 plan90 [v0] w K = W90 v0 w K := by kernel_rfl
theorem W90_chk : chkFun Tryz.prog Tryz.f90 plan90 1 = true := by kernel_rfl
theorem W90_ok {v0 : Value} {w : World} {K : Value → World → Prop} (h : W90 v0 w K) : callF Tryz.prog 90 [v0] w K :=
  tie Tryz.prog 90 Tryz.f90 plan90 [v0] w K 1 (W90 v0 w K) rfl mixed Tryz.func90 W90_chk (W90_eq v0 w K) Tryz.call90 h
def plan131 : Plan := { js := [], ds := [(36, ⟨[0, 1, 2, 3, 5, 6, 7, 8, 12], [[], [0], [], [2], [0, 1, 2, 3], [], [5], [], [7], [0, 1, 2, 3, 4, 5, 6, 7, 8], [0, 1, 2, 3, 4, 5, 6, 7, 8, 9], [0, 1, 2, 3, 4, 5, 6, 7, 8, 9, 10], [0, 1, 2, 3, 4, 5, 6, 7, 8, 9, 10, 11]]⟩), (20, ⟨[0, 1, 3, 4, 7], [[], [0], [0, 1], [], [3], [0, 1, 2, 3, 4], [0, 1, 2, 3, 4, 5], [0, 1, 2, 3, 4, 5, 6]]⟩)] }
def W131 (v0 v1 : Value) (w : World) (K : Value → World → Prop) : Prop :=
  boxW 28 v0 w fun t2 w1 =>
  boxW 28 v1 w1 fun t3 w2 =>
  fldW 0 t2 fun t6 =>
  ldW false 1 t6 w2 fun t7 =>
  fldW 0 t3 fun t8 =>
  ldW false 1 t8 w2 fun t9 =>
  callF Tryz.prog 155 [t7, t9] w2 fun t10 w3 =>
  binW .neq t10 (.int .i64 0) fun t12 =>
  condW t12 (
    K t10 w3) (
    fldW 0 t2 fun t14 =>
    ldW false 1 t14 w3 fun t15 =>
    binW .eql t15 (.int .i64 2) fun t17 =>
    condW t17 (
      fldW 1 t2 fun t18 =>
      ldW false 1 t18 w3.drew fun t19 =>
      fldW 1 t3 fun t21 =>
      ldW false 1 t21 w3.drew fun t22 =>
      callF Tryz.prog 157 [t19] w3.drew fun t20 w4 =>
      (ldW false 1 t21 w4 fun x => x = t22) ∧
      callF Tryz.prog 157 [t22] w4 fun t23 w5 =>
      callF Tryz.prog 156 [t20, t23] w5 fun t24 w6 =>
      K t24 w6) (
      binW .eql t15 (.int .i64 3) fun t26 =>
      condW t26 (
        fldW 2 t2 fun t27 =>
        ldW false 1 t27 w3 fun t28 =>
        fldW 2 t3 fun t29 =>
        ldW false 1 t29 w3 fun t30 =>
        callF Tryz.prog 98 [t28, t30] w3 fun t31 w7 =>
        K t31 w7) (
        binW .eql t15 (.int .i64 4) fun t33 =>
        condW t33 (
          fldW 2 t2 fun t34 =>
          ldW false 1 t34 w3 fun t35 =>
          fldW 2 t3 fun t36 =>
          ldW false 1 t36 w3 fun t37 =>
          callF Tryz.prog 158 [t35, t37] w3 fun t38 w8 =>
          K t38 w8) (
          fldW 4 t2 fun t39 =>
          ldW false 1 t39 w3.drew fun t40 =>
          fldW 4 t3 fun t41 =>
          ldW false 1 t41 w3.drew fun t42 =>
          fldW 3 t2 fun t44 =>
          ldW false 1 t44 w3.drew fun t45 =>
          fldW 3 t3 fun t46 =>
          ldW false 1 t46 w3.drew fun t47 =>
          callF Tryz.prog 160 [t40, t42] w3.drew fun t43 w9 =>
          (ldW false 1 t46 w9 fun x => x = t47) ∧
          (ldW false 1 t44 w9 fun x => x = t45) ∧
          callF Tryz.prog 161 [t45, t47, (.func (.func 131) #[] #[])] w9 fun t48 w10 =>
          bslW 3 2 [(.int .i64 0), (.int .i64 0)] [(0, 1, t43), (1, 1, t48)] w10 fun t49 w11 =>
          callF Tryz.prog 159 [t49] w11 fun t50 w12 =>
          K t50 w12))))
theorem W131_eq (v0 v1 : Value) (w : World) (K : Value → World → Prop) : funW Tryz.prog Tryz.f131 plan131 [v0, v1] w K = W131 v0 v1 w K := by kernel_rfl
theorem W131_chk : chkFun Tryz.prog Tryz.f131 plan131 2 = true := by kernel_rfl
theorem W131_ok {v0 v1 : Value} {w : World} {K : Value → World → Prop} (h : W131 v0 v1 w K) : callF Tryz.prog 131 [v0, v1] w K :=
  tie Tryz.prog 131 Tryz.f131 plan131 [v0, v1] w K 2 (W131 v0 v1 w K) rfl mixed Tryz.func131 W131_chk (W131_eq v0 v1 w K) Tryz.call131 h
def plan28 : Plan := { js := [], ds := [] }
def W28 (v0 v1 : Value) (w : World) (K : Value → World → Prop) : Prop :=
  callF Tryz.prog 44 [v0, v1] w fun t7 w1 =>
  binW .geq t7 (.int .i64 0) fun t8 =>
  K t8 w1
theorem W28_eq (v0 v1 : Value) (w : World) (K : Value → World → Prop) : funW Tryz.prog Tryz.f28 plan28 [v0, v1] w K = W28 v0 v1 w K := by kernel_rfl
theorem W28_chk : chkFun Tryz.prog Tryz.f28 plan28 2 = true := by kernel_rfl
theorem W28_ok {v0 v1 : Value} {w : World} {K : Value → World → Prop} (h : W28 v0 v1 w K) : callF Tryz.prog 28 [v0, v1] w K :=
  tie Tryz.prog 28 Tryz.f28 plan28 [v0, v1] w K 2 (W28 v0 v1 w K) rfl mixed Tryz.func28 W28_chk (W28_eq v0 v1 w K) Tryz.call28 h
def plan71 : Plan := { js := [], ds := [] }
def W71 (v0 : Value) (w : World) (K : Value → World → Prop) : Prop :=
  boxW 28 v0 w fun t1 w1 =>
  ldW true 5 t1 w1 fun t3 =>
  callF Tryz.prog 33 [t3] w1 fun t4 w2 =>
  unW .not t4 fun t5 =>
  K t5 w2
theorem W71_eq (v0 : Value) (w : World) (K : Value → World → Prop) : funW Tryz.prog Tryz.f71 plan71 [v0] w K = W71 v0 w K := by kernel_rfl
theorem W71_chk : chkFun Tryz.prog Tryz.f71 plan71 1 = true := by kernel_rfl
theorem W71_ok {v0 : Value} {w : World} {K : Value → World → Prop} (h : W71 v0 w K) : callF Tryz.prog 71 [v0] w K :=
  tie Tryz.prog 71 Tryz.f71 plan71 [v0] w K 1 (W71 v0 w K) rfl mixed Tryz.func71 W71_chk (W71_eq v0 w K) Tryz.call71 h
def plan87 : Plan := { js := [(28003, ⟨[36], [], 35⟩), (16, ⟨[28], [2, 5], 28⟩), (6002, ⟨[23], [], 17⟩), (6004, ⟨[22], [], 21⟩), (6008, ⟨[20], [], 17⟩), (6013, ⟨[14], [], 12⟩)], ds := [] }
def W87 (v0 : Value) (w : World) (K : Value → World → Prop) : Prop :=
  callF Tryz.prog 47 [v0, (.string (ofL [45]))] w fun t7 w1 =>
  lensW t7 fun t9 =>
  binW .lss t9 (.int .i64 1) fun t10 =>
  GdW (isB t10 false) [undef] w1 (fun J2 =>
    lensW t7 fun t13 =>
    binW .gtr t13 (.int .i64 100) fun t14 =>
    J2 [t14] w1)
  fun s2 _ w3 =>
  pickW t10 (.bool true) (s2.getD 0 undef) fun t15 =>
  GdW (isB t15 false) [undef] w3 (fun J4 =>
    ixsW t7 (.int .i64 0) fun t18 =>
    binW .eql t18 (.int .u8 48) fun t19 =>
    J4 [t19] w3)
  fun s4 _ w5 =>
  GdW (isB (s4.getD 0 undef) true) [undef] w5 (fun J6 =>
    binW .neq v0 (.string (ofL [48])) fun t22 =>
    J6 [t22] w5)
  fun s6 _ w7 =>
  GdW (isB t15 false) [undef] w7 (fun J8 =>
    pickW (s4.getD 0 undef) (s6.getD 0 undef) (.bool false) fun t23 =>
    J8 [t23] w7)
  fun s8 _ w9 =>
  pickW t15 (.bool true) (s8.getD 0 undef) fun t24 =>
  condW t24 (
    K (.bool false) w9) (
    semE Tryz.prog (convert 9 66 t7) w9 fun t26 w10 =>
    lenlW t26 fun t27 =>
    LoopW [(.int .i64 0)] w10 fun s11 _ w12 L11 =>
      binW .lss (s11.getD 0 undef) t27 fun t29 =>
      condW t29 (
        ixaW none 1 t26 (s11.getD 0 undef) fun t30 =>
        ldW false 1 t30 w12 fun t31 =>
        binW .lss t31 (.int .u8 48) fun t33 =>
        GdW (isB t33 false) [undef] w12 (fun J13 =>
          binW .gtr t31 (.int .u8 57) fun t36 =>
          J13 [t36] w12)
        fun s13 _ w14 =>
        pickW t33 (.bool true) (s13.getD 0 undef) fun t37 =>
        condW t37 (
          K (.bool false) w14) (
          binW .add (s11.getD 0 undef) (.int .i64 1) fun t38 =>
          L11 [t38] w14)) (
        K (.bool true) w12))
theorem W87_eq (v0 : Value) (w : World) (K : Value → World → Prop) : funW Tryz.prog Tryz.f87 plan87 [v0] w K = W87 v0 w K := by kernel_rfl
theorem W87_chk : chkFun Tryz.prog Tryz.f87 plan87 1 = true := by kernel_rfl
theorem W87_ok {v0 : Value} {w : World} {K : Value → World → Prop} (h : W87 v0 w K) : callF Tryz.prog 87 [v0] w K :=
  tie Tryz.prog 87 Tryz.f87 plan87 [v0] w K 1 (W87 v0 w K) rfl mixed Tryz.func87 W87_chk (W87_eq v0 w K) Tryz.call87 h
def plan130 : Plan := { js := [], ds := [] }
def W130 (v0 : Value) (w : World) (K : Value → World → Prop) : Prop :=
  eqW .slice false v0 (.slice none 0 0) fun t4 =>
  condW t4 (
    K (.slice none 0 0) w) (
    bslW 9 0 [] [] w fun t5 w1 =>
    semE Tryz.prog (Builtin.append_ #[26, 26] 26 #[t5, v0]) w1 fun t7 w2 =>
    K t7 w2)
theorem W130_eq (v0 : Value) (w : World) (K : Value → World → Prop) : funW Tryz.prog Tryz.f130 plan130 [v0] w K = W130 v0 w K := by kernel_rfl
theorem W130_chk : chkFun Tryz.prog Tryz.f130 plan130 1 = true := by kernel_rfl
theorem W130_ok {v0 : Value} {w : World} {K : Value → World → Prop} (h : W130 v0 w K) : callF Tryz.prog 130 [v0] w K :=
  tie Tryz.prog 130 Tryz.f130 plan130 [v0] w K 1 (W130 v0 w K) rfl mixed Tryz.func130 W130_chk (W130_eq v0 w K) Tryz.call130 h
def plan104 : Plan := { js := [(8, ⟨[3, 8], [3, 5], 8⟩)], ds := [] }
def W104 (v0 : Value) (w : World) (K : Value → World → Prop) : Prop :=
  lenlW v0 fun t7 =>
  LoopW [(.slice none 0 0), (.int .i64 0)] w fun s1 _ w2 L1 =>
    binW .lss (s1.getD 1 undef) t7 fun t9 =>
    condW t9 (
      ixaW none 5 v0 (s1.getD 1 undef) fun t10 =>
      ldW true 5 t10 w2 fun t11 =>
      allocW 28 [(.int .i64 0), (.bool false), (.string (ofL [])), (.slice none 0 0), (.slice none 0 0)] w2 fun t5 w3 =>
      stW 5 t5 t11 w3 fun w4 =>
      ldW true 5 t5 w4 fun t13 =>
      callF Tryz.prog 90 [t13] w4 fun t14 w5 =>
      bslW 28 1 [(.int .i64 0), (.bool false), (.string (ofL [])), (.slice none 0 0), (.slice none 0 0)] [(0, 5, t14)] w5 fun t15 w6 =>
      semE Tryz.prog (Builtin.append_ #[22, 22] 22 #[(s1.getD 0 undef), t15]) w6 fun t16 w7 =>
      binW .add (s1.getD 1 undef) (.int .i64 1) fun t17 =>
      L1 [t16, t17] w7) (
      K (s1.getD 0 undef) w2)
theorem W104_eq (v0 : Value) (w : World) (K : Value → World → Prop) : funW Tryz.prog Tryz.f104 plan104 [v0] w K = W104 v0 w K := by kernel_rfl
theorem W104_chk : chkFun Tryz.prog Tryz.f104 plan104 1 = true := by kernel_rfl
theorem W104_ok {v0 : Value} {w : World} {K : Value → World → Prop} (h : W104 v0 w K) : callF Tryz.prog 104 [v0] w K :=
  tie Tryz.prog 104 Tryz.f104 plan104 [v0] w K 1 (W104 v0 w K) rfl mixed Tryz.func104 W104_chk (W104_eq v0 w K) Tryz.call104 h
def plan155 : Plan := { js := [], ds := [] }
def W155 (v0 v1 : Value) (w : World) (K : Value → World → Prop) : Prop :=
  callF Tryz.prog 183 [v0] w fun t8 w1 =>
  callF Tryz.prog 183 [v1] w1 fun t10 w2 =>
  condW t8 (
    condW t10 (
      K (.int .i64 0) w2) (
      K (.int .i64 (-1)) w2)) (
    condW t10 (
      K (.int .i64 1) w2) (
      binW .lss v0 v1 fun t16 =>
      condW t16 (
        K (.int .i64 (-1)) w2) (
        binW .gtr v0 v1 fun t19 =>
        condW t19 (
          K (.int .i64 1) w2) (
          K (.int .i64 0) w2))))
theorem W155_eq (v0 v1 : Value) (w : World) (K : Value → World → Prop) : funW Tryz.prog Tryz.f155 plan155 [v0, v1] w K = W155 v0 v1 w K := by kernel_rfl
theorem W155_chk : chkFun Tryz.prog Tryz.f155 plan155 2 = true := by kernel_rfl
theorem W155_ok {v0 v1 : Value} {w : World} {K : Value → World → Prop} (h : W155 v0 v1 w K) : callF Tryz.prog 155 [v0, v1] w K :=
  tie Tryz.prog 155 Tryz.f155 plan155 [v0, v1] w K 2 (W155 v0 v1 w K) rfl mixed Tryz.func155 W155_chk (W155_eq v0 v1 w K) Tryz.call155 h
def plan156 : Plan := { js := [], ds := [] }
def W156 (v0 v1 : Value) (w : World) (K : Value → World → Prop) : Prop :=
  callF Tryz.prog 184 [v0] w fun t8 w1 =>
  callF Tryz.prog 184 [v1] w1 fun t10 w2 =>
  condW t8 (
    condW t10 (
      K (.int .i64 0) w2) (
      K (.int .i64 (-1)) w2)) (
    condW t10 (
      K (.int .i64 1) w2) (
      binW .lss v0 v1 fun t16 =>
      condW t16 (
        K (.int .i64 (-1)) w2) (
        binW .gtr v0 v1 fun t19 =>
        condW t19 (
          K (.int .i64 1) w2) (
          K (.int .i64 0) w2))))
theorem W156_eq (v0 v1 : Value) (w : World) (K : Value → World → Prop) : funW Tryz.prog Tryz.f156 plan156 [v0, v1] w K = W156 v0 v1 w K := by kernel_rfl
theorem W156_chk : chkFun Tryz.prog Tryz.f156 plan156 2 = true := by kernel_rfl
theorem W156_ok {v0 v1 : Value} {w : World} {K : Value → World → Prop} (h : W156 v0 v1 w K) : callF Tryz.prog 156 [v0, v1] w K :=
  tie Tryz.prog 156 Tryz.f156 plan156 [v0, v1] w K 2 (W156 v0 v1 w K) rfl mixed Tryz.func156 W156_chk (W156_eq v0 v1 w K) Tryz.call156 h
def plan157 : Plan := { js := [], ds := [] }
def W157 (v0 : Value) (w : World) (K : Value → World → Prop) : Prop :=
  condW v0 (
    K (.int .i64 1) w) (
    K (.int .i64 0) w)
theorem W157_eq (v0 : Value) (w : World) (K : Value → World → Prop) : funW Tryz.prog Tryz.f157 plan157 [v0] w K = W157 v0 w K := by kernel_rfl
theorem W157_chk : chkFun Tryz.prog Tryz.f157 plan157 1 = true := by kernel_rfl
theorem W157_ok {v0 : Value} {w : World} {K : Value → World → Prop} (h : W157 v0 w K) : callF Tryz.prog 157 [v0] w K :=
  tie Tryz.prog 157 Tryz.f157 plan157 [v0] w K 1 (W157 v0 w K) rfl mixed Tryz.func157 W157_chk (W157_eq v0 w K) Tryz.call157 h
def plan98 : Plan := { js := [(4004, ⟨[12], [], 10⟩)], ds := [] }
def W98 (v0 v1 : Value) (w : World) (K : Value → World → Prop) : Prop :=
  callF Tryz.prog 87 [v0] w fun t7 w1 =>
  unW .not t7 fun t8 =>
  GdW (isB t8 false) [undef] w1 (fun J2 =>
    callF Tryz.prog 87 [v1] w1 fun t11 w3 =>
    unW .not t11 fun t12 =>
    J2 [t12] w3)
  fun s2 _ w4 =>
  pickW t8 (.bool true) (s2.getD 0 undef) fun t13 =>
  condW t13 (
    K (.int .i64 0) w4) (
    callF Tryz.prog 135 [v0] w4 fun t15 w5 =>
    callF Tryz.prog 135 [v1] w5 fun t17 w6 =>
    callF Tryz.prog 136 [t17] w6 fun t18 w7 =>
    callF Tryz.prog 134 [t15, t18] w7 fun t19 w8 =>
    allocW 128 [(.bool false), (.slice none 0 0)] w8 fun t5 w9 =>
    stW 2 t5 t19 w9 fun w10 =>
    fldW 1 t5 fun t21 =>
    ldW false 1 t21 w10 fun t22 =>
    lenlW t22 fun t23 =>
    binW .eql t23 (.int .i64 0) fun t24 =>
    condW t24 (
      K (.int .i64 0) w10) (
      fldW 0 t5 fun t26 =>
      ldW false 1 t26 w10 fun t27 =>
      condW t27 (
        K (.int .i64 (-1)) w10) (
        K (.int .i64 1) w10)))
theorem W98_eq (v0 v1 : Value) (w : World) (K : Value → World → Prop) : funW Tryz.prog Tryz.f98 plan98 [v0, v1] w K = W98 v0 v1 w K := by kernel_rfl
theorem W98_chk : chkFun Tryz.prog Tryz.f98 plan98 2 = true := by kernel_rfl
theorem W98_ok {v0 v1 : Value} {w : World} {K : Value → World → Prop} (h : W98 v0 v1 w K) : callF Tryz.prog 98 [v0, v1] w K :=
  tie Tryz.prog 98 Tryz.f98 plan98 [v0, v1] w K 2 (W98 v0 v1 w K) rfl mixed Tryz.func98 W98_chk (W98_eq v0 v1 w K) Tryz.call98 h
def plan159 : Plan := { js := [(8, ⟨[8], [2, 5], 8⟩)], ds := [] }
def W159 (v0 : Value) (w : World) (K : Value → World → Prop) : Prop :=
  lenlW v0 fun t7 =>
  LoopW [(.int .i64 0)] w fun s1 _ w2 L1 =>
    binW .lss (s1.getD 0 undef) t7 fun t9 =>
    condW t9 (
      ixaW none 1 v0 (s1.getD 0 undef) fun t10 =>
      ldW false 1 t10 w2 fun t11 =>
      binW .neq t11 (.int .i64 0) fun t14 =>
      condW t14 (
        K t11 w2) (
        binW .add (s1.getD 0 undef) (.int .i64 1) fun t16 =>
        L1 [t16] w2)) (
      K (.int .i64 0) w2)
theorem W159_eq (v0 : Value) (w : World) (K : Value → World → Prop) : funW Tryz.prog Tryz.f159 plan159 [v0] w K = W159 v0 w K := by kernel_rfl
theorem W159_chk : chkFun Tryz.prog Tryz.f159 plan159 1 = true := by kernel_rfl
theorem W159_ok {v0 : Value} {w : World} {K : Value → World → Prop} (h : W159 v0 w K) : callF Tryz.prog 159 [v0] w K :=
  tie Tryz.prog 159 Tryz.f159 plan159 [v0] w K 1 (W159 v0 w K) rfl mixed Tryz.func159 W159_chk (W159_eq v0 w K) Tryz.call159 h
def plan160 : Plan := { js := [(6, ⟨[11], [4, 5, 6, 7, 8], 11⟩)], ds := [] }
def W160 (v0 v1 : Value) (w : World) (K : Value → World → Prop) : Prop :=
  lenlW v0 fun t10 =>
  LoopW [(.int .i64 0)] w fun s1 _ w2 L1 =>
    binW .lss (s1.getD 0 undef) t10 fun t12 =>
    condW t12 (
      ixaW none 1 v0 (s1.getD 0 undef) fun t14 =>
      ldW false 1 t14 w2 fun t15 =>
      lenlW v1 fun t18 =>
      binW .geq (s1.getD 0 undef) t18 fun t19 =>
      condW t19 (
        K (.int .i64 1) w2) (
        ixaW none 1 v1 (s1.getD 0 undef) fun t22 =>
        ldW false 1 t22 w2 fun t23 =>
        callF Tryz.prog 186 [t15, t23] w2 fun t26 w3 =>
        binW .neq t26 (.int .i64 0) fun t28 =>
        condW t28 (
          K t26 w3) (
          binW .add (s1.getD 0 undef) (.int .i64 1) fun t30 =>
          L1 [t30] w3))) (
      lenlW v0 fun t32 =>
      lenlW v1 fun t34 =>
      binW .lss t32 t34 fun t35 =>
      condW t35 (
        K (.int .i64 (-1)) w2) (
        K (.int .i64 0) w2))
theorem W160_eq (v0 v1 : Value) (w : World) (K : Value → World → Prop) : funW Tryz.prog Tryz.f160 plan160 [v0, v1] w K = W160 v0 v1 w K := by kernel_rfl
theorem W160_chk : chkFun Tryz.prog Tryz.f160 plan160 2 = true := by kernel_rfl
theorem W160_ok {v0 v1 : Value} {w : World} {K : Value → World → Prop} (h : W160 v0 v1 w K) : callF Tryz.prog 160 [v0, v1] w K :=
  tie Tryz.prog 160 Tryz.f160 plan160 [v0, v1] w K 2 (W160 v0 v1 w K) rfl mixed Tryz.func160 W160_chk (W160_eq v0 v1 w K) Tryz.call160 h
def plan161 : Plan := { js := [(6, ⟨[13], [6, 7, 8, 9, 10], 13⟩)], ds := [] }
def W161 (v0 v1 v2 : Value) (w : World) (K : Value → World → Prop) : Prop :=
  lenlW v0 fun t12 =>
  LoopW [(.int .i64 0)] w fun s1 _ w2 L1 =>
    binW .lss (s1.getD 0 undef) t12 fun t14 =>
    condW t14 (
      ixaW none 5 v0 (s1.getD 0 undef) fun t16 =>
      ldW true 5 t16 w2 fun t17 =>
      allocW 28 [(.int .i64 0), (.bool false), (.string (ofL [])), (.slice none 0 0), (.slice none 0 0)] w2 fun t8 w3 =>
      stW 5 t8 t17 w3 fun w4 =>
      lenlW v1 fun t20 =>
      binW .geq (s1.getD 0 undef) t20 fun t21 =>
      condW t21 (
        K (.int .i64 1) w4) (
        ixaW none 5 v1 (s1.getD 0 undef) fun t24 =>
        ldW true 5 t24 w4 fun t25 =>
        allocW 28 [(.int .i64 0), (.bool false), (.string (ofL [])), (.slice none 0 0), (.slice none 0 0)] w4 fun t9 w5 =>
        stW 5 t9 t25 w5 fun w6 =>
        ldW true 5 t8 w6 fun t27 =>
        ldW true 5 t9 w6 fun t28 =>
        callV Tryz.prog v2 [t27, t28] w6 fun t29 w7 =>
        binW .neq t29 (.int .i64 0) fun t31 =>
        condW t31 (
          K t29 w7) (
          binW .add (s1.getD 0 undef) (.int .i64 1) fun t33 =>
          L1 [t33] w7))) (
      lenlW v0 fun t35 =>
      lenlW v1 fun t37 =>
      binW .lss t35 t37 fun t38 =>
      condW t38 (
        K (.int .i64 (-1)) w2) (
        K (.int .i64 0) w2))
theorem W161_eq (v0 v1 v2 : Value) (w : World) (K : Value → World → Prop) : funW Tryz.prog Tryz.f161 plan161 [v0, v1, v2] w K = W161 v0 v1 v2 w K := by kernel_rfl
theorem W161_chk : chkFun Tryz.prog Tryz.f161 plan161 3 = true := by kernel_rfl
theorem W161_ok {v0 v1 v2 : Value} {w : World} {K : Value → World → Prop} (h : W161 v0 v1 v2 w K) : callF Tryz.prog 161 [v0, v1, v2] w K :=
  tie Tryz.prog 161 Tryz.f161 plan161 [v0, v1, v2] w K 3 (W161 v0 v1 v2 w K) rfl mixed Tryz.func161 W161_chk (W161_eq v0 v1 v2 w K) Tryz.call161 h
def plan44 : Plan := { js := [(6, ⟨[8], [4, 5], 8⟩)], ds := [] }
def W44 (v0 v1 : Value) (w : World) (K : Value → World → Prop) : Prop :=
  lenlW v0 fun t7 =>
  LoopW [(.int .i64 0)] w fun s1 _ w2 L1 =>
    binW .lss (s1.getD 0 undef) t7 fun t9 =>
    condW t9 (
      ixaW none 5 v0 (s1.getD 0 undef) fun t14 =>
      ldW true 5 t14 w2 fun t15 =>
      callV Tryz.prog v1 [t15] w2 fun t16 w3 =>
      condW t16 (
        K (s1.getD 0 undef) w3) (
        binW .add (s1.getD 0 undef) (.int .i64 1) fun t18 =>
        L1 [t18] w3)) (
      K (.int .i64 (-1)) w2)
theorem W44_eq (v0 v1 : Value) (w : World) (K : Value → World → Prop) : funW Tryz.prog Tryz.f44 plan44 [v0, v1] w K = W44 v0 v1 w K := by kernel_rfl
theorem W44_chk : chkFun Tryz.prog Tryz.f44 plan44 2 = true := by kernel_rfl
theorem W44_ok {v0 v1 : Value} {w : World} {K : Value → World → Prop} (h : W44 v0 v1 w K) : callF Tryz.prog 44 [v0, v1] w K :=
  tie Tryz.prog 44 Tryz.f44 plan44 [v0, v1] w K 2 (W44 v0 v1 w K) rfl mixed Tryz.func44 W44_chk (W44_eq v0 v1 w K) Tryz.call44 h
def plan183 : Plan := { js := [], ds := [] }
def W183 (v0 : Value) (w : World) (K : Value → World → Prop) : Prop :=
  binW .neq v0 v0 fun t5 =>
  K t5 w
theorem W183_eq (v0 : Value) (w : World) (K : Value → World → Prop) : funW Tryz.prog Tryz.f183 plan183 [v0] w K = W183 v0 w K := by kernel_rfl
theorem W183_chk : chkFun Tryz.prog Tryz.f183 plan183 1 = true := by kernel_rfl
theorem W183_ok {v0 : Value} {w : World} {K : Value → World → Prop} (h : W183 v0 w K) : callF Tryz.prog 183 [v0] w K :=
  tie Tryz.prog 183 Tryz.f183 plan183 [v0] w K 1 (W183 v0 w K) rfl mixed Tryz.func183 W183_chk (W183_eq v0 w K) Tryz.call183 h
def plan184 : Plan := { js := [], ds := [] }
def W184 (v0 : Value) (w : World) (K : Value → World → Prop) : Prop :=
  binW .neq v0 v0 fun t5 =>
  K t5 w
theorem W184_eq (v0 : Value) (w : World) (K : Value → World → Prop) : funW Tryz.prog Tryz.f184 plan184 [v0] w K = W184 v0 w K := by kernel_rfl
theorem W184_chk : chkFun Tryz.prog Tryz.f184 plan184 1 = true := by kernel_rfl
theorem W184_ok {v0 : Value} {w : World} {K : Value → World → Prop} (h : W184 v0 w K) : callF Tryz.prog 184 [v0] w K :=
  tie Tryz.prog 184 Tryz.f184 plan184 [v0] w K 1 (W184 v0 w K) rfl mixed Tryz.func184 W184_chk (W184_eq v0 w K) Tryz.call184 h
def plan134 : Plan := { js := [], ds := [(18, ⟨[0, 1, 2, 3, 5], [[], [0], [], [], [2, 3], [0, 1, 2, 3, 4], [0, 1, 2, 3, 4, 5], [0, 1, 2, 3, 4, 5, 6]]⟩), (14, ⟨[0, 1, 2, 3, 5], [[], [0], [], [], [2, 3], [0, 1, 2, 3, 4], [0, 1, 2, 3, 4, 5], [0, 1, 2, 3, 4, 5, 6]]⟩), (8, ⟨[0, 1, 2, 3, 5], [[], [0], [], [], [2, 3], [0, 1, 2, 3, 4], [0, 1, 2, 3, 4, 5], [0, 1, 2, 3, 4, 5, 6]]⟩)] }
def W134 (v0 v1 : Value) (w : World) (K : Value → World → Prop) : Prop :=
  boxW 128 v0 w fun t2 w1 =>
  boxW 128 v1 w1 fun t3 w2 =>
  allocW 128 [(.bool false), (.slice none 0 0)] w2 fun t4 w3 =>
  fldW 0 t2 fun t6 =>
  ldW false 1 t6 w3 fun t7 =>
  fldW 0 t3 fun t8 =>
  ldW false 1 t8 w3 fun t9 =>
  eqW .bool false t7 t9 fun t10 =>
  condW t10 (
    fldW 0 t2 fun t11 =>
    ldW false 1 t11 w3.drew fun t12 =>
    ldW true 2 t2 w3.drew fun t13 =>
    ldW true 2 t3 w3.drew fun t14 =>
    callF Tryz.prog 164 [t13, t14] w3.drew fun t15 w4 =>
    (ldW false 1 t11 w4 fun x => x = t12) ∧
    putW [(.bool false), (.slice none 0 0)] [(0, 1, t12), (1, 1, t15)] fun c5 =>
    callF Tryz.prog 165 [(.agg c5.toArray)] w4 fun t17 w6 =>
    stW 2 t4 t17 w6 fun w7 =>
    ldW true 2 t4 w7 fun r8 =>
    K r8 w7) (
    ldW true 2 t2 w3 fun t19 =>
    ldW true 2 t3 w3 fun t20 =>
    callF Tryz.prog 166 [t19, t20] w3 fun t21 w9 =>
    binW .geq t21 (.int .i64 0) fun t22 =>
    condW t22 (
      fldW 0 t2 fun t23 =>
      ldW false 1 t23 w9.drew fun t24 =>
      ldW true 2 t2 w9.drew fun t25 =>
      ldW true 2 t3 w9.drew fun t26 =>
      callF Tryz.prog 167 [t25, t26] w9.drew fun t27 w10 =>
      (ldW false 1 t23 w10 fun x => x = t24) ∧
      putW [(.bool false), (.slice none 0 0)] [(0, 1, t24), (1, 1, t27)] fun c11 =>
      callF Tryz.prog 165 [(.agg c11.toArray)] w10 fun t29 w12 =>
      stW 2 t4 t29 w12 fun w13 =>
      ldW true 2 t4 w13 fun r14 =>
      K r14 w13) (
      fldW 0 t3 fun t30 =>
      ldW false 1 t30 w9.drew fun t31 =>
      ldW true 2 t3 w9.drew fun t32 =>
      ldW true 2 t2 w9.drew fun t33 =>
      callF Tryz.prog 167 [t32, t33] w9.drew fun t34 w15 =>
      (ldW false 1 t30 w15 fun x => x = t31) ∧
      putW [(.bool false), (.slice none 0 0)] [(0, 1, t31), (1, 1, t34)] fun c16 =>
      callF Tryz.prog 165 [(.agg c16.toArray)] w15 fun t36 w17 =>
      stW 2 t4 t36 w17 fun w18 =>
      ldW true 2 t4 w18 fun r19 =>
      K r19 w18))
theorem W134_eq (v0 v1 : Value) (w : World) (K : Value → World → Prop) : funW Tryz.prog Tryz.f134 plan134 [v0, v1] w K = W134 v0 v1 w K := by kernel_rfl
theorem W134_chk : chkFun Tryz.prog Tryz.f134 plan134 2 = true := by kernel_rfl
theorem W134_ok {v0 v1 : Value} {w : World} {K : Value → World → Prop} (h : W134 v0 v1 w K) : callF Tryz.prog 134 [v0, v1] w K :=
  tie Tryz.prog 134 Tryz.f134 plan134 [v0, v1] w K 2 (W134 v0 v1 w K) rfl mixed Tryz.func134 W134_chk (W134_eq v0 v1 w K) Tryz.call134 h
def plan135 : Plan := { js := [(10, ⟨[6], [], 6⟩)], ds := [] }
def W135 (v0 : Value) (w : World) (K : Value → World → Prop) : Prop :=
  allocW 128 [(.bool false), (.slice none 0 0)] w fun t2 w1 =>
  callF Tryz.prog 168 [v0, (.string (ofL [45]))] w1 fun t11 w2 =>
  extW 0 t11 fun t12 =>
  extW 1 t11 fun t13 =>
  putW [(.bool false), (.slice none 0 0)] [(0, 1, t13)] fun c3 =>
  allocW 128 [(.bool false), (.slice none 0 0)] w2 fun t5 w4 =>
  stW 2 t5 (.agg c3.toArray) w4 fun w5 =>
  lensW t12 fun t17 =>
  LoopW [t17] w5 fun s6 _ w7 L6 =>
    binW .gtr (s6.getD 0 undef) (.int .i64 0) fun t19 =>
    condW t19 (
      binW .sub (s6.getD 0 undef) (.int .i64 9) fun t25 =>
      maxW (.int .i64 0) t25 fun t26 =>
      slsW t12 (some t26) (some (s6.getD 0 undef)) fun t28 =>
      callF Tryz.prog 169 [t28, (.int .i64 10), (.int .i64 64)] w7 fun t29 w8 =>
      extW 0 t29 fun t30 =>
      extW 1 t29 fun t31 =>
      fldW 1 t5 fun t32 =>
      ldW false 1 t32 w8 fun t33 =>
      bslW 122 1 [(.int .u64 0)] [(0, 1, t30)] w8 fun t35 w9 =>
      semE Tryz.prog (Builtin.append_ #[126, 126] 126 #[t33, t35]) w9 fun t36 w10 =>
      fldW 1 t5 fun t37 =>
      stW 1 t37 t36 w10 fun w11 =>
      binW .sub (s6.getD 0 undef) (.int .i64 9) fun t21 =>
      L6 [t21] w11) (
      ldW true 2 t5 w7 fun t38 =>
      callF Tryz.prog 165 [t38] w7 fun t39 w12 =>
      stW 2 t2 t39 w12 fun w13 =>
      ldW true 2 t2 w13 fun r14 =>
      K r14 w13)
theorem W135_eq (v0 : Value) (w : World) (K : Value → World → Prop) : funW Tryz.prog Tryz.f135 plan135 [v0] w K = W135 v0 w K := by kernel_rfl
theorem W135_chk : chkFun Tryz.prog Tryz.f135 plan135 1 = true := by kernel_rfl
theorem W135_ok {v0 : Value} {w : World} {K : Value → World → Prop} (h : W135 v0 w K) : callF Tryz.prog 135 [v0] w K :=
  tie Tryz.prog 135 Tryz.f135 plan135 [v0] w K 1 (W135 v0 w K) rfl mixed Tryz.func135 W135_chk (W135_eq v0 w K) Tryz.call135 h
def plan136 : Plan := { js := [], ds := [] }
def W136 (v0 : Value) (w : World) (K : Value → World → Prop) : Prop :=
  boxW 128 v0 w fun t1 w1 =>
  allocW 128 [(.bool false), (.slice none 0 0)] w1 fun t2 w2 =>
  fldW 0 t1 fun t3 =>
  ldW false 1 t3 w2 fun t4 =>
  unW .not t4 fun t5 =>
  fldW 1 t1 fun t6 =>
  ldW false 1 t6 w2 fun t7 =>
  putW [(.bool false), (.slice none 0 0)] [(0, 1, t5), (1, 1, t7)] fun c3 =>
  callF Tryz.prog 165 [(.agg c3.toArray)] w2 fun t9 w4 =>
  stW 2 t2 t9 w4 fun w5 =>
  ldW true 2 t2 w5 fun r6 =>
  K r6 w5
theorem W136_eq (v0 : Value) (w : World) (K : Value → World → Prop) : funW Tryz.prog Tryz.f136 plan136 [v0] w K = W136 v0 w K := by kernel_rfl
theorem W136_chk : chkFun Tryz.prog Tryz.f136 plan136 1 = true := by kernel_rfl
theorem W136_ok {v0 : Value} {w : World} {K : Value → World → Prop} (h : W136 v0 w K) : callF Tryz.prog 136 [v0] w K :=
  tie Tryz.prog 136 Tryz.f136 plan136 [v0] w K 1 (W136 v0 w K) rfl mixed Tryz.func136 W136_chk (W136_eq v0 w K) Tryz.call136 h
def plan186 : Plan := { js := [], ds := [] }
def W186 (v0 v1 : Value) (w : World) (K : Value → World → Prop) : Prop :=
  callF Tryz.prog 154 [v0] w fun t8 w1 =>
  callF Tryz.prog 154 [v1] w1 fun t10 w2 =>
  condW t8 (
    condW t10 (
      K (.int .i64 0) w2) (
      K (.int .i64 (-1)) w2)) (
    condW t10 (
      K (.int .i64 1) w2) (
      binW .lss v0 v1 fun t16 =>
      condW t16 (
        K (.int .i64 (-1)) w2) (
        binW .gtr v0 v1 fun t19 =>
        condW t19 (
          K (.int .i64 1) w2) (
          K (.int .i64 0) w2))))
theorem W186_eq (v0 v1 : Value) (w : World) (K : Value → World → Prop) : funW Tryz.prog Tryz.f186 plan186 [v0, v1] w K = W186 v0 v1 w K := by kernel_rfl
theorem W186_chk : chkFun Tryz.prog Tryz.f186 plan186 2 = true := by kernel_rfl
theorem W186_ok {v0 v1 : Value} {w : World} {K : Value → World → Prop} (h : W186 v0 v1 w K) : callF Tryz.prog 186 [v0, v1] w K :=
  tie Tryz.prog 186 Tryz.f186 plan186 [v0, v1] w K 2 (W186 v0 v1 w K) rfl mixed Tryz.func186 W186_chk (W186_eq v0 v1 w K) Tryz.call186 h
def plan164 : Plan := { js := [(27, ⟨[6], [6], 16⟩), (21, ⟨[6], [6], 16⟩), (10, ⟨[5, 6, 15], [5, 6, 7], 15⟩)], ds := [] }
def W164 (v0 v1 : Value) (w : World) (K : Value → World → Prop) : Prop :=
  boxW 128 v0 w fun t2 w1 =>
  boxW 128 v1 w1 fun t3 w2 =>
  fldW 1 t2 fun t8 =>
  ldW false 1 t8 w2 fun t9 =>
  lenlW t9 fun t10 =>
  fldW 1 t3 fun t11 =>
  ldW false 1 t11 w2 fun t12 =>
  lenlW t12 fun t13 =>
  maxW t10 t13 fun t14 =>
  LoopW [(.slice none 0 0), (.int .u64 0), (.int .i64 0)] w2 fun s3 _ w4 L3 =>
    binW .lss (s3.getD 2 undef) t14 fun t16 =>
    condW t16 (
      JoinW (fun J5 =>
        fldW 1 t2 fun t19 =>
        ldW false 1 t19 w4 fun t20 =>
        lenlW t20 fun t21 =>
        binW .lss (s3.getD 2 undef) t21 fun t22 =>
        condW t22 (
          fldW 1 t2 fun t24 =>
          ldW false 1 t24 w4 fun t25 =>
          ixaW none 1 t25 (s3.getD 2 undef) fun t27 =>
          ldW false 1 t27 w4 fun t28 =>
          binW .add (s3.getD 1 undef) t28 fun t29 =>
          J5 [t29] w4) (
          J5 [(s3.getD 1 undef)] w4))
      fun s5 _ w6 =>
      JoinW (fun J7 =>
        fldW 1 t3 fun t31 =>
        ldW false 1 t31 w6 fun t32 =>
        lenlW t32 fun t33 =>
        binW .lss (s3.getD 2 undef) t33 fun t34 =>
        condW t34 (
          fldW 1 t3 fun t36 =>
          ldW false 1 t36 w6 fun t37 =>
          ixaW none 1 t37 (s3.getD 2 undef) fun t39 =>
          ldW false 1 t39 w6 fun t40 =>
          binW .add (s5.getD 0 undef) t40 fun t41 =>
          J7 [t41] w6) (
          J7 [(s5.getD 0 undef)] w6))
      fun s7 _ w8 =>
      binW .rem (s7.getD 0 undef) (.int .u64 1000000000) fun t44 =>
      bslW 122 1 [(.int .u64 0)] [(0, 1, t44)] w8 fun t45 w9 =>
      semE Tryz.prog (Builtin.append_ #[126, 126] 126 #[(s3.getD 0 undef), t45]) w9 fun t46 w10 =>
      binW .quo (s7.getD 0 undef) (.int .u64 1000000000) fun t48 =>
      binW .add (s3.getD 2 undef) (.int .i64 1) fun t49 =>
      L3 [t46, t48, t49] w10) (
      bslW 122 1 [(.int .u64 0)] [(0, 1, (s3.getD 1 undef))] w4 fun t52 w11 =>
      semE Tryz.prog (Builtin.append_ #[126, 126] 126 #[(s3.getD 0 undef), t52]) w11 fun t53 w12 =>
      K t53 w12)
theorem W164_eq (v0 v1 : Value) (w : World) (K : Value → World → Prop) : funW Tryz.prog Tryz.f164 plan164 [v0, v1] w K = W164 v0 v1 w K := by kernel_rfl
theorem W164_chk : chkFun Tryz.prog Tryz.f164 plan164 2 = true := by kernel_rfl
theorem W164_ok {v0 v1 : Value} {w : World} {K : Value → World → Prop} (h : W164 v0 v1 w K) : callF Tryz.prog 164 [v0, v1] w K :=
  tie Tryz.prog 164 Tryz.f164 plan164 [v0, v1] w K 2 (W164 v0 v1 w K) rfl mixed Tryz.func164 W164_chk (W164_eq v0 v1 w K) Tryz.call164 h
def plan165 : Plan := { js := [(14007, ⟨[32], [], 29⟩), (7010, ⟨[16], [], 8⟩), (4, ⟨[], [], 3⟩)], ds := [] }
def W165 (v0 : Value) (w : World) (K : Value → World → Prop) : Prop :=
  boxW 128 v0 w fun t1 w1 =>
  allocW 128 [(.bool false), (.slice none 0 0)] w1 fun t2 w2 =>
  LoopW [] w2 fun s3 _ w4 L3 =>
    fldW 1 t1 fun t3 =>
    ldW false 1 t3 w4 fun t4 =>
    lenlW t4 fun t5 =>
    binW .gtr t5 (.int .i64 0) fun t6 =>
    GdW (isB t6 true) [undef] w4 (fun J5 =>
      fldW 1 t1 fun t8 =>
      ldW false 1 t8 w4 fun t9 =>
      fldW 1 t1 fun t10 =>
      ldW false 1 t10 w4 fun t11 =>
      lenlW t11 fun t12 =>
      binW .sub t12 (.int .i64 1) fun t13 =>
      ixaW none 1 t9 t13 fun t14 =>
      ldW false 1 t14 w4 fun t15 =>
      binW .eql t15 (.int .u64 0) fun t16 =>
      J5 [t16] w4)
    fun s5 _ w6 =>
    pickW t6 (s5.getD 0 undef) (.bool false) fun t17 =>
    condW t17 (
      fldW 1 t1 fun t18 =>
      ldW false 1 t18 w6 fun t19 =>
      fldW 1 t1 fun t20 =>
      ldW false 1 t20 w6 fun t21 =>
      lenlW t21 fun t22 =>
      binW .sub t22 (.int .i64 1) fun t23 =>
      sllW 1 t19 none (some t23) none fun t24 =>
      fldW 1 t1 fun t25 =>
      stW 1 t25 t24 w6 fun w7 =>
      L3 [] w7) (
      fldW 0 t1 fun t26 =>
      ldW false 1 t26 w6 fun t27 =>
      GdW (isB t27 true) [undef] w6 (fun J8 =>
        fldW 1 t1 fun t29 =>
        ldW false 1 t29 w6 fun t30 =>
        lenlW t30 fun t31 =>
        binW .gtr t31 (.int .i64 0) fun t32 =>
        J8 [t32] w6)
      fun s8 _ w9 =>
      pickW t27 (s8.getD 0 undef) (.bool false) fun t33 =>
      fldW 0 t1 fun t34 =>
      stW 1 t34 t33 w9 fun w10 =>
      ldW true 2 t1 w10 fun t35 =>
      stW 2 t2 t35 w10 fun w11 =>
      ldW true 2 t2 w11 fun r12 =>
      K r12 w11)
theorem W165_eq (v0 : Value) (w : World) (K : Value → World → Prop) : funW Tryz.prog Tryz.f165 plan165 [v0] w K = W165 v0 w K := by kernel_rfl
theorem W165_chk : chkFun Tryz.prog Tryz.f165 plan165 1 = true := by kernel_rfl
theorem W165_ok {v0 : Value} {w : World} {K : Value → World → Prop} (h : W165 v0 w K) : callF Tryz.prog 165 [v0] w K :=
  tie Tryz.prog 165 Tryz.f165 plan165 [v0] w K 1 (W165 v0 w K) rfl mixed Tryz.func165 W165_chk (W165_eq v0 w K) Tryz.call165 h
def plan166 : Plan := { js := [(16, ⟨[6], [], 4⟩)], ds := [(26, ⟨[0, 1, 2, 3, 4, 5, 6, 7, 8, 9, 11], [[], [0], [], [0, 1, 2], [0, 1, 2, 3], [], [5], [], [5, 6, 7], [5, 6, 7, 8], [0, 1, 2, 3, 4, 5, 6, 7, 8, 9], [0, 1, 2, 3, 4, 5, 6, 7, 8, 9, 10]]⟩)] }
def W166 (v0 v1 : Value) (w : World) (K : Value → World → Prop) : Prop :=
  boxW 128 v0 w fun t2 w1 =>
  boxW 128 v1 w1 fun t3 w2 =>
  fldW 1 t2 fun t8 =>
  ldW false 1 t8 w2 fun t9 =>
  lenlW t9 fun t10 =>
  fldW 1 t3 fun t11 =>
  ldW false 1 t11 w2 fun t12 =>
  lenlW t12 fun t13 =>
  callF Tryz.prog 156 [t10, t13] w2 fun t14 w3 =>
  binW .neq t14 (.int .i64 0) fun t16 =>
  condW t16 (
    K t14 w3) (
    fldW 1 t2 fun t18 =>
    ldW false 1 t18 w3 fun t19 =>
    lenlW t19 fun t20 =>
    binW .sub t20 (.int .i64 1) fun t21 =>
    LoopW [t21] w3 fun s4 _ w5 L4 =>
      binW .geq (s4.getD 0 undef) (.int .i64 0) fun t23 =>
      condW t23 (
        fldW 1 t2 fun t26 =>
        ldW false 1 t26 w5.drew fun t27 =>
        ixaW none 1 t27 (s4.getD 0 undef) fun t29 =>
        ldW false 1 t29 w5.drew fun t30 =>
        fldW 1 t3 fun t31 =>
        ldW false 1 t31 w5.drew fun t32 =>
        ixaW none 1 t32 (s4.getD 0 undef) fun t34 =>
        ldW false 1 t34 w5.drew fun t35 =>
        callF Tryz.prog 188 [t30, t35] w5.drew fun t36 w6 =>
        binW .neq t36 (.int .i64 0) fun t38 =>
        condW t38 (
          K t36 w6) (
          binW .sub (s4.getD 0 undef) (.int .i64 1) fun t25 =>
          L4 [t25] w6)) (
        K (.int .i64 0) w5))
theorem W166_eq (v0 v1 : Value) (w : World) (K : Value → World → Prop) : funW Tryz.prog Tryz.f166 plan166 [v0, v1] w K = W166 v0 v1 w K := by kernel_rfl
theorem W166_chk : chkFun Tryz.prog Tryz.f166 plan166 2 = true := by kernel_rfl
theorem W166_ok {v0 v1 : Value} {w : World} {K : Value → World → Prop} (h : W166 v0 v1 w K) : callF Tryz.prog 166 [v0, v1] w K :=
  tie Tryz.prog 166 Tryz.f166 plan166 [v0, v1] w K 2 (W166 v0 v1 w K) rfl mixed Tryz.func166 W166_chk (W166_eq v0 v1 w K) Tryz.call166 h
def plan167 : Plan := { js := [(31, ⟨[6, 8], [6, 8], 14⟩), (23, ⟨[9], [9], 14⟩), (10, ⟨[5, 6, 13], [5, 6, 7, 8, 9], 13⟩)], ds := [] }
def W167 (v0 v1 : Value) (w : World) (K : Value → World → Prop) : Prop :=
  boxW 128 v0 w fun t2 w1 =>
  boxW 128 v1 w1 fun t3 w2 =>
  fldW 1 t2 fun t10 =>
  ldW false 1 t10 w2 fun t11 =>
  lenlW t11 fun t12 =>
  LoopW [(.slice none 0 0), (.int .u64 0), (.int .i64 0)] w2 fun s3 _ w4 L3 =>
    binW .lss (s3.getD 2 undef) t12 fun t14 =>
    condW t14 (
      ixaW none 1 t11 (s3.getD 2 undef) fun t16 =>
      ldW false 1 t16 w4 fun t17 =>
      JoinW (fun J5 =>
        fldW 1 t3 fun t20 =>
        ldW false 1 t20 w4 fun t21 =>
        lenlW t21 fun t22 =>
        binW .lss (s3.getD 2 undef) t22 fun t23 =>
        condW t23 (
          fldW 1 t3 fun t25 =>
          ldW false 1 t25 w4 fun t26 =>
          ixaW none 1 t26 (s3.getD 2 undef) fun t28 =>
          ldW false 1 t28 w4 fun t29 =>
          binW .add (s3.getD 1 undef) t29 fun t30 =>
          J5 [t30] w4) (
          J5 [(s3.getD 1 undef)] w4))
      fun s5 _ w6 =>
      JoinW (fun J7 =>
        binW .lss t17 (s5.getD 0 undef) fun t33 =>
        condW t33 (
          binW .add t17 (.int .u64 1000000000) fun t35 =>
          J7 [(.int .u64 1), t35] w6) (
          J7 [(.int .u64 0), t17] w6))
      fun s7 _ w8 =>
      binW .sub (s7.getD 1 undef) (s5.getD 0 undef) fun t39 =>
      bslW 122 1 [(.int .u64 0)] [(0, 1, t39)] w8 fun t40 w9 =>
      semE Tryz.prog (Builtin.append_ #[126, 126] 126 #[(s3.getD 0 undef), t40]) w9 fun t41 w10 =>
      binW .add (s3.getD 2 undef) (.int .i64 1) fun t42 =>
      L3 [t41, (s7.getD 0 undef), t42] w10) (
      K (s3.getD 0 undef) w4)
theorem W167_eq (v0 v1 : Value) (w : World) (K : Value → World → Prop) : funW Tryz.prog Tryz.f167 plan167 [v0, v1] w K = W167 v0 v1 w K := by kernel_rfl
theorem W167_chk : chkFun Tryz.prog Tryz.f167 plan167 2 = true := by kernel_rfl
theorem W167_ok {v0 v1 : Value} {w : World} {K : Value → World → Prop} (h : W167 v0 v1 w K) : callF Tryz.prog 167 [v0, v1] w K :=
  tie Tryz.prog 167 Tryz.f167 plan167 [v0, v1] w K 2 (W167 v0 v1 w K) rfl mixed Tryz.func167 W167_chk (W167_eq v0 v1 w K) Tryz.call167 h
def plan168 : Plan := { js := [], ds := [] }
def W168 (v0 v1 : Value) (w : World) (K : Value → World → Prop) : Prop :=
  callF Tryz.prog 189 [v0, v1] w fun t8 w1 =>
  extW 0 t8 fun t9 =>
  extW 1 t8 fun t10 =>
  K (.tuple #[t9, t10]) w1
theorem W168_eq (v0 v1 : Value) (w : World) (K : Value → World → Prop) : funW Tryz.prog Tryz.f168 plan168 [v0, v1] w K = W168 v0 v1 w K := by kernel_rfl
theorem W168_chk : chkFun Tryz.prog Tryz.f168 plan168 2 = true := by kernel_rfl
theorem W168_ok {v0 v1 : Value} {w : World} {K : Value → World → Prop} (h : W168 v0 v1 w K) : callF Tryz.prog 168 [v0, v1] w K :=
  tie Tryz.prog 168 Tryz.f168 plan168 [v0, v1] w K 2 (W168 v0 v1 w K) rfl mixed Tryz.func168 W168_chk (W168_eq v0 v1 w K) Tryz.call168 h
def plan188 : Plan := { js := [], ds := [] }
def W188 (v0 v1 : Value) (w : World) (K : Value → World → Prop) : Prop :=
  callF Tryz.prog 208 [v0] w fun t8 w1 =>
  callF Tryz.prog 208 [v1] w1 fun t10 w2 =>
  condW t8 (
    condW t10 (
      K (.int .i64 0) w2) (
      K (.int .i64 (-1)) w2)) (
    condW t10 (
      K (.int .i64 1) w2) (
      binW .lss v0 v1 fun t16 =>
      condW t16 (
        K (.int .i64 (-1)) w2) (
        binW .gtr v0 v1 fun t19 =>
        condW t19 (
          K (.int .i64 1) w2) (
          K (.int .i64 0) w2))))
theorem W188_eq (v0 v1 : Value) (w : World) (K : Value → World → Prop) : funW Tryz.prog Tryz.f188 plan188 [v0, v1] w K = W188 v0 v1 w K := by kernel_rfl
theorem W188_chk : chkFun Tryz.prog Tryz.f188 plan188 2 = true := by kernel_rfl
theorem W188_ok {v0 v1 : Value} {w : World} {K : Value → World → Prop} (h : W188 v0 v1 w K) : callF Tryz.prog 188 [v0, v1] w K :=
  tie Tryz.prog 188 Tryz.f188 plan188 [v0, v1] w K 2 (W188 v0 v1 w K) rfl mixed Tryz.func188 W188_chk (W188_eq v0 v1 w K) Tryz.call188 h
def plan189 : Plan := { js := [], ds := [] }
def W189 (v0 v1 : Value) (w : World) (K : Value → World → Prop) : Prop :=
  callF Tryz.prog 129 [v0, v1] w fun t8 w1 =>
  unW .not t8 fun t9 =>
  condW t9 (
    K (.tuple #[v0, (.bool false)]) w1) (
    lensW v1 fun t13 =>
    slsW v0 (some t13) none fun t14 =>
    K (.tuple #[t14, (.bool true)]) w1)
theorem W189_eq (v0 v1 : Value) (w : World) (K : Value → World → Prop) : funW Tryz.prog Tryz.f189 plan189 [v0, v1] w K = W189 v0 v1 w K := by kernel_rfl
theorem W189_chk : chkFun Tryz.prog Tryz.f189 plan189 2 = true := by kernel_rfl
theorem W189_ok {v0 v1 : Value} {w : World} {K : Value → World → Prop} (h : W189 v0 v1 w K) : callF Tryz.prog 189 [v0, v1] w K :=
  tie Tryz.prog 189 Tryz.f189 plan189 [v0, v1] w K 2 (W189 v0 v1 w K) rfl mixed Tryz.func189 W189_chk (W189_eq v0 v1 w K) Tryz.call189 h
def plan208 : Plan := { js := [], ds := [] }
def W208 (v0 : Value) (w : World) (K : Value → World → Prop) : Prop :=
  binW .neq v0 v0 fun t5 =>
  K t5 w
theorem W208_eq (v0 : Value) (w : World) (K : Value → World → Prop) : funW Tryz.prog Tryz.f208 plan208 [v0] w K = W208 v0 w K := by kernel_rfl
theorem W208_chk : chkFun Tryz.prog Tryz.f208 plan208 1 = true := by kernel_rfl
theorem W208_ok {v0 : Value} {w : World} {K : Value → World → Prop} (h : W208 v0 w K) : callF Tryz.prog 208 [v0] w K :=
  tie Tryz.prog 208 Tryz.f208 plan208 [v0] w K 1 (W208 v0 w K) rfl mixed Tryz.func208 W208_chk (W208_eq v0 w K) Tryz.call208 h
def plan163 : Plan := { js := [], ds := [] }
def W163 (v0 : Value) (w : World) (K : Value → World → Prop) : Prop :=
  binW .neq v0 v0 fun t5 =>
  K t5 w
theorem W163_eq (v0 : Value) (w : World) (K : Value → World → Prop) : funW Tryz.prog Tryz.f163 plan163 [v0] w K = W163 v0 w K := by kernel_rfl
theorem W163_chk : chkFun Tryz.prog Tryz.f163 plan163 1 = true := by kernel_rfl
theorem W163_ok {v0 : Value} {w : World} {K : Value → World → Prop} (h : W163 v0 w K) : callF Tryz.prog 163 [v0] w K :=
  tie Tryz.prog 163 Tryz.f163 plan163 [v0] w K 1 (W163 v0 w K) rfl mixed Tryz.func163 W163_chk (W163_eq v0 w K) Tryz.call163 h
def plan47 : Plan := { js := [], ds := [] }
def W47 (v0 v1 : Value) (w : World) (K : Value → World → Prop) : Prop :=
  callF Tryz.prog 89 [v0, v1] w fun t7 w1 =>
  K t7 w1
theorem W47_eq (v0 v1 : Value) (w : World) (K : Value → World → Prop) : funW Tryz.prog Tryz.f47 plan47 [v0, v1] w K = W47 v0 v1 w K := by kernel_rfl
theorem W47_chk : chkFun Tryz.prog Tryz.f47 plan47 2 = true := by kernel_rfl
theorem W47_ok {v0 v1 : Value} {w : World} {K : Value → World → Prop} (h : W47 v0 v1 w K) : callF Tryz.prog 47 [v0, v1] w K :=
  tie Tryz.prog 47 Tryz.f47 plan47 [v0, v1] w K 2 (W47 v0 v1 w K) rfl mixed Tryz.func47 W47_chk (W47_eq v0 v1 w K) Tryz.call47 h
def plan89 : Plan := { js := [], ds := [] }
def W89 (v0 v1 : Value) (w : World) (K : Value → World → Prop) : Prop :=
  callF Tryz.prog 129 [v0, v1] w fun t7 w1 =>
  condW t7 (
    lensW v1 fun t10 =>
    slsW v0 (some t10) none fun t11 =>
    K t11 w1) (
    K v0 w1)
theorem W89_eq (v0 v1 : Value) (w : World) (K : Value → World → Prop) : funW Tryz.prog Tryz.f89 plan89 [v0, v1] w K = W89 v0 v1 w K := by kernel_rfl
theorem W89_chk : chkFun Tryz.prog Tryz.f89 plan89 2 = true := by kernel_rfl
theorem W89_ok {v0 v1 : Value} {w : World} {K : Value → World → Prop} (h : W89 v0 v1 w K) : callF Tryz.prog 89 [v0, v1] w K :=
  tie Tryz.prog 89 Tryz.f89 plan89 [v0, v1] w K 2 (W89 v0 v1 w K) rfl mixed Tryz.func89 W89_chk (W89_eq v0 v1 w K) Tryz.call89 h
def plan124 : Plan := { js := [(3005, ⟨[15], [], 13⟩), (3010, ⟨[10], [], 8⟩)], ds := [] }
def W124 (v0 v1 : Value) (w : World) (K : Value → World → Prop) : Prop :=
  callF Tryz.prog 154 [v0] w fun t6 w1 =>
  GdW (isB t6 true) [undef] w1 (fun J2 =>
    callF Tryz.prog 154 [v1] w1 fun t9 w3 =>
    unW .not t9 fun t10 =>
    J2 [t10] w3)
  fun s2 _ w4 =>
  pickW t6 (s2.getD 0 undef) (.bool false) fun t11 =>
  GdW (isB t11 false) [undef] w4 (fun J5 =>
    binW .lss v0 v1 fun t15 =>
    J5 [t15] w4)
  fun s5 _ w6 =>
  pickW t11 (.bool true) (s5.getD 0 undef) fun t16 =>
  K t16 w6
theorem W124_eq (v0 v1 : Value) (w : World) (K : Value → World → Prop) : funW Tryz.prog Tryz.f124 plan124 [v0, v1] w K = W124 v0 v1 w K := by kernel_rfl
theorem W124_chk : chkFun Tryz.prog Tryz.f124 plan124 2 = true := by kernel_rfl
theorem W124_ok {v0 v1 : Value} {w : World} {K : Value → World → Prop} (h : W124 v0 v1 w K) : callF Tryz.prog 124 [v0, v1] w K :=
  tie Tryz.prog 124 Tryz.f124 plan124 [v0, v1] w K 2 (W124 v0 v1 w K) rfl mixed Tryz.func124 W124_chk (W124_eq v0 v1 w K) Tryz.call124 h
def plan154 : Plan := { js := [], ds := [] }
def W154 (v0 : Value) (w : World) (K : Value → World → Prop) : Prop :=
  binW .neq v0 v0 fun t5 =>
  K t5 w
theorem W154_eq (v0 : Value) (w : World) (K : Value → World → Prop) : funW Tryz.prog Tryz.f154 plan154 [v0] w K = W154 v0 w K := by kernel_rfl
theorem W154_chk : chkFun Tryz.prog Tryz.f154 plan154 1 = true := by kernel_rfl
theorem W154_ok {v0 : Value} {w : World} {K : Value → World → Prop} (h : W154 v0 w K) : callF Tryz.prog 154 [v0] w K :=
  tie Tryz.prog 154 Tryz.f154 plan154 [v0] w K 1 (W154 v0 w K) rfl mixed Tryz.func154 W154_chk (W154_eq v0 w K) Tryz.call154 h
end Go.Proofs.YtdkikjcpgihjlaaGreatDoor
namespace Go.Proofs
open Go.Shelf
def Tryz.lays156_ren : Go.Shelf.Ren := ⟨fun | 156 => 94 | 165 => 108 | 166 => 109 | 169 => 111 | 240 => 143 | 241 => 144 | 276 => 177 | 277 => 178 | n => n, fun | 31 => 26 | 9 => 9 | 3 => 3 | 4 => 4 | 0 => 0 | 20 => 20 | 72 => 103 | 76 => 107 | 70 => 101 | 37 => 66 | 75 => 106 | 127 => 137 | 164 => 158 | 5 => 5 | 80 => 110 | n => n, fun | n => n⟩
theorem Tryz.lays156 : Go.Proofs.Lays.n156 Tryz.prog Tryz.lays156_ren := {
  mixed := by kernel_rfl
  f156 := Tryz.func94.trans (congrArg some (by kernel_rfl))
  f165 := Tryz.func108.trans (congrArg some (by kernel_rfl))
  f166 := Tryz.func109.trans (congrArg some (by kernel_rfl))
  f169 := Tryz.func111.trans (congrArg some (by kernel_rfl))
  f240 := Tryz.func143.trans (congrArg some (by kernel_rfl))
  f241 := Tryz.func144.trans (congrArg some (by kernel_rfl))
  f276 := Tryz.func177.trans (congrArg some (by kernel_rfl))
  f277 := Tryz.func178.trans (congrArg some (by kernel_rfl))
  t0 := Tryz.underlying0
  a0 := Tryz.isAgg0
  z0 := Tryz.sizeOf0
  v0 := Tryz.zeroValue0
  t3 := Tryz.underlying3
  a3 := Tryz.isAgg3
  z3 := Tryz.sizeOf3
  v3 := Tryz.zeroValue3
  t4 := Tryz.underlying4
  a4 := Tryz.isAgg4
  z4 := Tryz.sizeOf4
  v4 := Tryz.zeroValue4
  t9 := Tryz.underlying9
  a9 := Tryz.isAgg9
  z9 := Tryz.sizeOf9
  v9 := Tryz.zeroValue9
  t20 := Tryz.underlying20
  a20 := Tryz.isAgg20
  z20 := Tryz.sizeOf20
  v20 := Tryz.zeroValue20
  t31 := Tryz.underlying26
  a31 := Tryz.isAgg26
  z31 := Tryz.sizeOf26
  v31 := Tryz.zeroValue26
  t37 := Tryz.underlying66
  a37 := Tryz.isAgg66
  z37 := Tryz.sizeOf66
  v37 := Tryz.zeroValue66
  t70 := Tryz.underlying101
  a70 := Tryz.isAgg101
  z70 := Tryz.sizeOf101
  v70 := Tryz.zeroValue101
  t72 := Tryz.underlying103
  a72 := Tryz.isAgg103
  z72 := Tryz.sizeOf103
  v72 := Tryz.zeroValue103
  t75 := Tryz.underlying106
  a75 := Tryz.isAgg106
  z75 := Tryz.sizeOf106
  v75 := Tryz.zeroValue106
  t76 := Tryz.underlying107
  a76 := Tryz.isAgg107
  z76 := Tryz.sizeOf107
  v76 := Tryz.zeroValue107
  t127 := Tryz.underlying137
  a127 := Tryz.isAgg137
  z127 := Tryz.sizeOf137
  v127 := Tryz.zeroValue137
  t164 := Tryz.underlying158
  a164 := Tryz.isAgg158
  z164 := Tryz.sizeOf158
  v164 := Tryz.zeroValue158 }
theorem Tryz.Builder_Extra_156 : Builder.Extra Tryz.prog Tryz.lays156_ren := {
  sizeBuilder := by kernel_rfl
  liesBuilder := by kernel_rfl
  t5 := Tryz.underlying5
  a5 := Tryz.isAgg5
  z5 := Tryz.sizeOf5
  v5 := Tryz.zeroValue5
  infoByte := by kernel_rfl
  cellsByte := by kernel_rfl
  sizeByte := by kernel_rfl
  neB5 := by decide }
open Go.RowKit in
theorem Tryz.strings_Join_none (a : Option Addr) (c : Nat) (sep : ByteArray) (w : World) :
    Calls Tryz.prog 94 #[.slice a 0 c, .string sep] w fun e w' => e = .returned (.string ⟨#[]⟩) ∧ w' = w := Any.strings_Join_none Tryz.lays156 Tryz.Builder_Extra_156 a c sep w
open Go.RowKit in
theorem Tryz.strings_Join (bk o c : Nat) (xs : List ByteArray) (sep : ByteArray) (w : World) (hcells : ∀ (j : Nat) x, xs[j]? = some x → w.cell? ⟨bk, o + j, none⟩ = some (.string x)) (hbk : bk < w.heap.size) (hN : xs.length ≤ 140737488355328) (hcap : xs.length ≤ c) (hlen : (Lib.join (xs.map (·.data.toList)) sep.data.toList).length ≤ 140737488355328) :
    Calls Tryz.prog 94 #[.slice (some ⟨bk, o, none⟩) xs.length c, .string sep] w fun e w' => e = .returned (.string ⟨(Lib.join (xs.map (·.data.toList)) sep.data.toList).toArray⟩) ∧ Below w.heap.size w w' := Any.strings_Join Tryz.lays156 Tryz.Builder_Extra_156 bk o c xs sep w hcells hbk hN hcap hlen
def Tryz.lays106_ren : Go.Shelf.Ren := ⟨fun | 106 => 158 | 213 => 185 | 265 => 206 | n => n, fun | 9 => 9 | 3 => 3 | n => n, fun | n => n⟩
theorem Tryz.lays106 : Go.Proofs.Lays.n106 Tryz.prog Tryz.lays106_ren := {
  mixed := by kernel_rfl
  f106 := Tryz.func158.trans (congrArg some (by kernel_rfl))
  f213 := Tryz.func185.trans (congrArg some (by kernel_rfl))
  f265 := Tryz.func206.trans (congrArg some (by kernel_rfl))
  t3 := Tryz.underlying3
  a3 := Tryz.isAgg3
  z3 := Tryz.sizeOf3
  v3 := Tryz.zeroValue3
  t9 := Tryz.underlying9
  a9 := Tryz.isAgg9
  z9 := Tryz.sizeOf9
  v9 := Tryz.zeroValue9 }
open Go.RowKit in
theorem Tryz.strings_Compare (a b : ByteArray) (w : World) :
    Calls Tryz.prog 158 #[.string a, .string b] w fun e w' => e = .returned (.int .i64 (Lib.compareBytes a.data.toList b.data.toList)) ∧ w' = w := Any.strings_Compare Tryz.lays106 a b w
def Tryz.lays104_ren : Go.Shelf.Ren := ⟨fun | 104 => 72 | 211 => 105 | 207 => 140 | n => n, fun | 9 => 9 | 4 => 4 | 24 => 78 | 3 => 3 | n => n, fun | n => n⟩
theorem Tryz.lays104 : Go.Proofs.Lays.n104 Tryz.prog Tryz.lays104_ren := {
  mixed := by kernel_rfl
  f104 := Tryz.func72.trans (congrArg some (by kernel_rfl))
  f207 := Tryz.func140.trans (congrArg some (by kernel_rfl))
  f211 := Tryz.func105.trans (congrArg some (by kernel_rfl))
  t3 := Tryz.underlying3
  a3 := Tryz.isAgg3
  z3 := Tryz.sizeOf3
  v3 := Tryz.zeroValue3
  t4 := Tryz.underlying4
  a4 := Tryz.isAgg4
  z4 := Tryz.sizeOf4
  v4 := Tryz.zeroValue4
  t9 := Tryz.underlying9
  a9 := Tryz.isAgg9
  z9 := Tryz.sizeOf9
  v9 := Tryz.zeroValue9
  t24 := Tryz.underlying78
  a24 := Tryz.isAgg78
  z24 := Tryz.sizeOf78
  v24 := Tryz.zeroValue78 }
open Go.RowKit in
theorem Tryz.strings_CutSuffix (s p : ByteArray) (w : World) (hs : s.size ≤ 9223372036854775807) :
    Calls Tryz.prog 72 #[.string s, .string p] w fun e w' => e = .returned (.tuple #[.string ⟨(Lib.trimSuffix s.data.toList p.data.toList).toArray⟩, .bool (Lib.hasSuffix s.data.toList p.data.toList)]) ∧ w' = w := Any.strings_CutSuffix Tryz.lays104 s p w hs
def Tryz.laysM171_ren : Go.Shelf.Ren := ⟨fun | 171 => 162 | 243 => 187 | 246 => 207 | 283 => 220 | 284 => 221 | 285 => 222 | 286 => 223 | 129 => 128 | 317 => 226 | 318 => 227 | 319 => 228 | 320 => 229 | 337 => 230 | 338 => 231 | n => n, fun | 3 => 3 | 9 => 9 | 2 => 2 | 4 => 4 | 171 => 187 | 0 => 0 | 53 => 122 | 37 => 66 | 5 => 5 | 173 => 189 | 212 => 199 | 51 => 120 | 20 => 20 | 213 => 200 | 46 => 37 | 232 => 201 | 233 => 202 | n => n, fun | 17 => 5 | 18 => 6 | 19 => 7 | n => n⟩
theorem Tryz.laysM171 : Go.Proofs.LaysM.n171 Tryz.prog Tryz.laysM171_ren := {
  mixed := by kernel_rfl
  f129 := Tryz.func128.trans (congrArg some (by kernel_rfl))
  f171 := Tryz.func162.trans (congrArg some (by kernel_rfl))
  f243 := Tryz.func187.trans (congrArg some (by kernel_rfl))
  f246 := Tryz.func207.trans (congrArg some (by kernel_rfl))
  f283 := Tryz.func220.trans (congrArg some (by kernel_rfl))
  f284 := Tryz.func221.trans (congrArg some (by kernel_rfl))
  f285 := Tryz.func222.trans (congrArg some (by kernel_rfl))
  f286 := Tryz.func223.trans (congrArg some (by kernel_rfl))
  f317 := Tryz.func226.trans (congrArg some (by kernel_rfl))
  f318 := Tryz.func227.trans (congrArg some (by kernel_rfl))
  f319 := Tryz.func228.trans (congrArg some (by kernel_rfl))
  f320 := Tryz.func229.trans (congrArg some (by kernel_rfl))
  f337 := Tryz.func230.trans (congrArg some (by kernel_rfl))
  f338 := Tryz.func231.trans (congrArg some (by kernel_rfl))
  t0 := Tryz.underlying0
  a0 := Tryz.isAgg0
  z0 := Tryz.sizeOf0
  v0 := Tryz.zeroValue0
  t2 := Tryz.underlying2
  a2 := Tryz.isAgg2
  z2 := Tryz.sizeOf2
  v2 := Tryz.zeroValue2
  t3 := Tryz.underlying3
  a3 := Tryz.isAgg3
  z3 := Tryz.sizeOf3
  v3 := Tryz.zeroValue3
  t4 := Tryz.underlying4
  a4 := Tryz.isAgg4
  z4 := Tryz.sizeOf4
  v4 := Tryz.zeroValue4
  t5 := Tryz.underlying5
  a5 := Tryz.isAgg5
  z5 := Tryz.sizeOf5
  v5 := Tryz.zeroValue5
  t9 := Tryz.underlying9
  a9 := Tryz.isAgg9
  z9 := Tryz.sizeOf9
  v9 := Tryz.zeroValue9
  t20 := Tryz.underlying20
  a20 := Tryz.isAgg20
  z20 := Tryz.sizeOf20
  v20 := Tryz.zeroValue20
  t37 := Tryz.underlying66
  a37 := Tryz.isAgg66
  z37 := Tryz.sizeOf66
  v37 := Tryz.zeroValue66
  t46 := Tryz.underlying37
  a46 := Tryz.isAgg37
  z46 := Tryz.sizeOf37
  v46 := Tryz.zeroValue37
  t51 := Tryz.underlying120
  a51 := Tryz.isAgg120
  z51 := Tryz.sizeOf120
  v51 := Tryz.zeroValue120
  t53 := Tryz.underlying122
  a53 := Tryz.isAgg122
  z53 := Tryz.sizeOf122
  v53 := Tryz.zeroValue122
  t171 := Tryz.underlying187
  a171 := Tryz.isAgg187
  z171 := Tryz.sizeOf187
  v171 := Tryz.zeroValue187
  t173 := Tryz.underlying189
  a173 := Tryz.isAgg189
  z173 := Tryz.sizeOf189
  v173 := Tryz.zeroValue189
  t212 := Tryz.underlying199
  a212 := Tryz.isAgg199
  z212 := Tryz.sizeOf199
  v212 := Tryz.zeroValue199
  t213 := Tryz.underlying200
  a213 := Tryz.isAgg200
  z213 := Tryz.sizeOf200
  t232 := Tryz.underlying201
  a232 := Tryz.isAgg201
  z232 := Tryz.sizeOf201
  v232 := Tryz.zeroValue201
  t233 := Tryz.underlying202
  a233 := Tryz.isAgg202
  z233 := Tryz.sizeOf202
  v233 := Tryz.zeroValue202
  g17 := by kernel_rfl
  g18 := by kernel_rfl
  g19 := by kernel_rfl
  i0 := by kernel_rfl
  i2 := by kernel_rfl
  i3 := by kernel_rfl
  i4 := by kernel_rfl
  i5 := by kernel_rfl
  i9 := by kernel_rfl
  i20 := by kernel_rfl
  i37 := by kernel_rfl
  i46 := by kernel_rfl
  i51 := by kernel_rfl
  i53 := by kernel_rfl
  i171 := by kernel_rfl
  i173 := by kernel_rfl
  i212 := by kernel_rfl
  i232 := by kernel_rfl
  i233 := by kernel_rfl
  m17 := by kernel_rfl
  m18 := by kernel_rfl
  m19 := by kernel_rfl }
open Go.RowKit Go.Sort Go.Lib in
theorem Tryz.strconv_Itoa (n : Int) (h0 : -9223372036854775808 ≤ n) (h1 : n ≤ 9223372036854775807) (w : World) (htab : Lib.TabIs Tryz.prog w "internal/strconv.uint64pow10" .u64 Lib.pow10Tab) :
    Calls Tryz.prog 162 #[.int .i64 n] w fun e w' => e = .returned (.string ⟨(Lib.itoa n).toArray⟩) ∧ ∃ k os, w' = grow (w.drewN k) os := Any.strconv_Itoa Tryz.laysM171 n h0 h1 w htab
def Tryz.laysC245_ren : Go.Shelf.Ren := ⟨fun | 245 => 173 | 279 => 196 | 280 => 197 | 281 => 198 | 282 => 199 | 316 => 213 | 171 => 162 | 205 => 214 | 243 => 187 | 246 => 207 | 283 => 220 | 284 => 221 | 285 => 222 | 286 => 223 | 129 => 128 | 317 => 226 | 318 => 227 | 319 => 228 | 320 => 229 | 337 => 230 | 338 => 231 | n => n, fun | 9 => 9 | 3 => 3 | 75 => 106 | 167 => 171 | 4 => 4 | 168 => 174 | 210 => 184 | 37 => 66 | 0 => 0 | 127 => 137 | 145 => 193 | 143 => 191 | 2 => 2 | 171 => 187 | 53 => 122 | 5 => 5 | 173 => 189 | 212 => 199 | 51 => 120 | 20 => 20 | 213 => 200 | 46 => 37 | 232 => 201 | 233 => 202 | 80 => 110 | n => n, fun | 15 => 1 | 16 => 2 | 17 => 5 | 18 => 6 | 19 => 7 | n => n⟩
theorem Tryz.laysC245 : Go.Proofs.LaysC.n245 Tryz.prog Tryz.laysC245_ren := {
  mixed := by kernel_rfl
  f129 := Tryz.func128.trans (congrArg some (by kernel_rfl))
  f171 := Tryz.func162.trans (congrArg some (by kernel_rfl))
  f205 := Tryz.func214.trans (congrArg some (by kernel_rfl))
  f243 := Tryz.func187.trans (congrArg some (by kernel_rfl))
  f245 := Tryz.func173.trans (congrArg some (by kernel_rfl))
  f246 := Tryz.func207.trans (congrArg some (by kernel_rfl))
  f279 := Tryz.func196.trans (congrArg some (by kernel_rfl))
  f280 := Tryz.func197.trans (congrArg some (by kernel_rfl))
  f281 := Tryz.func198.trans (congrArg some (by kernel_rfl))
  f282 := Tryz.func199.trans (congrArg some (by kernel_rfl))
  f283 := Tryz.func220.trans (congrArg some (by kernel_rfl))
  f284 := Tryz.func221.trans (congrArg some (by kernel_rfl))
  f285 := Tryz.func222.trans (congrArg some (by kernel_rfl))
  f286 := Tryz.func223.trans (congrArg some (by kernel_rfl))
  f316 := Tryz.func213.trans (congrArg some (by kernel_rfl))
  f317 := Tryz.func226.trans (congrArg some (by kernel_rfl))
  f318 := Tryz.func227.trans (congrArg some (by kernel_rfl))
  f319 := Tryz.func228.trans (congrArg some (by kernel_rfl))
  f320 := Tryz.func229.trans (congrArg some (by kernel_rfl))
  f337 := Tryz.func230.trans (congrArg some (by kernel_rfl))
  f338 := Tryz.func231.trans (congrArg some (by kernel_rfl))
  t0 := Tryz.underlying0
  a0 := Tryz.isAgg0
  z0 := Tryz.sizeOf0
  v0 := Tryz.zeroValue0
  t2 := Tryz.underlying2
  a2 := Tryz.isAgg2
  z2 := Tryz.sizeOf2
  v2 := Tryz.zeroValue2
  t3 := Tryz.underlying3
  a3 := Tryz.isAgg3
  z3 := Tryz.sizeOf3
  v3 := Tryz.zeroValue3
  t4 := Tryz.underlying4
  a4 := Tryz.isAgg4
  z4 := Tryz.sizeOf4
  v4 := Tryz.zeroValue4
  t5 := Tryz.underlying5
  a5 := Tryz.isAgg5
  z5 := Tryz.sizeOf5
  v5 := Tryz.zeroValue5
  t9 := Tryz.underlying9
  a9 := Tryz.isAgg9
  z9 := Tryz.sizeOf9
  v9 := Tryz.zeroValue9
  t20 := Tryz.underlying20
  a20 := Tryz.isAgg20
  z20 := Tryz.sizeOf20
  v20 := Tryz.zeroValue20
  t37 := Tryz.underlying66
  a37 := Tryz.isAgg66
  z37 := Tryz.sizeOf66
  v37 := Tryz.zeroValue66
  t46 := Tryz.underlying37
  a46 := Tryz.isAgg37
  z46 := Tryz.sizeOf37
  v46 := Tryz.zeroValue37
  t51 := Tryz.underlying120
  a51 := Tryz.isAgg120
  z51 := Tryz.sizeOf120
  v51 := Tryz.zeroValue120
  t53 := Tryz.underlying122
  a53 := Tryz.isAgg122
  z53 := Tryz.sizeOf122
  v53 := Tryz.zeroValue122
  t75 := Tryz.underlying106
  a75 := Tryz.isAgg106
  z75 := Tryz.sizeOf106
  v75 := Tryz.zeroValue106
  t127 := Tryz.underlying137
  a127 := Tryz.isAgg137
  z127 := Tryz.sizeOf137
  v127 := Tryz.zeroValue137
  t143 := Tryz.underlying191
  a143 := Tryz.isAgg191
  z143 := Tryz.sizeOf191
  v143 := Tryz.zeroValue191
  t145 := Tryz.underlying193
  a145 := Tryz.isAgg193
  z145 := Tryz.sizeOf193
  v145 := Tryz.zeroValue193
  t167 := Tryz.underlying171
  a167 := Tryz.isAgg171
  z167 := Tryz.sizeOf171
  v167 := Tryz.zeroValue171
  t168 := Tryz.underlying174
  a168 := Tryz.isAgg174
  z168 := Tryz.sizeOf174
  v168 := Tryz.zeroValue174
  t171 := Tryz.underlying187
  a171 := Tryz.isAgg187
  z171 := Tryz.sizeOf187
  v171 := Tryz.zeroValue187
  t173 := Tryz.underlying189
  a173 := Tryz.isAgg189
  z173 := Tryz.sizeOf189
  v173 := Tryz.zeroValue189
  t210 := Tryz.underlying184
  a210 := Tryz.isAgg184
  z210 := Tryz.sizeOf184
  v210 := Tryz.zeroValue184
  t212 := Tryz.underlying199
  a212 := Tryz.isAgg199
  z212 := Tryz.sizeOf199
  v212 := Tryz.zeroValue199
  t213 := Tryz.underlying200
  a213 := Tryz.isAgg200
  z213 := Tryz.sizeOf200
  t232 := Tryz.underlying201
  a232 := Tryz.isAgg201
  z232 := Tryz.sizeOf201
  v232 := Tryz.zeroValue201
  t233 := Tryz.underlying202
  a233 := Tryz.isAgg202
  z233 := Tryz.sizeOf202
  v233 := Tryz.zeroValue202
  g15 := by kernel_rfl
  g16 := by kernel_rfl
  g17 := by kernel_rfl
  g18 := by kernel_rfl
  g19 := by kernel_rfl
  t80 := Tryz.underlying110
  a80 := Tryz.isAgg110
  z80 := Tryz.sizeOf110
  v80 := Tryz.zeroValue110
  i0 := by kernel_rfl
  i2 := by kernel_rfl
  i3 := by kernel_rfl
  i4 := by kernel_rfl
  i5 := by kernel_rfl
  i9 := by kernel_rfl
  i20 := by kernel_rfl
  i37 := by kernel_rfl
  i46 := by kernel_rfl
  i51 := by kernel_rfl
  i53 := by kernel_rfl
  i75 := by kernel_rfl
  i80 := by kernel_rfl
  i127 := by kernel_rfl
  i143 := by kernel_rfl
  i145 := by kernel_rfl
  i167 := by kernel_rfl
  i168 := by kernel_rfl
  i171 := by kernel_rfl
  i173 := by kernel_rfl
  i210 := by kernel_rfl
  i212 := by kernel_rfl
  i232 := by kernel_rfl
  i233 := by kernel_rfl
  m15 := by kernel_rfl
  m16 := by kernel_rfl
  m17 := by kernel_rfl
  m18 := by kernel_rfl
  m19 := by kernel_rfl
  c0 := by kernel_rfl
  c2 := by kernel_rfl
  c3 := by kernel_rfl
  c4 := by kernel_rfl
  c5 := by kernel_rfl
  c9 := by kernel_rfl
  c20 := by kernel_rfl
  c37 := by kernel_rfl
  c46 := by kernel_rfl
  c51 := by kernel_rfl
  c53 := by kernel_rfl
  c75 := by kernel_rfl
  c80 := by kernel_rfl
  c127 := by kernel_rfl
  c143 := by kernel_rfl
  c145 := by kernel_rfl
  c167 := by kernel_rfl
  c168 := by kernel_rfl
  c171 := by kernel_rfl
  c173 := by kernel_rfl
  c210 := by kernel_rfl
  c212 := by kernel_rfl
  c213 := by kernel_rfl
  c232 := by kernel_rfl
  c233 := by kernel_rfl }
open Go.RowKit in
theorem Tryz.strconv_toError_syntax (fn s : ByteArray) (base bits : Int) (ev : Value) (w : World) (hlim : s.size ≤ 281474976710656) (hv : w.cell? ⟨1, 0, none⟩ = some ev) (hev : ev = .nilIface ∨ ∃ te pe, ev = .iface te pe) :
    Calls Tryz.prog 173 #[.string fn, .string s, .int .i64 base, .int .i64 bits, .iface 171 (.int .i64 2)] w fun e w' => ∃ N, e = .returned (.iface 174 (.pointer (some ⟨N, 0, none⟩))) ∧ w.heap.size ≤ N ∧ w'.heap[N]? = some (.cells #[.string fn, .string s, ev] 184 (0, 0)) ∧ Below w.heap.size w w' := Any.strconv_toError_syntax Tryz.laysC245 fn s base bits ev w hlim hv hev
def Tryz.laysC244_ren : Go.Shelf.Ren := ⟨fun | 244 => 172 | 247 => 195 | 287 => 190 | 321 => 209 | 322 => 210 | n => n, fun | 9 => 9 | 3 => 3 | 75 => 106 | 4 => 4 | 5 => 5 | 167 => 171 | 37 => 66 | 0 => 0 | 85 => 172 | 2 => 2 | 53 => 122 | 175 => 152 | 46 => 37 | 21 => 21 | 80 => 110 | n => n, fun | n => n⟩
theorem Tryz.laysC244 : Go.Proofs.LaysC.n244 Tryz.prog Tryz.laysC244_ren := {
  mixed := by kernel_rfl
  f244 := Tryz.func172.trans (congrArg some (by kernel_rfl))
  f247 := Tryz.func195.trans (congrArg some (by kernel_rfl))
  f287 := Tryz.func190.trans (congrArg some (by kernel_rfl))
  f321 := Tryz.func209.trans (congrArg some (by kernel_rfl))
  f322 := Tryz.func210.trans (congrArg some (by kernel_rfl))
  t0 := Tryz.underlying0
  a0 := Tryz.isAgg0
  z0 := Tryz.sizeOf0
  v0 := Tryz.zeroValue0
  t2 := Tryz.underlying2
  a2 := Tryz.isAgg2
  z2 := Tryz.sizeOf2
  v2 := Tryz.zeroValue2
  t3 := Tryz.underlying3
  a3 := Tryz.isAgg3
  z3 := Tryz.sizeOf3
  v3 := Tryz.zeroValue3
  t4 := Tryz.underlying4
  a4 := Tryz.isAgg4
  z4 := Tryz.sizeOf4
  v4 := Tryz.zeroValue4
  t5 := Tryz.underlying5
  a5 := Tryz.isAgg5
  z5 := Tryz.sizeOf5
  v5 := Tryz.zeroValue5
  t9 := Tryz.underlying9
  a9 := Tryz.isAgg9
  z9 := Tryz.sizeOf9
  v9 := Tryz.zeroValue9
  t21 := Tryz.underlying21
  a21 := Tryz.isAgg21
  z21 := Tryz.sizeOf21
  v21 := Tryz.zeroValue21
  t37 := Tryz.underlying66
  a37 := Tryz.isAgg66
  z37 := Tryz.sizeOf66
  v37 := Tryz.zeroValue66
  t46 := Tryz.underlying37
  a46 := Tryz.isAgg37
  z46 := Tryz.sizeOf37
  v46 := Tryz.zeroValue37
  t53 := Tryz.underlying122
  a53 := Tryz.isAgg122
  z53 := Tryz.sizeOf122
  v53 := Tryz.zeroValue122
  t75 := Tryz.underlying106
  a75 := Tryz.isAgg106
  z75 := Tryz.sizeOf106
  v75 := Tryz.zeroValue106
  t85 := Tryz.underlying172
  a85 := Tryz.isAgg172
  z85 := Tryz.sizeOf172
  v85 := Tryz.zeroValue172
  t167 := Tryz.underlying171
  a167 := Tryz.isAgg171
  z167 := Tryz.sizeOf171
  v167 := Tryz.zeroValue171
  t175 := Tryz.underlying152
  a175 := Tryz.isAgg152
  z175 := Tryz.sizeOf152
  v175 := Tryz.zeroValue152
  t80 := Tryz.underlying110
  a80 := Tryz.isAgg110
  z80 := Tryz.sizeOf110
  v80 := Tryz.zeroValue110
  i0 := by kernel_rfl
  i2 := by kernel_rfl
  i3 := by kernel_rfl
  i4 := by kernel_rfl
  i5 := by kernel_rfl
  i9 := by kernel_rfl
  i21 := by kernel_rfl
  i37 := by kernel_rfl
  i46 := by kernel_rfl
  i53 := by kernel_rfl
  i75 := by kernel_rfl
  i80 := by kernel_rfl
  i85 := by kernel_rfl
  i167 := by kernel_rfl
  i175 := by kernel_rfl
  c0 := by kernel_rfl
  c2 := by kernel_rfl
  c3 := by kernel_rfl
  c4 := by kernel_rfl
  c5 := by kernel_rfl
  c9 := by kernel_rfl
  c21 := by kernel_rfl
  c37 := by kernel_rfl
  c46 := by kernel_rfl
  c53 := by kernel_rfl
  c75 := by kernel_rfl
  c80 := by kernel_rfl
  c85 := by kernel_rfl
  c167 := by kernel_rfl
  c175 := by kernel_rfl }
open Go.RowKit in
theorem Tryz.internal_strconv_Atoi_all (s : ByteArray) (hmax : s.size ≤ 9223372036854775806) (w : World) :
    Calls Tryz.prog 172 #[.string s] w fun e w' => e = .returned (Lib.intTuple 171 (Lib.atoiSat s.data.toList) (Lib.atoiAll s.data.toList)) ∧ (w' = w ∨ ∃ t, w' = Lib.bytesWorld w 5 t) := Any.internal_strconv_Atoi_all Tryz.laysC244 s hmax w
open Go.RowKit in
theorem Tryz.strconv_toError_range (fn s : ByteArray) (base bits : Int) (ev : Value) (w : World) (hlim : s.size ≤ 281474976710656) (hv : w.cell? ⟨2, 0, none⟩ = some ev) (hev : ev = .nilIface ∨ ∃ te pe, ev = .iface te pe) :
    Calls Tryz.prog 173 #[.string fn, .string s, .int .i64 base, .int .i64 bits, .iface 171 (.int .i64 1)] w fun e w' => ∃ N, e = .returned (.iface 174 (.pointer (some ⟨N, 0, none⟩))) ∧ w.heap.size ≤ N ∧ w'.heap[N]? = some (.cells #[.string fn, .string s, ev] 184 (0, 0)) ∧ Below w.heap.size w w' := Any.strconv_toError_range Tryz.laysC245 fn s base bits ev w hlim hv hev
def Tryz.laysPu14_ren : Go.Shelf.Ren := ⟨fun | 14 => 169 | 16 => 190 | 17 => 173 | 19 => 209 | 20 => 210 | 21 => 196 | 22 => 197 | 23 => 198 | 24 => 199 | 25 => 213 | 27 => 162 | 26 => 214 | 28 => 187 | 29 => 207 | 30 => 220 | 31 => 221 | 32 => 222 | 33 => 223 | 35 => 128 | 34 => 226 | 36 => 227 | 37 => 228 | 38 => 229 | 39 => 230 | 40 => 231 | n => n, fun | 9 => 9 | 3 => 3 | 22 => 122 | 24 => 106 | 25 => 152 | 4 => 4 | 34 => 171 | 5 => 5 | 36 => 37 | 37 => 66 | 0 => 0 | 39 => 174 | 21 => 21 | 44 => 184 | 47 => 137 | 50 => 193 | 48 => 191 | 2 => 2 | 52 => 187 | 55 => 189 | 59 => 199 | 60 => 120 | 20 => 20 | 61 => 200 | 65 => 201 | 66 => 202 | 67 => 110 | n => n, fun | 0 => 1 | 1 => 2 | 2 => 5 | 3 => 6 | 4 => 7 | n => n⟩
theorem Tryz.laysPu14 : Go.Proofs.LaysPu.n14 Tryz.prog Tryz.laysPu14_ren := {
  mixed := by kernel_rfl
  f14 := Tryz.func169.trans (congrArg some (by kernel_rfl))
  f16 := Tryz.func190.trans (congrArg some (by kernel_rfl))
  f17 := Tryz.func173.trans (congrArg some (by kernel_rfl))
  f19 := Tryz.func209.trans (congrArg some (by kernel_rfl))
  f20 := Tryz.func210.trans (congrArg some (by kernel_rfl))
  f21 := Tryz.func196.trans (congrArg some (by kernel_rfl))
  f22 := Tryz.func197.trans (congrArg some (by kernel_rfl))
  f23 := Tryz.func198.trans (congrArg some (by kernel_rfl))
  f24 := Tryz.func199.trans (congrArg some (by kernel_rfl))
  f25 := Tryz.func213.trans (congrArg some (by kernel_rfl))
  f26 := Tryz.func214.trans (congrArg some (by kernel_rfl))
  f27 := Tryz.func162.trans (congrArg some (by kernel_rfl))
  f28 := Tryz.func187.trans (congrArg some (by kernel_rfl))
  f29 := Tryz.func207.trans (congrArg some (by kernel_rfl))
  f30 := Tryz.func220.trans (congrArg some (by kernel_rfl))
  f31 := Tryz.func221.trans (congrArg some (by kernel_rfl))
  f32 := Tryz.func222.trans (congrArg some (by kernel_rfl))
  f33 := Tryz.func223.trans (congrArg some (by kernel_rfl))
  f34 := Tryz.func226.trans (congrArg some (by kernel_rfl))
  f35 := Tryz.func128.trans (congrArg some (by kernel_rfl))
  f36 := Tryz.func227.trans (congrArg some (by kernel_rfl))
  f37 := Tryz.func228.trans (congrArg some (by kernel_rfl))
  f38 := Tryz.func229.trans (congrArg some (by kernel_rfl))
  f39 := Tryz.func230.trans (congrArg some (by kernel_rfl))
  f40 := Tryz.func231.trans (congrArg some (by kernel_rfl))
  t0 := Tryz.underlying0
  a0 := Tryz.isAgg0
  z0 := Tryz.sizeOf0
  v0 := Tryz.zeroValue0
  i0 := by kernel_rfl
  t2 := Tryz.underlying2
  a2 := Tryz.isAgg2
  z2 := Tryz.sizeOf2
  v2 := Tryz.zeroValue2
  i2 := by kernel_rfl
  t3 := Tryz.underlying3
  a3 := Tryz.isAgg3
  z3 := Tryz.sizeOf3
  v3 := Tryz.zeroValue3
  i3 := by kernel_rfl
  t4 := Tryz.underlying4
  a4 := Tryz.isAgg4
  z4 := Tryz.sizeOf4
  v4 := Tryz.zeroValue4
  i4 := by kernel_rfl
  t5 := Tryz.underlying5
  a5 := Tryz.isAgg5
  z5 := Tryz.sizeOf5
  v5 := Tryz.zeroValue5
  i5 := by kernel_rfl
  t9 := Tryz.underlying9
  a9 := Tryz.isAgg9
  z9 := Tryz.sizeOf9
  v9 := Tryz.zeroValue9
  i9 := by kernel_rfl
  t20 := Tryz.underlying20
  a20 := Tryz.isAgg20
  z20 := Tryz.sizeOf20
  v20 := Tryz.zeroValue20
  i20 := by kernel_rfl
  t21 := Tryz.underlying21
  a21 := Tryz.isAgg21
  z21 := Tryz.sizeOf21
  v21 := Tryz.zeroValue21
  i21 := by kernel_rfl
  t22 := Tryz.underlying122
  a22 := Tryz.isAgg122
  z22 := Tryz.sizeOf122
  v22 := Tryz.zeroValue122
  i22 := by kernel_rfl
  t24 := Tryz.underlying106
  a24 := Tryz.isAgg106
  z24 := Tryz.sizeOf106
  v24 := Tryz.zeroValue106
  i24 := by kernel_rfl
  t25 := Tryz.underlying152
  a25 := Tryz.isAgg152
  z25 := Tryz.sizeOf152
  v25 := Tryz.zeroValue152
  i25 := by kernel_rfl
  t34 := Tryz.underlying171
  a34 := Tryz.isAgg171
  z34 := Tryz.sizeOf171
  v34 := Tryz.zeroValue171
  i34 := by kernel_rfl
  c34 := by kernel_rfl
  t36 := Tryz.underlying37
  a36 := Tryz.isAgg37
  z36 := Tryz.sizeOf37
  v36 := Tryz.zeroValue37
  i36 := by kernel_rfl
  t37 := Tryz.underlying66
  a37 := Tryz.isAgg66
  z37 := Tryz.sizeOf66
  v37 := Tryz.zeroValue66
  i37 := by kernel_rfl
  t39 := Tryz.underlying174
  a39 := Tryz.isAgg174
  z39 := Tryz.sizeOf174
  v39 := Tryz.zeroValue174
  i39 := by kernel_rfl
  t44 := Tryz.underlying184
  a44 := Tryz.isAgg184
  z44 := Tryz.sizeOf184
  v44 := Tryz.zeroValue184
  i44 := by kernel_rfl
  t47 := Tryz.underlying137
  a47 := Tryz.isAgg137
  z47 := Tryz.sizeOf137
  v47 := Tryz.zeroValue137
  i47 := by kernel_rfl
  t48 := Tryz.underlying191
  a48 := Tryz.isAgg191
  z48 := Tryz.sizeOf191
  v48 := Tryz.zeroValue191
  i48 := by kernel_rfl
  t50 := Tryz.underlying193
  a50 := Tryz.isAgg193
  z50 := Tryz.sizeOf193
  v50 := Tryz.zeroValue193
  i50 := by kernel_rfl
  t52 := Tryz.underlying187
  a52 := Tryz.isAgg187
  z52 := Tryz.sizeOf187
  v52 := Tryz.zeroValue187
  i52 := by kernel_rfl
  t55 := Tryz.underlying189
  a55 := Tryz.isAgg189
  z55 := Tryz.sizeOf189
  v55 := Tryz.zeroValue189
  i55 := by kernel_rfl
  t59 := Tryz.underlying199
  a59 := Tryz.isAgg199
  z59 := Tryz.sizeOf199
  v59 := Tryz.zeroValue199
  i59 := by kernel_rfl
  t60 := Tryz.underlying120
  a60 := Tryz.isAgg120
  z60 := Tryz.sizeOf120
  v60 := Tryz.zeroValue120
  i60 := by kernel_rfl
  t61 := Tryz.underlying200
  a61 := Tryz.isAgg200
  z61 := Tryz.sizeOf200
  t65 := Tryz.underlying201
  a65 := Tryz.isAgg201
  z65 := Tryz.sizeOf201
  v65 := Tryz.zeroValue201
  i65 := by kernel_rfl
  t66 := Tryz.underlying202
  a66 := Tryz.isAgg202
  z66 := Tryz.sizeOf202
  v66 := Tryz.zeroValue202
  i66 := by kernel_rfl
  t67 := Tryz.underlying110
  a67 := Tryz.isAgg110
  z67 := Tryz.sizeOf110
  v67 := Tryz.zeroValue110
  i67 := by kernel_rfl
  g0 := by kernel_rfl
  m0 := by kernel_rfl
  g1 := by kernel_rfl
  m1 := by kernel_rfl
  g2 := by kernel_rfl
  m2 := by kernel_rfl
  g3 := by kernel_rfl
  m3 := by kernel_rfl
  g4 := by kernel_rfl
  m4 := by kernel_rfl }
open Go.RowKit in
theorem Tryz.strconv_ParseUint_10_at64_ok (s : ByteArray) (hmax : s.size ≤ 9223372036854775806) (u : Nat) (h : Lib.parseUintB 64 s.data.toList = .ok u) (w : World) :
    Calls Tryz.prog 169 #[.string s, .int .i64 10, .int .i64 64] w fun e w' => e = .returned (.tuple #[.int .u64 u, .nilIface]) ∧ (w' = w ∨ w' = Lib.bytesWorld w 5 s) := Any.strconv_ParseUint_10_at64_ok Tryz.laysPu14 s hmax u h w
def Tryz.lays206_ren : Go.Shelf.Ren := ⟨fun | 206 => 129 | n => n, fun | 9 => 9 | 4 => 4 | 3 => 3 | n => n, fun | n => n⟩
theorem Tryz.lays206 : Go.Proofs.Lays.n206 Tryz.prog Tryz.lays206_ren := {
  mixed := by kernel_rfl
  f206 := Tryz.func129.trans (congrArg some (by kernel_rfl))
  t3 := Tryz.underlying3
  a3 := Tryz.isAgg3
  z3 := Tryz.sizeOf3
  v3 := Tryz.zeroValue3
  t4 := Tryz.underlying4
  a4 := Tryz.isAgg4
  z4 := Tryz.sizeOf4
  v4 := Tryz.zeroValue4
  t9 := Tryz.underlying9
  a9 := Tryz.isAgg9
  z9 := Tryz.sizeOf9
  v9 := Tryz.zeroValue9 }
open Go.RowKit Go.Lib in
theorem Tryz.stringslite_HasPrefix (s p : ByteArray) (w : World) :
    Calls Tryz.prog 129 #[.string s, .string p] w fun e w' => e = .returned (.bool (Lib.hasPrefix s.data.toList p.data.toList)) ∧ w' = w := Any.stringslite_HasPrefix Tryz.lays206 s p w
def Tryz.lays146_ren : Go.Shelf.Ren := ⟨fun | 146 => 103 | 221 => 139 | 268 => 174 | 138 => 175 | 143 => 176 | 195 => 200 | 197 => 201 | 218 => 202 | 219 => 203 | 260 => 215 | 217 => 216 | 225 => 217 | 224 => 218 | 267 => 219 | 266 => 224 | 314 => 225 | n => n, fun | 9 => 9 | 31 => 26 | 3 => 3 | 4 => 4 | 0 => 0 | 105 => 177 | 21 => 21 | 5 => 5 | 46 => 37 | 119 => 194 | 139 => 197 | 138 => 196 | 146 => 133 | 51 => 120 | n => n, fun | 1 => 0 | 3 => 3 | 4 => 4 | n => n⟩
theorem Tryz.lays146 : Go.Proofs.Lays.n146 Tryz.prog Tryz.lays146_ren := {
  mixed := by kernel_rfl
  f138 := Tryz.func175.trans (congrArg some (by kernel_rfl))
  f143 := Tryz.func176.trans (congrArg some (by kernel_rfl))
  f146 := Tryz.func103.trans (congrArg some (by kernel_rfl))
  f195 := Tryz.func200.trans (congrArg some (by kernel_rfl))
  f197 := Tryz.func201.trans (congrArg some (by kernel_rfl))
  f217 := Tryz.func216.trans (congrArg some (by kernel_rfl))
  f218 := Tryz.func202.trans (congrArg some (by kernel_rfl))
  f219 := Tryz.func203.trans (congrArg some (by kernel_rfl))
  f221 := Tryz.func139.trans (congrArg some (by kernel_rfl))
  f224 := Tryz.func218.trans (congrArg some (by kernel_rfl))
  f225 := Tryz.func217.trans (congrArg some (by kernel_rfl))
  f260 := Tryz.func215.trans (congrArg some (by kernel_rfl))
  f266 := Tryz.func224.trans (congrArg some (by kernel_rfl))
  f267 := Tryz.func219.trans (congrArg some (by kernel_rfl))
  f268 := Tryz.func174.trans (congrArg some (by kernel_rfl))
  f314 := Tryz.func225.trans (congrArg some (by kernel_rfl))
  t0 := Tryz.underlying0
  a0 := Tryz.isAgg0
  z0 := Tryz.sizeOf0
  v0 := Tryz.zeroValue0
  t3 := Tryz.underlying3
  a3 := Tryz.isAgg3
  z3 := Tryz.sizeOf3
  v3 := Tryz.zeroValue3
  t4 := Tryz.underlying4
  a4 := Tryz.isAgg4
  z4 := Tryz.sizeOf4
  v4 := Tryz.zeroValue4
  t5 := Tryz.underlying5
  a5 := Tryz.isAgg5
  z5 := Tryz.sizeOf5
  v5 := Tryz.zeroValue5
  t9 := Tryz.underlying9
  a9 := Tryz.isAgg9
  z9 := Tryz.sizeOf9
  v9 := Tryz.zeroValue9
  t21 := Tryz.underlying21
  a21 := Tryz.isAgg21
  z21 := Tryz.sizeOf21
  v21 := Tryz.zeroValue21
  t31 := Tryz.underlying26
  a31 := Tryz.isAgg26
  z31 := Tryz.sizeOf26
  v31 := Tryz.zeroValue26
  t46 := Tryz.underlying37
  a46 := Tryz.isAgg37
  z46 := Tryz.sizeOf37
  v46 := Tryz.zeroValue37
  t51 := Tryz.underlying120
  a51 := Tryz.isAgg120
  z51 := Tryz.sizeOf120
  v51 := Tryz.zeroValue120
  t105 := Tryz.underlying177
  a105 := Tryz.isAgg177
  z105 := Tryz.sizeOf177
  v105 := Tryz.zeroValue177
  t119 := Tryz.underlying194
  a119 := Tryz.isAgg194
  z119 := Tryz.sizeOf194
  t138 := Tryz.underlying196
  a138 := Tryz.isAgg196
  z138 := Tryz.sizeOf196
  v138 := Tryz.zeroValue196
  t139 := Tryz.underlying197
  a139 := Tryz.isAgg197
  z139 := Tryz.sizeOf197
  v139 := Tryz.zeroValue197
  t146 := Tryz.underlying133
  a146 := Tryz.isAgg133
  z146 := Tryz.sizeOf133
  v146 := Tryz.zeroValue133
  g1 := by kernel_rfl
  g3 := by kernel_rfl
  g4 := by kernel_rfl }
open Go.RowKit Go.Lib in
theorem Tryz.strings_Split (s sep : ByteArray) (m : Int) (w : World) (hs : s.size < 4294967281) (hm : w.cell? ⟨0, 0, none⟩ = some (.int .i64 m)) (h1 : 1 ≤ sep.size) :
    Calls Tryz.prog 103 #[.string s, .string sep] w fun e w' =>
      e = .returned (.slice (some ⟨w.heap.size, 0, none⟩) (Lib.countB s sep + 1) (Lib.countB s sep + 1)) ∧ w' = w.alloc (.cells ((Lib.splitB sep 0 (Lib.countB s sep) s).map Value.string).toArray 9) := Any.strings_Split Tryz.lays146 (by kernel_rfl) s sep m w hs hm h1
def Tryz.lays105_ren : Go.Shelf.Ren := ⟨fun | 105 => 73 | 212 => 106 | 99 => 107 | 165 => 108 | 166 => 109 | 170 => 110 | 169 => 111 | 263 => 141 | 264 => 142 | 206 => 129 | 240 => 143 | 241 => 144 | 276 => 177 | 277 => 178 | n => n, fun | 9 => 9 | 3 => 3 | 4 => 4 | 20 => 20 | 0 => 0 | 46 => 37 | 109 => 98 | 5 => 5 | 72 => 103 | 76 => 107 | 51 => 120 | 146 => 133 | 53 => 122 | 148 => 135 | 70 => 101 | 37 => 66 | 75 => 106 | 127 => 137 | 164 => 158 | 80 => 110 | n => n, fun | n => n⟩
theorem Tryz.lays105 : Go.Proofs.Lays.n105 Tryz.prog Tryz.lays105_ren := {
  mixed := by kernel_rfl
  f99 := Tryz.func107.trans (congrArg some (by kernel_rfl))
  f105 := Tryz.func73.trans (congrArg some (by kernel_rfl))
  f165 := Tryz.func108.trans (congrArg some (by kernel_rfl))
  f166 := Tryz.func109.trans (congrArg some (by kernel_rfl))
  f169 := Tryz.func111.trans (congrArg some (by kernel_rfl))
  f170 := Tryz.func110.trans (congrArg some (by kernel_rfl))
  f206 := Tryz.func129.trans (congrArg some (by kernel_rfl))
  f212 := Tryz.func106.trans (congrArg some (by kernel_rfl))
  f240 := Tryz.func143.trans (congrArg some (by kernel_rfl))
  f241 := Tryz.func144.trans (congrArg some (by kernel_rfl))
  f263 := Tryz.func141.trans (congrArg some (by kernel_rfl))
  f264 := Tryz.func142.trans (congrArg some (by kernel_rfl))
  f276 := Tryz.func177.trans (congrArg some (by kernel_rfl))
  f277 := Tryz.func178.trans (congrArg some (by kernel_rfl))
  t0 := Tryz.underlying0
  a0 := Tryz.isAgg0
  z0 := Tryz.sizeOf0
  v0 := Tryz.zeroValue0
  t3 := Tryz.underlying3
  a3 := Tryz.isAgg3
  z3 := Tryz.sizeOf3
  v3 := Tryz.zeroValue3
  t4 := Tryz.underlying4
  a4 := Tryz.isAgg4
  z4 := Tryz.sizeOf4
  v4 := Tryz.zeroValue4
  t5 := Tryz.underlying5
  a5 := Tryz.isAgg5
  z5 := Tryz.sizeOf5
  v5 := Tryz.zeroValue5
  t9 := Tryz.underlying9
  a9 := Tryz.isAgg9
  z9 := Tryz.sizeOf9
  v9 := Tryz.zeroValue9
  t20 := Tryz.underlying20
  a20 := Tryz.isAgg20
  z20 := Tryz.sizeOf20
  v20 := Tryz.zeroValue20
  t37 := Tryz.underlying66
  a37 := Tryz.isAgg66
  z37 := Tryz.sizeOf66
  v37 := Tryz.zeroValue66
  t46 := Tryz.underlying37
  a46 := Tryz.isAgg37
  z46 := Tryz.sizeOf37
  v46 := Tryz.zeroValue37
  t51 := Tryz.underlying120
  a51 := Tryz.isAgg120
  z51 := Tryz.sizeOf120
  v51 := Tryz.zeroValue120
  t53 := Tryz.underlying122
  a53 := Tryz.isAgg122
  z53 := Tryz.sizeOf122
  v53 := Tryz.zeroValue122
  t70 := Tryz.underlying101
  a70 := Tryz.isAgg101
  z70 := Tryz.sizeOf101
  v70 := Tryz.zeroValue101
  t72 := Tryz.underlying103
  a72 := Tryz.isAgg103
  z72 := Tryz.sizeOf103
  v72 := Tryz.zeroValue103
  t75 := Tryz.underlying106
  a75 := Tryz.isAgg106
  z75 := Tryz.sizeOf106
  v75 := Tryz.zeroValue106
  t76 := Tryz.underlying107
  a76 := Tryz.isAgg107
  z76 := Tryz.sizeOf107
  v76 := Tryz.zeroValue107
  t109 := Tryz.underlying98
  a109 := Tryz.isAgg98
  z109 := Tryz.sizeOf98
  v109 := Tryz.zeroValue98
  t127 := Tryz.underlying137
  a127 := Tryz.isAgg137
  z127 := Tryz.sizeOf137
  v127 := Tryz.zeroValue137
  t146 := Tryz.underlying133
  a146 := Tryz.isAgg133
  z146 := Tryz.sizeOf133
  v146 := Tryz.zeroValue133
  t148 := Tryz.underlying135
  a148 := Tryz.isAgg135
  z148 := Tryz.sizeOf135
  v148 := Tryz.zeroValue135
  t164 := Tryz.underlying158
  a164 := Tryz.isAgg158
  z164 := Tryz.sizeOf158
  v164 := Tryz.zeroValue158 }
theorem Tryz.Builder_Extra_105 : Builder.Extra Tryz.prog Tryz.lays105_ren := {
  sizeBuilder := by kernel_rfl
  liesBuilder := by kernel_rfl
  t5 := Tryz.underlying5
  a5 := Tryz.isAgg5
  z5 := Tryz.sizeOf5
  v5 := Tryz.zeroValue5
  infoByte := by kernel_rfl
  cellsByte := by kernel_rfl
  sizeByte := by kernel_rfl
  neB5 := by decide }
open Go.RowKit Go.Lib in
theorem Tryz.strings_Repeat (s : ByteArray) (c : Nat) (w : World) (hc : c ≤ 9223372036854775807) (hlen : s.size * c ≤ 140737488355328) :
    Calls Tryz.prog 73 #[.string s, .int .i64 c] w fun e w' => e = .returned (.string ⟨(Lib.repeatL s.data.toList c).toArray⟩) ∧ Below w.heap.size w w' := Any.strings_Repeat Tryz.lays105 Tryz.Builder_Extra_105 s c w hc hlen
def Tryz.laysNm217_ren : Go.Shelf.Ren := ⟨fun | 17 => 101 | n => n, fun | 24 => 26 | 9 => 9 | 3 => 3 | 4 => 4 | 0 => 0 | n => n, fun | n => n⟩
theorem Tryz.laysNm217 : Go.Proofs.Lays2.n17 Tryz.prog Tryz.laysNm217_ren := {
  mixed := by kernel_rfl
  f17 := Tryz.func101.trans (congrArg some (by kernel_rfl))
  t0 := Tryz.underlying0
  a0 := Tryz.isAgg0
  z0 := Tryz.sizeOf0
  v0 := Tryz.zeroValue0
  t3 := Tryz.underlying3
  a3 := Tryz.isAgg3
  z3 := Tryz.sizeOf3
  v3 := Tryz.zeroValue3
  t4 := Tryz.underlying4
  a4 := Tryz.isAgg4
  z4 := Tryz.sizeOf4
  v4 := Tryz.zeroValue4
  t9 := Tryz.underlying9
  a9 := Tryz.isAgg9
  z9 := Tryz.sizeOf9
  v9 := Tryz.zeroValue9
  t24 := Tryz.underlying26
  a24 := Tryz.isAgg26
  z24 := Tryz.sizeOf26
  v24 := Tryz.zeroValue26 }
open Go.RowKit Go.Lib Go.Sort in
theorem Tryz.slices_Reverse_string (blk off cap : Nat) (zs : List (List UInt8)) (w : World) (hH : Holds encStr w blk off zs.toArray) (hsz : zs.length ≤ 9223372036854775807) :
    Calls Tryz.prog 101 #[.slice (some ⟨blk, off, none⟩) zs.length cap] w fun e w' => e = .returned (.tuple #[]) ∧ ∃ n, w' = putRow encStr (Sort.ahead w n) blk off zs.reverse.toArray := Any.slices_Reverse_string Tryz.laysNm217 blk off cap zs w hH hsz
open Go.RowKit Go.Lib Go.Sort in
theorem Tryz.slices_Reverse_string_empty (a : Option Addr) (cap : Nat) (w : World) :
    Calls Tryz.prog 101 #[.slice a 0 cap] w fun e w' => e = .returned (.tuple #[]) ∧ w' = w := Any.slices_Reverse_string_empty Tryz.laysNm217 a cap w
end Go.Proofs
namespace Go.Proofs.YtdkikjcpgihjlaaGreatDoor
open Go Go.Eng Go.Num
set_option maxRecDepth 100000
abbrev u64 (n : Nat) : Value := .int .u64 (n : Int)
abbrev U8 : TypeId := 5
theorem bytes_ext (w : World) (e : TypeId) (s : ByteArray) : Ext w (Lib.bytesWorld w e s) :=
  ⟨rfl, rfl, rfl, by rw [Lib.bytesWorld_size]; omega, fun k hk _ => Lib.bytesWorld_at_old w e s k hk⟩
theorem to_bytes {l : Str} {w : World} {src dst : TypeId} {K : Value → World → Prop} (hs : Tryz.prog.underlying src = some .string) (hd : Tryz.prog.underlying dst = some (.slice U8)) (he : Tryz.prog.underlying U8 = some (.int .u8))
    (hK : ∀ v w', Byt w' U8 v l → Ext w w' → K v w') : semE Tryz.prog (convert src dst (str l)) w K := by
  unfold semE
  rw [Lib.run_convert_string_bytes w src dst U8 (ofL l) hs hd he]
  refine hK _ _ ?_ (bytes_ext _ _ _)
  have hle : (ofL l).size ≤ grownCap w (ofL l).size 0 U8 := by
    exact grownCap_ge w (ofL l).size 0 U8
  refine ⟨some ⟨w.heap.size, 0, none⟩, grownCap w (ofL l).size 0 U8, by rw [ofL_size], by rw [← ofL_size]; exact hle, (fun e => by cases e), fun _ => ⟨w.heap.size, 0, _, _, rfl, Lib.bytesWorld_at_new w U8 (ofL l), fun i hi => ?_⟩⟩
  have hi : i < (ofL l).size := by rw [ofL_size]; simpa [u8s_length] using hi
  have := Lib.bytesWorld_cell w U8 (ofL l) i hi
  rw [cell_eq, Lib.bytesWorld_at_new, cellO_some] at this
  rw [Nat.zero_add, this, u8s_get, ofL_data]
  have hi' : i < l.length := by rw [ofL_size] at hi; exact hi
  simp [List.getD_eq_getElem?_getD, List.getElem?_eq_getElem hi']
theorem of_calls [HX] {g : FuncId} {args : Array Value} {w : World} {K : Value → World → Prop} (hr : ∀ (ar : Array Value) (w : World), (callFunc g ar).run Tryz.prog w = .ok (.enter g ar) w)
    (h : Calls Tryz.prog g args w fun e w' => ∃ v, e = .returned v ∧ K v w') : callF Tryz.prog g args.toList w K := by
  unfold callF
  rw [show args.toList.toArray = args from by simp, hr]
  refine h.mono ?_
  rintro e w' ⟨v, rfl, hk⟩
  exact hk
section
variable [HX]
theorem nan_i (n : Int) (KK : Value → Prop) (h : KK (.bool false)) : binW .neq (i64 n) (i64 n) KK := by rw [bin_neq]; simpa using h
theorem nan_u (n : Nat) (KK : Value → Prop) (h : KK (.bool false)) : binW .neq (u64 n) (u64 n) KK := by rw [bin_neq]; simpa using h
theorem nan_s (s : Str) (KK : Value → Prop) (h : KK (.bool false)) : binW .neq (str s) (str s) KK := by rw [bin_sne]; simpa using h
theorem isnan_k {n : Int} {w : World} {K : Value → World → Prop} (hK : K (.bool false) w) : callF Tryz.prog 183 [i64 n] w K := by
  refine W183_ok ?_
  exact nan_i n _ hK
theorem isnan_i {n : Int} {w : World} {K : Value → World → Prop} (hK : K (.bool false) w) : callF Tryz.prog 184 [i64 n] w K := by
  refine W184_ok ?_
  exact nan_i n _ hK
theorem isnan_u {n : Nat} {w : World} {K : Value → World → Prop} (hK : K (.bool false) w) : callF Tryz.prog 208 [u64 n] w K := by
  refine W208_ok ?_
  exact nan_u n _ hK
theorem isnan_s {s : Str} {w : World} {K : Value → World → Prop} (hK : K (.bool false) w) : callF Tryz.prog 154 [str s] w K := by
  refine W154_ok ?_
  exact nan_s s _ hK
theorem isnan_s2 {s : Str} {w : World} {K : Value → World → Prop} (hK : K (.bool false) w) : callF Tryz.prog 163 [str s] w K := by
  refine W163_ok ?_
  exact nan_s s _ hK
theorem cmpI_K {a b : Int} {w : World} {K : Value → World → Prop} (hK : K (i64 (cmpI a b)) w) : (a < b → K (i64 (-1)) w) ∧ (¬ a < b → (b < a → K (i64 1) w) ∧ (¬ b < a → K (i64 0) w)) := by
  unfold cmpI at hK
  refine ⟨fun h => ?_, fun h => ⟨fun h2 => ?_, fun h2 => ?_⟩⟩
  · rw [if_pos h] at hK; exact hK
  · rw [if_neg h, if_pos h2] at hK; exact hK
  · rw [if_neg h, if_neg h2] at hK; exact hK
theorem cmp_k {a b : Int} {w : World} {K : Value → World → Prop} (hK : K (i64 (cmpI a b)) w) : callF Tryz.prog 155 [i64 a, i64 b] w K := by
  refine W155_ok ?_
  unfold W155
  refine isnan_k (isnan_k ?_)
  simp only [wsv, wsg, wsh, wsl, cond_true, cond_false, exists_eq_left', Option.some.injEq, Option.isSome_some, List.getElem?_toArray, List.getElem?_cons_zero, List.getElem?_cons_succ, List.length_cons, List.length_nil, List.set_cons_zero, List.set_cons_succ, List.getD_cons_zero, List.getD_cons_succ, Nat.zero_add, Nat.add_zero, Nat.reduceAdd, Nat.reduceLT, Nat.lt_add_one, Nat.zero_lt_succ, decide_true, decide_false, ne_eq, reduceCtorEq, condW_dec]
  exact cmpI_K hK
theorem cmp_i {a b : Int} {w : World} {K : Value → World → Prop} (hK : K (i64 (cmpI a b)) w) : callF Tryz.prog 156 [i64 a, i64 b] w K := by
  refine W156_ok ?_
  unfold W156
  refine isnan_i (isnan_i ?_)
  simp only [wsv, wsg, wsh, wsl, cond_true, cond_false, exists_eq_left', Option.some.injEq, Option.isSome_some, List.getElem?_toArray, List.getElem?_cons_zero, List.getElem?_cons_succ, List.length_cons, List.length_nil, List.set_cons_zero, List.set_cons_succ, List.getD_cons_zero, List.getD_cons_succ, Nat.zero_add, Nat.add_zero, Nat.reduceAdd, Nat.reduceLT, Nat.lt_add_one, Nat.zero_lt_succ, decide_true, decide_false, ne_eq, reduceCtorEq, condW_dec]
  exact cmpI_K hK
theorem cmp_u {a b : Nat} {w : World} {K : Value → World → Prop} (hK : K (i64 (cmpN a b)) w) : callF Tryz.prog 188 [u64 a, u64 b] w K := by
  refine W188_ok ?_
  unfold W188
  refine isnan_u (isnan_u ?_)
  simp only [wsv, wsg, wsh, wsl, cond_true, cond_false, exists_eq_left', Option.some.injEq, Option.isSome_some, List.getElem?_toArray, List.getElem?_cons_zero, List.getElem?_cons_succ, List.length_cons, List.length_nil, List.set_cons_zero, List.set_cons_succ, List.getD_cons_zero, List.getD_cons_succ, Nat.zero_add, Nat.add_zero, Nat.reduceAdd, Nat.reduceLT, Nat.lt_add_one, Nat.zero_lt_succ, decide_true, decide_false, ne_eq, reduceCtorEq, condW_dec]
  have e : cmpN a b = cmpI a b := by unfold cmpN cmpI; simp only [Int.ofNat_lt]
  rw [e] at hK
  exact cmpI_K hK
theorem less_total {a b : Str} (h1 : Op.bytesLess a b = false) (h2 : (!(Op.bytesLess a b || decide (a = b))) = false) : a = b := by
  rw [h1] at h2; simpa using h2
theorem cmp_s {a b : Str} {w : World} {K : Value → World → Prop} (hK : K (i64 (cmpB a b)) w) : callF Tryz.prog 186 [str a, str b] w K := by
  refine W186_ok ?_
  unfold W186
  refine isnan_s (isnan_s ?_)
  simp only [wsv, wsg, wsh, wsl, cond_true, cond_false, exists_eq_left', Option.some.injEq, Option.isSome_some, List.getElem?_toArray, List.getElem?_cons_zero, List.getElem?_cons_succ, List.length_cons, List.length_nil, List.set_cons_zero, List.set_cons_succ, List.getD_cons_zero, List.getD_cons_succ, Nat.zero_add, Nat.add_zero, Nat.reduceAdd, Nat.reduceLT, Nat.lt_add_one, Nat.zero_lt_succ, decide_true, decide_false, ne_eq, reduceCtorEq]
  simp only [condW_b]
  unfold cmpB at hK
  refine ⟨fun h => ?_, fun h => ⟨fun h2 => ?_, fun h2 => ?_⟩⟩
  · rw [if_pos h] at hK; exact hK
  · have hne : a ≠ b := by rintro rfl; simp at h2
    rw [if_neg (by rw [h]; simp), if_neg hne] at hK; exact hK
  · rw [if_neg (by rw [h]; simp), if_pos (less_total h h2)] at hK; exact hK
theorem cmp_less {a b : Str} {w : World} {K : Value → World → Prop} (hK : K (.bool (Op.bytesLess a b)) w) : callF Tryz.prog 124 [str a, str b] w K := by
  refine W124_ok ?_
  unfold W124
  refine isnan_s ?_
  simp only [wsv, wsg, wsh, wsl, cond_true, cond_false, exists_eq_left', Option.some.injEq, Option.isSome_some, List.getElem?_toArray, List.getElem?_cons_zero, List.getElem?_cons_succ, List.length_cons, List.length_nil, List.set_cons_zero, List.set_cons_succ, List.getD_cons_zero, List.getD_cons_succ, Nat.zero_add, Nat.add_zero, Nat.reduceAdd, Nat.reduceLT, Nat.lt_add_one, Nat.zero_lt_succ, decide_true, decide_false, ne_eq, reduceCtorEq]
  intros
  exact hK
theorem compareBytes_eq (a b : Str) : Lib.compareBytes a b = cmpB a b := by
  induction a generalizing b with
  | nil => cases b <;> simp [Lib.compareBytes, cmpB, Op.bytesLess]
  | cons x a ih =>
    cases b with
    | nil => simp [Lib.compareBytes, cmpB, Op.bytesLess]
    | cons y b =>
      simp only [Lib.compareBytes, ih, cmpB, Op.bytesLess]
      by_cases h1 : x < y
      · simp [h1]
      · by_cases h2 : y < x
        · have : x ≠ y := by rintro rfl; exact h1 h2
          simp [h1, h2, this]
        · have : x = y := UInt8.le_antisymm (UInt8.not_lt.1 h2) (UInt8.not_lt.1 h1)
          subst this
          simp
theorem strcmp {a b : Str} {w : World} {K : Value → World → Prop} (hK : K (i64 (cmpB a b)) w) : callF Tryz.prog 158 [str a, str b] w K := by
  refine of_calls (args := #[str a, str b]) Tryz.call158 ((Tryz.strings_Compare (ofL a) (ofL b) w).mono ?_)
  rintro e w' ⟨rfl, rfl⟩
  refine ⟨_, rfl, ?_⟩
  rw [ofL_data, ofL_data]
  rw [compareBytes_eq]
  exact hK
theorem pre_ref {s p : Str} {w : World} {K : Value → World → Prop} (hs : s.length ≤ 9223372036854775807) (hK : K (.bool (p.isPrefixOf s)) w) : callF Tryz.prog 129 [str s, str p] w K := by
  refine of_calls (args := #[str s, str p]) Tryz.call129 ((Tryz.stringslite_HasPrefix (ofL s) (ofL p) w).mono ?_)
  rintro e w' ⟨rfl, rfl⟩
  refine ⟨_, rfl, ?_⟩
  rw [ofL_data, ofL_data]
  exact hK
theorem trimpre_ref {a : Str} {w : World} {K : Value → World → Prop} (hs : a.length ≤ 9223372036854775807) (hK : K (str (dig a)) w) : callF Tryz.prog 47 [str a, str [45]] w K := by
  refine W47_ok ?_
  unfold W47
  refine W89_ok ?_
  unfold W89
  refine pre_ref hs ?_
  cases a with
  | nil =>
    rw [show ([45] : Str).isPrefixOf [] = false from rfl]
    simp only [wsv, wsg, wsh, wsl, cond_true, cond_false, exists_eq_left', Option.some.injEq, Option.isSome_some, List.getElem?_toArray, List.getElem?_cons_zero, List.getElem?_cons_succ, List.length_cons, List.length_nil, List.set_cons_zero, List.set_cons_succ, List.getD_cons_zero, List.getD_cons_succ, Nat.zero_add, Nat.add_zero, Nat.reduceAdd, Nat.reduceLT, Nat.lt_add_one, Nat.zero_lt_succ, decide_true, decide_false, ne_eq, reduceCtorEq]
    exact hK
  | cons c r =>
    by_cases hc : c = 45
    · subst hc
      have e : ([45] : Str).isPrefixOf (45 :: r) = true := by simp [List.isPrefixOf]
      have ed : dig (45 :: r) = r := by simp [dig]
      rw [ed] at hK
      rw [e]
      have e1 : ((0 + 1 : Nat) : Int).toNat = 1 := rfl
      simp only [wsv, wsg, wsh, wsl, cond_true, cond_false, exists_eq_left', Option.some.injEq, Option.isSome_some, List.getElem?_toArray, List.getElem?_cons_zero, List.getElem?_cons_succ, List.length_cons, List.length_nil, List.set_cons_zero, List.set_cons_succ, List.getD_cons_zero, List.getD_cons_succ, Nat.zero_add, Nat.add_zero, Nat.reduceAdd, Nat.reduceLT, Nat.lt_add_one, Nat.zero_lt_succ, decide_true, decide_false, ne_eq, reduceCtorEq, e1]
      refine ⟨by omega, by omega, ?_⟩
      rw [← List.length_cons (a := (45 : UInt8)), List.take_length]
      exact hK
    · have e : ([45] : Str).isPrefixOf (c :: r) = false := by simp [List.isPrefixOf, Ne.symm hc]
      have ed : dig (c :: r) = c :: r := by simp [dig, hc]
      rw [ed] at hK
      rw [e]
      simp only [wsv, wsg, wsh, wsl, cond_true, cond_false, exists_eq_left', Option.some.injEq, Option.isSome_some, List.getElem?_toArray, List.getElem?_cons_zero, List.getElem?_cons_succ, List.length_cons, List.length_nil, List.set_cons_zero, List.set_cons_succ, List.getD_cons_zero, List.getD_cons_succ, Nat.zero_add, Nat.add_zero, Nat.reduceAdd, Nat.reduceLT, Nat.lt_add_one, Nat.zero_lt_succ, decide_true, decide_false, ne_eq, reduceCtorEq]
      exact hK
theorem cutpre_ref {a : Str} {w : World} {K : Value → World → Prop} (hs : a.length ≤ 9223372036854775807) (hK : K (.tuple #[str (dig a), .bool (neg a)]) w) : callF Tryz.prog 168 [str a, str [45]] w K := by
  refine W168_ok ?_
  unfold W168
  refine W189_ok ?_
  unfold W189
  refine pre_ref hs ?_
  cases a with
  | nil =>
    rw [show ([45] : Str).isPrefixOf [] = false from rfl]
    simp only [wsv, wsg, wsh, wsl, cond_true, cond_false, exists_eq_left', Option.some.injEq, Option.isSome_some, List.getElem?_toArray, List.getElem?_cons_zero, List.getElem?_cons_succ, List.length_cons, List.length_nil, List.set_cons_zero, List.set_cons_succ, List.getD_cons_zero, List.getD_cons_succ, Nat.zero_add, Nat.add_zero, Nat.reduceAdd, Nat.reduceLT, Nat.lt_add_one, Nat.zero_lt_succ, decide_true, decide_false, ne_eq, reduceCtorEq]
    exact hK
  | cons c r =>
    by_cases hc : c = 45
    · subst hc
      have e : ([45] : Str).isPrefixOf (45 :: r) = true := by simp [List.isPrefixOf]
      have ed : dig (45 :: r) = r := by simp [dig]
      have en : neg (45 :: r) = true := by simp [neg]
      rw [ed, en] at hK
      rw [e]
      have e1 : ((0 + 1 : Nat) : Int).toNat = 1 := rfl
      simp only [wsv, wsg, wsh, wsl, cond_true, cond_false, exists_eq_left', Option.some.injEq, Option.isSome_some, List.getElem?_toArray, List.getElem?_cons_zero, List.getElem?_cons_succ, List.length_cons, List.length_nil, List.set_cons_zero, List.set_cons_succ, List.getD_cons_zero, List.getD_cons_succ, Nat.zero_add, Nat.add_zero, Nat.reduceAdd, Nat.reduceLT, Nat.lt_add_one, Nat.zero_lt_succ, decide_true, decide_false, ne_eq, reduceCtorEq, e1]
      refine ⟨by omega, by omega, ?_⟩
      rw [← List.length_cons (a := (45 : UInt8)), List.take_length]
      exact hK
    · have e : ([45] : Str).isPrefixOf (c :: r) = false := by simp [List.isPrefixOf, Ne.symm hc]
      have ed : dig (c :: r) = c :: r := by simp [dig, hc]
      have en : neg (c :: r) = false := by simp [neg, hc]
      rw [ed, en] at hK
      rw [e]
      simp only [wsv, wsg, wsh, wsl, cond_true, cond_false, exists_eq_left', Option.some.injEq, Option.isSome_some, List.getElem?_toArray, List.getElem?_cons_zero, List.getElem?_cons_succ, List.length_cons, List.length_nil, List.set_cons_zero, List.set_cons_succ, List.getD_cons_zero, List.getD_cons_succ, Nat.zero_add, Nat.add_zero, Nat.reduceAdd, Nat.reduceLT, Nat.lt_add_one, Nat.zero_lt_succ, decide_true, decide_false, ne_eq, reduceCtorEq]
      exact hK
theorem numgood_ref {a : Str} {w : World} {K : Value → World → Prop} (ha : a.length ≤ 9223372036854775807) (hK : ∀ w', Ext w w' → K (.bool (goodN a)) w') : callF Tryz.prog 87 [str a] w K := by
  refine W87_ok ?_
  unfold W87
  refine trimpre_ref ha ?_
  have hg : goodN a = (!decide ((dig a).length < 1) && !decide (100 < (dig a).length) && !((dig a).head? == some 48 && !decide (a = [48])) && (dig a).all Num.isDig) := by
    unfold goodN
    have e1 : decide (1 ≤ (dig a).length) = !decide ((dig a).length < 1) := by rw [← decide_not]; exact decide_eq_decide.2 (by omega)
    have e2 : decide ((dig a).length ≤ 100) = !decide (100 < (dig a).length) := by rw [← decide_not]; exact decide_eq_decide.2 (by omega)
    rw [e1, e2]
    cases ((dig a).head? == some 48) <;> cases decide (a = [48]) <;> simp
  rw [hg] at hK
  have hdl : (dig a).length ≤ a.length := by
    cases a with
    | nil => simp [dig]
    | cons c r => simp only [dig]; split <;> simp
  cases hd : dig a with
  | nil =>
    rw [hd] at hK
    have hz : decide (((0 : Nat) : Int) < 1) = true := by decide
    simp only [wsv, wsg, wsh, wsl, cond_true, cond_false, exists_eq_left', Option.some.injEq, Option.isSome_some, List.getElem?_toArray, List.getElem?_cons_zero, List.getElem?_cons_succ, List.length_cons, List.length_nil, List.set_cons_zero, List.set_cons_succ, List.getD_cons_zero, List.getD_cons_succ, Nat.zero_add, Nat.add_zero, Nat.reduceAdd, Nat.reduceLT, Nat.lt_add_one, Nat.zero_lt_succ, decide_true, decide_false, ne_eq, reduceCtorEq, hz]
    intros
    exact hK _ (Chg.refl _ _)
  | cons c r =>
    rw [hd] at hK hdl
    have hz : decide (((r.length + 1 : Nat) : Int) < 1) = false := decide_eq_false (by omega)
    simp only [wsv, wsg, wsh, wsl, cond_true, cond_false, exists_eq_left', Option.some.injEq, Option.isSome_some, List.getElem?_toArray, List.getElem?_cons_zero, List.getElem?_cons_succ, List.length_cons, List.length_nil, List.set_cons_zero, List.set_cons_succ, List.getD_cons_zero, List.getD_cons_succ, Nat.zero_add, Nat.add_zero, Nat.reduceAdd, Nat.reduceLT, Nat.lt_add_one, Nat.zero_lt_succ, decide_true, decide_false, ne_eq, reduceCtorEq, Int.le_refl, Int.toNat_zero, u8_is c 48 48 rfl, hz]
    intros
    rw [condW_b]
    have e1 : decide ((100 : Int) < ((r.length + 1 : Nat) : Int)) = decide (100 < (c :: r).length) := decide_eq_decide.2 (by simp only [List.length_cons]; omega)
    have e4 : decide ((c :: r).length < 1) = false := decide_eq_false (by simp)
    have e5 : ((c :: r).head? == some 48) = (c == 48) := by simp
    rw [e1]
    rw [e4, e5] at hK
    simp only [decide_not]
    generalize decide (100 < (c :: r).length) = b1 at *
    generalize ((c == 48) && !decide (a = [48])) = b2 at *
    refine ⟨fun h => ?_, fun h => ?_⟩
    · have := hK _ (Chg.refl _ _)
      have e : (!false && !b1 && !b2 && (c :: r).all Num.isDig) = false := by
        cases b1 <;> cases b2 <;> simp at h ⊢
      rw [e] at this
      exact this
    · have hb : b1 = false ∧ b2 = false := by simpa using h
      rw [hb.1, hb.2] at hK
      refine to_bytes (l := c :: r) (by kernel_rfl) (by kernel_rfl) (by kernel_rfl) fun v w1 hv hx1 => ?_
      rw [lenl_at hv]
      generalize c :: r = D at *
      refine loop_up D.length (fun i w2 => Ext w1 w2 ∧ (D.take i).all Num.isDig = true) ⟨Chg.refl _ _, rfl⟩ ?_ ?_
      · rintro i w2 g L hi ⟨hx2, hall⟩ hL
        obtain ⟨e, he⟩ : ∃ e, D[i]? = some e := ⟨_, List.getElem?_eq_getElem hi⟩
        have hlt : ((i : Int) < ((D.length : Nat) : Int)) := by omega
        simp only [wsv, wsg, wsh, wsl, cond_true, cond_false, exists_eq_left', Option.some.injEq, Option.isSome_some, List.getElem?_toArray, List.getElem?_cons_zero, List.getElem?_cons_succ, List.length_cons, List.length_nil, List.set_cons_zero, List.set_cons_succ, List.getD_cons_zero, List.getD_cons_succ, Nat.zero_add, Nat.add_zero, Nat.reduceAdd, Nat.reduceLT, Nat.lt_add_one, Nat.zero_lt_succ, decide_true, decide_false, ne_eq, reduceCtorEq, hlt]
        refine ixa_ld (hv.ext hx2) (by rw [u8s_length]) (by rw [u8s_get, he]; rfl) ?_
        simp only [wsv, wsg, wsh, wsl, cond_true, cond_false, exists_eq_left', Option.some.injEq, Option.isSome_some, List.getElem?_toArray, List.getElem?_cons_zero, List.getElem?_cons_succ, List.length_cons, List.length_nil, List.set_cons_zero, List.set_cons_succ, List.getD_cons_zero, List.getD_cons_succ, Nat.zero_add, Nat.add_zero, Nat.reduceAdd, Nat.reduceLT, Nat.lt_add_one, Nat.zero_lt_succ, decide_true, decide_false, ne_eq, reduceCtorEq, isDig_out]
        intros
        rw [condW_b]
        refine ⟨fun hf => ?_, fun ht => ?_⟩
        · have hf : Num.isDig e = false := by simpa using hf
          have := hK _ (hx1.trans hx2)
          rw [all_no he hf] at this
          exact this
        · have ht : Num.isDig e = true := by simpa using ht
          rw [up1 (by omega)]
          exact hL _ ⟨hx2, by rw [all_take he, hall, ht]; rfl⟩
      · rintro w2 g L ⟨hx2, hall⟩
        simp only [wsv, wsg, wsh, wsl, cond_true, cond_false, exists_eq_left', Option.some.injEq, Option.isSome_some, List.getElem?_toArray, List.getElem?_cons_zero, List.getElem?_cons_succ, List.length_cons, List.length_nil, List.set_cons_zero, List.set_cons_succ, List.getD_cons_zero, List.getD_cons_succ, Nat.zero_add, Nat.add_zero, Nat.reduceAdd, Nat.reduceLT, Nat.lt_add_one, Nat.zero_lt_succ, decide_true, decide_false, ne_eq, reduceCtorEq, Int.lt_irrefl]
        rw [List.take_length] at hall
        have := hK w2 (hx1.trans hx2)
        rw [hall] at this
        exact this
end
end Go.Proofs.YtdkikjcpgihjlaaGreatDoor
