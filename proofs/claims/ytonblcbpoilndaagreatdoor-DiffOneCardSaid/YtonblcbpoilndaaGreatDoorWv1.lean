/- One plain sentence: weakest preconditions of functions of the program, printed by a program of ours, and that calls meet them. Conditions: none. -/
import Derived.Test.YtonblcbpoilndaaGreatDoorBase
set_option linter.all false
set_option linter.unusedSimpArgs false
set_option linter.unusedVariables false
set_option linter.unusedSectionVars false
namespace Go.Proofs.YtonblcbpoilndaaGreatDoor
open Go Go.Eng
set_option maxRecDepth 100000
variable [HX]

/- purlin_purlinlaw13.good -/
def plan13 : Plan := { js := [(3004, ⟨[19], [], 18⟩), (3008, ⟨[15], [], 14⟩), (3013, ⟨[11], [], 9⟩)], ds := [] }
def W13 (v0 v1 : Value) (w : World) (K : Value → World → Prop) : Prop :=
  boxW 49 v0 w fun t2 w1 =>
  boxW 49 v1 w1 fun t3 w2 =>
  fldW 0 t2 fun t5 =>
  ldW false 1 t5 w2 fun t6 =>
  binW .eql t6 (.int .i64 6) fun t7 =>
  GdW (isB t7 true) [undef] w2 (fun J3 =>
    fldW 0 t3 fun t9 =>
    ldW false 1 t9 w2 fun t10 =>
    binW .eql t10 (.int .i64 6) fun t11 =>
    J3 [t11] w2)
  fun s3 _ w4 =>
  pickW t7 (s3.getD 0 undef) (.bool false) fun t12 =>
  GdW (isB t12 true) [undef] w4 (fun J5 =>
    ldW true 5 t2 w4 fun t14 =>
    callF Tryz.prog 22 [t14] w4 fun t15 w6 =>
    J5 [t15] w6)
  fun s5 _ w7 =>
  pickW t12 (s5.getD 0 undef) (.bool false) fun t16 =>
  GdW (isB t16 true) [undef] w7 (fun J8 =>
    ldW true 5 t3 w7 fun t18 =>
    callF Tryz.prog 22 [t18] w7 fun t19 w9 =>
    J8 [t19] w9)
  fun s8 _ w10 =>
  pickW t16 (s8.getD 0 undef) (.bool false) fun t20 =>
  K t20 w10
theorem W13_eq (v0 v1 : Value) (w : World) (K : Value → World → Prop) : funW Tryz.prog Tryz.f13 plan13 [v0, v1] w K = W13 v0 v1 w K := by kernel_rfl
theorem W13_chk : chkFun Tryz.prog Tryz.f13 plan13 2 = true := by kernel_rfl
theorem W13_ok {v0 v1 : Value} {w : World} {K : Value → World → Prop} (h : W13 v0 v1 w K) : callF Tryz.prog 13 [v0, v1] w K :=
  tie Tryz.prog 13 Tryz.f13 plan13 [v0, v1] w K 2 (W13 v0 v1 w K) rfl mixed Tryz.func13 W13_chk (W13_eq v0 v1 w K) Tryz.call13 h

/- purlin_purlinref02.Get -/
def plan17 : Plan := { js := [(6004, ⟨[15], [], 13⟩)], ds := [] }
def W17 (v0 v1 : Value) (w : World) (K : Value → World → Prop) : Prop :=
  boxW 49 v0 w fun t2 w1 =>
  allocW 49 [(.int .i64 0), (.bool false), (.string (ofL [])), (.slice none 0 0), (.slice none 0 0)] w1 fun t4 w2 =>
  ldW true 5 t2 w2 fun t7 =>
  callF Tryz.prog 51 [t7, v1] w2 fun t9 w3 =>
  binW .lss t9 (.int .i64 0) fun t11 =>
  GdW (isB t11 false) [undef] w3 (fun J4 =>
    fldW 0 t2 fun t13 =>
    ldW false 1 t13 w3 fun t14 =>
    binW .neq t14 (.int .i64 6) fun t15 =>
    J4 [t15] w3)
  fun s4 _ w5 =>
  pickW t11 (.bool true) (s4.getD 0 undef) fun t16 =>
  condW t16 (
    putW [(.int .i64 0), (.bool false), (.string (ofL [])), (.slice none 0 0), (.slice none 0 0)] [] fun c6 =>
    stW 5 t4 (.agg c6.toArray) w5 fun w7 =>
    ldW true 5 t4 w7 fun r8 =>
    K (.tuple #[r8, (.bool false)]) w7) (
    fldW 3 t2 fun t18 =>
    ldW false 1 t18 w5 fun t19 =>
    ixaW none 5 t19 t9 fun t21 =>
    ldW true 5 t21 w5 fun t22 =>
    stW 5 t4 t22 w5 fun w9 =>
    ldW true 5 t4 w9 fun r10 =>
    K (.tuple #[r10, (.bool true)]) w9)
theorem W17_eq (v0 v1 : Value) (w : World) (K : Value → World → Prop) : funW Tryz.prog Tryz.f17 plan17 [v0, v1] w K = W17 v0 v1 w K := by kernel_rfl
theorem W17_chk : chkFun Tryz.prog Tryz.f17 plan17 2 = true := by kernel_rfl
theorem W17_ok {v0 v1 : Value} {w : World} {K : Value → World → Prop} (h : W17 v0 v1 w K) : callF Tryz.prog 17 [v0, v1] w K :=
  tie Tryz.prog 17 Tryz.f17 plan17 [v0, v1] w K 2 (W17 v0 v1 w K) rfl mixed Tryz.func17 W17_chk (W17_eq v0 v1 w K) Tryz.call17 h

/- purlin_purlinref02.Known -/
def plan18 : Plan := { js := [(14, ⟨[10], [2, 3], 10⟩)], ds := [] }
def W18 (v0 : Value) (w : World) (K : Value → World → Prop) : Prop :=
  boxW 49 v0 w fun t1 w1 =>
  fldW 0 t1 fun t4 =>
  ldW false 1 t4 w1 fun t5 =>
  binW .eql t5 (.int .i64 1) fun t6 =>
  condW t6 (
    K (.bool false) w1) (
    fldW 3 t1 fun t7 =>
    ldW false 1 t7 w1 fun t8 =>
    lenlW t8 fun t9 =>
    LoopW [(.int .i64 0)] w1 fun s2 _ w3 L2 =>
      binW .lss (s2.getD 0 undef) t9 fun t11 =>
      condW t11 (
        fldW 3 t1 fun t13 =>
        ldW false 1 t13 w3 fun t14 =>
        ixaW none 5 t14 (s2.getD 0 undef) fun t16 =>
        ldW true 5 t16 w3 fun t17 =>
        callF Tryz.prog 18 [t17] w3 fun t18 w4 =>
        unW .not t18 fun t19 =>
        condW t19 (
          K (.bool false) w4) (
          binW .add (s2.getD 0 undef) (.int .i64 1) fun t20 =>
          L2 [t20] w4)) (
        K (.bool true) w3))
theorem W18_eq (v0 : Value) (w : World) (K : Value → World → Prop) : funW Tryz.prog Tryz.f18 plan18 [v0] w K = W18 v0 w K := by kernel_rfl
theorem W18_chk : chkFun Tryz.prog Tryz.f18 plan18 1 = true := by kernel_rfl
theorem W18_ok {v0 : Value} {w : World} {K : Value → World → Prop} (h : W18 v0 w K) : callF Tryz.prog 18 [v0] w K :=
  tie Tryz.prog 18 Tryz.f18 plan18 [v0] w K 1 (W18 v0 w K) rfl mixed Tryz.func18 W18_chk (W18_eq v0 w K) Tryz.call18 h

/- purlin_purlinref01.Texts -/
def plan19 : Plan := { js := [(14, ⟨[13], [4, 5], 13⟩)], ds := [(26, ⟨[0, 1, 2, 3, 4, 5, 6, 7, 8], [[], [], [0, 1], [0, 1, 2], [], [], [4, 5], [4, 5, 6], [0, 1, 2, 3, 4, 5, 6, 7]]⟩)] }
def W19 (v0 v1 : Value) (w : World) (K : Value → World → Prop) : Prop :=
  lenlW v0 fun t7 =>
  lenlW v1 fun t9 =>
  binW .neq t7 t9 fun t10 =>
  condW t10 (
    K (.bool false) w) (
    lenlW v0 fun t12 =>
    LoopW [(.int .i64 0)] w fun s1 _ w2 L1 =>
      binW .lss (s1.getD 0 undef) t12 fun t14 =>
      condW t14 (
        ixaW none 1 v0 (s1.getD 0 undef) fun t18 =>
        ldW false 1 t18 w2.drew fun t19 =>
        ixaW none 1 v1 (s1.getD 0 undef) fun t22 =>
        ldW false 1 t22 w2.drew fun t23 =>
        binW .neq t19 t23 fun t24 =>
        condW t24 (
          K (.bool false) w2.drew) (
          binW .add (s1.getD 0 undef) (.int .i64 1) fun t25 =>
          L1 [t25] w2.drew)) (
        K (.bool true) w2))
theorem W19_eq (v0 v1 : Value) (w : World) (K : Value → World → Prop) : funW Tryz.prog Tryz.f19 plan19 [v0, v1] w K = W19 v0 v1 w K := by kernel_rfl
theorem W19_chk : chkFun Tryz.prog Tryz.f19 plan19 2 = true := by kernel_rfl
theorem W19_ok {v0 v1 : Value} {w : World} {K : Value → World → Prop} (h : W19 v0 v1 w K) : callF Tryz.prog 19 [v0, v1] w K :=
  tie Tryz.prog 19 Tryz.f19 plan19 [v0, v1] w K 2 (W19 v0 v1 w K) rfl mixed Tryz.func19 W19_chk (W19_eq v0 v1 w K) Tryz.call19 h

/- purlin_purlinref02.Put -/
def plan20 : Plan := { js := [(41, ⟨[], [], 8⟩), (6, ⟨[8], [], 8⟩), (26, ⟨[8], [8], 21⟩), (28008, ⟨[32], [], 26⟩), (15, ⟨[8, 20], [8, 9], 20⟩)], ds := [(38, ⟨[0, 1, 2, 3, 4, 5, 6, 9], [[], [0], [], [2], [], [2, 3, 4], [2, 3, 4, 5], [2, 3, 4, 5, 6], [0, 1, 2, 3, 4, 5, 6, 7], [0, 1, 2, 3, 4, 5, 6, 7, 8], [0, 1, 2, 3, 4, 5, 6, 7, 8, 9]]⟩), (37, ⟨[0, 1, 2, 3, 4, 5, 6, 9], [[], [0], [], [2], [], [2, 3, 4], [2, 3, 4, 5], [2, 3, 4, 5, 6], [0, 1, 2, 3, 4, 5, 6, 7], [0, 1, 2, 3, 4, 5, 6, 7, 8], [0, 1, 2, 3, 4, 5, 6, 7, 8, 9]]⟩)] }
def W20 (v0 v1 v2 : Value) (w : World) (K : Value → World → Prop) : Prop :=
  boxW 49 v0 w fun t3 w1 =>
  boxW 49 v2 w1 fun t5 w2 =>
  allocW 49 [(.int .i64 0), (.bool false), (.string (ofL [])), (.slice none 0 0), (.slice none 0 0)] w2 fun t6 w3 =>
  putW [(.int .i64 0), (.bool false), (.string (ofL [])), (.slice none 0 0), (.slice none 0 0)] [(0, 1, (.int .i64 6))] fun c4 =>
  allocW 49 [(.int .i64 0), (.bool false), (.string (ofL [])), (.slice none 0 0), (.slice none 0 0)] w3 fun t7 w5 =>
  stW 5 t7 (.agg c4.toArray) w5 fun w6 =>
  JoinW (fun J7 =>
    fldW 0 t3 fun t11 =>
    ldW false 1 t11 w6 fun t12 =>
    binW .eql t12 (.int .i64 6) fun t13 =>
    condW t13 (
      ldW true 5 t3 w6 fun t14 =>
      callF Tryz.prog 23 [t14, v1] w6 fun t16 w8 =>
      stW 5 t3 t16 w8 fun w9 =>
      fldW 4 t3 fun t17 =>
      ldW false 1 t17 w9 fun t18 =>
      lenlW t18 fun t19 =>
      LoopW [(.bool false), (.int .i64 0)] w9 fun s10 _ w11 L10 =>
        binW .lss (s10.getD 1 undef) t19 fun t21 =>
        condW t21 (
          JoinW (fun J12 =>
            unW .not (s10.getD 0 undef) fun t24 =>
            GdW (isB t24 true) [undef] w11 (fun J13 =>
              fldW 4 t3 fun t27 =>
              ldW false 1 t27 w11 fun t28 =>
              ixaW none 1 t28 (s10.getD 1 undef) fun t30 =>
              ldW false 1 t30 w11 fun t31 =>
              binW .lss v1 t31 fun t32 =>
              J13 [t32] w11)
            fun s13 _ w14 =>
            pickW t24 (s13.getD 0 undef) (.bool false) fun t33 =>
            condW t33 (
              fldW 4 t7 fun t34 =>
              ldW false 1 t34 w14 fun t35 =>
              bslW 9 1 [(.string (ofL []))] [(0, 1, v1)] w14 fun t37 w15 =>
              semE Tryz.prog (Builtin.append_ #[33, 33] 33 #[t35, t37]) w15 fun t38 w16 =>
              fldW 4 t7 fun t39 =>
              stW 1 t39 t38 w16 fun w17 =>
              fldW 3 t7 fun t40 =>
              ldW false 1 t40 w17 fun t41 =>
              ldW true 5 t5 w17 fun t42 =>
              bslW 49 1 [(.int .i64 0), (.bool false), (.string (ofL [])), (.slice none 0 0), (.slice none 0 0)] [(0, 5, t42)] w17 fun t43 w18 =>
              semE Tryz.prog (Builtin.append_ #[47, 47] 47 #[t41, t43]) w18 fun t44 w19 =>
              fldW 3 t7 fun t45 =>
              stW 1 t45 t44 w19 fun w20 =>
              J12 [(.bool true)] w20) (
              J12 [(s10.getD 0 undef)] w14))
          fun s12 _ w21 =>
          fldW 4 t7 fun t46 =>
          ldW false 1 t46 w21.drew fun t47 =>
          fldW 4 t3 fun t48 =>
          ldW false 1 t48 w21.drew fun t49 =>
          ixaW none 1 t49 (s10.getD 1 undef) fun t51 =>
          ldW false 1 t51 w21.drew fun t52 =>
          bslW 9 1 [(.string (ofL []))] [(0, 1, t52)] w21.drew fun t53 w22 =>
          (ldW false 1 t46 w22 fun x => x = t47) ∧
          semE Tryz.prog (Builtin.append_ #[33, 33] 33 #[t47, t53]) w22 fun t54 w23 =>
          fldW 4 t7 fun t55 =>
          stW 1 t55 t54 w23 fun w24 =>
          fldW 3 t7 fun t56 =>
          ldW false 1 t56 w24.drew fun t57 =>
          fldW 3 t3 fun t58 =>
          ldW false 1 t58 w24.drew fun t59 =>
          ixaW none 5 t59 (s10.getD 1 undef) fun t61 =>
          ldW true 5 t61 w24.drew fun t62 =>
          bslW 49 1 [(.int .i64 0), (.bool false), (.string (ofL [])), (.slice none 0 0), (.slice none 0 0)] [(0, 5, t62)] w24.drew fun t63 w25 =>
          (ldW false 1 t56 w25 fun x => x = t57) ∧
          semE Tryz.prog (Builtin.append_ #[47, 47] 47 #[t57, t63]) w25 fun t64 w26 =>
          fldW 3 t7 fun t65 =>
          stW 1 t65 t64 w26 fun w27 =>
          binW .add (s10.getD 1 undef) (.int .i64 1) fun t66 =>
          L10 [(s12.getD 0 undef), t66] w27) (
          J7 [(s10.getD 0 undef)] w11)) (
      J7 [(.bool false)] w6))
  fun s7 _ w28 =>
  JoinW (fun J29 =>
    unW .not (s7.getD 0 undef) fun t68 =>
    condW t68 (
      fldW 4 t7 fun t69 =>
      ldW false 1 t69 w28 fun t70 =>
      bslW 9 1 [(.string (ofL []))] [(0, 1, v1)] w28 fun t72 w30 =>
      semE Tryz.prog (Builtin.append_ #[33, 33] 33 #[t70, t72]) w30 fun t73 w31 =>
      fldW 4 t7 fun t74 =>
      stW 1 t74 t73 w31 fun w32 =>
      fldW 3 t7 fun t75 =>
      ldW false 1 t75 w32 fun t76 =>
      ldW true 5 t5 w32 fun t77 =>
      bslW 49 1 [(.int .i64 0), (.bool false), (.string (ofL [])), (.slice none 0 0), (.slice none 0 0)] [(0, 5, t77)] w32 fun t78 w33 =>
      semE Tryz.prog (Builtin.append_ #[47, 47] 47 #[t76, t78]) w33 fun t79 w34 =>
      fldW 3 t7 fun t80 =>
      stW 1 t80 t79 w34 fun w35 =>
      J29 [] w35) (
      J29 [] w28))
  fun s29 _ w36 =>
  ldW true 5 t7 w36 fun t81 =>
  stW 5 t6 t81 w36 fun w37 =>
  ldW true 5 t6 w37 fun r38 =>
  K r38 w37
theorem W20_eq (v0 v1 v2 : Value) (w : World) (K : Value → World → Prop) : funW Tryz.prog Tryz.f20 plan20 [v0, v1, v2] w K = W20 v0 v1 v2 w K := by kernel_rfl
theorem W20_chk : chkFun Tryz.prog Tryz.f20 plan20 3 = true := by kernel_rfl
theorem W20_ok {v0 v1 v2 : Value} {w : World} {K : Value → World → Prop} (h : W20 v0 v1 v2 w K) : callF Tryz.prog 20 [v0, v1, v2] w K :=
  tie Tryz.prog 20 Tryz.f20 plan20 [v0, v1, v2] w K 3 (W20 v0 v1 v2 w K) rfl mixed Tryz.func20 W20_chk (W20_eq v0 v1 v2 w K) Tryz.call20 h

/- purlin_purlinref02.Text -/
def plan21 : Plan := { js := [], ds := [] }
def W21 (v0 : Value) (w : World) (K : Value → World → Prop) : Prop :=
  allocW 49 [(.int .i64 0), (.bool false), (.string (ofL [])), (.slice none 0 0), (.slice none 0 0)] w fun t2 w1 =>
  putW [(.int .i64 0), (.bool false), (.string (ofL [])), (.slice none 0 0), (.slice none 0 0)] [(0, 1, (.int .i64 4)), (2, 1, v0)] fun c2 =>
  stW 5 t2 (.agg c2.toArray) w1 fun w3 =>
  ldW true 5 t2 w3 fun r4 =>
  K r4 w3
theorem W21_eq (v0 : Value) (w : World) (K : Value → World → Prop) : funW Tryz.prog Tryz.f21 plan21 [v0] w K = W21 v0 w K := by kernel_rfl
theorem W21_chk : chkFun Tryz.prog Tryz.f21 plan21 1 = true := by kernel_rfl
theorem W21_ok {v0 : Value} {w : World} {K : Value → World → Prop} (h : W21 v0 w K) : callF Tryz.prog 21 [v0] w K :=
  tie Tryz.prog 21 Tryz.f21 plan21 [v0] w K 1 (W21 v0 w K) rfl mixed Tryz.func21 W21_chk (W21_eq v0 w K) Tryz.call21 h

/- purlin_purlinref02.Good -/
def plan22 : Plan := { js := [(3004, ⟨[12], [], 11⟩), (3008, ⟨[8], [], 7⟩)], ds := [] }
def W22 (v0 : Value) (w : World) (K : Value → World → Prop) : Prop :=
  boxW 49 v0 w fun t1 w1 =>
  ldW true 5 t1 w1 fun t3 =>
  callF Tryz.prog 52 [t3] w1 fun t4 w2 =>
  binW .leq t4 (.int .i64 2000) fun t5 =>
  GdW (isB t5 true) [undef] w2 (fun J3 =>
    ldW true 5 t1 w2 fun t7 =>
    callF Tryz.prog 53 [t7, (.int .i64 24)] w2 fun t8 w4 =>
    J3 [t8] w4)
  fun s3 _ w5 =>
  pickW t5 (s3.getD 0 undef) (.bool false) fun t9 =>
  GdW (isB t9 true) [undef] w5 (fun J6 =>
    ldW true 5 t1 w5 fun t11 =>
    callF Tryz.prog 54 [t11] w5 fun t12 w7 =>
    J6 [t12] w7)
  fun s6 _ w8 =>
  pickW t9 (s6.getD 0 undef) (.bool false) fun t13 =>
  K t13 w8
theorem W22_eq (v0 : Value) (w : World) (K : Value → World → Prop) : funW Tryz.prog Tryz.f22 plan22 [v0] w K = W22 v0 w K := by kernel_rfl
theorem W22_chk : chkFun Tryz.prog Tryz.f22 plan22 1 = true := by kernel_rfl
theorem W22_ok {v0 : Value} {w : World} {K : Value → World → Prop} (h : W22 v0 w K) : callF Tryz.prog 22 [v0] w K :=
  tie Tryz.prog 22 Tryz.f22 plan22 [v0] w K 1 (W22 v0 w K) rfl mixed Tryz.func22 W22_chk (W22_eq v0 w K) Tryz.call22 h

/- purlin_purlinref02.Drop -/
def plan23 : Plan := { js := [(23, ⟨[], [6], 16⟩), (16, ⟨[15], [6], 15⟩)], ds := [(32, ⟨[0, 1, 2, 3, 4, 5, 6, 9], [[], [0], [], [2], [], [2, 3, 4], [2, 3, 4, 5], [2, 3, 4, 5, 6], [0, 1, 2, 3, 4, 5, 6, 7], [0, 1, 2, 3, 4, 5, 6, 7, 8], [0, 1, 2, 3, 4, 5, 6, 7, 8, 9]]⟩), (31, ⟨[0, 1, 2, 3, 4, 5, 6, 9], [[], [0], [], [2], [], [2, 3, 4], [2, 3, 4, 5], [2, 3, 4, 5, 6], [0, 1, 2, 3, 4, 5, 6, 7], [0, 1, 2, 3, 4, 5, 6, 7, 8], [0, 1, 2, 3, 4, 5, 6, 7, 8, 9]]⟩)] }
def W23 (v0 v1 : Value) (w : World) (K : Value → World → Prop) : Prop :=
  boxW 49 v0 w fun t2 w1 =>
  allocW 49 [(.int .i64 0), (.bool false), (.string (ofL [])), (.slice none 0 0), (.slice none 0 0)] w1 fun t4 w2 =>
  fldW 0 t2 fun t7 =>
  ldW false 1 t7 w2 fun t8 =>
  binW .neq t8 (.int .i64 6) fun t9 =>
  condW t9 (
    ldW true 5 t2 w2 fun t10 =>
    stW 5 t4 t10 w2 fun w3 =>
    ldW true 5 t4 w3 fun r4 =>
    K r4 w3) (
    putW [(.int .i64 0), (.bool false), (.string (ofL [])), (.slice none 0 0), (.slice none 0 0)] [(0, 1, (.int .i64 6))] fun c5 =>
    allocW 49 [(.int .i64 0), (.bool false), (.string (ofL [])), (.slice none 0 0), (.slice none 0 0)] w2 fun t5 w6 =>
    stW 5 t5 (.agg c5.toArray) w6 fun w7 =>
    fldW 4 t2 fun t12 =>
    ldW false 1 t12 w7 fun t13 =>
    lenlW t13 fun t14 =>
    LoopW [(.int .i64 0)] w7 fun s8 _ w9 L8 =>
      binW .lss (s8.getD 0 undef) t14 fun t16 =>
      condW t16 (
        JoinW (fun J10 =>
          fldW 4 t2 fun t18 =>
          ldW false 1 t18 w9 fun t19 =>
          ixaW none 1 t19 (s8.getD 0 undef) fun t21 =>
          ldW false 1 t21 w9 fun t22 =>
          binW .neq t22 v1 fun t24 =>
          condW t24 (
            fldW 4 t5 fun t25 =>
            ldW false 1 t25 w9.drew fun t26 =>
            fldW 4 t2 fun t27 =>
            ldW false 1 t27 w9.drew fun t28 =>
            ixaW none 1 t28 (s8.getD 0 undef) fun t30 =>
            ldW false 1 t30 w9.drew fun t31 =>
            bslW 9 1 [(.string (ofL []))] [(0, 1, t31)] w9.drew fun t32 w11 =>
            (ldW false 1 t25 w11 fun x => x = t26) ∧
            semE Tryz.prog (Builtin.append_ #[33, 33] 33 #[t26, t32]) w11 fun t33 w12 =>
            fldW 4 t5 fun t34 =>
            stW 1 t34 t33 w12 fun w13 =>
            fldW 3 t5 fun t35 =>
            ldW false 1 t35 w13.drew fun t36 =>
            fldW 3 t2 fun t37 =>
            ldW false 1 t37 w13.drew fun t38 =>
            ixaW none 5 t38 (s8.getD 0 undef) fun t40 =>
            ldW true 5 t40 w13.drew fun t41 =>
            bslW 49 1 [(.int .i64 0), (.bool false), (.string (ofL [])), (.slice none 0 0), (.slice none 0 0)] [(0, 5, t41)] w13.drew fun t42 w14 =>
            (ldW false 1 t35 w14 fun x => x = t36) ∧
            semE Tryz.prog (Builtin.append_ #[47, 47] 47 #[t36, t42]) w14 fun t43 w15 =>
            fldW 3 t5 fun t44 =>
            stW 1 t44 t43 w15 fun w16 =>
            J10 [] w16) (
            J10 [] w9))
        fun s10 _ w17 =>
        binW .add (s8.getD 0 undef) (.int .i64 1) fun t45 =>
        L8 [t45] w17) (
        ldW true 5 t5 w9 fun t46 =>
        stW 5 t4 t46 w9 fun w18 =>
        ldW true 5 t4 w18 fun r19 =>
        K r19 w18))
theorem W23_eq (v0 v1 : Value) (w : World) (K : Value → World → Prop) : funW Tryz.prog Tryz.f23 plan23 [v0, v1] w K = W23 v0 v1 w K := by kernel_rfl
theorem W23_chk : chkFun Tryz.prog Tryz.f23 plan23 2 = true := by kernel_rfl
theorem W23_ok {v0 v1 : Value} {w : World} {K : Value → World → Prop} (h : W23 v0 v1 w K) : callF Tryz.prog 23 [v0, v1] w K :=
  tie Tryz.prog 23 Tryz.f23 plan23 [v0, v1] w K 2 (W23 v0 v1 w K) rfl mixed Tryz.func23 W23_chk (W23_eq v0 v1 w K) Tryz.call23 h

/- purlin_purlinref02.At -/
def plan51 : Plan := { js := [(6, ⟨[9], [4, 5], 9⟩)], ds := [] }
def W51 (v0 v1 : Value) (w : World) (K : Value → World → Prop) : Prop :=
  boxW 49 v0 w fun t2 w1 =>
  fldW 4 t2 fun t6 =>
  ldW false 1 t6 w1 fun t7 =>
  lenlW t7 fun t8 =>
  LoopW [(.int .i64 0)] w1 fun s2 _ w3 L2 =>
    binW .lss (s2.getD 0 undef) t8 fun t10 =>
    condW t10 (
      fldW 4 t2 fun t12 =>
      ldW false 1 t12 w3 fun t13 =>
      ixaW none 1 t13 (s2.getD 0 undef) fun t15 =>
      ldW false 1 t15 w3 fun t16 =>
      binW .eql t16 v1 fun t18 =>
      condW t18 (
        K (s2.getD 0 undef) w3) (
        binW .add (s2.getD 0 undef) (.int .i64 1) fun t20 =>
        L2 [t20] w3)) (
      K (.int .i64 (-1)) w3)
theorem W51_eq (v0 v1 : Value) (w : World) (K : Value → World → Prop) : funW Tryz.prog Tryz.f51 plan51 [v0, v1] w K = W51 v0 v1 w K := by kernel_rfl
theorem W51_chk : chkFun Tryz.prog Tryz.f51 plan51 2 = true := by kernel_rfl
theorem W51_ok {v0 v1 : Value} {w : World} {K : Value → World → Prop} (h : W51 v0 v1 w K) : callF Tryz.prog 51 [v0, v1] w K :=
  tie Tryz.prog 51 Tryz.f51 plan51 [v0, v1] w K 2 (W51 v0 v1 w K) rfl mixed Tryz.func51 W51_chk (W51_eq v0 v1 w K) Tryz.call51 h

/- purlin_purlinref02.Size -/
def plan52 : Plan := { js := [(11003, ⟨[12], [], 11⟩), (8, ⟨[3, 4], [], 2⟩)], ds := [] }
def W52 (v0 : Value) (w : World) (K : Value → World → Prop) : Prop :=
  boxW 49 v0 w fun t1 w1 =>
  LoopW [(.int .i64 1), (.int .i64 0)] w1 fun s2 _ w3 L2 =>
    fldW 3 t1 fun t6 =>
    ldW false 1 t6 w3 fun t7 =>
    lenlW t7 fun t8 =>
    binW .lss (s2.getD 1 undef) t8 fun t9 =>
    GdW (isB t9 true) [undef] w3 (fun J4 =>
      binW .leq (s2.getD 0 undef) (.int .i64 2000) fun t12 =>
      J4 [t12] w3)
    fun s4 _ w5 =>
    pickW t9 (s4.getD 0 undef) (.bool false) fun t13 =>
    condW t13 (
      fldW 3 t1 fun t17 =>
      ldW false 1 t17 w5 fun t18 =>
      ixaW none 5 t18 (s2.getD 1 undef) fun t20 =>
      ldW true 5 t20 w5 fun t21 =>
      callF Tryz.prog 52 [t21] w5 fun t22 w6 =>
      binW .add (s2.getD 0 undef) t22 fun t23 =>
      binW .add (s2.getD 1 undef) (.int .i64 1) fun t15 =>
      L2 [t23, t15] w6) (
      K (s2.getD 0 undef) w5)
theorem W52_eq (v0 : Value) (w : World) (K : Value → World → Prop) : funW Tryz.prog Tryz.f52 plan52 [v0] w K = W52 v0 w K := by kernel_rfl
theorem W52_chk : chkFun Tryz.prog Tryz.f52 plan52 1 = true := by kernel_rfl
theorem W52_ok {v0 : Value} {w : World} {K : Value → World → Prop} (h : W52 v0 w K) : callF Tryz.prog 52 [v0] w K :=
  tie Tryz.prog 52 Tryz.f52 plan52 [v0] w K 1 (W52 v0 w K) rfl mixed Tryz.func52 W52_chk (W52_eq v0 w K) Tryz.call52 h

/- purlin_purlinref02.Deep -/
def plan53 : Plan := { js := [(14, ⟨[11], [4, 5], 11⟩)], ds := [] }
def W53 (v0 v1 : Value) (w : World) (K : Value → World → Prop) : Prop :=
  boxW 49 v0 w fun t2 w1 =>
  binW .eql v1 (.int .i64 0) fun t7 =>
  condW t7 (
    K (.bool false) w1) (
    fldW 3 t2 fun t8 =>
    ldW false 1 t8 w1 fun t9 =>
    lenlW t9 fun t10 =>
    LoopW [(.int .i64 0)] w1 fun s2 _ w3 L2 =>
      binW .lss (s2.getD 0 undef) t10 fun t12 =>
      condW t12 (
        fldW 3 t2 fun t14 =>
        ldW false 1 t14 w3 fun t15 =>
        ixaW none 5 t15 (s2.getD 0 undef) fun t17 =>
        ldW true 5 t17 w3 fun t18 =>
        binW .sub v1 (.int .i64 1) fun t20 =>
        callF Tryz.prog 53 [t18, t20] w3 fun t21 w4 =>
        unW .not t21 fun t22 =>
        condW t22 (
          K (.bool false) w4) (
          binW .add (s2.getD 0 undef) (.int .i64 1) fun t23 =>
          L2 [t23] w4)) (
        K (.bool true) w3))
theorem W53_eq (v0 v1 : Value) (w : World) (K : Value → World → Prop) : funW Tryz.prog Tryz.f53 plan53 [v0, v1] w K = W53 v0 v1 w K := by kernel_rfl
theorem W53_chk : chkFun Tryz.prog Tryz.f53 plan53 2 = true := by kernel_rfl
theorem W53_ok {v0 v1 : Value} {w : World} {K : Value → World → Prop} (h : W53 v0 v1 w K) : callF Tryz.prog 53 [v0, v1] w K :=
  tie Tryz.prog 53 Tryz.f53 plan53 [v0, v1] w K 2 (W53 v0 v1 w K) rfl mixed Tryz.func53 W53_chk (W53_eq v0 v1 w K) Tryz.call53 h

/- purlin_purlinref02.plain -/
def plan54 : Plan := { js := [(47, ⟨[121], [2, 5], 121⟩), (24, ⟨[89], [2, 4], 89⟩), (14002, ⟨[84], [], 74⟩), (14009, ⟨[83], [], 77⟩), (14012, ⟨[76], [], 74⟩), (14015, ⟨[71], [], 64⟩), (14019, ⟨[70], [], 67⟩), (14022, ⟨[66], [], 64⟩), (14028, ⟨[61], [], 58⟩), (6002, ⟨[53], [], 46⟩), (6006, ⟨[52], [], 49⟩), (6009, ⟨[48], [], 46⟩), (6012, ⟨[43], [], 36⟩), (6014, ⟨[42], [], 41⟩), (6019, ⟨[40], [], 36⟩), (6022, ⟨[33], [], 23⟩), (6024, ⟨[32], [], 31⟩), (6026, ⟨[30], [], 23⟩), (6028, ⟨[28], [], 27⟩), (6032, ⟨[26], [], 23⟩), (6035, ⟨[20], [], 15⟩), (6037, ⟨[19], [], 18⟩), (6040, ⟨[17], [], 15⟩), (6044, ⟨[12], [], 11⟩)], ds := [(36, ⟨[0, 1, 2, 3, 4, 5, 6, 7, 8, 9, 10, 11, 12, 13, 14, 15, 16, 17, 18, 19, 20, 21, 22, 23, 24], [[], [0], [], [0, 1, 2], [0, 1, 2, 3], [0, 1, 2, 3, 4], [0, 1, 2, 3, 4, 5], [0, 1, 2, 3, 4, 5, 6], [0, 1, 2, 3, 4, 5, 6, 7], [0, 1, 2, 3, 4, 5, 6, 7, 8], [0, 1, 2, 3, 4, 5, 6, 7, 8, 9], [0, 1, 2, 3, 4, 5, 6, 7, 8, 9, 10], [0, 1, 2, 3, 4, 5, 6, 7, 8, 9, 10, 11], [0, 1, 2, 3, 4, 5, 6, 7, 8, 9, 10], [0, 1, 2, 3, 4, 5, 6, 7, 8, 9, 10, 13], [0, 1, 2, 3, 4, 5, 6, 7, 8, 9, 10, 11, 12, 13, 14], [0, 1, 2, 3, 4, 5, 6, 7, 8, 9, 10, 11, 12, 13, 14, 15], [0, 1, 2, 3, 4, 5, 6, 7, 8, 9, 10], [0, 1, 2, 3, 4, 5, 6, 7, 8, 9, 10, 17], [0, 1, 2, 3, 4, 5, 6, 7, 8, 9, 10], [0, 1, 2, 3, 4, 5, 6, 7, 8, 9, 10, 17, 18, 19], [0, 1, 2, 3, 4, 5, 6, 7, 8, 9, 10, 17, 18, 19, 20], [0, 1, 2, 3, 4, 5, 6, 7, 8, 9, 10, 11, 12, 13, 14, 15, 16, 17, 18, 19, 20, 21], [0, 1, 2, 3, 4, 5, 6, 7, 8, 9, 10, 11, 12, 13, 14, 15, 16, 17, 18, 19, 20, 21, 22], [0, 1, 2, 3, 4, 5, 6, 7, 8, 9, 10, 11, 12, 13, 14, 15, 16, 17, 18, 19, 20, 21, 22, 23]]⟩)] }
def W54 (v0 : Value) (w : World) (K : Value → World → Prop) : Prop :=
  boxW 49 v0 w fun t1 w1 =>
  fldW 0 t1 fun t6 =>
  ldW false 1 t6 w1 fun t7 =>
  binW .lss t7 (.int .i64 0) fun t9 =>
  GdW (isB t9 false) [undef] w1 (fun J2 =>
    binW .gtr t7 (.int .i64 6) fun t12 =>
    J2 [t12] w1)
  fun s2 _ w3 =>
  pickW t9 (.bool true) (s2.getD 0 undef) fun t13 =>
  GdW (isB t13 false) [undef] w3 (fun J4 =>
    fldW 1 t1 fun t15 =>
    ldW false 1 t15 w3 fun t16 =>
    J4 [t16] w3)
  fun s4 _ w5 =>
  GdW (isB (s4.getD 0 undef) true) [undef] w5 (fun J6 =>
    binW .neq t7 (.int .i64 2) fun t19 =>
    J6 [t19] w5)
  fun s6 _ w7 =>
  GdW (isB t13 false) [undef] w7 (fun J8 =>
    pickW (s4.getD 0 undef) (s6.getD 0 undef) (.bool false) fun t20 =>
    J8 [t20] w7)
  fun s8 _ w9 =>
  pickW t13 (.bool true) (s8.getD 0 undef) fun t21 =>
  GdW (isB t21 false) [undef] w9 (fun J10 =>
    fldW 2 t1 fun t23 =>
    ldW false 1 t23 w9 fun t24 =>
    binW .neq t24 (.string (ofL [])) fun t25 =>
    J10 [t25] w9)
  fun s10 _ w11 =>
  GdW (isB (s10.getD 0 undef) true) [undef] w11 (fun J12 =>
    binW .neq t7 (.int .i64 3) fun t28 =>
    J12 [t28] w11)
  fun s12 _ w13 =>
  GdW (isB t21 false) [undef] w13 (fun J14 =>
    pickW (s10.getD 0 undef) (s12.getD 0 undef) (.bool false) fun t29 =>
    J14 [t29] w13)
  fun s14 _ w15 =>
  GdW (isB (s14.getD 0 undef) true) [undef] w15 (fun J16 =>
    binW .neq t7 (.int .i64 4) fun t32 =>
    J16 [t32] w15)
  fun s16 _ w17 =>
  GdW (isB t21 false) [undef] w17 (fun J18 =>
    pickW (s14.getD 0 undef) (s16.getD 0 undef) (.bool false) fun t33 =>
    J18 [t33] w17)
  fun s18 _ w19 =>
  pickW t21 (.bool true) (s18.getD 0 undef) fun t34 =>
  GdW (isB t34 false) [undef] w19 (fun J20 =>
    fldW 3 t1 fun t36 =>
    ldW false 1 t36 w19 fun t37 =>
    lenlW t37 fun t38 =>
    binW .gtr t38 (.int .i64 0) fun t39 =>
    J20 [t39] w19)
  fun s20 _ w21 =>
  GdW (isB (s20.getD 0 undef) true) [undef] w21 (fun J22 =>
    binW .lss t7 (.int .i64 5) fun t42 =>
    J22 [t42] w21)
  fun s22 _ w23 =>
  GdW (isB t34 false) [undef] w23 (fun J24 =>
    pickW (s20.getD 0 undef) (s22.getD 0 undef) (.bool false) fun t43 =>
    J24 [t43] w23)
  fun s24 _ w25 =>
  pickW t34 (.bool true) (s24.getD 0 undef) fun t44 =>
  GdW (isB t44 false) [undef] w25 (fun J26 =>
    binW .neq t7 (.int .i64 6) fun t47 =>
    J26 [t47] w25)
  fun s26 _ w27 =>
  GdW (isB (s26.getD 0 undef) true) [undef] w27 (fun J28 =>
    fldW 4 t1 fun t49 =>
    ldW false 1 t49 w27 fun t50 =>
    lenlW t50 fun t51 =>
    binW .gtr t51 (.int .i64 0) fun t52 =>
    J28 [t52] w27)
  fun s28 _ w29 =>
  GdW (isB t44 false) [undef] w29 (fun J30 =>
    pickW (s26.getD 0 undef) (s28.getD 0 undef) (.bool false) fun t53 =>
    J30 [t53] w29)
  fun s30 _ w31 =>
  pickW t44 (.bool true) (s30.getD 0 undef) fun t54 =>
  condW t54 (
    K (.bool false) w31) (
    binW .eql t7 (.int .i64 3) fun t56 =>
    GdW (isB t56 true) [undef] w31 (fun J32 =>
      fldW 2 t1 fun t58 =>
      ldW false 1 t58 w31 fun t59 =>
      callF Tryz.prog 90 [t59] w31 fun t60 w33 =>
      unW .not t60 fun t61 =>
      J32 [t61] w33)
    fun s32 _ w34 =>
    pickW t56 (s32.getD 0 undef) (.bool false) fun t62 =>
    GdW (isB t62 false) [undef] w34 (fun J35 =>
      binW .eql t7 (.int .i64 4) fun t65 =>
      J35 [t65] w34)
    fun s35 _ w36 =>
    GdW (isB (s35.getD 0 undef) true) [undef] w36 (fun J37 =>
      fldW 2 t1 fun t67 =>
      ldW false 1 t67 w36 fun t68 =>
      lensW t68 fun t69 =>
      binW .gtr t69 (.int .i64 16384) fun t70 =>
      J37 [t70] w36)
    fun s37 _ w38 =>
    GdW (isB t62 false) [undef] w38 (fun J39 =>
      pickW (s35.getD 0 undef) (s37.getD 0 undef) (.bool false) fun t71 =>
      J39 [t71] w38)
    fun s39 _ w40 =>
    pickW t62 (.bool true) (s39.getD 0 undef) fun t72 =>
    GdW (isB t72 false) [undef] w40 (fun J41 =>
      binW .eql t7 (.int .i64 6) fun t75 =>
      J41 [t75] w40)
    fun s41 _ w42 =>
    GdW (isB (s41.getD 0 undef) true) [undef] w42 (fun J43 =>
      fldW 4 t1 fun t77 =>
      ldW false 1 t77 w42 fun t78 =>
      lenlW t78 fun t79 =>
      fldW 3 t1 fun t80 =>
      ldW false 1 t80 w42 fun t81 =>
      lenlW t81 fun t82 =>
      binW .neq t79 t82 fun t83 =>
      J43 [t83] w42)
    fun s43 _ w44 =>
    GdW (isB t72 false) [undef] w44 (fun J45 =>
      pickW (s41.getD 0 undef) (s43.getD 0 undef) (.bool false) fun t84 =>
      J45 [t84] w44)
    fun s45 _ w46 =>
    pickW t72 (.bool true) (s45.getD 0 undef) fun t85 =>
    condW t85 (
      K (.bool false) w46) (
      fldW 4 t1 fun t86 =>
      ldW false 1 t86 w46 fun t87 =>
      lenlW t87 fun t88 =>
      LoopW [(.int .i64 0)] w46 fun s47 _ w48 L47 =>
        binW .lss (s47.getD 0 undef) t88 fun t90 =>
        condW t90 (
          fldW 4 t1 fun t92 =>
          ldW false 1 t92 w48.drew fun t93 =>
          ixaW none 1 t93 (s47.getD 0 undef) fun t95 =>
          ldW false 1 t95 w48.drew fun t96 =>
          lensW t96 fun t97 =>
          binW .gtr t97 (.int .i64 16384) fun t98 =>
          GqW (isB t98 false) (fun k49 => k49 (s47.getD 0 undef)) fun t100 =>
          GqW (isB t98 false) (fun k50 => binW .gtr t100 (.int .i64 0) k50) fun t101 =>
          GqW (isB t98 false) (fun k51 => k51 t101) fun t102 =>
          GqW (isB t102 true) (fun k52 => fldW 4 t1 k52) fun t103 =>
          GqW (isB t102 true) (fun k53 => ldW false 1 t103 w48.drew k53) fun t104 =>
          GqW (isB t102 true) (fun k54 => k54 (s47.getD 0 undef)) fun t105 =>
          GqW (isB t102 true) (fun k55 => binW .sub t105 (.int .i64 1) k55) fun t106 =>
          GqW (isB t102 true) (fun k56 => ixaW none 1 t104 t106 k56) fun t107 =>
          GqW (isB t102 true) (fun k57 => ldW false 1 t107 w48.drew k57) fun t108 =>
          GqW (isB t102 true) (fun k58 => fldW 4 t1 k58) fun t109 =>
          GqW (isB t102 true) (fun k59 => ldW false 1 t109 w48.drew k59) fun t110 =>
          GqW (isB t102 true) (fun k60 => k60 (s47.getD 0 undef)) fun t111 =>
          GqW (isB t102 true) (fun k61 => ixaW none 1 t110 t111 k61) fun t112 =>
          GqW (isB t102 true) (fun k62 => ldW false 1 t112 w48.drew k62) fun t113 =>
          GqW (isB t102 true) (fun k63 => binW .geq t108 t113 k63) fun t114 =>
          GqW (isB t98 false) (fun k64 => pickW t102 t114 (.bool false) k64) fun t115 =>
          pickW t98 (.bool true) t115 fun t116 =>
          condW t116 (
            K (.bool false) w48.drew) (
            binW .add (s47.getD 0 undef) (.int .i64 1) fun t117 =>
            L47 [t117] w48.drew)) (
          fldW 3 t1 fun t118 =>
          ldW false 1 t118 w48 fun t119 =>
          lenlW t119 fun t120 =>
          LoopW [(.int .i64 0)] w48 fun s65 _ w66 L65 =>
            binW .lss (s65.getD 0 undef) t120 fun t122 =>
            condW t122 (
              fldW 3 t1 fun t124 =>
              ldW false 1 t124 w66 fun t125 =>
              ixaW none 5 t125 (s65.getD 0 undef) fun t127 =>
              ldW true 5 t127 w66 fun t128 =>
              callF Tryz.prog 54 [t128] w66 fun t129 w67 =>
              unW .not t129 fun t130 =>
              condW t130 (
                K (.bool false) w67) (
                binW .add (s65.getD 0 undef) (.int .i64 1) fun t131 =>
                L65 [t131] w67)) (
              K (.bool true) w66))))
theorem W54_eq (v0 : Value) (w : World) (K : Value → World → Prop) : funW Tryz.prog Tryz.f54 plan54 [v0] w K = W54 v0 w K := by kernel_rfl
theorem W54_chk : chkFun Tryz.prog Tryz.f54 plan54 1 = true := by kernel_rfl
theorem W54_ok {v0 : Value} {w : World} {K : Value → World → Prop} (h : W54 v0 w K) : callF Tryz.prog 54 [v0] w K :=
  tie Tryz.prog 54 Tryz.f54 plan54 [v0] w K 1 (W54 v0 w K) rfl mixed Tryz.func54 W54_chk (W54_eq v0 w K) Tryz.call54 h

/- purlin_purlinref01.Good -/
def plan90 : Plan := { js := [(32005, ⟨[53], [], 50⟩), (22, ⟨[4], [2], 4⟩), (12002, ⟨[37], [], 25⟩), (12003, ⟨[36], [], 29⟩), (12006, ⟨[35], [], 33⟩), (12010, ⟨[32], [], 29⟩), (12014, ⟨[28], [], 25⟩), (12019, ⟨[22], [], 20⟩), (4, ⟨[3], [], 1⟩), (6004, ⟨[12], [], 10⟩)], ds := [] }
def W90 (v0 : Value) (w : World) (K : Value → World → Prop) : Prop :=
  JoinW (fun J1 =>
    lensW v0 fun t7 =>
    binW .gtr t7 (.int .i64 0) fun t8 =>
    GdW (isB t8 true) [undef] w (fun J2 =>
      ixsW v0 (.int .i64 0) fun t11 =>
      binW .eql t11 (.int .u8 45) fun t12 =>
      J2 [t12] w)
    fun s2 _ w3 =>
    pickW t8 (s2.getD 0 undef) (.bool false) fun t13 =>
    condW t13 (
      slsW v0 (some (.int .i64 1)) none fun t15 =>
      J1 [t15] w3) (
      J1 [v0] w3))
  fun s1 _ w4 =>
  lensW (s1.getD 0 undef) fun t17 =>
  binW .eql t17 (.int .i64 0) fun t18 =>
  GdW (isB t18 false) [undef] w4 (fun J5 =>
    lensW (s1.getD 0 undef) fun t21 =>
    binW .gtr t21 (.int .i64 100) fun t22 =>
    J5 [t22] w4)
  fun s5 _ w6 =>
  pickW t18 (.bool true) (s5.getD 0 undef) fun t23 =>
  GdW (isB t23 false) [undef] w6 (fun J7 =>
    ixsW (s1.getD 0 undef) (.int .i64 0) fun t26 =>
    binW .eql t26 (.int .u8 48) fun t27 =>
    J7 [t27] w6)
  fun s7 _ w8 =>
  GdW (isB (s7.getD 0 undef) true) [undef] w8 (fun J9 =>
    lensW (s1.getD 0 undef) fun t30 =>
    binW .gtr t30 (.int .i64 1) fun t31 =>
    J9 [t31] w8)
  fun s9 _ w10 =>
  GdW (isB (s9.getD 0 undef) false) [undef] w10 (fun J11 =>
    lensW v0 fun t34 =>
    binW .gtr t34 (.int .i64 1) fun t35 =>
    J11 [t35] w10)
  fun s11 _ w12 =>
  GdW (isB (s7.getD 0 undef) true) [undef] w12 (fun J13 =>
    pickW (s9.getD 0 undef) (.bool true) (s11.getD 0 undef) fun t36 =>
    J13 [t36] w12)
  fun s13 _ w14 =>
  GdW (isB t23 false) [undef] w14 (fun J15 =>
    pickW (s7.getD 0 undef) (s13.getD 0 undef) (.bool false) fun t37 =>
    J15 [t37] w14)
  fun s15 _ w16 =>
  pickW t23 (.bool true) (s15.getD 0 undef) fun t38 =>
  condW t38 (
    K (.bool false) w16) (
    LoopW [(.int .i64 0)] w16 fun s17 _ w18 L17 =>
      lensW (s1.getD 0 undef) fun t41 =>
      binW .lss (s17.getD 0 undef) t41 fun t42 =>
      condW t42 (
        ixsW (s1.getD 0 undef) (s17.getD 0 undef) fun t47 =>
        binW .lss t47 (.int .u8 48) fun t48 =>
        GdW (isB t48 false) [undef] w18 (fun J19 =>
          ixsW (s1.getD 0 undef) (s17.getD 0 undef) fun t52 =>
          binW .gtr t52 (.int .u8 57) fun t53 =>
          J19 [t53] w18)
        fun s19 _ w20 =>
        pickW t48 (.bool true) (s19.getD 0 undef) fun t54 =>
        condW t54 (
          K (.bool false) w20) (
          binW .add (s17.getD 0 undef) (.int .i64 1) fun t44 =>
          L17 [t44] w20)) (
        K (.bool true) w18))
theorem W90_eq (v0 : Value) (w : World) (K : Value → World → Prop) : funW Tryz.prog Tryz.f90 plan90 [v0] w K = W90 v0 w K := by kernel_rfl
theorem W90_chk : chkFun Tryz.prog Tryz.f90 plan90 1 = true := by kernel_rfl
theorem W90_ok {v0 : Value} {w : World} {K : Value → World → Prop} (h : W90 v0 w K) : callF Tryz.prog 90 [v0] w K :=
  tie Tryz.prog 90 Tryz.f90 plan90 [v0] w K 1 (W90 v0 w K) rfl mixed Tryz.func90 W90_chk (W90_eq v0 w K) Tryz.call90 h

/- purlin_purlinref02.Same -/
def plan114 : Plan := { js := [(14, ⟨[45], [4, 5], 45⟩), (4008, ⟨[40], [], 34⟩), (4016, ⟨[31], [], 26⟩), (4023, ⟨[23], [], 19⟩), (4030, ⟨[16], [], 12⟩)], ds := [(26, ⟨[0, 1, 2, 3, 4, 5, 6, 7, 8, 9, 11], [[], [0], [], [0, 1, 2], [0, 1, 2, 3], [], [5], [], [5, 6, 7], [5, 6, 7, 8], [0, 1, 2, 3, 4, 5, 6, 7, 8, 9], [0, 1, 2, 3, 4, 5, 6, 7, 8, 9, 10]]⟩)] }
def W114 (v0 v1 : Value) (w : World) (K : Value → World → Prop) : Prop :=
  boxW 49 v0 w fun t2 w1 =>
  boxW 49 v1 w1 fun t3 w2 =>
  fldW 0 t2 fun t6 =>
  ldW false 1 t6 w2 fun t7 =>
  fldW 0 t3 fun t8 =>
  ldW false 1 t8 w2 fun t9 =>
  binW .neq t7 t9 fun t10 =>
  GdW (isB t10 false) [undef] w2 (fun J3 =>
    fldW 1 t2 fun t12 =>
    ldW false 1 t12 w2 fun t13 =>
    fldW 1 t3 fun t14 =>
    ldW false 1 t14 w2 fun t15 =>
    eqW .bool true t13 t15 fun t16 =>
    J3 [t16] w2)
  fun s3 _ w4 =>
  pickW t10 (.bool true) (s3.getD 0 undef) fun t17 =>
  GdW (isB t17 false) [undef] w4 (fun J5 =>
    fldW 2 t2 fun t19 =>
    ldW false 1 t19 w4 fun t20 =>
    fldW 2 t3 fun t21 =>
    ldW false 1 t21 w4 fun t22 =>
    binW .neq t20 t22 fun t23 =>
    J5 [t23] w4)
  fun s5 _ w6 =>
  pickW t17 (.bool true) (s5.getD 0 undef) fun t24 =>
  GdW (isB t24 false) [undef] w6 (fun J7 =>
    fldW 4 t2 fun t26 =>
    ldW false 1 t26 w6 fun t27 =>
    fldW 4 t3 fun t28 =>
    ldW false 1 t28 w6 fun t29 =>
    callF Tryz.prog 19 [t27, t29] w6 fun t30 w8 =>
    unW .not t30 fun t31 =>
    J7 [t31] w8)
  fun s7 _ w9 =>
  pickW t24 (.bool true) (s7.getD 0 undef) fun t32 =>
  GdW (isB t32 false) [undef] w9 (fun J10 =>
    fldW 3 t2 fun t34 =>
    ldW false 1 t34 w9 fun t35 =>
    lenlW t35 fun t36 =>
    fldW 3 t3 fun t37 =>
    ldW false 1 t37 w9 fun t38 =>
    lenlW t38 fun t39 =>
    binW .neq t36 t39 fun t40 =>
    J10 [t40] w9)
  fun s10 _ w11 =>
  pickW t32 (.bool true) (s10.getD 0 undef) fun t41 =>
  condW t41 (
    K (.bool false) w11) (
    fldW 3 t2 fun t42 =>
    ldW false 1 t42 w11 fun t43 =>
    lenlW t43 fun t44 =>
    LoopW [(.int .i64 0)] w11 fun s12 _ w13 L12 =>
      binW .lss (s12.getD 0 undef) t44 fun t46 =>
      condW t46 (
        fldW 3 t2 fun t48 =>
        ldW false 1 t48 w13.drew fun t49 =>
        ixaW none 5 t49 (s12.getD 0 undef) fun t51 =>
        ldW true 5 t51 w13.drew fun t52 =>
        fldW 3 t3 fun t53 =>
        ldW false 1 t53 w13.drew fun t54 =>
        ixaW none 5 t54 (s12.getD 0 undef) fun t56 =>
        ldW true 5 t56 w13.drew fun t57 =>
        callF Tryz.prog 114 [t52, t57] w13.drew fun t58 w14 =>
        unW .not t58 fun t59 =>
        condW t59 (
          K (.bool false) w14) (
          binW .add (s12.getD 0 undef) (.int .i64 1) fun t60 =>
          L12 [t60] w14)) (
        K (.bool true) w13))
theorem W114_eq (v0 v1 : Value) (w : World) (K : Value → World → Prop) : funW Tryz.prog Tryz.f114 plan114 [v0, v1] w K = W114 v0 v1 w K := by kernel_rfl
theorem W114_chk : chkFun Tryz.prog Tryz.f114 plan114 2 = true := by kernel_rfl
theorem W114_ok {v0 v1 : Value} {w : World} {K : Value → World → Prop} (h : W114 v0 v1 w K) : callF Tryz.prog 114 [v0, v1] w K :=
  tie Tryz.prog 114 Tryz.f114 plan114 [v0, v1] w K 2 (W114 v0 v1 w K) rfl mixed Tryz.func114 W114_chk (W114_eq v0 v1 w K) Tryz.call114 h

/- purlin_purlinref02.Int -/
def plan39 : Plan := { js := [], ds := [] }
def W39 (v0 : Value) (w : World) (K : Value → World → Prop) : Prop :=
  allocW 49 [(.int .i64 0), (.bool false), (.string (ofL [])), (.slice none 0 0), (.slice none 0 0)] w fun t2 w1 =>
  callF Tryz.prog 78 [v0] w1 fun t4 w2 =>
  putW [(.int .i64 0), (.bool false), (.string (ofL [])), (.slice none 0 0), (.slice none 0 0)] [(0, 1, (.int .i64 3)), (2, 1, t4)] fun c3 =>
  stW 5 t2 (.agg c3.toArray) w2 fun w4 =>
  ldW true 5 t2 w4 fun r5 =>
  K r5 w4
theorem W39_eq (v0 : Value) (w : World) (K : Value → World → Prop) : funW Tryz.prog Tryz.f39 plan39 [v0] w K = W39 v0 w K := by kernel_rfl
theorem W39_chk : chkFun Tryz.prog Tryz.f39 plan39 1 = true := by kernel_rfl
theorem W39_ok {v0 : Value} {w : World} {K : Value → World → Prop} (h : W39 v0 w K) : callF Tryz.prog 39 [v0] w K :=
  tie Tryz.prog 39 Tryz.f39 plan39 [v0] w K 1 (W39 v0 w K) rfl mixed Tryz.func39 W39_chk (W39_eq v0 w K) Tryz.call39 h

/- purlin_purlinref01.Digits -/
def plan78 : Plan := { js := [(27, ⟨[5], [], 5⟩), (16, ⟨[3, 4], [], 1⟩)], ds := [] }
def W78 (v0 : Value) (w : World) (K : Value → World → Prop) : Prop :=
  binW .eql v0 (.int .i64 0) fun t7 =>
  condW t7 (
    K (.string (ofL [48])) w) (
    LoopW [(.string (ofL [])), v0] w fun s1 _ w2 L1 =>
      binW .neq (s1.getD 1 undef) (.int .i64 0) fun t10 =>
      condW t10 (
        binW .rem (s1.getD 1 undef) (.int .i64 10) fun t14 =>
        JoinW (fun J3 =>
          binW .lss t14 (.int .i64 0) fun t16 =>
          condW t16 (
            unW .neg t14 fun t18 =>
            J3 [t18] w2) (
            J3 [t14] w2))
        fun s3 _ w4 =>
        binW .add (.int .i64 48) (s3.getD 0 undef) fun t20 =>
        cvtW .u8 t20 fun t21 =>
        bslW 5 1 [(.int .u8 0)] [(0, 1, t21)] w4 fun t22 w5 =>
        semQ Tryz.prog (convert 152 9 t22) w5 fun t23 =>
        binW .add t23 (s1.getD 0 undef) fun t25 =>
        binW .quo (s1.getD 1 undef) (.int .i64 10) fun t12 =>
        L1 [t25, t12] w5) (
        binW .lss v0 (.int .i64 0) fun t27 =>
        callF Tryz.prog 113 [t27, (s1.getD 0 undef)] w2 fun t29 w6 =>
        K t29 w6))
theorem W78_eq (v0 : Value) (w : World) (K : Value → World → Prop) : funW Tryz.prog Tryz.f78 plan78 [v0] w K = W78 v0 w K := by kernel_rfl
theorem W78_chk : chkFun Tryz.prog Tryz.f78 plan78 1 = true := by kernel_rfl
theorem W78_ok {v0 : Value} {w : World} {K : Value → World → Prop} (h : W78 v0 w K) : callF Tryz.prog 78 [v0] w K :=
  tie Tryz.prog 78 Tryz.f78 plan78 [v0] w K 1 (W78 v0 w K) rfl mixed Tryz.func78 W78_chk (W78_eq v0 w K) Tryz.call78 h

/- purlin_purlinref01.signed -/
def plan113 : Plan := { js := [(4003, ⟨[8], [], 7⟩)], ds := [] }
def W113 (v0 v1 : Value) (w : World) (K : Value → World → Prop) : Prop :=
  GdW (isB v0 true) [undef] w (fun J1 =>
    binW .neq v1 (.string (ofL [48])) fun t8 =>
    J1 [t8] w)
  fun s1 _ w2 =>
  pickW v0 (s1.getD 0 undef) (.bool false) fun t9 =>
  condW t9 (
    binW .add (.string (ofL [45])) v1 fun t11 =>
    K t11 w2) (
    K v1 w2)
theorem W113_eq (v0 v1 : Value) (w : World) (K : Value → World → Prop) : funW Tryz.prog Tryz.f113 plan113 [v0, v1] w K = W113 v0 v1 w K := by kernel_rfl
theorem W113_chk : chkFun Tryz.prog Tryz.f113 plan113 2 = true := by kernel_rfl
theorem W113_ok {v0 v1 : Value} {w : World} {K : Value → World → Prop} (h : W113 v0 v1 w K) : callF Tryz.prog 113 [v0, v1] w K :=
  tie Tryz.prog 113 Tryz.f113 plan113 [v0, v1] w K 2 (W113 v0 v1 w K) rfl mixed Tryz.func113 W113_chk (W113_eq v0 v1 w K) Tryz.call113 h

/- purlin_purlinref13.Choose -/
def plan15 : Plan := { js := [(24, ⟨[21], [8, 10], 21⟩)], ds := [] }
def W15 (v0 v1 v2 v3 : Value) (w : World) (K : Value → World → Prop) : Prop :=
  boxW 49 v1 w fun t5 w1 =>
  boxW 49 v2 w1 fun t6 w2 =>
  unW .not v0 fun t12 =>
  condW t12 (
    K (.int .i64 1) w2) (
    ldW true 5 t5 w2 fun t13 =>
    ldW true 5 t6 w2 fun t14 =>
    callF Tryz.prog 43 [t13, t14] w2 fun t15 w3 =>
    lenlW t15 fun t17 =>
    binW .eql t17 (.int .i64 0) fun t18 =>
    condW t18 (
      K (.int .i64 0) w3) (
      lenlW t15 fun t20 =>
      LoopW [(.int .i64 0)] w3 fun s4 _ w5 L4 =>
        binW .lss (s4.getD 0 undef) t20 fun t22 =>
        condW t22 (
          ixaW none 1 t15 (s4.getD 0 undef) fun t26 =>
          ldW false 1 t26 w5 fun t27 =>
          callF Tryz.prog 44 [t27] w5 fun t28 w6 =>
          condW t28 (
            condW v3 (
              K (.int .i64 4) w6) (
              K (.int .i64 3) w6)) (
            binW .add (s4.getD 0 undef) (.int .i64 1) fun t30 =>
            L4 [t30] w6)) (
          K (.int .i64 2) w5)))
theorem W15_eq (v0 v1 v2 v3 : Value) (w : World) (K : Value → World → Prop) : funW Tryz.prog Tryz.f15 plan15 [v0, v1, v2, v3] w K = W15 v0 v1 v2 v3 w K := by kernel_rfl
theorem W15_chk : chkFun Tryz.prog Tryz.f15 plan15 4 = true := by kernel_rfl
theorem W15_ok {v0 v1 v2 v3 : Value} {w : World} {K : Value → World → Prop} (h : W15 v0 v1 v2 v3 w K) : callF Tryz.prog 15 [v0, v1, v2, v3] w K :=
  tie Tryz.prog 15 Tryz.f15 plan15 [v0, v1, v2, v3] w K 4 (W15 v0 v1 v2 v3 w K) rfl mixed Tryz.func15 W15_chk (W15_eq v0 v1 v2 v3 w K) Tryz.call15 h

/- purlin_purlinref13.Keys -/
def plan43 : Plan := { js := [(45008, ⟨[101], [], 95⟩), (38, ⟨[6], [6], 9⟩), (40008, ⟨[85], [], 79⟩), (32, ⟨[5], [5], 9⟩), (26, ⟨[8], [], 8⟩), (19006, ⟨[28], [], 24⟩), (16, ⟨[5, 6, 7], [], 4⟩), (6004, ⟨[15], [], 13⟩)], ds := [(28, ⟨[0, 1, 2, 3, 4, 5, 6, 7, 8, 9, 10, 11, 12, 13, 14, 15, 16, 17, 18, 19, 20, 21, 22, 23, 24], [[], [], [1], [1, 2], [0, 1, 2, 3], [0, 1, 2, 3, 4], [0, 1, 2, 3, 4, 5], [0, 1, 2, 3, 4, 5], [0, 1, 2, 3, 4, 5, 7], [0, 1, 2, 3, 4, 5, 7, 8], [0, 1, 2, 3, 4, 5, 6, 7, 8, 9], [0, 1, 2, 3, 4, 5, 6, 7, 8, 9, 10], [0, 1, 2, 3, 4, 5, 6, 7, 8, 9, 10, 11], [0, 1, 2, 3, 4, 5, 6, 7, 8, 9, 10, 11, 12], [0, 1, 2, 3, 4, 5, 6, 7, 8, 9, 10, 11], [0, 1, 2, 3, 4, 5, 6, 7, 8, 9, 10, 11, 12, 13, 14], [0, 1, 2, 3, 4, 5, 6, 7, 8, 9, 10, 11, 12, 13, 14, 15], [0, 1, 2, 3, 4, 5, 6, 7, 8, 9, 10, 11], [0, 1, 2, 3, 4, 5, 6, 7, 8, 9, 10, 11, 17], [0, 1, 2, 3, 4, 5, 6, 7, 8, 9, 10, 11], [0, 1, 2, 3, 4, 5, 6, 7, 8, 9, 10, 11, 17, 18, 19], [0, 1, 2, 3, 4, 5, 6, 7, 8, 9, 10, 11, 17, 18, 19, 20], [0, 1, 2, 3, 4, 5, 6, 7, 8, 9, 10, 11, 12, 13, 14, 15, 16, 17, 18, 19, 20, 21], [0, 1, 2, 3, 4, 5, 6, 7, 8, 9, 10, 11, 12, 13, 14, 15, 16, 17, 18, 19, 20, 21, 22], [0, 1, 2, 3, 4, 5, 6, 7, 8, 9, 10, 11, 12, 13, 14, 15, 16, 17, 18, 19, 20, 21, 22, 23]]⟩)] }
def W43 (v0 v1 : Value) (w : World) (K : Value → World → Prop) : Prop :=
  boxW 49 v0 w fun t2 w1 =>
  boxW 49 v1 w1 fun t3 w2 =>
  fldW 0 t2 fun t9 =>
  ldW false 1 t9 w2 fun t10 =>
  binW .neq t10 (.int .i64 6) fun t11 =>
  GdW (isB t11 false) [undef] w2 (fun J3 =>
    fldW 0 t3 fun t13 =>
    ldW false 1 t13 w2 fun t14 =>
    binW .neq t14 (.int .i64 6) fun t15 =>
    J3 [t15] w2)
  fun s3 _ w4 =>
  pickW t11 (.bool true) (s3.getD 0 undef) fun t16 =>
  condW t16 (
    K (.slice none 0 0) w4) (
    LoopW [(.slice none 0 0), (.int .i64 0), (.int .i64 0)] w4 fun s5 _ w6 L5 =>
      fldW 4 t2 fun t19 =>
      ldW false 1 t19 w6 fun t20 =>
      lenlW t20 fun t21 =>
      binW .lss (s5.getD 1 undef) t21 fun t22 =>
      GdW (isB t22 false) [undef] w6 (fun J7 =>
        fldW 4 t3 fun t25 =>
        ldW false 1 t25 w6 fun t26 =>
        lenlW t26 fun t27 =>
        binW .lss (s5.getD 2 undef) t27 fun t28 =>
        J7 [t28] w6)
      fun s7 _ w8 =>
      pickW t22 (.bool true) (s7.getD 0 undef) fun t29 =>
      condW t29 (
        JoinW (fun J9 =>
          fldW 4 t3 fun t31 =>
          ldW false 1 t31 w8.drew fun t32 =>
          lenlW t32 fun t33 =>
          binW .eql (s5.getD 2 undef) t33 fun t34 =>
          GqW (isB t34 false) (fun k10 => k10 (s5.getD 1 undef)) fun t36 =>
          GqW (isB t34 false) (fun k11 => fldW 4 t2 k11) fun t37 =>
          GqW (isB t34 false) (fun k12 => ldW false 1 t37 w8.drew k12) fun t38 =>
          GqW (isB t34 false) (fun k13 => lenlW t38 k13) fun t39 =>
          GqW (isB t34 false) (fun k14 => binW .lss t36 t39 k14) fun t40 =>
          GqW (isB t34 false) (fun k15 => k15 t40) fun t41 =>
          GqW (isB t41 true) (fun k16 => fldW 4 t2 k16) fun t42 =>
          GqW (isB t41 true) (fun k17 => ldW false 1 t42 w8.drew k17) fun t43 =>
          GqW (isB t41 true) (fun k18 => k18 (s5.getD 1 undef)) fun t44 =>
          GqW (isB t41 true) (fun k19 => ixaW none 1 t43 t44 k19) fun t45 =>
          GqW (isB t41 true) (fun k20 => ldW false 1 t45 w8.drew k20) fun t46 =>
          GqW (isB t41 true) (fun k21 => fldW 4 t3 k21) fun t47 =>
          GqW (isB t41 true) (fun k22 => ldW false 1 t47 w8.drew k22) fun t48 =>
          GqW (isB t41 true) (fun k23 => k23 (s5.getD 2 undef)) fun t49 =>
          GqW (isB t41 true) (fun k24 => ixaW none 1 t48 t49 k24) fun t50 =>
          GqW (isB t41 true) (fun k25 => ldW false 1 t50 w8.drew k25) fun t51 =>
          GqW (isB t41 true) (fun k26 => binW .lss t46 t51 k26) fun t52 =>
          GqW (isB t34 false) (fun k27 => pickW t41 t52 (.bool false) k27) fun t53 =>
          pickW t34 (.bool true) t53 fun t54 =>
          condW t54 (
            fldW 4 t2 fun t55 =>
            ldW false 1 t55 w8.drew fun t56 =>
            ixaW none 1 t56 (s5.getD 1 undef) fun t58 =>
            ldW false 1 t58 w8.drew fun t59 =>
            J9 [t59] w8.drew) (
            fldW 4 t3 fun t60 =>
            ldW false 1 t60 w8.drew fun t61 =>
            ixaW none 1 t61 (s5.getD 2 undef) fun t63 =>
            ldW false 1 t63 w8.drew fun t64 =>
            J9 [t64] w8.drew))
        fun s9 _ w28 =>
        JoinW (fun J29 =>
          ldW true 5 t2 w28 fun t65 =>
          ldW true 5 t3 w28 fun t66 =>
          callF Tryz.prog 81 [t65, t66, (s9.getD 0 undef)] w28 fun t68 w30 =>
          condW t68 (
            bslW 9 1 [(.string (ofL []))] [(0, 1, (s9.getD 0 undef))] w30 fun t71 w31 =>
            semE Tryz.prog (Builtin.append_ #[33, 33] 33 #[(s5.getD 0 undef), t71]) w31 fun t72 w32 =>
            J29 [t72] w32) (
            J29 [(s5.getD 0 undef)] w30))
        fun s29 _ w33 =>
        JoinW (fun J34 =>
          fldW 4 t2 fun t74 =>
          ldW false 1 t74 w33 fun t75 =>
          lenlW t75 fun t76 =>
          binW .lss (s5.getD 1 undef) t76 fun t77 =>
          GdW (isB t77 true) [undef] w33 (fun J35 =>
            fldW 4 t2 fun t79 =>
            ldW false 1 t79 w33 fun t80 =>
            ixaW none 1 t80 (s5.getD 1 undef) fun t82 =>
            ldW false 1 t82 w33 fun t83 =>
            binW .eql t83 (s9.getD 0 undef) fun t85 =>
            J35 [t85] w33)
          fun s35 _ w36 =>
          pickW t77 (s35.getD 0 undef) (.bool false) fun t86 =>
          condW t86 (
            binW .add (s5.getD 1 undef) (.int .i64 1) fun t88 =>
            J34 [t88] w36) (
            J34 [(s5.getD 1 undef)] w36))
        fun s34 _ w37 =>
        fldW 4 t3 fun t90 =>
        ldW false 1 t90 w37 fun t91 =>
        lenlW t91 fun t92 =>
        binW .lss (s5.getD 2 undef) t92 fun t93 =>
        GdW (isB t93 true) [undef] w37 (fun J38 =>
          fldW 4 t3 fun t95 =>
          ldW false 1 t95 w37 fun t96 =>
          ixaW none 1 t96 (s5.getD 2 undef) fun t98 =>
          ldW false 1 t98 w37 fun t99 =>
          binW .eql t99 (s9.getD 0 undef) fun t101 =>
          J38 [t101] w37)
        fun s38 _ w39 =>
        pickW t93 (s38.getD 0 undef) (.bool false) fun t102 =>
        condW t102 (
          binW .add (s5.getD 2 undef) (.int .i64 1) fun t104 =>
          L5 [(s29.getD 0 undef), (s34.getD 0 undef), t104] w39) (
          L5 [(s29.getD 0 undef), (s34.getD 0 undef), (s5.getD 2 undef)] w39)) (
        K (s5.getD 0 undef) w8))
theorem W43_eq (v0 v1 : Value) (w : World) (K : Value → World → Prop) : funW Tryz.prog Tryz.f43 plan43 [v0, v1] w K = W43 v0 v1 w K := by kernel_rfl
theorem W43_chk : chkFun Tryz.prog Tryz.f43 plan43 2 = true := by kernel_rfl
theorem W43_ok {v0 v1 : Value} {w : World} {K : Value → World → Prop} (h : W43 v0 v1 w K) : callF Tryz.prog 43 [v0, v1] w K :=
  tie Tryz.prog 43 Tryz.f43 plan43 [v0, v1] w K 2 (W43 v0 v1 w K) rfl mixed Tryz.func43 W43_chk (W43_eq v0 v1 w K) Tryz.call43 h

/- purlin_purlinref13.Forces -/
def plan44 : Plan := { js := [(3005, ⟨[9], [], 7⟩)], ds := [] }
def W44 (v0 : Value) (w : World) (K : Value → World → Prop) : Prop :=
  lensW v0 fun t4 =>
  binW .geq t4 (.int .i64 4) fun t5 =>
  GdW (isB t5 true) [undef] w (fun J1 =>
    slsW v0 none (some (.int .i64 4)) fun t8 =>
    binW .eql t8 (.string (ofL [110, 101, 119, 95])) fun t9 =>
    J1 [t9] w)
  fun s1 _ w2 =>
  pickW t5 (s1.getD 0 undef) (.bool false) fun t10 =>
  K t10 w2
theorem W44_eq (v0 : Value) (w : World) (K : Value → World → Prop) : funW Tryz.prog Tryz.f44 plan44 [v0] w K = W44 v0 w K := by kernel_rfl
theorem W44_chk : chkFun Tryz.prog Tryz.f44 plan44 1 = true := by kernel_rfl
theorem W44_ok {v0 : Value} {w : World} {K : Value → World → Prop} (h : W44 v0 w K) : callF Tryz.prog 44 [v0] w K :=
  tie Tryz.prog 44 Tryz.f44 plan44 [v0] w K 1 (W44 v0 w K) rfl mixed Tryz.func44 W44_chk (W44_eq v0 w K) Tryz.call44 h

/- purlin_purlinref13.differs -/
def plan81 : Plan := { js := [(7005, ⟨[40], [], 38⟩), (7010, ⟨[35], [], 33⟩), (7016, ⟨[30], [], 27⟩)], ds := [] }
def W81 (v0 v1 v2 : Value) (w : World) (K : Value → World → Prop) : Prop :=
  boxW 49 v0 w fun t3 w1 =>
  boxW 49 v1 w1 fun t4 w2 =>
  ldW true 5 t3 w2 fun t12 =>
  callF Tryz.prog 17 [t12, v2] w2 fun t14 w3 =>
  extW 0 t14 fun t15 =>
  extW 1 t14 fun t16 =>
  allocW 49 [(.int .i64 0), (.bool false), (.string (ofL [])), (.slice none 0 0), (.slice none 0 0)] w3 fun t7 w4 =>
  stW 5 t7 t15 w4 fun w5 =>
  ldW true 5 t4 w5 fun t18 =>
  callF Tryz.prog 17 [t18, v2] w5 fun t20 w6 =>
  extW 0 t20 fun t21 =>
  extW 1 t20 fun t22 =>
  allocW 49 [(.int .i64 0), (.bool false), (.string (ofL [])), (.slice none 0 0), (.slice none 0 0)] w6 fun t9 w7 =>
  stW 5 t9 t21 w7 fun w8 =>
  eqW .bool true t16 t22 fun t25 =>
  GdW (isB t25 false) [undef] w8 (fun J9 =>
    ldW true 5 t7 w8 fun t27 =>
    ldW true 5 t9 w8 fun t28 =>
    callF Tryz.prog 114 [t27, t28] w8 fun t29 w10 =>
    unW .not t29 fun t30 =>
    J9 [t30] w10)
  fun s9 _ w11 =>
  pickW t25 (.bool true) (s9.getD 0 undef) fun t31 =>
  GdW (isB t31 false) [undef] w11 (fun J12 =>
    ldW true 5 t7 w11 fun t33 =>
    callF Tryz.prog 18 [t33] w11 fun t34 w13 =>
    unW .not t34 fun t35 =>
    J12 [t35] w13)
  fun s12 _ w14 =>
  pickW t31 (.bool true) (s12.getD 0 undef) fun t36 =>
  GdW (isB t36 false) [undef] w14 (fun J15 =>
    ldW true 5 t9 w14 fun t38 =>
    callF Tryz.prog 18 [t38] w14 fun t39 w16 =>
    unW .not t39 fun t40 =>
    J15 [t40] w16)
  fun s15 _ w17 =>
  pickW t36 (.bool true) (s15.getD 0 undef) fun t41 =>
  K t41 w17
theorem W81_eq (v0 v1 v2 : Value) (w : World) (K : Value → World → Prop) : funW Tryz.prog Tryz.f81 plan81 [v0, v1, v2] w K = W81 v0 v1 v2 w K := by kernel_rfl
theorem W81_chk : chkFun Tryz.prog Tryz.f81 plan81 3 = true := by kernel_rfl
theorem W81_ok {v0 v1 v2 : Value} {w : World} {K : Value → World → Prop} (h : W81 v0 v1 v2 w K) : callF Tryz.prog 81 [v0, v1, v2] w K :=
  tie Tryz.prog 81 Tryz.f81 plan81 [v0, v1, v2] w K 3 (W81 v0 v1 v2 w K) rfl mixed Tryz.func81 W81_chk (W81_eq v0 v1 v2 w K) Tryz.call81 h


end Go.Proofs.YtonblcbpoilndaaGreatDoor
