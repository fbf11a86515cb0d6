/- One plain sentence: weakest preconditions of functions of the program, printed by a program of ours, and that calls meet them. Conditions: none. -/
import Derived.Test.YtcefidpmlnfheaaBase
set_option linter.all false
set_option linter.unusedSimpArgs false
set_option linter.unusedVariables false
set_option linter.unusedSectionVars false
namespace Go.Proofs.Ytcefidpmlnfheaa
open Go Go.Eng

/- purlin_vfs.New -/
def plan8 : Plan := { js := [], ds := [] }
def W8 (w : World) (K : Value → World → Prop) : Prop :=
  semE Try.prog (Instr.makeMap 62 none) w fun t1 w1 =>
  putW [(.map none), (.int .i64 0), (.int .i64 0), (.bool false)] [(0, 1, t1), (2, 1, (.int .i64 (-1)))] fun c2 =>
  boxW 64 (.agg c2.toArray) w1 fun t3 w3 =>
  K t3 w3
theorem W8_eq (w : World) (K : Value → World → Prop) : funW Try.prog Try.f8 plan8 [] w K = W8 w K := by kernel_rfl
theorem W8_chk : chkFun Try.prog Try.f8 plan8 0 = true := by kernel_rfl
theorem W8_ok {w : World} {K : Value → World → Prop} (h : W8 w K) : callF Try.prog 8 [] w K :=
  tie Try.prog 8 Try.f8 plan8 [] w K 0 (W8 w K) rfl mixed Try.func8 W8_chk (W8_eq w K) Try.call8 h

/- __purlin_vfs.FS_.Write -/
def plan10 : Plan := { js := [], ds := [(33, ⟨[0, 1, 2, 3, 4, 5], [[], [0], [0, 1], [0, 1, 2], [], [], [0, 1, 2, 3, 4, 5]]⟩)] }
def W10 (v0 v1 v2 : Value) (w : World) (K : Value → World → Prop) : Prop :=
  callF Try.prog 28 [v1] w fun t10 w1 =>
  unW .not t10 fun t11 =>
  condW t11 (
    K (.int .i64 6) w1) (
    callF Try.prog 29 [v0, v1, v2] w1 fun t15 w2 =>
    unW .not t15 fun t16 =>
    condW t16 (
      K (.int .i64 3) w2) (
      callF Try.prog 30 [v0] w2 fun t18 w3 =>
      binW .neq t18 (.int .i64 0) fun t20 =>
      condW t20 (
        K t18 w3) (
        nilW v0 fun t23 =>
        fldW 0 t23 fun t24 =>
        ldW false 1 t24 w3 fun t25 =>
        semQ Try.prog (Instr.lookup 62 t25 v1 false) w3 fun t27 =>
        allocW 69 [(.slice none 0 0), (.slice none 0 0), (.int .i64 0)] w3 fun t8 w4 =>
        stW 3 t8 t27 w4 fun w5 =>
        callF Try.prog 31 [v2] w5 fun t29 w6 =>
        fldW 0 t8 fun t30 =>
        stW 1 t30 t29 w6 fun w7 =>
        nilW v0 fun t32 =>
        fldW 0 t32 fun t33 =>
        ldW false 1 t33 w7.drew fun t34 =>
        ldW true 3 t8 w7.drew fun t36 =>
        semU Try.prog (Instr.mapUpdate 62 t34 v1 t36) w7.drew fun w8 =>
        K (.int .i64 0) w8)))
theorem W10_eq (v0 v1 v2 : Value) (w : World) (K : Value → World → Prop) : funW Try.prog Try.f10 plan10 [v0, v1, v2] w K = W10 v0 v1 v2 w K := by kernel_rfl
theorem W10_chk : chkFun Try.prog Try.f10 plan10 3 = true := by kernel_rfl
theorem W10_ok {v0 v1 v2 : Value} {w : World} {K : Value → World → Prop} (h : W10 v0 v1 v2 w K) : callF Try.prog 10 [v0, v1, v2] w K :=
  tie Try.prog 10 Try.f10 plan10 [v0, v1, v2] w K 3 (W10 v0 v1 v2 w K) rfl mixed Try.func10 W10_chk (W10_eq v0 v1 v2 w K) Try.call10 h

/- __purlin_vfs.FS_.Create -/
def plan11 : Plan := { js := [(6004, ⟨[22], [], 20⟩)], ds := [] }
def W11 (v0 v1 v2 : Value) (w : World) (K : Value → World → Prop) : Prop :=
  nilW v0 fun t11 =>
  fldW 0 t11 fun t12 =>
  ldW false 1 t12 w fun t13 =>
  semQ Try.prog (Instr.lookup 62 t13 v1 true) w fun t15 =>
  extW 0 t15 fun t16 =>
  extW 1 t15 fun t17 =>
  allocW 69 [(.slice none 0 0), (.slice none 0 0), (.int .i64 0)] w fun t7 w1 =>
  stW 3 t7 t16 w1 fun w2 =>
  GdW (isB t17 true) [undef] w2 (fun J3 =>
    lenlW v2 fun t21 =>
    binW .leq t21 (.int .i64 65536) fun t22 =>
    J3 [t22] w2)
  fun s3 _ w4 =>
  pickW t17 (s3.getD 0 undef) (.bool false) fun t23 =>
  condW t23 (
    K (.int .i64 2) w4) (
    callF Try.prog 10 [v0, v1, v2] w4 fun t27 w5 =>
    K t27 w5)
theorem W11_eq (v0 v1 v2 : Value) (w : World) (K : Value → World → Prop) : funW Try.prog Try.f11 plan11 [v0, v1, v2] w K = W11 v0 v1 v2 w K := by kernel_rfl
theorem W11_chk : chkFun Try.prog Try.f11 plan11 3 = true := by kernel_rfl
theorem W11_ok {v0 v1 v2 : Value} {w : World} {K : Value → World → Prop} (h : W11 v0 v1 v2 w K) : callF Try.prog 11 [v0, v1, v2] w K :=
  tie Try.prog 11 Try.f11 plan11 [v0, v1, v2] w K 3 (W11 v0 v1 v2 w K) rfl mixed Try.func11 W11_chk (W11_eq v0 v1 v2 w K) Try.call11 h

/- __purlin_vfs.FS_.Rename -/
def plan12 : Plan := { js := [(7005, ⟨[26], [], 24⟩)], ds := [(32, ⟨[0, 1, 2, 3, 4, 5], [[], [0], [0, 1], [0, 1, 2], [], [], [0, 1, 2, 3, 4, 5]]⟩)] }
def W12 (v0 v1 v2 : Value) (w : World) (K : Value → World → Prop) : Prop :=
  nilW v0 fun t12 =>
  fldW 0 t12 fun t13 =>
  ldW false 1 t13 w fun t14 =>
  semQ Try.prog (Instr.lookup 62 t14 v1 true) w fun t16 =>
  extW 0 t16 fun t17 =>
  extW 1 t16 fun t18 =>
  allocW 69 [(.slice none 0 0), (.slice none 0 0), (.int .i64 0)] w fun t7 w1 =>
  stW 3 t7 t17 w1 fun w2 =>
  callF Try.prog 28 [v1] w2 fun t21 w3 =>
  unW .not t21 fun t22 =>
  GdW (isB t22 false) [undef] w3 (fun J4 =>
    callF Try.prog 28 [v2] w3 fun t25 w5 =>
    unW .not t25 fun t26 =>
    J4 [t26] w5)
  fun s4 _ w6 =>
  pickW t22 (.bool true) (s4.getD 0 undef) fun t27 =>
  condW t27 (
    K (.int .i64 6) w6) (
    unW .not t18 fun t30 =>
    condW t30 (
      K (.int .i64 4) w6) (
      callF Try.prog 30 [v0] w6 fun t32 w7 =>
      binW .neq t32 (.int .i64 0) fun t34 =>
      condW t34 (
        K t32 w7) (
        nilW v0 fun t37 =>
        fldW 0 t37 fun t38 =>
        ldW false 1 t38 w7 fun t39 =>
        semE Try.prog (Builtin.delete_ #[62, 9] 0 #[t39, v1]) w7 fun _ w8 =>
        nilW v0 fun t42 =>
        fldW 0 t42 fun t43 =>
        ldW false 1 t43 w8.drew fun t44 =>
        ldW true 3 t7 w8.drew fun t46 =>
        semU Try.prog (Instr.mapUpdate 62 t44 v2 t46) w8.drew fun w9 =>
        K (.int .i64 0) w9)))
theorem W12_eq (v0 v1 v2 : Value) (w : World) (K : Value → World → Prop) : funW Try.prog Try.f12 plan12 [v0, v1, v2] w K = W12 v0 v1 v2 w K := by kernel_rfl
theorem W12_chk : chkFun Try.prog Try.f12 plan12 3 = true := by kernel_rfl
theorem W12_ok {v0 v1 v2 : Value} {w : World} {K : Value → World → Prop} (h : W12 v0 v1 v2 w K) : callF Try.prog 12 [v0, v1, v2] w K :=
  tie Try.prog 12 Try.f12 plan12 [v0, v1, v2] w K 3 (W12 v0 v1 v2 w K) rfl mixed Try.func12 W12_chk (W12_eq v0 v1 v2 w K) Try.call12 h

/- __purlin_vfs.FS_.Remove -/
def plan13 : Plan := { js := [], ds := [] }
def W13 (v0 v1 : Value) (w : World) (K : Value → World → Prop) : Prop :=
  nilW v0 fun t10 =>
  fldW 0 t10 fun t11 =>
  ldW false 1 t11 w fun t12 =>
  semQ Try.prog (Instr.lookup 62 t12 v1 true) w fun t14 =>
  extW 0 t14 fun t15 =>
  extW 1 t14 fun t16 =>
  allocW 69 [(.slice none 0 0), (.slice none 0 0), (.int .i64 0)] w fun t5 w1 =>
  stW 3 t5 t15 w1 fun w2 =>
  callF Try.prog 28 [v1] w2 fun t19 w3 =>
  unW .not t19 fun t20 =>
  condW t20 (
    K (.int .i64 6) w3) (
    unW .not t16 fun t23 =>
    condW t23 (
      K (.int .i64 4) w3) (
      callF Try.prog 30 [v0] w3 fun t25 w4 =>
      binW .neq t25 (.int .i64 0) fun t27 =>
      condW t27 (
        K t25 w4) (
        nilW v0 fun t30 =>
        fldW 0 t30 fun t31 =>
        ldW false 1 t31 w4 fun t32 =>
        semE Try.prog (Builtin.delete_ #[62, 9] 0 #[t32, v1]) w4 fun _ w5 =>
        K (.int .i64 0) w5)))
theorem W13_eq (v0 v1 : Value) (w : World) (K : Value → World → Prop) : funW Try.prog Try.f13 plan13 [v0, v1] w K = W13 v0 v1 w K := by kernel_rfl
theorem W13_chk : chkFun Try.prog Try.f13 plan13 2 = true := by kernel_rfl
theorem W13_ok {v0 v1 : Value} {w : World} {K : Value → World → Prop} (h : W13 v0 v1 w K) : callF Try.prog 13 [v0, v1] w K :=
  tie Try.prog 13 Try.f13 plan13 [v0, v1] w K 2 (W13 v0 v1 w K) rfl mixed Try.func13 W13_chk (W13_eq v0 v1 w K) Try.call13 h

/- __purlin_vfs.FS_.Crash -/
def plan16 : Plan := { js := [(17, ⟨[6], [6, 8, 9, 10], 16⟩), (23, ⟨[6], [6, 10], 16⟩), (29, ⟨[10], [10], 16⟩), (10, ⟨[6, 15], [6, 8, 9, 10], 15⟩)], ds := [(48, ⟨[0, 1, 2, 3, 4, 5, 6, 8, 9, 11], [[], [0], [0, 1], [0, 1, 2], [], [], [5], [5, 6], [], [8], [5, 6, 7, 8, 9], [5, 6, 7, 8, 9, 10], [0, 1, 2, 3, 4, 5, 6, 7, 8, 9, 10, 11]]⟩)] }
def W16 (v0 v1 : Value) (w : World) (K : Value → World → Prop) : Prop :=
  callF Try.prog 8 [] w fun t11 w1 =>
  callF Try.prog 14 [v0] w1 fun t13 w2 =>
  lenlW t13 fun t14 =>
  LoopW [(.int .i64 0), (.int .i64 0)] w2 fun s3 _ w4 L3 =>
    binW .lss (s3.getD 1 undef) t14 fun t16 =>
    condW t16 (
      JoinW (fun J5 =>
        ixaW none 1 t13 (s3.getD 1 undef) fun t17 =>
        ldW false 1 t17 w4 fun t18 =>
        nilW v0 fun t20 =>
        fldW 0 t20 fun t21 =>
        ldW false 1 t21 w4 fun t22 =>
        semQ Try.prog (Instr.lookup 62 t22 t18 false) w4 fun t24 =>
        allocW 69 [(.slice none 0 0), (.slice none 0 0), (.int .i64 0)] w4 fun t9 w6 =>
        stW 3 t9 t24 w6 fun w7 =>
        JoinW (fun J8 =>
          ldW true 3 t9 w7 fun t25 =>
          callF Try.prog 34 [t25] w7 fun t26 w9 =>
          unW .not t26 fun t27 =>
          condW t27 (
            JoinW (fun J10 =>
              lenlW v1 fun t30 =>
              binW .lss (s3.getD 0 undef) t30 fun t31 =>
              condW t31 (
                ixaW none 1 v1 (s3.getD 0 undef) fun t34 =>
                ldW false 1 t34 w9 fun t35 =>
                J10 [t35] w9) (
                J10 [(.int .i64 0)] w9))
            fun s10 _ w11 =>
            binW .add (s3.getD 0 undef) (.int .i64 1) fun t37 =>
            binW .geq (s10.getD 0 undef) (.int .i64 1) fun t40 =>
            condW t40 (
              fldW 0 t9 fun t41 =>
              ldW false 1 t41 w11 fun t42 =>
              fldW 0 t9 fun t44 =>
              ldW false 1 t44 w11 fun t45 =>
              lenlW t45 fun t46 =>
              minW (s10.getD 0 undef) t46 fun t47 =>
              sllW 1 t42 none (some t47) none fun t48 =>
              fldW 1 t9 fun t49 =>
              stW 1 t49 t48 w11 fun w12 =>
              J8 [t37] w12) (
              fldW 2 t9 fun t51 =>
              ldW false 1 t51 w11 fun t52 =>
              binW .eql t52 (.int .i64 0) fun t53 =>
              condW t53 (
                J5 [t37] w11) (
                J8 [t37] w11))) (
            J8 [(s3.getD 0 undef)] w9))
        fun s8 _ w13 =>
        nilW t11 fun t55 =>
        fldW 0 t55 fun t56 =>
        ldW false 1 t56 w13.drew fun t57 =>
        fldW 1 t9 fun t59 =>
        ldW false 1 t59 w13.drew fun t60 =>
        fldW 1 t9 fun t62 =>
        ldW false 1 t62 w13.drew fun t63 =>
        callF Try.prog 31 [t60] w13.drew fun t61 w14 =>
        (ldW false 1 t62 w14 fun x => x = t63) ∧
        (ldW false 1 t56 w14 fun x => x = t57) ∧
        callF Try.prog 31 [t63] w14 fun t64 w15 =>
        (ldW false 1 t56 w15 fun x => x = t57) ∧
        putW [(.slice none 0 0), (.slice none 0 0), (.int .i64 0)] [(0, 1, t61), (1, 1, t64), (2, 1, (.int .i64 1))] fun c16 =>
        semU Try.prog (Instr.mapUpdate 62 t57 t18 (.agg c16.toArray)) w15 fun w17 =>
        J5 [(s8.getD 0 undef)] w17)
      fun s5 _ w18 =>
      binW .add (s3.getD 1 undef) (.int .i64 1) fun t66 =>
      L3 [(s5.getD 0 undef), t66] w18) (
      K t11 w4)
theorem W16_eq (v0 v1 : Value) (w : World) (K : Value → World → Prop) : funW Try.prog Try.f16 plan16 [v0, v1] w K = W16 v0 v1 w K := by kernel_rfl
theorem W16_chk : chkFun Try.prog Try.f16 plan16 2 = true := by kernel_rfl
theorem W16_ok {v0 v1 : Value} {w : World} {K : Value → World → Prop} (h : W16 v0 v1 w K) : callF Try.prog 16 [v0, v1] w K :=
  tie Try.prog 16 Try.f16 plan16 [v0, v1] w K 2 (W16 v0 v1 w K) rfl mixed Try.func16 W16_chk (W16_eq v0 v1 w K) Try.call16 h

/- __purlin_vfs.FS_.Sync -/
def plan17 : Plan := { js := [], ds := [(32, ⟨[0, 1, 2, 3, 4, 5], [[], [0], [0, 1], [0, 1, 2], [], [], [0, 1, 2, 3, 4, 5]]⟩)] }
def W17 (v0 v1 : Value) (w : World) (K : Value → World → Prop) : Prop :=
  nilW v0 fun t10 =>
  fldW 0 t10 fun t11 =>
  ldW false 1 t11 w fun t12 =>
  semQ Try.prog (Instr.lookup 62 t12 v1 true) w fun t14 =>
  extW 0 t14 fun t15 =>
  extW 1 t14 fun t16 =>
  allocW 69 [(.slice none 0 0), (.slice none 0 0), (.int .i64 0)] w fun t5 w1 =>
  stW 3 t5 t15 w1 fun w2 =>
  callF Try.prog 28 [v1] w2 fun t19 w3 =>
  unW .not t19 fun t20 =>
  condW t20 (
    K (.int .i64 6) w3) (
    unW .not t16 fun t23 =>
    condW t23 (
      K (.int .i64 4) w3) (
      callF Try.prog 30 [v0] w3 fun t25 w4 =>
      binW .neq t25 (.int .i64 0) fun t27 =>
      condW t27 (
        K t25 w4) (
        fldW 0 t5 fun t29 =>
        ldW false 1 t29 w4 fun t30 =>
        fldW 1 t5 fun t31 =>
        stW 1 t31 t30 w4 fun w5 =>
        fldW 2 t5 fun t32 =>
        stW 1 t32 (.int .i64 1) w5 fun w6 =>
        nilW v0 fun t34 =>
        fldW 0 t34 fun t35 =>
        ldW false 1 t35 w6.drew fun t36 =>
        ldW true 3 t5 w6.drew fun t38 =>
        semU Try.prog (Instr.mapUpdate 62 t36 v1 t38) w6.drew fun w7 =>
        K (.int .i64 0) w7)))
theorem W17_eq (v0 v1 : Value) (w : World) (K : Value → World → Prop) : funW Try.prog Try.f17 plan17 [v0, v1] w K = W17 v0 v1 w K := by kernel_rfl
theorem W17_chk : chkFun Try.prog Try.f17 plan17 2 = true := by kernel_rfl
theorem W17_ok {v0 v1 : Value} {w : World} {K : Value → World → Prop} (h : W17 v0 v1 w K) : callF Try.prog 17 [v0, v1] w K :=
  tie Try.prog 17 Try.f17 plan17 [v0, v1] w K 2 (W17 v0 v1 w K) rfl mixed Try.func17 W17_chk (W17_eq v0 v1 w K) Try.call17 h

/- __purlin_vfs.FS_.Read -/
def plan18 : Plan := { js := [], ds := [] }
def W18 (v0 v1 : Value) (w : World) (K : Value → World → Prop) : Prop :=
  nilW v0 fun t10 =>
  fldW 0 t10 fun t11 =>
  ldW false 1 t11 w fun t12 =>
  semQ Try.prog (Instr.lookup 62 t12 v1 true) w fun t14 =>
  extW 0 t14 fun t15 =>
  extW 1 t14 fun t16 =>
  allocW 69 [(.slice none 0 0), (.slice none 0 0), (.int .i64 0)] w fun t6 w1 =>
  stW 3 t6 t15 w1 fun w2 =>
  fldW 0 t6 fun t17 =>
  ldW false 1 t17 w2 fun t18 =>
  callF Try.prog 31 [t18] w2 fun t19 w3 =>
  K (.tuple #[t19, t16]) w3
theorem W18_eq (v0 v1 : Value) (w : World) (K : Value → World → Prop) : funW Try.prog Try.f18 plan18 [v0, v1] w K = W18 v0 v1 w K := by kernel_rfl
theorem W18_chk : chkFun Try.prog Try.f18 plan18 2 = true := by kernel_rfl
theorem W18_ok {v0 v1 : Value} {w : World} {K : Value → World → Prop} (h : W18 v0 v1 w K) : callF Try.prog 18 [v0, v1] w K :=
  tie Try.prog 18 Try.f18 plan18 [v0, v1] w K 2 (W18 v0 v1 w K) rfl mixed Try.func18 W18_chk (W18_eq v0 v1 w K) Try.call18 h

/- purlin_purlinref10.New -/
def plan19 : Plan := { js := [], ds := [] }
def W19 (w : World) (K : Value → World → Prop) : Prop :=
  allocW 38 [(.slice none 0 0), (.int .i64 0), (.int .i64 0), (.bool false)] w fun t0 w1 =>
  putW [(.slice none 0 0), (.int .i64 0), (.int .i64 0), (.bool false)] [(2, 1, (.int .i64 (-1)))] fun c2 =>
  stW 4 t0 (.agg c2.toArray) w1 fun w3 =>
  ldW true 4 t0 w3 fun r4 =>
  K r4 w3
theorem W19_eq (w : World) (K : Value → World → Prop) : funW Try.prog Try.f19 plan19 [] w K = W19 w K := by kernel_rfl
theorem W19_chk : chkFun Try.prog Try.f19 plan19 0 = true := by kernel_rfl
theorem W19_ok {w : World} {K : Value → World → Prop} (h : W19 w K) : callF Try.prog 19 [] w K :=
  tie Try.prog 19 Try.f19 plan19 [] w K 0 (W19 w K) rfl mixed Try.func19 W19_chk (W19_eq w K) Try.call19 h

/- purlin_purlinref10.Crash -/
def plan22 : Plan := { js := [(17, ⟨[6], [6, 7, 8, 9, 10], 16⟩), (33, ⟨[9], [9], 16⟩), (25006, ⟨[30], [], 26⟩), (10, ⟨[6, 15], [6, 7, 8, 9, 10], 15⟩)], ds := [] }
def W22 (v0 v1 : Value) (w : World) (K : Value → World → Prop) : Prop :=
  boxW 38 v0 w fun t2 w1 =>
  allocW 38 [(.slice none 0 0), (.int .i64 0), (.int .i64 0), (.bool false)] w1 fun t4 w2 =>
  callF Try.prog 19 [] w2 fun t11 w3 =>
  allocW 38 [(.slice none 0 0), (.int .i64 0), (.int .i64 0), (.bool false)] w3 fun t5 w4 =>
  stW 4 t5 t11 w4 fun w5 =>
  fldW 0 t2 fun t12 =>
  ldW false 1 t12 w5 fun t13 =>
  lenlW t13 fun t14 =>
  LoopW [(.int .i64 0), (.int .i64 0)] w5 fun s6 _ w7 L6 =>
    binW .lss (s6.getD 1 undef) t14 fun t16 =>
    condW t16 (
      JoinW (fun J8 =>
        fldW 0 t2 fun t18 =>
        ldW false 1 t18 w7 fun t19 =>
        ixaW none 4 t19 (s6.getD 1 undef) fun t21 =>
        ldW true 4 t21 w7 fun t22 =>
        allocW 81 [(.string (ofL [])), (.string (ofL [])), (.string (ofL [])), (.bool false)] w7 fun t8 w9 =>
        stW 4 t8 t22 w9 fun w10 =>
        fldW 3 t8 fun t23 =>
        ldW false 1 t23 w10 fun t24 =>
        GdW (isB t24 true) [undef] w10 (fun J11 =>
          fldW 2 t8 fun t26 =>
          ldW false 1 t26 w10 fun t27 =>
          fldW 1 t8 fun t28 =>
          ldW false 1 t28 w10 fun t29 =>
          binW .eql t27 t29 fun t30 =>
          J11 [t30] w10)
        fun s11 _ w12 =>
        pickW t24 (s11.getD 0 undef) (.bool false) fun t31 =>
        condW t31 (
          fldW 0 t5 fun t32 =>
          ldW false 1 t32 w12 fun t33 =>
          ldW true 4 t8 w12 fun t34 =>
          bslW 81 1 [(.string (ofL [])), (.string (ofL [])), (.string (ofL [])), (.bool false)] [(0, 4, t34)] w12 fun t35 w13 =>
          semE Try.prog (Builtin.append_ #[36, 36] 36 #[t33, t35]) w13 fun t36 w14 =>
          fldW 0 t5 fun t37 =>
          stW 1 t37 t36 w14 fun w15 =>
          J8 [(s6.getD 0 undef)] w15) (
          JoinW (fun J16 =>
            lenlW v1 fun t40 =>
            binW .lss (s6.getD 0 undef) t40 fun t41 =>
            condW t41 (
              ixaW none 1 v1 (s6.getD 0 undef) fun t44 =>
              ldW false 1 t44 w12 fun t45 =>
              J16 [t45] w12) (
              J16 [(.int .i64 0)] w12))
          fun s16 _ w17 =>
          binW .add (s6.getD 0 undef) (.int .i64 1) fun t47 =>
          binW .geq (s16.getD 0 undef) (.int .i64 1) fun t49 =>
          condW t49 (
            fldW 1 t8 fun t50 =>
            ldW false 1 t50 w17 fun t51 =>
            fldW 1 t8 fun t53 =>
            ldW false 1 t53 w17 fun t54 =>
            lensW t54 fun t55 =>
            minW (s16.getD 0 undef) t55 fun t56 =>
            slsW t51 none (some t56) fun t57 =>
            fldW 0 t5 fun t58 =>
            ldW false 1 t58 w17 fun t59 =>
            fldW 0 t8 fun t60 =>
            ldW false 1 t60 w17 fun t61 =>
            putW [(.string (ofL [])), (.string (ofL [])), (.string (ofL [])), (.bool false)] [(0, 1, t61), (1, 1, t57), (2, 1, t57), (3, 1, (.bool true))] fun c18 =>
            bslW 81 1 [(.string (ofL [])), (.string (ofL [])), (.string (ofL [])), (.bool false)] [(0, 4, (.agg c18.toArray))] w17 fun t65 w19 =>
            semE Try.prog (Builtin.append_ #[36, 36] 36 #[t59, t65]) w19 fun t66 w20 =>
            fldW 0 t5 fun t67 =>
            stW 1 t67 t66 w20 fun w21 =>
            J8 [t47] w21) (
            fldW 3 t8 fun t68 =>
            ldW false 1 t68 w17 fun t69 =>
            condW t69 (
              fldW 0 t5 fun t70 =>
              ldW false 1 t70 w17 fun t71 =>
              fldW 0 t8 fun t72 =>
              ldW false 1 t72 w17 fun t73 =>
              fldW 2 t8 fun t74 =>
              ldW false 1 t74 w17 fun t75 =>
              fldW 2 t8 fun t76 =>
              ldW false 1 t76 w17 fun t77 =>
              putW [(.string (ofL [])), (.string (ofL [])), (.string (ofL [])), (.bool false)] [(0, 1, t73), (1, 1, t75), (2, 1, t77), (3, 1, (.bool true))] fun c22 =>
              bslW 81 1 [(.string (ofL [])), (.string (ofL [])), (.string (ofL [])), (.bool false)] [(0, 4, (.agg c22.toArray))] w17 fun t79 w23 =>
              semE Try.prog (Builtin.append_ #[36, 36] 36 #[t71, t79]) w23 fun t80 w24 =>
              fldW 0 t5 fun t81 =>
              stW 1 t81 t80 w24 fun w25 =>
              J8 [t47] w25) (
              J8 [t47] w17))))
      fun s8 _ w26 =>
      binW .add (s6.getD 1 undef) (.int .i64 1) fun t82 =>
      L6 [(s8.getD 0 undef), t82] w26) (
      ldW true 4 t5 w7 fun t83 =>
      stW 4 t4 t83 w7 fun w27 =>
      ldW true 4 t4 w27 fun r28 =>
      K r28 w27)
theorem W22_eq (v0 v1 : Value) (w : World) (K : Value → World → Prop) : funW Try.prog Try.f22 plan22 [v0, v1] w K = W22 v0 v1 w K := by kernel_rfl
theorem W22_chk : chkFun Try.prog Try.f22 plan22 2 = true := by kernel_rfl
theorem W22_ok {v0 v1 : Value} {w : World} {K : Value → World → Prop} (h : W22 v0 v1 w K) : callF Try.prog 22 [v0, v1] w K :=
  tie Try.prog 22 Try.f22 plan22 [v0, v1] w K 2 (W22 v0 v1 w K) rfl mixed Try.func22 W22_chk (W22_eq v0 v1 w K) Try.call22 h

/- __purlin_vfs.FS_.Arm -/
def plan23 : Plan := { js := [], ds := [] }
def W23 (v0 v1 : Value) (w : World) (K : Value → World → Prop) : Prop :=
  binW .lss v1 (.int .i64 0) fun t6 =>
  condW t6 (
    K (.int .i64 1) w) (
    nilW v0 fun t9 =>
    fldW 2 t9 fun t10 =>
    stW 1 t10 v1 w fun w1 =>
    K (.int .i64 0) w1)
theorem W23_eq (v0 v1 : Value) (w : World) (K : Value → World → Prop) : funW Try.prog Try.f23 plan23 [v0, v1] w K = W23 v0 v1 w K := by kernel_rfl
theorem W23_chk : chkFun Try.prog Try.f23 plan23 2 = true := by kernel_rfl
theorem W23_ok {v0 v1 : Value} {w : World} {K : Value → World → Prop} (h : W23 v0 v1 w K) : callF Try.prog 23 [v0, v1] w K :=
  tie Try.prog 23 Try.f23 plan23 [v0, v1] w K 2 (W23 v0 v1 w K) rfl mixed Try.func23 W23_chk (W23_eq v0 v1 w K) Try.call23 h

/- purlin_purlinref10.Write -/
def plan24 : Plan := { js := [(40, ⟨[], [], 13⟩), (22003, ⟨[37], [], 36⟩), (14002, ⟨[31], [], 24⟩), (14006, ⟨[30], [], 27⟩), (14009, ⟨[26], [], 24⟩)], ds := [] }
def W24 (v0 v1 v2 v3 : Value) (w : World) (K : Value → World → Prop) : Prop :=
  boxW 38 v0 w fun t4 w1 =>
  allocW 38 [(.slice none 0 0), (.int .i64 0), (.int .i64 0), (.bool false)] w1 fun t8 w2 =>
  ldW true 4 t4 w2 fun t13 =>
  callF Try.prog 39 [t13, v1] w2 fun t15 w3 =>
  callF Try.prog 40 [v1] w3 fun t17 w4 =>
  unW .not t17 fun t18 =>
  condW t18 (
    ldW true 4 t4 w4 fun t19 =>
    stW 4 t8 t19 w4 fun w5 =>
    ldW true 4 t8 w5 fun r6 =>
    K (.tuple #[r6, (.int .i64 6)]) w5) (
    lensW v2 fun t21 =>
    binW .gtr t21 (.int .i64 65536) fun t22 =>
    GdW (isB t22 false) [undef] w4 (fun J7 =>
      binW .lss t15 (.int .i64 0) fun t25 =>
      J7 [t25] w4)
    fun s7 _ w8 =>
    GdW (isB (s7.getD 0 undef) true) [undef] w8 (fun J9 =>
      fldW 0 t4 fun t27 =>
      ldW false 1 t27 w8 fun t28 =>
      lenlW t28 fun t29 =>
      binW .geq t29 (.int .i64 64) fun t30 =>
      J9 [t30] w8)
    fun s9 _ w10 =>
    GdW (isB t22 false) [undef] w10 (fun J11 =>
      pickW (s7.getD 0 undef) (s9.getD 0 undef) (.bool false) fun t31 =>
      J11 [t31] w10)
    fun s11 _ w12 =>
    pickW t22 (.bool true) (s11.getD 0 undef) fun t32 =>
    condW t32 (
      ldW true 4 t4 w12 fun t33 =>
      stW 4 t8 t33 w12 fun w13 =>
      ldW true 4 t8 w13 fun r14 =>
      K (.tuple #[r14, (.int .i64 3)]) w13) (
      GdW (isB v3 true) [undef] w12 (fun J15 =>
        binW .geq t15 (.int .i64 0) fun t37 =>
        J15 [t37] w12)
      fun s15 _ w16 =>
      pickW v3 (s15.getD 0 undef) (.bool false) fun t38 =>
      condW t38 (
        ldW true 4 t4 w16 fun t39 =>
        stW 4 t8 t39 w16 fun w17 =>
        ldW true 4 t8 w17 fun r18 =>
        K (.tuple #[r18, (.int .i64 2)]) w17) (
        ldW true 4 t4 w16 fun t41 =>
        callF Try.prog 41 [t41] w16 fun t42 w19 =>
        extW 0 t42 fun t43 =>
        extW 1 t42 fun t44 =>
        stW 4 t4 t43 w19 fun w20 =>
        binW .neq t44 (.int .i64 0) fun t46 =>
        condW t46 (
          ldW true 4 t4 w20 fun t47 =>
          stW 4 t8 t47 w20 fun w21 =>
          ldW true 4 t8 w21 fun r22 =>
          K (.tuple #[r22, t44]) w21) (
          putW [(.string (ofL [])), (.string (ofL [])), (.string (ofL [])), (.bool false)] [(0, 1, v1), (1, 1, v2)] fun c23 =>
          allocW 81 [(.string (ofL [])), (.string (ofL [])), (.string (ofL [])), (.bool false)] w20 fun t12 w24 =>
          stW 4 t12 (.agg c23.toArray) w24 fun w25 =>
          JoinW (fun J26 =>
            binW .geq t15 (.int .i64 0) fun t53 =>
            condW t53 (
              fldW 0 t4 fun t54 =>
              ldW false 1 t54 w25 fun t55 =>
              ixaW none 4 t55 t15 fun t57 =>
              fldW 2 t57 fun t58 =>
              ldW false 1 t58 w25 fun t59 =>
              fldW 2 t12 fun t60 =>
              stW 1 t60 t59 w25 fun w27 =>
              fldW 0 t4 fun t61 =>
              ldW false 1 t61 w27 fun t62 =>
              ixaW none 4 t62 t15 fun t64 =>
              fldW 3 t64 fun t65 =>
              ldW false 1 t65 w27 fun t66 =>
              fldW 3 t12 fun t67 =>
              stW 1 t67 t66 w27 fun w28 =>
              J26 [] w28) (
              J26 [] w25))
          fun s26 _ w29 =>
          fldW 0 t4 fun t68 =>
          ldW false 1 t68 w29 fun t69 =>
          ldW true 4 t12 w29 fun t70 =>
          callF Try.prog 42 [t69, t70] w29 fun t71 w30 =>
          fldW 0 t4 fun t72 =>
          stW 1 t72 t71 w30 fun w31 =>
          ldW true 4 t4 w31 fun t73 =>
          stW 4 t8 t73 w31 fun w32 =>
          ldW true 4 t8 w32 fun r33 =>
          K (.tuple #[r33, (.int .i64 0)]) w32))))
theorem W24_eq (v0 v1 v2 v3 : Value) (w : World) (K : Value → World → Prop) : funW Try.prog Try.f24 plan24 [v0, v1, v2, v3] w K = W24 v0 v1 v2 v3 w K := by kernel_rfl
theorem W24_chk : chkFun Try.prog Try.f24 plan24 4 = true := by kernel_rfl
theorem W24_ok {v0 v1 v2 v3 : Value} {w : World} {K : Value → World → Prop} (h : W24 v0 v1 v2 v3 w K) : callF Try.prog 24 [v0, v1, v2, v3] w K :=
  tie Try.prog 24 Try.f24 plan24 [v0, v1, v2, v3] w K 4 (W24 v0 v1 v2 v3 w K) rfl mixed Try.func24 W24_chk (W24_eq v0 v1 v2 v3 w K) Try.call24 h

/- __purlin_vfs.FS_.Dead -/
def plan25 : Plan := { js := [], ds := [] }
def W25 (v0 : Value) (w : World) (K : Value → World → Prop) : Prop :=
  nilW v0 fun t4 =>
  fldW 3 t4 fun t5 =>
  ldW false 1 t5 w fun t6 =>
  K t6 w
theorem W25_eq (v0 : Value) (w : World) (K : Value → World → Prop) : funW Try.prog Try.f25 plan25 [v0] w K = W25 v0 w K := by kernel_rfl
theorem W25_chk : chkFun Try.prog Try.f25 plan25 1 = true := by kernel_rfl
theorem W25_ok {v0 : Value} {w : World} {K : Value → World → Prop} (h : W25 v0 w K) : callF Try.prog 25 [v0] w K :=
  tie Try.prog 25 Try.f25 plan25 [v0] w K 1 (W25 v0 w K) rfl mixed Try.func25 W25_chk (W25_eq v0 w K) Try.call25 h

/- __purlin_vfs.FS_.Steps -/
def plan26 : Plan := { js := [], ds := [] }
def W26 (v0 : Value) (w : World) (K : Value → World → Prop) : Prop :=
  nilW v0 fun t4 =>
  fldW 1 t4 fun t5 =>
  ldW false 1 t5 w fun t6 =>
  K t6 w
theorem W26_eq (v0 : Value) (w : World) (K : Value → World → Prop) : funW Try.prog Try.f26 plan26 [v0] w K = W26 v0 w K := by kernel_rfl
theorem W26_chk : chkFun Try.prog Try.f26 plan26 1 = true := by kernel_rfl
theorem W26_ok {v0 : Value} {w : World} {K : Value → World → Prop} (h : W26 v0 w K) : callF Try.prog 26 [v0] w K :=
  tie Try.prog 26 Try.f26 plan26 [v0] w K 1 (W26 v0 w K) rfl mixed Try.func26 W26_chk (W26_eq v0 w K) Try.call26 h

/- __purlin_vfs.FS_.Clone -/
def plan27 : Plan := { js := [], ds := [] }
def W27 (v0 : Value) (w : World) (K : Value → World → Prop) : Prop :=
  nilW v0 fun t5 =>
  ldW true 4 t5 w fun t6 =>
  allocW 64 [(.map none), (.int .i64 0), (.int .i64 0), (.bool false)] w fun t3 w1 =>
  stW 4 t3 t6 w1 fun w2 =>
  nilW v0 fun t8 =>
  fldW 0 t8 fun t9 =>
  ldW false 1 t9 w2 fun t10 =>
  callF Try.prog 43 [t10] w2 fun t11 w3 =>
  fldW 0 t3 fun t12 =>
  stW 1 t12 t11 w3 fun w4 =>
  K t3 w4
theorem W27_eq (v0 : Value) (w : World) (K : Value → World → Prop) : funW Try.prog Try.f27 plan27 [v0] w K = W27 v0 w K := by kernel_rfl
theorem W27_chk : chkFun Try.prog Try.f27 plan27 1 = true := by kernel_rfl
theorem W27_ok {v0 : Value} {w : World} {K : Value → World → Prop} (h : W27 v0 w K) : callF Try.prog 27 [v0] w K :=
  tie Try.prog 27 Try.f27 plan27 [v0] w K 1 (W27 v0 w K) rfl mixed Try.func27 W27_chk (W27_eq v0 w K) Try.call27 h

/- purlin_vfs.good -/
def plan28 : Plan := { js := [(3005, ⟨[14], [], 12⟩), (3010, ⟨[9], [], 7⟩)], ds := [] }
def W28 (v0 : Value) (w : World) (K : Value → World → Prop) : Prop :=
  lensW v0 fun t4 =>
  binW .geq t4 (.int .i64 1) fun t5 =>
  GdW (isB t5 true) [undef] w (fun J1 =>
    lensW v0 fun t8 =>
    binW .leq t8 (.int .i64 64) fun t9 =>
    J1 [t9] w)
  fun s1 _ w2 =>
  pickW t5 (s1.getD 0 undef) (.bool false) fun t10 =>
  GdW (isB t10 true) [undef] w2 (fun J3 =>
    callF Try.prog 44 [v0, (.string (ofL [0, 10, 32]))] w2 fun t13 w4 =>
    unW .not t13 fun t14 =>
    J3 [t14] w4)
  fun s3 _ w5 =>
  pickW t10 (s3.getD 0 undef) (.bool false) fun t15 =>
  K t15 w5
theorem W28_eq (v0 : Value) (w : World) (K : Value → World → Prop) : funW Try.prog Try.f28 plan28 [v0] w K = W28 v0 w K := by kernel_rfl
theorem W28_chk : chkFun Try.prog Try.f28 plan28 1 = true := by kernel_rfl
theorem W28_ok {v0 : Value} {w : World} {K : Value → World → Prop} (h : W28 v0 w K) : callF Try.prog 28 [v0] w K :=
  tie Try.prog 28 Try.f28 plan28 [v0] w K 1 (W28 v0 w K) rfl mixed Try.func28 W28_chk (W28_eq v0 w K) Try.call28 h

/- __purlin_vfs.FS_.room -/
def plan29 : Plan := { js := [(5003, ⟨[30], [], 22⟩), (5009, ⟨[29], [], 24⟩), (5011, ⟨[23], [], 22⟩)], ds := [] }
def W29 (v0 v1 v2 : Value) (w : World) (K : Value → World → Prop) : Prop :=
  nilW v0 fun t11 =>
  fldW 0 t11 fun t12 =>
  ldW false 1 t12 w fun t13 =>
  semQ Try.prog (Instr.lookup 62 t13 v1 true) w fun t15 =>
  extW 0 t15 fun t16 =>
  extW 1 t15 fun t17 =>
  allocW 69 [(.slice none 0 0), (.slice none 0 0), (.int .i64 0)] w fun t7 w1 =>
  stW 3 t7 t16 w1 fun w2 =>
  lenlW v2 fun t19 =>
  binW .leq t19 (.int .i64 65536) fun t20 =>
  GdW (isB t20 true) [undef] w2 (fun J3 =>
    J3 [t17] w2)
  fun s3 _ w4 =>
  GdW (isB (s3.getD 0 undef) false) [undef] w4 (fun J5 =>
    nilW v0 fun t25 =>
    fldW 0 t25 fun t26 =>
    ldW false 1 t26 w4 fun t27 =>
    semQ Try.prog (Builtin.len_ #[62] 3 #[t27]) w4 fun t28 =>
    binW .lss t28 (.int .i64 64) fun t29 =>
    J5 [t29] w4)
  fun s5 _ w6 =>
  GdW (isB t20 true) [undef] w6 (fun J7 =>
    pickW (s3.getD 0 undef) (.bool true) (s5.getD 0 undef) fun t30 =>
    J7 [t30] w6)
  fun s7 _ w8 =>
  pickW t20 (s7.getD 0 undef) (.bool false) fun t31 =>
  K t31 w8
theorem W29_eq (v0 v1 v2 : Value) (w : World) (K : Value → World → Prop) : funW Try.prog Try.f29 plan29 [v0, v1, v2] w K = W29 v0 v1 v2 w K := by kernel_rfl
theorem W29_chk : chkFun Try.prog Try.f29 plan29 3 = true := by kernel_rfl
theorem W29_ok {v0 v1 v2 : Value} {w : World} {K : Value → World → Prop} (h : W29 v0 v1 v2 w K) : callF Try.prog 29 [v0, v1, v2] w K :=
  tie Try.prog 29 Try.f29 plan29 [v0, v1, v2] w K 3 (W29 v0 v1 v2 w K) rfl mixed Try.func29 W29_chk (W29_eq v0 v1 v2 w K) Try.call29 h

/- __purlin_vfs.FS_.step -/
def plan30 : Plan := { js := [(12, ⟨[], [], 1⟩), (4006, ⟨[12], [], 8⟩)], ds := [] }
def W30 (v0 : Value) (w : World) (K : Value → World → Prop) : Prop :=
  nilW v0 fun t4 =>
  fldW 3 t4 fun t5 =>
  ldW false 1 t5 w fun t6 =>
  GdW (isB t6 false) [undef] w (fun J1 =>
    nilW v0 fun t9 =>
    fldW 2 t9 fun t10 =>
    ldW false 1 t10 w fun t11 =>
    binW .eql t11 (.int .i64 0) fun t12 =>
    J1 [t12] w)
  fun s1 _ w2 =>
  pickW t6 (.bool true) (s1.getD 0 undef) fun t13 =>
  condW t13 (
    nilW v0 fun t15 =>
    fldW 3 t15 fun t16 =>
    stW 1 t16 (.bool true) w2 fun w3 =>
    K (.int .i64 5) w3) (
    JoinW (fun J4 =>
      nilW v0 fun t18 =>
      fldW 2 t18 fun t19 =>
      ldW false 1 t19 w2 fun t20 =>
      binW .gtr t20 (.int .i64 0) fun t21 =>
      condW t21 (
        nilW v0 fun t23 =>
        fldW 2 t23 fun t24 =>
        ldW false 1 t24 w2 fun t25 =>
        binW .sub t25 (.int .i64 1) fun t26 =>
        nilW v0 fun t27 =>
        fldW 2 t27 fun t28 =>
        stW 1 t28 t26 w2 fun w5 =>
        J4 [] w5) (
        J4 [] w2))
    fun s4 _ w6 =>
    nilW v0 fun t30 =>
    fldW 1 t30 fun t31 =>
    ldW false 1 t31 w6 fun t32 =>
    binW .add t32 (.int .i64 1) fun t33 =>
    nilW v0 fun t34 =>
    fldW 1 t34 fun t35 =>
    stW 1 t35 t33 w6 fun w7 =>
    K (.int .i64 0) w7)
theorem W30_eq (v0 : Value) (w : World) (K : Value → World → Prop) : funW Try.prog Try.f30 plan30 [v0] w K = W30 v0 w K := by kernel_rfl
theorem W30_chk : chkFun Try.prog Try.f30 plan30 1 = true := by kernel_rfl
theorem W30_ok {v0 : Value} {w : World} {K : Value → World → Prop} (h : W30 v0 w K) : callF Try.prog 30 [v0] w K :=
  tie Try.prog 30 Try.f30 plan30 [v0] w K 1 (W30 v0 w K) rfl mixed Try.func30 W30_chk (W30_eq v0 w K) Try.call30 h

/- slices.Clone___byte_byte_ -/
def plan31 : Plan := { js := [], ds := [] }
def W31 (v0 : Value) (w : World) (K : Value → World → Prop) : Prop :=
  eqW .slice false v0 (.slice none 0 0) fun t4 =>
  condW t4 (
    K (.slice none 0 0) w) (
    bslW 5 0 [] [] w fun t5 w1 =>
    semE Try.prog (Builtin.append_ #[27, 27] 27 #[t5, v0]) w1 fun t7 w2 =>
    K t7 w2)
theorem W31_eq (v0 : Value) (w : World) (K : Value → World → Prop) : funW Try.prog Try.f31 plan31 [v0] w K = W31 v0 w K := by kernel_rfl
theorem W31_chk : chkFun Try.prog Try.f31 plan31 1 = true := by kernel_rfl
theorem W31_ok {v0 : Value} {w : World} {K : Value → World → Prop} (h : W31 v0 w K) : callF Try.prog 31 [v0] w K :=
  tie Try.prog 31 Try.f31 plan31 [v0] w K 1 (W31 v0 w K) rfl mixed Try.func31 W31_chk (W31_eq v0 w K) Try.call31 h

/- _purlin_vfs.file_.sure -/
def plan34 : Plan := { js := [(3009, ⟨[13], [], 7⟩)], ds := [] }
def W34 (v0 : Value) (w : World) (K : Value → World → Prop) : Prop :=
  boxW 69 v0 w fun t1 w1 =>
  fldW 2 t1 fun t3 =>
  ldW false 1 t3 w1 fun t4 =>
  binW .eql t4 (.int .i64 1) fun t5 =>
  GdW (isB t5 true) [undef] w1 (fun J2 =>
    fldW 0 t1 fun t7 =>
    ldW false 1 t7 w1 fun t8 =>
    semQ Try.prog (convert 27 9 t8) w1 fun t9 =>
    fldW 1 t1 fun t10 =>
    ldW false 1 t10 w1 fun t11 =>
    semQ Try.prog (convert 27 9 t11) w1 fun t12 =>
    binW .eql t9 t12 fun t13 =>
    J2 [t13] w1)
  fun s2 _ w3 =>
  pickW t5 (s2.getD 0 undef) (.bool false) fun t14 =>
  K t14 w3
theorem W34_eq (v0 : Value) (w : World) (K : Value → World → Prop) : funW Try.prog Try.f34 plan34 [v0] w K = W34 v0 w K := by kernel_rfl
theorem W34_chk : chkFun Try.prog Try.f34 plan34 1 = true := by kernel_rfl
theorem W34_ok {v0 : Value} {w : World} {K : Value → World → Prop} (h : W34 v0 w K) : callF Try.prog 34 [v0] w K :=
  tie Try.prog 34 Try.f34 plan34 [v0] w K 1 (W34 v0 w K) rfl mixed Try.func34 W34_chk (W34_eq v0 w K) Try.call34 h

/- purlin_purlinref10.Sync -/
def plan35 : Plan := { js := [], ds := [] }
def W35 (v0 v1 : Value) (w : World) (K : Value → World → Prop) : Prop :=
  boxW 38 v0 w fun t2 w1 =>
  allocW 38 [(.slice none 0 0), (.int .i64 0), (.int .i64 0), (.bool false)] w1 fun t4 w2 =>
  ldW true 4 t2 w2 fun t9 =>
  callF Try.prog 39 [t9, v1] w2 fun t11 w3 =>
  callF Try.prog 40 [v1] w3 fun t13 w4 =>
  unW .not t13 fun t14 =>
  condW t14 (
    ldW true 4 t2 w4 fun t15 =>
    stW 4 t4 t15 w4 fun w5 =>
    ldW true 4 t4 w5 fun r6 =>
    K (.tuple #[r6, (.int .i64 6)]) w5) (
    binW .lss t11 (.int .i64 0) fun t17 =>
    condW t17 (
      ldW true 4 t2 w4 fun t18 =>
      stW 4 t4 t18 w4 fun w7 =>
      ldW true 4 t4 w7 fun r8 =>
      K (.tuple #[r8, (.int .i64 4)]) w7) (
      ldW true 4 t2 w4 fun t20 =>
      callF Try.prog 41 [t20] w4 fun t21 w9 =>
      extW 0 t21 fun t22 =>
      extW 1 t21 fun t23 =>
      stW 4 t2 t22 w9 fun w10 =>
      binW .neq t23 (.int .i64 0) fun t25 =>
      condW t25 (
        ldW true 4 t2 w10 fun t26 =>
        stW 4 t4 t26 w10 fun w11 =>
        ldW true 4 t4 w11 fun r12 =>
        K (.tuple #[r12, t23]) w11) (
        fldW 0 t2 fun t28 =>
        ldW false 1 t28 w10 fun t29 =>
        ixaW none 4 t29 t11 fun t31 =>
        ldW true 4 t31 w10 fun t32 =>
        allocW 81 [(.string (ofL [])), (.string (ofL [])), (.string (ofL [])), (.bool false)] w10 fun t8 w13 =>
        stW 4 t8 t32 w13 fun w14 =>
        fldW 0 t2 fun t33 =>
        ldW false 1 t33 w14 fun t34 =>
        fldW 1 t8 fun t36 =>
        ldW false 1 t36 w14 fun t37 =>
        fldW 1 t8 fun t38 =>
        ldW false 1 t38 w14 fun t39 =>
        putW [(.string (ofL [])), (.string (ofL [])), (.string (ofL [])), (.bool false)] [(0, 1, v1), (1, 1, t37), (2, 1, t39), (3, 1, (.bool true))] fun c15 =>
        callF Try.prog 42 [t34, (.agg c15.toArray)] w14 fun t41 w16 =>
        fldW 0 t2 fun t42 =>
        stW 1 t42 t41 w16 fun w17 =>
        ldW true 4 t2 w17 fun t43 =>
        stW 4 t4 t43 w17 fun w18 =>
        ldW true 4 t4 w18 fun r19 =>
        K (.tuple #[r19, (.int .i64 0)]) w18)))
theorem W35_eq (v0 v1 : Value) (w : World) (K : Value → World → Prop) : funW Try.prog Try.f35 plan35 [v0, v1] w K = W35 v0 v1 w K := by kernel_rfl
theorem W35_chk : chkFun Try.prog Try.f35 plan35 2 = true := by kernel_rfl
theorem W35_ok {v0 v1 : Value} {w : World} {K : Value → World → Prop} (h : W35 v0 v1 w K) : callF Try.prog 35 [v0, v1] w K :=
  tie Try.prog 35 Try.f35 plan35 [v0, v1] w K 2 (W35 v0 v1 w K) rfl mixed Try.func35 W35_chk (W35_eq v0 v1 w K) Try.call35 h

/- purlin_purlinref10.Rename -/
def plan36 : Plan := { js := [(6004, ⟨[20], [], 18⟩)], ds := [(35, ⟨[0, 1, 2, 4, 6], [[], [0], [], [0, 1, 2], [], [0, 1, 2, 3, 4], [0, 1, 2, 3, 4, 5], [0, 1, 2, 3, 4, 5, 6]]⟩)] }
def W36 (v0 v1 v2 : Value) (w : World) (K : Value → World → Prop) : Prop :=
  boxW 38 v0 w fun t3 w1 =>
  allocW 38 [(.slice none 0 0), (.int .i64 0), (.int .i64 0), (.bool false)] w1 fun t6 w2 =>
  ldW true 4 t3 w2 fun t11 =>
  callF Try.prog 39 [t11, v1] w2 fun t13 w3 =>
  callF Try.prog 40 [v1] w3 fun t15 w4 =>
  unW .not t15 fun t16 =>
  GdW (isB t16 false) [undef] w4 (fun J5 =>
    callF Try.prog 40 [v2] w4 fun t19 w6 =>
    unW .not t19 fun t20 =>
    J5 [t20] w6)
  fun s5 _ w7 =>
  pickW t16 (.bool true) (s5.getD 0 undef) fun t21 =>
  condW t21 (
    ldW true 4 t3 w7 fun t22 =>
    stW 4 t6 t22 w7 fun w8 =>
    ldW true 4 t6 w8 fun r9 =>
    K (.tuple #[r9, (.int .i64 6)]) w8) (
    binW .lss t13 (.int .i64 0) fun t24 =>
    condW t24 (
      ldW true 4 t3 w7 fun t25 =>
      stW 4 t6 t25 w7 fun w10 =>
      ldW true 4 t6 w10 fun r11 =>
      K (.tuple #[r11, (.int .i64 4)]) w10) (
      ldW true 4 t3 w7 fun t27 =>
      callF Try.prog 41 [t27] w7 fun t28 w12 =>
      extW 0 t28 fun t29 =>
      extW 1 t28 fun t30 =>
      stW 4 t3 t29 w12 fun w13 =>
      binW .neq t30 (.int .i64 0) fun t32 =>
      condW t32 (
        ldW true 4 t3 w13 fun t33 =>
        stW 4 t6 t33 w13 fun w14 =>
        ldW true 4 t6 w14 fun r15 =>
        K (.tuple #[r15, t30]) w14) (
        fldW 0 t3 fun t35 =>
        ldW false 1 t35 w13 fun t36 =>
        ixaW none 4 t36 t13 fun t38 =>
        ldW true 4 t38 w13 fun t39 =>
        allocW 81 [(.string (ofL [])), (.string (ofL [])), (.string (ofL [])), (.bool false)] w13 fun t10 w16 =>
        stW 4 t10 t39 w16 fun w17 =>
        fldW 0 t10 fun t41 =>
        stW 1 t41 v2 w17 fun w18 =>
        fldW 0 t3 fun t42 =>
        ldW false 1 t42 w18.drew fun t43 =>
        ldW true 4 t10 w18.drew fun t46 =>
        callF Try.prog 48 [t43, v1] w18.drew fun t45 w19 =>
        (ldW true 4 t10 w19 fun x => x = t46) ∧
        callF Try.prog 42 [t45, t46] w19 fun t47 w20 =>
        fldW 0 t3 fun t48 =>
        stW 1 t48 t47 w20 fun w21 =>
        ldW true 4 t3 w21 fun t49 =>
        stW 4 t6 t49 w21 fun w22 =>
        ldW true 4 t6 w22 fun r23 =>
        K (.tuple #[r23, (.int .i64 0)]) w22)))
theorem W36_eq (v0 v1 v2 : Value) (w : World) (K : Value → World → Prop) : funW Try.prog Try.f36 plan36 [v0, v1, v2] w K = W36 v0 v1 v2 w K := by kernel_rfl
theorem W36_chk : chkFun Try.prog Try.f36 plan36 3 = true := by kernel_rfl
theorem W36_ok {v0 v1 v2 : Value} {w : World} {K : Value → World → Prop} (h : W36 v0 v1 v2 w K) : callF Try.prog 36 [v0, v1, v2] w K :=
  tie Try.prog 36 Try.f36 plan36 [v0, v1, v2] w K 3 (W36 v0 v1 v2 w K) rfl mixed Try.func36 W36_chk (W36_eq v0 v1 v2 w K) Try.call36 h

/- purlin_purlinref10.Remove -/
def plan37 : Plan := { js := [], ds := [] }
def W37 (v0 v1 : Value) (w : World) (K : Value → World → Prop) : Prop :=
  boxW 38 v0 w fun t2 w1 =>
  allocW 38 [(.slice none 0 0), (.int .i64 0), (.int .i64 0), (.bool false)] w1 fun t4 w2 =>
  callF Try.prog 40 [v1] w2 fun t8 w3 =>
  unW .not t8 fun t9 =>
  condW t9 (
    ldW true 4 t2 w3 fun t10 =>
    stW 4 t4 t10 w3 fun w4 =>
    ldW true 4 t4 w4 fun r5 =>
    K (.tuple #[r5, (.int .i64 6)]) w4) (
    ldW true 4 t2 w3 fun t11 =>
    callF Try.prog 39 [t11, v1] w3 fun t13 w6 =>
    binW .lss t13 (.int .i64 0) fun t14 =>
    condW t14 (
      ldW true 4 t2 w6 fun t15 =>
      stW 4 t4 t15 w6 fun w7 =>
      ldW true 4 t4 w7 fun r8 =>
      K (.tuple #[r8, (.int .i64 4)]) w7) (
      ldW true 4 t2 w6 fun t17 =>
      callF Try.prog 41 [t17] w6 fun t18 w9 =>
      extW 0 t18 fun t19 =>
      extW 1 t18 fun t20 =>
      stW 4 t2 t19 w9 fun w10 =>
      binW .neq t20 (.int .i64 0) fun t22 =>
      condW t22 (
        ldW true 4 t2 w10 fun t23 =>
        stW 4 t4 t23 w10 fun w11 =>
        ldW true 4 t4 w11 fun r12 =>
        K (.tuple #[r12, t20]) w11) (
        fldW 0 t2 fun t25 =>
        ldW false 1 t25 w10 fun t26 =>
        callF Try.prog 48 [t26, v1] w10 fun t28 w13 =>
        fldW 0 t2 fun t29 =>
        stW 1 t29 t28 w13 fun w14 =>
        ldW true 4 t2 w14 fun t30 =>
        stW 4 t4 t30 w14 fun w15 =>
        ldW true 4 t4 w15 fun r16 =>
        K (.tuple #[r16, (.int .i64 0)]) w15)))
theorem W37_eq (v0 v1 : Value) (w : World) (K : Value → World → Prop) : funW Try.prog Try.f37 plan37 [v0, v1] w K = W37 v0 v1 w K := by kernel_rfl
theorem W37_chk : chkFun Try.prog Try.f37 plan37 2 = true := by kernel_rfl
theorem W37_ok {v0 v1 : Value} {w : World} {K : Value → World → Prop} (h : W37 v0 v1 w K) : callF Try.prog 37 [v0, v1] w K :=
  tie Try.prog 37 Try.f37 plan37 [v0, v1] w K 2 (W37 v0 v1 w K) rfl mixed Try.func37 W37_chk (W37_eq v0 v1 w K) Try.call37 h

/- purlin_purlinref10.Arm -/
def plan38 : Plan := { js := [], ds := [] }
def W38 (v0 v1 : Value) (w : World) (K : Value → World → Prop) : Prop :=
  boxW 38 v0 w fun t2 w1 =>
  allocW 38 [(.slice none 0 0), (.int .i64 0), (.int .i64 0), (.bool false)] w1 fun t4 w2 =>
  binW .lss v1 (.int .i64 0) fun t7 =>
  condW t7 (
    ldW true 4 t2 w2 fun t8 =>
    stW 4 t4 t8 w2 fun w3 =>
    ldW true 4 t4 w3 fun r4 =>
    K (.tuple #[r4, (.int .i64 1)]) w3) (
    fldW 2 t2 fun t10 =>
    stW 1 t10 v1 w2 fun w5 =>
    ldW true 4 t2 w5 fun t11 =>
    stW 4 t4 t11 w5 fun w6 =>
    ldW true 4 t4 w6 fun r7 =>
    K (.tuple #[r7, (.int .i64 0)]) w6)
theorem W38_eq (v0 v1 : Value) (w : World) (K : Value → World → Prop) : funW Try.prog Try.f38 plan38 [v0, v1] w K = W38 v0 v1 w K := by kernel_rfl
theorem W38_chk : chkFun Try.prog Try.f38 plan38 2 = true := by kernel_rfl
theorem W38_ok {v0 v1 : Value} {w : World} {K : Value → World → Prop} (h : W38 v0 v1 w K) : callF Try.prog 38 [v0, v1] w K :=
  tie Try.prog 38 Try.f38 plan38 [v0, v1] w K 2 (W38 v0 v1 w K) rfl mixed Try.func38 W38_chk (W38_eq v0 v1 w K) Try.call38 h

/- purlin_purlinref10.At -/
def plan39 : Plan := { js := [(6, ⟨[9], [4, 5], 9⟩)], ds := [] }
def W39 (v0 v1 : Value) (w : World) (K : Value → World → Prop) : Prop :=
  boxW 38 v0 w fun t2 w1 =>
  fldW 0 t2 fun t6 =>
  ldW false 1 t6 w1 fun t7 =>
  lenlW t7 fun t8 =>
  LoopW [(.int .i64 0)] w1 fun s2 _ w3 L2 =>
    binW .lss (s2.getD 0 undef) t8 fun t10 =>
    condW t10 (
      fldW 0 t2 fun t12 =>
      ldW false 1 t12 w3 fun t13 =>
      ixaW none 4 t13 (s2.getD 0 undef) fun t15 =>
      fldW 0 t15 fun t16 =>
      ldW false 1 t16 w3 fun t17 =>
      binW .eql t17 v1 fun t19 =>
      condW t19 (
        K (s2.getD 0 undef) w3) (
        binW .add (s2.getD 0 undef) (.int .i64 1) fun t21 =>
        L2 [t21] w3)) (
      K (.int .i64 (-1)) w3)
theorem W39_eq (v0 v1 : Value) (w : World) (K : Value → World → Prop) : funW Try.prog Try.f39 plan39 [v0, v1] w K = W39 v0 v1 w K := by kernel_rfl
theorem W39_chk : chkFun Try.prog Try.f39 plan39 2 = true := by kernel_rfl
theorem W39_ok {v0 v1 : Value} {w : World} {K : Value → World → Prop} (h : W39 v0 v1 w K) : callF Try.prog 39 [v0, v1] w K :=
  tie Try.prog 39 Try.f39 plan39 [v0, v1] w K 2 (W39 v0 v1 w K) rfl mixed Try.func39 W39_chk (W39_eq v0 v1 w K) Try.call39 h

/- purlin_purlinref10.Good -/
def plan40 : Plan := { js := [(24005, ⟨[32], [], 30⟩), (16005, ⟨[24], [], 21⟩), (16011, ⟨[18], [], 15⟩), (6, ⟨[3], [], 1⟩)], ds := [] }
def W40 (v0 : Value) (w : World) (K : Value → World → Prop) : Prop :=
  LoopW [(.int .i64 0)] w fun s1 _ w2 L1 =>
    lensW v0 fun t6 =>
    binW .lss (s1.getD 0 undef) t6 fun t7 =>
    condW t7 (
      ixsW v0 (s1.getD 0 undef) fun t12 =>
      binW .eql t12 (.int .u8 0) fun t13 =>
      GdW (isB t13 false) [undef] w2 (fun J3 =>
        ixsW v0 (s1.getD 0 undef) fun t17 =>
        binW .eql t17 (.int .u8 10) fun t18 =>
        J3 [t18] w2)
      fun s3 _ w4 =>
      pickW t13 (.bool true) (s3.getD 0 undef) fun t19 =>
      GdW (isB t19 false) [undef] w4 (fun J5 =>
        ixsW v0 (s1.getD 0 undef) fun t23 =>
        binW .eql t23 (.int .u8 32) fun t24 =>
        J5 [t24] w4)
      fun s5 _ w6 =>
      pickW t19 (.bool true) (s5.getD 0 undef) fun t25 =>
      condW t25 (
        K (.bool false) w6) (
        binW .add (s1.getD 0 undef) (.int .i64 1) fun t9 =>
        L1 [t9] w6)) (
      lensW v0 fun t27 =>
      binW .geq t27 (.int .i64 1) fun t28 =>
      GdW (isB t28 true) [undef] w2 (fun J7 =>
        lensW v0 fun t31 =>
        binW .leq t31 (.int .i64 64) fun t32 =>
        J7 [t32] w2)
      fun s7 _ w8 =>
      pickW t28 (s7.getD 0 undef) (.bool false) fun t33 =>
      K t33 w8)
theorem W40_eq (v0 : Value) (w : World) (K : Value → World → Prop) : funW Try.prog Try.f40 plan40 [v0] w K = W40 v0 w K := by kernel_rfl
theorem W40_chk : chkFun Try.prog Try.f40 plan40 1 = true := by kernel_rfl
theorem W40_ok {v0 : Value} {w : World} {K : Value → World → Prop} (h : W40 v0 w K) : callF Try.prog 40 [v0] w K :=
  tie Try.prog 40 Try.f40 plan40 [v0] w K 1 (W40 v0 w K) rfl mixed Try.func40 W40_chk (W40_eq v0 w K) Try.call40 h

/- purlin_purlinref10.step -/
def plan41 : Plan := { js := [(12, ⟨[], [], 3⟩), (4004, ⟨[9], [], 7⟩)], ds := [] }
def W41 (v0 : Value) (w : World) (K : Value → World → Prop) : Prop :=
  boxW 38 v0 w fun t1 w1 =>
  allocW 38 [(.slice none 0 0), (.int .i64 0), (.int .i64 0), (.bool false)] w1 fun t2 w2 =>
  fldW 3 t1 fun t4 =>
  ldW false 1 t4 w2 fun t5 =>
  GdW (isB t5 false) [undef] w2 (fun J3 =>
    fldW 2 t1 fun t7 =>
    ldW false 1 t7 w2 fun t8 =>
    binW .eql t8 (.int .i64 0) fun t9 =>
    J3 [t9] w2)
  fun s3 _ w4 =>
  pickW t5 (.bool true) (s3.getD 0 undef) fun t10 =>
  condW t10 (
    fldW 3 t1 fun t11 =>
    stW 1 t11 (.bool true) w4 fun w5 =>
    ldW true 4 t1 w5 fun t12 =>
    stW 4 t2 t12 w5 fun w6 =>
    ldW true 4 t2 w6 fun r7 =>
    K (.tuple #[r7, (.int .i64 5)]) w6) (
    JoinW (fun J8 =>
      fldW 2 t1 fun t13 =>
      ldW false 1 t13 w4 fun t14 =>
      binW .gtr t14 (.int .i64 0) fun t15 =>
      condW t15 (
        fldW 2 t1 fun t16 =>
        ldW false 1 t16 w4 fun t17 =>
        binW .sub t17 (.int .i64 1) fun t18 =>
        fldW 2 t1 fun t19 =>
        stW 1 t19 t18 w4 fun w9 =>
        J8 [] w9) (
        J8 [] w4))
    fun s8 _ w10 =>
    fldW 1 t1 fun t20 =>
    ldW false 1 t20 w10 fun t21 =>
    binW .add t21 (.int .i64 1) fun t22 =>
    fldW 1 t1 fun t23 =>
    stW 1 t23 t22 w10 fun w11 =>
    ldW true 4 t1 w11 fun t24 =>
    stW 4 t2 t24 w11 fun w12 =>
    ldW true 4 t2 w12 fun r13 =>
    K (.tuple #[r13, (.int .i64 0)]) w12)
theorem W41_eq (v0 : Value) (w : World) (K : Value → World → Prop) : funW Try.prog Try.f41 plan41 [v0] w K = W41 v0 w K := by kernel_rfl
theorem W41_chk : chkFun Try.prog Try.f41 plan41 1 = true := by kernel_rfl
theorem W41_ok {v0 : Value} {w : World} {K : Value → World → Prop} (h : W41 v0 w K) : callF Try.prog 41 [v0] w K :=
  tie Try.prog 41 Try.f41 plan41 [v0] w K 1 (W41 v0 w K) rfl mixed Try.func41 W41_chk (W41_eq v0 w K) Try.call41 h

/- purlin_purlinref10.with -/
def plan42 : Plan := { js := [(23, ⟨[5, 6], [5, 6], 15⟩), (12, ⟨[5, 6, 14], [5, 6, 7], 14⟩)], ds := [(25, ⟨[0, 1, 2, 3, 4, 5, 6, 7, 8, 9, 10, 11], [[], [0], [0, 1], [0, 1, 2], [0, 1, 2, 3], [0, 1, 2], [0, 1, 2], [0, 1, 2, 5, 6], [0, 1, 2, 5, 6, 7], [0, 1, 2, 5, 6, 7, 8], [0, 1, 2, 3, 4, 5, 6, 7, 8, 9], [0, 1, 2, 3, 4, 5, 6, 7, 8, 9, 10]]⟩)] }
def W42 (v0 v1 : Value) (w : World) (K : Value → World → Prop) : Prop :=
  boxW 81 v1 w fun t3 w1 =>
  fldW 0 t3 fun t9 =>
  ldW false 1 t9 w1 fun t10 =>
  callF Try.prog 48 [v0, t10] w1 fun t11 w2 =>
  lenlW t11 fun t13 =>
  LoopW [(.slice none 0 0), (.bool false), (.int .i64 0)] w2 fun s3 _ w4 L3 =>
    binW .lss (s3.getD 2 undef) t13 fun t15 =>
    condW t15 (
      JoinW (fun J5 =>
        unW .not (s3.getD 1 undef) fun t18 =>
        GqW (isB t18 true) (fun k6 => fldW 0 t3 k6) fun t20 =>
        GqW (isB t18 true) (fun k7 => ldW false 1 t20 w4.drew k7) fun t21 =>
        GqW (isB t18 true) (fun k8 => k8 t11) fun t22 =>
        GqW (isB t18 true) (fun k9 => k9 (s3.getD 2 undef)) fun t23 =>
        GqW (isB t18 true) (fun k10 => ixaW none 4 t22 t23 k10) fun t24 =>
        GqW (isB t18 true) (fun k11 => fldW 0 t24 k11) fun t25 =>
        GqW (isB t18 true) (fun k12 => ldW false 1 t25 w4.drew k12) fun t26 =>
        GqW (isB t18 true) (fun k13 => binW .lss t21 t26 k13) fun t27 =>
        pickW t18 t27 (.bool false) fun t28 =>
        condW t28 (
          ldW true 4 t3 w4.drew fun t30 =>
          bslW 81 1 [(.string (ofL [])), (.string (ofL [])), (.string (ofL [])), (.bool false)] [(0, 4, t30)] w4.drew fun t31 w14 =>
          semE Try.prog (Builtin.append_ #[36, 36] 36 #[(s3.getD 0 undef), t31]) w14 fun t32 w15 =>
          J5 [t32, (.bool true)] w15) (
          J5 [(s3.getD 0 undef), (s3.getD 1 undef)] w4.drew))
      fun s5 _ w16 =>
      ixaW none 4 t11 (s3.getD 2 undef) fun t36 =>
      ldW true 4 t36 w16 fun t37 =>
      bslW 81 1 [(.string (ofL [])), (.string (ofL [])), (.string (ofL [])), (.bool false)] [(0, 4, t37)] w16 fun t38 w17 =>
      semE Try.prog (Builtin.append_ #[36, 36] 36 #[(s5.getD 0 undef), t38]) w17 fun t39 w18 =>
      binW .add (s3.getD 2 undef) (.int .i64 1) fun t40 =>
      L3 [t39, (s5.getD 1 undef), t40] w18) (
      unW .not (s3.getD 1 undef) fun t42 =>
      condW t42 (
        ldW true 4 t3 w4 fun t44 =>
        bslW 81 1 [(.string (ofL [])), (.string (ofL [])), (.string (ofL [])), (.bool false)] [(0, 4, t44)] w4 fun t45 w19 =>
        semE Try.prog (Builtin.append_ #[36, 36] 36 #[(s3.getD 0 undef), t45]) w19 fun t46 w20 =>
        K t46 w20) (
        K (s3.getD 0 undef) w4))
theorem W42_eq (v0 v1 : Value) (w : World) (K : Value → World → Prop) : funW Try.prog Try.f42 plan42 [v0, v1] w K = W42 v0 v1 w K := by kernel_rfl
theorem W42_chk : chkFun Try.prog Try.f42 plan42 2 = true := by kernel_rfl
theorem W42_ok {v0 v1 : Value} {w : World} {K : Value → World → Prop} (h : W42 v0 v1 w K) : callF Try.prog 42 [v0, v1] w K :=
  tie Try.prog 42 Try.f42 plan42 [v0, v1] w K 2 (W42 v0 v1 w K) rfl mixed Try.func42 W42_chk (W42_eq v0 v1 w K) Try.call42 h

/- maps.Clone_map_string_purlin_vfs.file_string_purlin_vfs.file_ -/
def plan43 : Plan := { js := [], ds := [] }
def W43 (v0 : Value) (w : World) (K : Value → World → Prop) : Prop :=
  eqW .map false v0 (.map none) fun t4 =>
  condW t4 (
    K (.map none) w) (
    callF Try.prog 49 [(.iface 62 v0)] w fun t7 w1 =>
    semQ Try.prog (Instr.typeAssert t7 20 62 false) w1 fun t8 =>
    K t8 w1)
theorem W43_eq (v0 : Value) (w : World) (K : Value → World → Prop) : funW Try.prog Try.f43 plan43 [v0] w K = W43 v0 w K := by kernel_rfl
theorem W43_chk : chkFun Try.prog Try.f43 plan43 1 = true := by kernel_rfl
theorem W43_ok {v0 : Value} {w : World} {K : Value → World → Prop} (h : W43 v0 w K) : callF Try.prog 43 [v0] w K :=
  tie Try.prog 43 Try.f43 plan43 [v0] w K 1 (W43 v0 w K) rfl mixed Try.func43 W43_chk (W43_eq v0 w K) Try.call43 h

/- strings.ContainsAny -/
def plan44 : Plan := { js := [], ds := [] }
def W44 (v0 v1 : Value) (w : World) (K : Value → World → Prop) : Prop :=
  callF Try.prog 50 [v0, v1] w fun t7 w1 =>
  binW .geq t7 (.int .i64 0) fun t8 =>
  K t8 w1
theorem W44_eq (v0 v1 : Value) (w : World) (K : Value → World → Prop) : funW Try.prog Try.f44 plan44 [v0, v1] w K = W44 v0 v1 w K := by kernel_rfl
theorem W44_chk : chkFun Try.prog Try.f44 plan44 2 = true := by kernel_rfl
theorem W44_ok {v0 v1 : Value} {w : World} {K : Value → World → Prop} (h : W44 v0 v1 w K) : callF Try.prog 44 [v0, v1] w K :=
  tie Try.prog 44 Try.f44 plan44 [v0, v1] w K 2 (W44 v0 v1 w K) rfl mixed Try.func44 W44_chk (W44_eq v0 v1 w K) Try.call44 h

/- purlin_purlinref10.without -/
def plan48 : Plan := { js := [(15, ⟨[5], [5, 6], 10⟩), (8, ⟨[5, 9], [5, 6], 9⟩)], ds := [] }
def W48 (v0 v1 : Value) (w : World) (K : Value → World → Prop) : Prop :=
  lenlW v0 fun t8 =>
  LoopW [(.slice none 0 0), (.int .i64 0)] w fun s1 _ w2 L1 =>
    binW .lss (s1.getD 1 undef) t8 fun t10 =>
    condW t10 (
      JoinW (fun J3 =>
        ixaW none 4 v0 (s1.getD 1 undef) fun t14 =>
        fldW 0 t14 fun t15 =>
        ldW false 1 t15 w2 fun t16 =>
        binW .neq t16 v1 fun t18 =>
        condW t18 (
          ixaW none 4 v0 (s1.getD 1 undef) fun t22 =>
          ldW true 4 t22 w2 fun t23 =>
          bslW 81 1 [(.string (ofL [])), (.string (ofL [])), (.string (ofL [])), (.bool false)] [(0, 4, t23)] w2 fun t24 w4 =>
          semE Try.prog (Builtin.append_ #[36, 36] 36 #[(s1.getD 0 undef), t24]) w4 fun t25 w5 =>
          J3 [t25] w5) (
          J3 [(s1.getD 0 undef)] w2))
      fun s3 _ w6 =>
      binW .add (s1.getD 1 undef) (.int .i64 1) fun t26 =>
      L1 [(s3.getD 0 undef), t26] w6) (
      K (s1.getD 0 undef) w2)
theorem W48_eq (v0 v1 : Value) (w : World) (K : Value → World → Prop) : funW Try.prog Try.f48 plan48 [v0, v1] w K = W48 v0 v1 w K := by kernel_rfl
theorem W48_chk : chkFun Try.prog Try.f48 plan48 2 = true := by kernel_rfl
theorem W48_ok {v0 v1 : Value} {w : World} {K : Value → World → Prop} (h : W48 v0 v1 w K) : callF Try.prog 48 [v0, v1] w K :=
  tie Try.prog 48 Try.f48 plan48 [v0, v1] w K 2 (W48 v0 v1 w K) rfl mixed Try.func48 W48_chk (W48_eq v0 v1 w K) Try.call48 h

/- strings.IndexAny -/
def plan50 : Plan := { js := [(65, ⟨[], [4, 9, 10], 46⟩), (26, ⟨[], [], 2⟩), (39, ⟨[8], [4], 7⟩), (16, ⟨[5], [], 1⟩)], ds := [] }
def W50 (v0 v1 : Value) (w : World) (K : Value → World → Prop) : Prop :=
  binW .eql v1 (.string (ofL [])) fun t12 =>
  condW t12 (
    K (.int .i64 (-1)) w) (
    lensW v1 fun t14 =>
    binW .eql t14 (.int .i64 1) fun t15 =>
    condW t15 (
      ixsW v1 (.int .i64 0) fun t17 =>
      cvtW .i32 t17 fun t18 =>
      JoinW (fun J1 =>
        binW .geq t18 (.int .i32 128) fun t20 =>
        condW t20 (
          J1 [(.int .i32 65533)] w) (
          J1 [t18] w))
      fun s1 _ w2 =>
      callF Try.prog 54 [v0, (s1.getD 0 undef)] w2 fun t23 w3 =>
      K t23 w3) (
      JoinW (fun J4 =>
        lensW v0 fun t25 =>
        callF Try.prog 55 [t25] w fun t26 w5 =>
        condW t26 (
          callF Try.prog 56 [v1] w5 fun t29 w6 =>
          extW 0 t29 fun t30 =>
          extW 1 t29 fun t31 =>
          allocW 95 (List.replicate 256 (.bool false)) w6 fun t6 w7 =>
          stW 256 t6 t30 w7 fun w8 =>
          condW t31 (
            LoopW [(.int .i64 0)] w8 fun s9 _ w10 L9 =>
              lensW v0 fun t35 =>
              binW .lss (s9.getD 0 undef) t35 fun t36 =>
              condW t36 (
                ixsW v0 (s9.getD 0 undef) fun t41 =>
                callF Try.prog 57 [t6, t41] w10 fun t42 w11 =>
                condW t42 (
                  K (s9.getD 0 undef) w11) (
                  binW .add (s9.getD 0 undef) (.int .i64 1) fun t38 =>
                  L9 [t38] w11)) (
                K (.int .i64 (-1)) w10)) (
            J4 [] w8)) (
          J4 [] w5))
      fun s4 _ w12 =>
      semE Try.prog (Instr.range 9 v0) w12 fun t45 w13 =>
      LoopW [] w13 fun s14 _ w15 L14 =>
        semE Try.prog (Instr.next t45 true 0) w15 fun t46 w16 =>
        extW 0 t46 fun t47 =>
        condW t47 (
          extW 1 t46 fun t48 =>
          extW 2 t46 fun t49 =>
          callF Try.prog 54 [v1, t49] w16 fun t52 w17 =>
          binW .geq t52 (.int .i64 0) fun t53 =>
          condW t53 (
            K t48 w17) (
            L14 [] w17)) (
          K (.int .i64 (-1)) w16)))
theorem W50_eq (v0 v1 : Value) (w : World) (K : Value → World → Prop) : funW Try.prog Try.f50 plan50 [v0, v1] w K = W50 v0 v1 w K := by kernel_rfl
theorem W50_chk : chkFun Try.prog Try.f50 plan50 2 = true := by kernel_rfl
theorem W50_ok {v0 v1 : Value} {w : World} {K : Value → World → Prop} (h : W50 v0 v1 w K) : callF Try.prog 50 [v0, v1] w K :=
  tie Try.prog 50 Try.f50 plan50 [v0, v1] w K 2 (W50 v0 v1 w K) rfl mixed Try.func50 W50_chk (W50_eq v0 v1 w K) Try.call50 h

/- strings.IndexRune -/
def plan54 : Plan := { js := [(144, ⟨[], [4], 16⟩), (153, ⟨[16], [], 16⟩), (147007, ⟨[138], [], 133⟩), (137, ⟨[9], [4, 9], 16⟩), (108002, ⟨[97], [], 85⟩), (108006, ⟨[96], [], 93⟩), (108008, ⟨[92], [], 85⟩), (108013, ⟨[90], [], 86⟩), (108014, ⟨[85], [], 85⟩), (108020, ⟨[82], [], 79⟩), (108026, ⟨[76], [], 73⟩), (82, ⟨[12], [], 10⟩), (62, ⟨[9], [4], 9⟩), (53, ⟨[9], [4], 9⟩), (16, ⟨[], [4, 5, 6], 176⟩), (4004, ⟨[165], [], 164⟩)], ds := [(163, ⟨[0, 1, 2, 3, 4, 5, 6, 7, 8, 9, 10], [[], [], [], [1, 2], [0, 1, 2, 3], [], [], [], [6, 7], [5, 6, 7, 8], [0, 1, 2, 3, 4, 5, 6, 7, 8, 9]]⟩), (92, ⟨[0, 1, 2, 3, 4, 5, 6, 7, 8, 9, 10], [[], [], [], [1, 2], [0, 1, 2, 3], [], [], [], [6, 7], [5, 6, 7, 8], [0, 1, 2, 3, 4, 5, 6, 7, 8, 9]]⟩), (67, ⟨[0, 1, 2, 3, 4, 5, 6, 8], [[], [], [1], [0, 1, 2], [], [], [4, 5], [0, 1, 2, 3, 4, 5, 6], [0, 1, 2, 3, 4, 5, 6, 7]]⟩), (64, ⟨[0, 1, 2, 3, 4, 5, 6], [[], [], [0, 1], [], [], [3, 4], [0, 1, 2, 3, 4, 5]]⟩)] }
def W54 (v0 v1 : Value) (w : World) (K : Value → World → Prop) : Prop :=
  binW .leq (.int .i32 0) v1 fun t162 =>
  GdW (isB t162 true) [undef] w (fun J1 =>
    binW .lss v1 (.int .i32 128) fun t165 =>
    J1 [t165] w)
  fun s1 _ w2 =>
  pickW t162 (s1.getD 0 undef) (.bool false) fun t166 =>
  condW t166 (
    cvtW .u8 v1 fun t169 =>
    callF Try.prog 69 [v0, t169] w2 fun t170 w3 =>
    K t170 w3) (
    binW .eql v1 (.int .i32 65533) fun t173 =>
    condW t173 (
      semE Try.prog (Instr.range 9 v0) w2 fun t175 w4 =>
      LoopW [] w4 fun s5 _ w6 L5 =>
        semE Try.prog (Instr.next t175 true 0) w6 fun t176 w7 =>
        extW 0 t176 fun t177 =>
        condW t177 (
          extW 1 t176 fun t178 =>
          extW 2 t176 fun t179 =>
          binW .eql t179 (.int .i32 65533) fun t181 =>
          condW t181 (
            K t178 w7) (
            L5 [] w7)) (
          K (.int .i64 (-1)) w7)) (
      callF Try.prog 70 [v1] w2 fun t185 w8 =>
      unW .not t185 fun t186 =>
      condW t186 (
        K (.int .i64 (-1)) w8) (
        cvsW v1 fun t18 =>
        lensW t18 fun t20 =>
        binW .sub t20 (.int .i64 1) fun t21 =>
        LoopW [t21] w8 fun s9 _ w10 L9 =>
          lensW v0 fun t25 =>
          binW .lss (s9.getD 0 undef) t25 fun t26 =>
          condW t26 (
            JoinW (fun J11 =>
              ixsW v0 (s9.getD 0 undef) fun t29 =>
              ixsW t18 t21 fun t32 =>
              binW .neq t29 t32 fun t33 =>
              condW t33 (
                binW .add (s9.getD 0 undef) (.int .i64 1) fun t36 =>
                slsW v0 (some t36) none fun t37 =>
                ixsW t18 t21 fun t40 =>
                callF Try.prog 69 [t37, t40] w10.drew.drew fun t41 w12 =>
                binW .lss t41 (.int .i64 0) fun t43 =>
                condW t43 (
                  K (.int .i64 (-1)) w12) (
                  binW .add t41 (.int .i64 1) fun t46 =>
                  binW .add (s9.getD 0 undef) t46 fun t47 =>
                  J11 [t47] w12)) (
                J11 [(s9.getD 0 undef)] w10.drew))
            fun s11 _ w13 =>
            LoopW [(.int .i64 1)] w13 fun s14 _ w15 L14 =>
              lensW t18 fun t50 =>
              binW .lss (s14.getD 0 undef) t50 fun t51 =>
              condW t51 (
                binW .sub (s11.getD 0 undef) (s14.getD 0 undef) fun t57 =>
                ixsW v0 t57 fun t58 =>
                binW .sub t21 (s14.getD 0 undef) fun t62 =>
                ixsW t18 t62 fun t63 =>
                binW .neq t58 t63 fun t64 =>
                condW t64 (
                  False) (
                  binW .add (s14.getD 0 undef) (.int .i64 1) fun t53 =>
                  L14 [t53] w15.drew)) (
                binW .sub (s11.getD 0 undef) t21 fun t67 =>
                K t67 w15)) (
            K (.int .i64 (-1)) w10))))
theorem W54_eq (v0 v1 : Value) (w : World) (K : Value → World → Prop) : funW Try.prog Try.f54 plan54 [v0, v1] w K = W54 v0 v1 w K := by kernel_rfl
theorem W54_chk : chkFun Try.prog Try.f54 plan54 2 = true := by kernel_rfl
theorem W54_ok {v0 v1 : Value} {w : World} {K : Value → World → Prop} (h : W54 v0 v1 w K) : callF Try.prog 54 [v0, v1] w K :=
  tie Try.prog 54 Try.f54 plan54 [v0, v1] w K 2 (W54 v0 v1 w K) rfl mixed Try.func54 W54_chk (W54_eq v0 v1 w K) Try.call54 h

/- strings.shouldUseASCIISet -/
def plan55 : Plan := { js := [], ds := [] }
def W55 (v0 : Value) (w : World) (K : Value → World → Prop) : Prop :=
  binW .gtr v0 (.int .i64 8) fun t4 =>
  K t4 w
theorem W55_eq (v0 : Value) (w : World) (K : Value → World → Prop) : funW Try.prog Try.f55 plan55 [v0] w K = W55 v0 w K := by kernel_rfl
theorem W55_chk : chkFun Try.prog Try.f55 plan55 1 = true := by kernel_rfl
theorem W55_ok {v0 : Value} {w : World} {K : Value → World → Prop} (h : W55 v0 w K) : callF Try.prog 55 [v0] w K :=
  tie Try.prog 55 Try.f55 plan55 [v0] w K 1 (W55 v0 w K) rfl mixed Try.func55 W55_chk (W55_eq v0 w K) Try.call55 h

/- strings.makeASCIISet -/
def plan56 : Plan := { js := [(6, ⟨[4], [], 3⟩)], ds := [] }
def W56 (v0 : Value) (w : World) (K : Value → World → Prop) : Prop :=
  allocW 95 (List.replicate 256 (.bool false)) w fun t2 w1 =>
  LoopW [(.int .i64 0)] w1 fun s2 _ w3 L2 =>
    lensW v0 fun t8 =>
    binW .lss (s2.getD 0 undef) t8 fun t9 =>
    condW t9 (
      ixsW v0 (s2.getD 0 undef) fun t14 =>
      binW .geq t14 (.int .u8 128) fun t16 =>
      condW t16 (
        ldW true 256 t2 w3 fun t17 =>
        stW 256 t2 t17 w3 fun w4 =>
        ldW true 256 t2 w4 fun r5 =>
        K (.tuple #[r5, (.bool false)]) w4) (
        ixaW (some 256) 1 t2 t14 fun t19 =>
        stW 1 t19 (.bool true) w3 fun w6 =>
        binW .add (s2.getD 0 undef) (.int .i64 1) fun t11 =>
        L2 [t11] w6)) (
      ldW true 256 t2 w3 fun t20 =>
      stW 256 t2 t20 w3 fun w7 =>
      ldW true 256 t2 w7 fun r8 =>
      K (.tuple #[r8, (.bool true)]) w7)
theorem W56_eq (v0 : Value) (w : World) (K : Value → World → Prop) : funW Try.prog Try.f56 plan56 [v0] w K = W56 v0 w K := by kernel_rfl
theorem W56_chk : chkFun Try.prog Try.f56 plan56 1 = true := by kernel_rfl
theorem W56_ok {v0 : Value} {w : World} {K : Value → World → Prop} (h : W56 v0 w K) : callF Try.prog 56 [v0] w K :=
  tie Try.prog 56 Try.f56 plan56 [v0] w K 1 (W56 v0 w K) rfl mixed Try.func56 W56_chk (W56_eq v0 w K) Try.call56 h

/- __strings.asciiSet_.contains -/
def plan57 : Plan := { js := [], ds := [] }
def W57 (v0 v1 : Value) (w : World) (K : Value → World → Prop) : Prop :=
  nilW v0 fun t7 =>
  ixaW (some 256) 1 t7 v1 fun t8 =>
  ldW false 1 t8 w fun t9 =>
  K t9 w
theorem W57_eq (v0 v1 : Value) (w : World) (K : Value → World → Prop) : funW Try.prog Try.f57 plan57 [v0, v1] w K = W57 v0 v1 w K := by kernel_rfl
theorem W57_chk : chkFun Try.prog Try.f57 plan57 2 = true := by kernel_rfl
theorem W57_ok {v0 v1 : Value} {w : World} {K : Value → World → Prop} (h : W57 v0 v1 w K) : callF Try.prog 57 [v0, v1] w K :=
  tie Try.prog 57 Try.f57 plan57 [v0, v1] w K 2 (W57 v0 v1 w K) rfl mixed Try.func57 W57_chk (W57_eq v0 v1 w K) Try.call57 h


end Go.Proofs.Ytcefidpmlnfheaa
