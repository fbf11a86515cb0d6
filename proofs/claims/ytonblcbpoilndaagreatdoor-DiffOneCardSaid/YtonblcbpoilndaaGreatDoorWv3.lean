/- One plain sentence: weakest preconditions of functions of the program, printed by a program of ours, and that calls meet them. Conditions: none. -/
import Derived.Test.YtonblcbpoilndaaGreatDoorBase
set_option linter.all false
set_option linter.unusedSimpArgs false
set_option linter.unusedVariables false
set_option linter.unusedSectionVars false
namespace Go.Proofs.YtonblcbpoilndaaGreatDoor
open Go Go.Eng
set_option maxRecDepth 100000
variable [HX]

/- slices.Sort___string_string_ -/
def plan46 : Plan := { js := [], ds := [] }
def W46 (v0 : Value) (w : World) (K : Value → World → Prop) : Prop :=
  lenlW v0 fun t4 =>
  cvtW .u64 t4 fun t8 =>
  callF Tryz.prog 84 [t8] w fun t9 w1 =>
  callF Tryz.prog 83 [v0, (.int .i64 0), t4, t9] w1 fun t10 w2 =>
  K (.tuple #[]) w2
theorem W46_eq (v0 : Value) (w : World) (K : Value → World → Prop) : funW Tryz.prog Tryz.f46 plan46 [v0] w K = W46 v0 w K := by kernel_rfl
theorem W46_chk : chkFun Tryz.prog Tryz.f46 plan46 1 = true := by kernel_rfl
theorem W46_ok {v0 : Value} {w : World} {K : Value → World → Prop} (h : W46 v0 w K) : callF Tryz.prog 46 [v0] w K :=
  tie Tryz.prog 46 Tryz.f46 plan46 [v0] w K 1 (W46 v0 w K) rfl mixed Tryz.func46 W46_chk (W46_eq v0 w K) Tryz.call46 h

/- slices.pdqsortOrdered_string_ -/
def plan83 : Plan := { js := [(45, ⟨[], [], 12⟩), (47003, ⟨[67], [], 66⟩), (47006, ⟨[63], [], 63⟩), (35, ⟨[11, 12], [], 11⟩), (25, ⟨[3], [3], 11⟩), (5, ⟨[1, 2, 3, 8, 9], [], 1⟩)], ds := [(57, ⟨[0, 1, 2, 3, 4, 5, 6, 7, 8, 9, 10, 11, 13, 14], [[], [0], [0, 1], [0, 1, 2], [0, 1, 2], [0, 1, 2, 4], [0, 1, 2, 3, 4, 5], [0, 1, 2, 3, 4, 5, 6], [0, 1, 2], [0, 1, 2], [0, 1, 2, 8, 9], [0, 1, 2, 8, 9, 10], [0, 1, 2, 3, 4, 5, 6, 7, 8, 9, 10, 11], [0, 1, 2, 3, 4, 5, 6, 7, 8, 9, 10, 11, 12], [0, 1, 2, 3, 4, 5, 6, 7, 8, 9, 10, 11, 12, 13]]⟩)] }
def W83 (v0 v1 v2 v3 : Value) (w : World) (K : Value → World → Prop) : Prop :=
  LoopW [v1, v2, v3, (.bool true), (.bool true)] w fun s1 _ w2 L1 =>
    binW .sub (s1.getD 1 undef) (s1.getD 0 undef) fun t21 =>
    binW .leq t21 (.int .i64 12) fun t23 =>
    condW t23 (
      callF Tryz.prog 115 [v0, (s1.getD 0 undef), (s1.getD 1 undef)] w2 fun t27 w3 =>
      K (.tuple #[]) w3) (
      binW .eql (s1.getD 2 undef) (.int .i64 0) fun t29 =>
      condW t29 (
        callF Tryz.prog 116 [v0, (s1.getD 0 undef), (s1.getD 1 undef)] w2 fun t33 w4 =>
        K (.tuple #[]) w4) (
        JoinW (fun J5 =>
          unW .not (s1.getD 3 undef) fun t35 =>
          condW t35 (
            callF Tryz.prog 117 [v0, (s1.getD 0 undef), (s1.getD 1 undef)] w2 fun t39 w6 =>
            binW .sub (s1.getD 2 undef) (.int .i64 1) fun t41 =>
            J5 [t41] w6) (
            J5 [(s1.getD 2 undef)] w2))
        fun s5 _ w7 =>
        callF Tryz.prog 118 [v0, (s1.getD 0 undef), (s1.getD 1 undef)] w7 fun t46 w8 =>
        extW 0 t46 fun t47 =>
        extW 1 t46 fun t48 =>
        JoinW (fun J9 =>
          binW .eql t48 (.int .i64 2) fun t50 =>
          condW t50 (
            callF Tryz.prog 119 [v0, (s1.getD 0 undef), (s1.getD 1 undef)] w8 fun t54 w10 =>
            binW .sub (s1.getD 1 undef) (.int .i64 1) fun t56 =>
            binW .sub t47 (s1.getD 0 undef) fun t59 =>
            binW .sub t56 t59 fun t60 =>
            J9 [t60, (.int .i64 1)] w10) (
            J9 [t47, t48] w8))
        fun s9 _ w11 =>
        JoinW (fun J12 =>
          GdW (isB (s1.getD 3 undef) true) [undef] w11 (fun J13 =>
            J13 [(s1.getD 4 undef)] w11)
          fun s13 _ w14 =>
          pickW (s1.getD 3 undef) (s13.getD 0 undef) (.bool false) fun t64 =>
          GdW (isB t64 true) [undef] w14 (fun J15 =>
            binW .eql (s9.getD 1 undef) (.int .i64 1) fun t67 =>
            J15 [t67] w14)
          fun s15 _ w16 =>
          pickW t64 (s15.getD 0 undef) (.bool false) fun t68 =>
          condW t68 (
            callF Tryz.prog 120 [v0, (s1.getD 0 undef), (s1.getD 1 undef)] w16 fun t72 w17 =>
            condW t72 (
              K (.tuple #[]) w17) (
              J12 [] w17)) (
            J12 [] w16))
        fun s12 _ w18 =>
        binW .gtr (s1.getD 0 undef) (.int .i64 0) fun t74 =>
        GqW (isB t74 true) (fun k19 => k19 v0) fun t76 =>
        GqW (isB t74 true) (fun k20 => k20 (s1.getD 0 undef)) fun t77 =>
        GqW (isB t74 true) (fun k21 => binW .sub t77 (.int .i64 1) k21) fun t78 =>
        GqW (isB t74 true) (fun k22 => ixaW none 1 t76 t78 k22) fun t79 =>
        GqW (isB t74 true) (fun k23 => ldW false 1 t79 w18.drew k23) fun t80 =>
        GqW (isB t74 true) (fun k24 => k24 v0) fun t81 =>
        GqW (isB t74 true) (fun k25 => k25 (s9.getD 0 undef)) fun t82 =>
        GqW (isB t74 true) (fun k26 => ixaW none 1 t81 t82 k26) fun t83 =>
        GqW (isB t74 true) (fun k27 => ldW false 1 t83 w18.drew k27) fun t84 =>
        GeW (isB t74 true) w18.drew (fun k28 => callF Tryz.prog 121 [t80, t84] w18.drew k28) fun t85 w29 =>
        GqW (isB t74 true) (fun k30 => unW .not t85 k30) fun t86 =>
        pickW t74 t86 (.bool false) fun t87 =>
        condW t87 (
          callF Tryz.prog 122 [v0, (s1.getD 0 undef), (s1.getD 1 undef), (s9.getD 0 undef)] w29 fun t92 w31 =>
          L1 [t92, (s1.getD 1 undef), (s5.getD 0 undef), (s1.getD 3 undef), (s1.getD 4 undef)] w31) (
          callF Tryz.prog 123 [v0, (s1.getD 0 undef), (s1.getD 1 undef), (s9.getD 0 undef)] w29 fun t99 w32 =>
          extW 0 t99 fun t100 =>
          extW 1 t99 fun t101 =>
          binW .sub t100 (s1.getD 0 undef) fun t105 =>
          binW .sub (s1.getD 1 undef) t100 fun t108 =>
          binW .quo t21 (.int .i64 8) fun t110 =>
          binW .lss t105 t108 fun t113 =>
          condW t113 (
            binW .geq t105 t110 fun t116 =>
            callF Tryz.prog 83 [v0, (s1.getD 0 undef), t100, (s5.getD 0 undef)] w32 fun t121 w33 =>
            binW .add t100 (.int .i64 1) fun t123 =>
            L1 [t123, (s1.getD 1 undef), (s5.getD 0 undef), t116, t101] w33) (
            binW .geq t108 t110 fun t126 =>
            binW .add t100 (.int .i64 1) fun t129 =>
            callF Tryz.prog 83 [v0, t129, (s1.getD 1 undef), (s5.getD 0 undef)] w32 fun t132 w34 =>
            L1 [(s1.getD 0 undef), t100, (s5.getD 0 undef), t126, t101] w34))))
theorem W83_eq (v0 v1 v2 v3 : Value) (w : World) (K : Value → World → Prop) : funW Tryz.prog Tryz.f83 plan83 [v0, v1, v2, v3] w K = W83 v0 v1 v2 v3 w K := by kernel_rfl
theorem W83_chk : chkFun Tryz.prog Tryz.f83 plan83 4 = true := by kernel_rfl
theorem W83_ok {v0 v1 v2 v3 : Value} {w : World} {K : Value → World → Prop} (h : W83 v0 v1 v2 v3 w K) : callF Tryz.prog 83 [v0, v1, v2, v3] w K :=
  tie Tryz.prog 83 Tryz.f83 plan83 [v0, v1, v2, v3] w K 4 (W83 v0 v1 v2 v3 w K) rfl mixed Tryz.func83 W83_chk (W83_eq v0 v1 v2 v3 w K) Tryz.call83 h

/- math_bits.Len -/
def plan84 : Plan := { js := [], ds := [] }
def W84 (v0 : Value) (w : World) (K : Value → World → Prop) : Prop :=
  condW (.bool false) (
    cvtW .u32 v0 fun t4 =>
    callF Tryz.prog 124 [t4] w fun t5 w1 =>
    K t5 w1) (
    callF Tryz.prog 125 [v0] w fun t7 w2 =>
    K t7 w2)
theorem W84_eq (v0 : Value) (w : World) (K : Value → World → Prop) : funW Tryz.prog Tryz.f84 plan84 [v0] w K = W84 v0 w K := by kernel_rfl
theorem W84_chk : chkFun Tryz.prog Tryz.f84 plan84 1 = true := by kernel_rfl
theorem W84_ok {v0 : Value} {w : World} {K : Value → World → Prop} (h : W84 v0 w K) : callF Tryz.prog 84 [v0] w K :=
  tie Tryz.prog 84 Tryz.f84 plan84 [v0] w K 1 (W84 v0 w K) rfl mixed Tryz.func84 W84_chk (W84_eq v0 w K) Tryz.call84 h

/- math_bits.Len64 -/
def plan125 : Plan := { js := [(18, ⟨[0, 2], [], 0⟩), (10, ⟨[0, 2], [], 0⟩), (2, ⟨[0, 2], [], 0⟩)], ds := [] }
def W125 (v0 : Value) (w : World) (K : Value → World → Prop) : Prop :=
  JoinW (fun J1 =>
    binW .geq v0 (.int .u64 4294967296) fun t4 =>
    condW t4 (
      binW .shr v0 (.int .u64 32) fun t6 =>
      J1 [t6, (.int .i64 32)] w) (
      J1 [v0, (.int .i64 0)] w))
  fun s1 _ w2 =>
  JoinW (fun J3 =>
    binW .geq (s1.getD 0 undef) (.int .u64 65536) fun t8 =>
    condW t8 (
      binW .shr (s1.getD 0 undef) (.int .u64 16) fun t10 =>
      binW .add (s1.getD 1 undef) (.int .i64 16) fun t12 =>
      J3 [t10, t12] w2) (
      J3 [(s1.getD 0 undef), (s1.getD 1 undef)] w2))
  fun s3 _ w4 =>
  JoinW (fun J5 =>
    binW .geq (s3.getD 0 undef) (.int .u64 256) fun t14 =>
    condW t14 (
      binW .shr (s3.getD 0 undef) (.int .u64 8) fun t16 =>
      binW .add (s3.getD 1 undef) (.int .i64 8) fun t18 =>
      J5 [t16, t18] w4) (
      J5 [(s3.getD 0 undef), (s3.getD 1 undef)] w4))
  fun s5 _ w6 =>
  cvtW .u8 (s5.getD 0 undef) fun t21 =>
  ixsW (.string (ofL [0, 1, 2, 2, 3, 3, 3, 3, 4, 4, 4, 4, 4, 4, 4, 4, 5, 5, 5, 5, 5, 5, 5, 5, 5, 5, 5, 5, 5, 5, 5, 5, 6, 6, 6, 6, 6, 6, 6, 6, 6, 6, 6, 6, 6, 6, 6, 6, 6, 6, 6, 6, 6, 6, 6, 6, 6, 6, 6, 6, 6, 6, 6, 6, 7, 7, 7, 7, 7, 7, 7, 7, 7, 7, 7, 7, 7, 7, 7, 7, 7, 7, 7, 7, 7, 7, 7, 7, 7, 7, 7, 7, 7, 7, 7, 7, 7, 7, 7, 7, 7, 7, 7, 7, 7, 7, 7, 7, 7, 7, 7, 7, 7, 7, 7, 7, 7, 7, 7, 7, 7, 7, 7, 7, 7, 7, 7, 7, 8, 8, 8, 8, 8, 8, 8, 8, 8, 8, 8, 8, 8, 8, 8, 8, 8, 8, 8, 8, 8, 8, 8, 8, 8, 8, 8, 8, 8, 8, 8, 8, 8, 8, 8, 8, 8, 8, 8, 8, 8, 8, 8, 8, 8, 8, 8, 8, 8, 8, 8, 8, 8, 8, 8, 8, 8, 8, 8, 8, 8, 8, 8, 8, 8, 8, 8, 8, 8, 8, 8, 8, 8, 8, 8, 8, 8, 8, 8, 8, 8, 8, 8, 8, 8, 8, 8, 8, 8, 8, 8, 8, 8, 8, 8, 8, 8, 8, 8, 8, 8, 8, 8, 8, 8, 8, 8, 8, 8, 8, 8, 8, 8, 8, 8, 8, 8, 8, 8, 8, 8, 8, 8, 8, 8, 8, 8, 8])) t21 fun t22 =>
  cvtW .i64 t22 fun t23 =>
  binW .add (s5.getD 1 undef) t23 fun t24 =>
  K t24 w6
theorem W125_eq (v0 : Value) (w : World) (K : Value → World → Prop) : funW Tryz.prog Tryz.f125 plan125 [v0] w K = W125 v0 w K := by kernel_rfl
theorem W125_chk : chkFun Tryz.prog Tryz.f125 plan125 1 = true := by kernel_rfl
theorem W125_ok {v0 : Value} {w : World} {K : Value → World → Prop} (h : W125 v0 w K) : callF Tryz.prog 125 [v0] w K :=
  tie Tryz.prog 125 Tryz.f125 plan125 [v0] w K 1 (W125 v0 w K) rfl mixed Tryz.func125 W125_chk (W125_eq v0 w K) Tryz.call125 h

/- slices.insertionSortOrdered_string_ -/
def plan115 : Plan := { js := [(15, ⟨[7], [], 7⟩), (3, ⟨[6], [], 3⟩)], ds := [(24, ⟨[0, 1, 2, 3, 4, 5, 6, 7, 8, 9, 10, 11, 12, 13, 14, 16], [[], [], [], [], [3], [], [], [6], [5, 6, 7], [5, 6, 7, 8], [], [], [10, 11], [10, 11, 12], [0, 1, 5, 6, 7, 8, 9, 10, 11, 12, 13], [0, 1, 5, 6, 7, 8, 9, 10, 11, 12, 13, 14], [0, 1, 2, 3, 4, 5, 6, 7, 8, 9, 10, 11, 12, 13, 14, 15], [0, 1, 2, 3, 4, 5, 6, 7, 8, 9, 10, 11, 12, 13, 14, 15, 16]]⟩), (18, ⟨[0, 1, 2, 3, 4, 5, 6, 7, 8, 9, 10, 11, 12, 14], [[], [], [0, 1], [0, 1, 2], [0, 1, 2, 3], [0, 1, 2, 3], [0, 1, 2, 3, 4, 5], [0, 1, 2, 3, 4, 5, 6], [0, 1, 2, 3], [0, 1, 2, 3], [0, 1, 2, 3, 9], [0, 1, 2, 3, 8, 9, 10], [0, 1, 2, 3, 8, 9, 10, 11], [0, 1, 2, 3, 4, 5, 6, 7, 8, 9, 10, 11, 12], [0, 1, 2, 3, 4, 5, 6, 7, 8, 9, 10, 11, 12, 13]]⟩)] }
def W115 (v0 v1 v2 : Value) (w : World) (K : Value → World → Prop) : Prop :=
  binW .add v1 (.int .i64 1) fun t9 =>
  LoopW [t9] w fun s1 _ w2 L1 =>
    binW .lss (s1.getD 0 undef) v2 fun t12 =>
    condW t12 (
      LoopW [(s1.getD 0 undef)] w2 fun s3 _ w4 L3 =>
        binW .gtr (s3.getD 0 undef) v1 fun t18 =>
        GqW (isB t18 true) (fun k5 => k5 v0) fun t20 =>
        GqW (isB t18 true) (fun k6 => k6 (s3.getD 0 undef)) fun t21 =>
        GqW (isB t18 true) (fun k7 => ixaW none 1 t20 t21 k7) fun t22 =>
        GqW (isB t18 true) (fun k8 => ldW false 1 t22 w4.drew k8) fun t23 =>
        GqW (isB t18 true) (fun k9 => k9 v0) fun t24 =>
        GqW (isB t18 true) (fun k10 => k10 (s3.getD 0 undef)) fun t25 =>
        GqW (isB t18 true) (fun k11 => binW .sub t25 (.int .i64 1) k11) fun t26 =>
        GqW (isB t18 true) (fun k12 => ixaW none 1 t24 t26 k12) fun t27 =>
        GqW (isB t18 true) (fun k13 => ldW false 1 t27 w4.drew k13) fun t28 =>
        GeW (isB t18 true) w4.drew (fun k14 => callF Tryz.prog 121 [t23, t28] w4.drew k14) fun t29 w15 =>
        pickW t18 t29 (.bool false) fun t30 =>
        condW t30 (
          binW .sub (s3.getD 0 undef) (.int .i64 1) fun t37 =>
          binW .sub (s3.getD 0 undef) (.int .i64 1) fun t40 =>
          ixaW none 1 v0 t40 fun t41 =>
          ldW false 1 t41 w15.drew fun t42 =>
          ixaW none 1 v0 (s3.getD 0 undef) fun t45 =>
          ldW false 1 t45 w15.drew fun t46 =>
          ixaW none 1 v0 (s3.getD 0 undef) fun t47 =>
          stW 1 t47 t42 w15.drew fun w16 =>
          ixaW none 1 v0 t37 fun t48 =>
          stW 1 t48 t46 w16 fun w17 =>
          binW .sub (s3.getD 0 undef) (.int .i64 1) fun t32 =>
          L3 [t32] w17) (
          binW .add (s1.getD 0 undef) (.int .i64 1) fun t14 =>
          L1 [t14] w15)) (
      K (.tuple #[]) w2)
theorem W115_eq (v0 v1 v2 : Value) (w : World) (K : Value → World → Prop) : funW Tryz.prog Tryz.f115 plan115 [v0, v1, v2] w K = W115 v0 v1 v2 w K := by kernel_rfl
theorem W115_chk : chkFun Tryz.prog Tryz.f115 plan115 3 = true := by kernel_rfl
theorem W115_ok {v0 v1 v2 : Value} {w : World} {K : Value → World → Prop} (h : W115 v0 v1 v2 w K) : callF Tryz.prog 115 [v0, v1, v2] w K :=
  tie Tryz.prog 115 Tryz.f115 plan115 [v0, v1, v2] w K 3 (W115 v0 v1 v2 w K) rfl mixed Tryz.func115 W115_chk (W115_eq v0 v1 v2 w K) Tryz.call115 h

/- math_bits.Len32 -/
def plan124 : Plan := { js := [(10, ⟨[0, 2], [], 0⟩), (2, ⟨[0, 2], [], 0⟩)], ds := [] }
def W124 (v0 : Value) (w : World) (K : Value → World → Prop) : Prop :=
  JoinW (fun J1 =>
    binW .geq v0 (.int .u32 65536) fun t4 =>
    condW t4 (
      binW .shr v0 (.int .u64 16) fun t6 =>
      J1 [t6, (.int .i64 16)] w) (
      J1 [v0, (.int .i64 0)] w))
  fun s1 _ w2 =>
  JoinW (fun J3 =>
    binW .geq (s1.getD 0 undef) (.int .u32 256) fun t8 =>
    condW t8 (
      binW .shr (s1.getD 0 undef) (.int .u64 8) fun t10 =>
      binW .add (s1.getD 1 undef) (.int .i64 8) fun t12 =>
      J3 [t10, t12] w2) (
      J3 [(s1.getD 0 undef), (s1.getD 1 undef)] w2))
  fun s3 _ w4 =>
  cvtW .u8 (s3.getD 0 undef) fun t15 =>
  ixsW (.string (ofL [0, 1, 2, 2, 3, 3, 3, 3, 4, 4, 4, 4, 4, 4, 4, 4, 5, 5, 5, 5, 5, 5, 5, 5, 5, 5, 5, 5, 5, 5, 5, 5, 6, 6, 6, 6, 6, 6, 6, 6, 6, 6, 6, 6, 6, 6, 6, 6, 6, 6, 6, 6, 6, 6, 6, 6, 6, 6, 6, 6, 6, 6, 6, 6, 7, 7, 7, 7, 7, 7, 7, 7, 7, 7, 7, 7, 7, 7, 7, 7, 7, 7, 7, 7, 7, 7, 7, 7, 7, 7, 7, 7, 7, 7, 7, 7, 7, 7, 7, 7, 7, 7, 7, 7, 7, 7, 7, 7, 7, 7, 7, 7, 7, 7, 7, 7, 7, 7, 7, 7, 7, 7, 7, 7, 7, 7, 7, 7, 8, 8, 8, 8, 8, 8, 8, 8, 8, 8, 8, 8, 8, 8, 8, 8, 8, 8, 8, 8, 8, 8, 8, 8, 8, 8, 8, 8, 8, 8, 8, 8, 8, 8, 8, 8, 8, 8, 8, 8, 8, 8, 8, 8, 8, 8, 8, 8, 8, 8, 8, 8, 8, 8, 8, 8, 8, 8, 8, 8, 8, 8, 8, 8, 8, 8, 8, 8, 8, 8, 8, 8, 8, 8, 8, 8, 8, 8, 8, 8, 8, 8, 8, 8, 8, 8, 8, 8, 8, 8, 8, 8, 8, 8, 8, 8, 8, 8, 8, 8, 8, 8, 8, 8, 8, 8, 8, 8, 8, 8, 8, 8, 8, 8, 8, 8, 8, 8, 8, 8, 8, 8, 8, 8, 8, 8, 8, 8])) t15 fun t16 =>
  cvtW .i64 t16 fun t17 =>
  binW .add (s3.getD 1 undef) t17 fun t18 =>
  K t18 w4
theorem W124_eq (v0 : Value) (w : World) (K : Value → World → Prop) : funW Tryz.prog Tryz.f124 plan124 [v0] w K = W124 v0 w K := by kernel_rfl
theorem W124_chk : chkFun Tryz.prog Tryz.f124 plan124 1 = true := by kernel_rfl
theorem W124_ok {v0 : Value} {w : World} {K : Value → World → Prop} (h : W124 v0 w K) : callF Tryz.prog 124 [v0] w K :=
  tie Tryz.prog 124 Tryz.f124 plan124 [v0] w K 1 (W124 v0 w K) rfl mixed Tryz.func124 W124_chk (W124_eq v0 w K) Tryz.call124 h


end Go.Proofs.YtonblcbpoilndaaGreatDoor
