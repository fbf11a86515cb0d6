/- One plain sentence: weakest preconditions of functions of the program, printed by a program of ours, and that calls meet them. Conditions: none. -/
import Derived.Test.YtcefidpmlnfheaaBase
set_option linter.all false
set_option linter.unusedSimpArgs false
set_option linter.unusedVariables false
set_option linter.unusedSectionVars false
namespace Go.Proofs.Ytcefidpmlnfheaa
open Go Go.Eng

/- __purlin_vfs.FS_.Paths -/
def plan14 : Plan := { js := [], ds := [] }
def W14 (v0 : Value) (w : World) (K : Value → World → Prop) : Prop :=
  nilW v0 fun t4 =>
  fldW 0 t4 fun t5 =>
  ldW false 1 t5 w fun t6 =>
  callF Try.prog 33 [t6] w fun t7 w1 =>
  callF Try.prog 32 [t7] w1 fun t8 w2 =>
  K t8 w2
theorem W14_eq (v0 : Value) (w : World) (K : Value → World → Prop) : funW Try.prog Try.f14 plan14 [v0] w K = W14 v0 w K := by kernel_rfl
theorem W14_chk : chkFun Try.prog Try.f14 plan14 1 = true := by kernel_rfl
theorem W14_ok {v0 : Value} {w : World} {K : Value → World → Prop} (h : W14 v0 w K) : callF Try.prog 14 [v0] w K :=
  tie Try.prog 14 Try.f14 plan14 [v0] w K 1 (W14 v0 w K) rfl mixed Try.func14 W14_chk (W14_eq v0 w K) Try.call14 h

/- purlin_purlinlaw10.VfsLimits -/
def plan3 : Plan := { js := [(40006, ⟨[102], [], 99⟩), (40011, ⟨[96], [], 94⟩), (40017, ⟨[91], [], 88⟩), (40025, ⟨[85], [], 80⟩), (40030, ⟨[77], [], 75⟩), (40037, ⟨[72], [], 68⟩), (40044, ⟨[65], [], 61⟩), (40051, ⟨[58], [], 54⟩), (40056, ⟨[51], [], 49⟩), (16, ⟨[4], [2], 4⟩), (6003, ⟨[12], [], 11⟩)], ds := [] }
def W3 (v0 : Value) (w : World) (K : Value → World → Prop) : Prop :=
  callF Try.prog 8 [] w fun t7 w1 =>
  callF Try.prog 9 [] w1 fun t8 w2 =>
  unW .not t8 fun t9 =>
  GdW (isB t9 false) [undef] w2 (fun J3 =>
    eqW .ptr false t7 (.pointer none) fun t12 =>
    J3 [t12] w2)
  fun s3 _ w4 =>
  pickW t9 (.bool true) (s3.getD 0 undef) fun t13 =>
  condW t13 (
    K (.bool false) w4) (
    LoopW [(.int .i64 0)] w4 fun s5 _ w6 L5 =>
      binW .lss (s5.getD 0 undef) (.int .i64 64) fun t15 =>
      condW t15 (
        binW .quo (s5.getD 0 undef) (.int .i64 8) fun t20 =>
        binW .add (.int .i64 97) t20 fun t21 =>
        cvtW .u8 t21 fun t22 =>
        binW .rem (s5.getD 0 undef) (.int .i64 8) fun t24 =>
        binW .add (.int .i64 97) t24 fun t25 =>
        cvtW .u8 t25 fun t26 =>
        bslW 5 3 [(.int .u8 0), (.int .u8 0), (.int .u8 0)] [(0, 1, (.int .u8 102)), (1, 1, t22), (2, 1, t26)] w6 fun t27 w7 =>
        semQ Try.prog (convert 27 9 t27) w7 fun t28 =>
        callF Try.prog 10 [t7, t28, (.slice none 0 0)] w7 fun t29 w8 =>
        binW .neq t29 (.int .i64 0) fun t30 =>
        condW t30 (
          K (.bool false) w8) (
          binW .add (s5.getD 0 undef) (.int .i64 1) fun t17 =>
          L5 [t17] w8)) (
        cvtW .u64 v0 fun t32 =>
        binW .rem t32 (.int .u64 64) fun t33 =>
        cvtW .i64 t33 fun t34 =>
        binW .quo t34 (.int .i64 8) fun t36 =>
        binW .add (.int .i64 97) t36 fun t37 =>
        cvtW .u8 t37 fun t38 =>
        binW .rem t34 (.int .i64 8) fun t40 =>
        binW .add (.int .i64 97) t40 fun t41 =>
        cvtW .u8 t41 fun t42 =>
        bslW 5 3 [(.int .u8 0), (.int .u8 0), (.int .u8 0)] [(0, 1, (.int .u8 102)), (1, 1, t38), (2, 1, t42)] w6 fun t43 w9 =>
        semQ Try.prog (convert 27 9 t43) w9 fun t44 =>
        callF Try.prog 10 [t7, (.string (ofL [103])), (.slice none 0 0)] w9 fun t46 w10 =>
        binW .eql t46 (.int .i64 3) fun t47 =>
        GdW (isB t47 true) [undef] w10 (fun J11 =>
          callF Try.prog 11 [t7, (.string (ofL [103])), (.slice none 0 0)] w10 fun t50 w12 =>
          binW .eql t50 (.int .i64 3) fun t51 =>
          J11 [t51] w12)
        fun s11 _ w13 =>
        pickW t47 (s11.getD 0 undef) (.bool false) fun t52 =>
        GdW (isB t52 true) [undef] w13 (fun J14 =>
          semE Try.prog (Instr.makeSlice 27 (.int .i64 65536) (.int .i64 65536)) w13 fun t56 w15 =>
          callF Try.prog 10 [t7, t44, t56] w15 fun t57 w16 =>
          binW .eql t57 (.int .i64 0) fun t58 =>
          J14 [t58] w16)
        fun s14 _ w17 =>
        pickW t52 (s14.getD 0 undef) (.bool false) fun t59 =>
        GdW (isB t59 true) [undef] w17 (fun J18 =>
          semE Try.prog (Instr.makeSlice 27 (.int .i64 65537) (.int .i64 65537)) w17 fun t63 w19 =>
          callF Try.prog 10 [t7, t44, t63] w19 fun t64 w20 =>
          binW .eql t64 (.int .i64 3) fun t65 =>
          J18 [t65] w20)
        fun s18 _ w21 =>
        pickW t59 (s18.getD 0 undef) (.bool false) fun t66 =>
        GdW (isB t66 true) [undef] w21 (fun J22 =>
          callF Try.prog 12 [t7, t44, (.string (ofL [48, 49, 50, 51, 52, 53, 54, 55, 56, 57, 48, 49, 50, 51, 52, 53, 54, 55, 56, 57, 48, 49, 50, 51, 52, 53, 54, 55, 56, 57, 48, 49, 50, 51, 52, 53, 54, 55, 56, 57, 48, 49, 50, 51, 52, 53, 54, 55, 56, 57, 48, 49, 50, 51, 52, 53, 54, 55, 56, 57, 48, 49, 50, 51]))] w21 fun t71 w23 =>
          binW .eql t71 (.int .i64 0) fun t72 =>
          J22 [t72] w23)
        fun s22 _ w24 =>
        pickW t66 (s22.getD 0 undef) (.bool false) fun t73 =>
        GdW (isB t73 true) [undef] w24 (fun J25 =>
          callF Try.prog 10 [t7, (.string (ofL [103])), (.slice none 0 0)] w24 fun t76 w26 =>
          binW .eql t76 (.int .i64 3) fun t77 =>
          J25 [t77] w26)
        fun s25 _ w27 =>
        pickW t73 (s25.getD 0 undef) (.bool false) fun t78 =>
        GdW (isB t78 true) [undef] w27 (fun J28 =>
          binW .add (.string (ofL [48, 49, 50, 51, 52, 53, 54, 55, 56, 57, 48, 49, 50, 51, 52, 53, 54, 55, 56, 57, 48, 49, 50, 51, 52, 53, 54, 55, 56, 57, 48, 49, 50, 51, 52, 53, 54, 55, 56, 57, 48, 49, 50, 51, 52, 53, 54, 55, 56, 57, 48, 49, 50, 51, 52, 53, 54, 55, 56, 57, 48, 49, 50, 51])) (.string (ofL [52])) fun t83 =>
          callF Try.prog 12 [t7, (.string (ofL [48, 49, 50, 51, 52, 53, 54, 55, 56, 57, 48, 49, 50, 51, 52, 53, 54, 55, 56, 57, 48, 49, 50, 51, 52, 53, 54, 55, 56, 57, 48, 49, 50, 51, 52, 53, 54, 55, 56, 57, 48, 49, 50, 51, 52, 53, 54, 55, 56, 57, 48, 49, 50, 51, 52, 53, 54, 55, 56, 57, 48, 49, 50, 51])), t83] w27 fun t84 w29 =>
          binW .eql t84 (.int .i64 6) fun t85 =>
          J28 [t85] w29)
        fun s28 _ w30 =>
        pickW t78 (s28.getD 0 undef) (.bool false) fun t86 =>
        GdW (isB t86 true) [undef] w30 (fun J31 =>
          callF Try.prog 13 [t7, (.string (ofL [48, 49, 50, 51, 52, 53, 54, 55, 56, 57, 48, 49, 50, 51, 52, 53, 54, 55, 56, 57, 48, 49, 50, 51, 52, 53, 54, 55, 56, 57, 48, 49, 50, 51, 52, 53, 54, 55, 56, 57, 48, 49, 50, 51, 52, 53, 54, 55, 56, 57, 48, 49, 50, 51, 52, 53, 54, 55, 56, 57, 48, 49, 50, 51]))] w30 fun t90 w32 =>
          binW .eql t90 (.int .i64 0) fun t91 =>
          J31 [t91] w32)
        fun s31 _ w33 =>
        pickW t86 (s31.getD 0 undef) (.bool false) fun t92 =>
        GdW (isB t92 true) [undef] w33 (fun J34 =>
          callF Try.prog 10 [t7, (.string (ofL [103])), (.slice none 0 0)] w33 fun t95 w35 =>
          binW .eql t95 (.int .i64 0) fun t96 =>
          J34 [t96] w35)
        fun s34 _ w36 =>
        pickW t92 (s34.getD 0 undef) (.bool false) fun t97 =>
        GdW (isB t97 true) [undef] w36 (fun J37 =>
          callF Try.prog 14 [t7] w36 fun t100 w38 =>
          lenlW t100 fun t101 =>
          binW .eql t101 (.int .i64 64) fun t102 =>
          J37 [t102] w38)
        fun s37 _ w39 =>
        pickW t97 (s37.getD 0 undef) (.bool false) fun t103 =>
        K t103 w39))
theorem W3_eq (v0 : Value) (w : World) (K : Value → World → Prop) : funW Try.prog Try.f3 plan3 [v0] w K = W3 v0 w K := by kernel_rfl
theorem W3_chk : chkFun Try.prog Try.f3 plan3 1 = true := by kernel_rfl
theorem W3_ok {v0 : Value} {w : World} {K : Value → World → Prop} (h : W3 v0 w K) : callF Try.prog 3 [v0] w K :=
  tie Try.prog 3 Try.f3 plan3 [v0] w K 1 (W3 v0 w K) rfl mixed Try.func3 W3_chk (W3_eq v0 w K) Try.call3 h

/- purlin_purlinlaw10.VfsSure -/
def plan4 : Plan := { js := [(87006, ⟨[135], [], 132⟩), (87010, ⟨[129], [], 128⟩), (44006, ⟨[65], [], 61⟩), (29006, ⟨[46], [], 43⟩), (26005, ⟨[38], [], 35⟩)], ds := [(64, ⟨[0, 1, 2, 3, 4, 5, 6, 7, 8, 9, 10, 11, 12, 13, 14, 15, 16, 17, 18, 19, 20, 21, 22, 23, 24], [[], [0], [0, 1], [0, 1, 2], [0, 1, 2, 3], [0, 1, 2], [0, 1, 2, 5], [0, 1, 2, 3, 4, 5, 6], [0, 1, 2, 3, 4, 5, 6, 7], [0, 1, 2, 3, 4, 5, 6, 7, 8], [0, 1, 2, 3, 4, 5, 6, 7, 8, 9], [0, 1, 2, 3, 4, 5, 6, 7, 8], [0, 1, 2, 3, 4, 5, 6, 7, 8, 11], [0, 1, 2, 3, 4, 5, 6, 7, 8, 9, 10, 11, 12], [0, 1, 2, 3, 4, 5, 6, 7, 8, 9, 10, 11, 12, 13], [0, 1, 2, 3, 4, 5, 6, 7, 8, 9, 10, 11, 12, 13, 14], [0, 1, 2, 3, 4, 5, 6, 7, 8, 9, 10, 11, 12, 13, 14, 15], [0, 1, 2, 3, 4, 5, 6, 7, 8, 9, 10, 11, 12, 13, 14], [0, 1, 2, 3, 4, 5, 6, 7, 8, 9, 10, 11, 12, 13, 14], [0, 1, 2, 3, 4, 5, 6, 7, 8, 9, 10, 11, 12, 13, 14, 18], [0, 1, 2, 3, 4, 5, 6, 7, 8, 9, 10, 11, 12, 13, 14, 17, 18, 19], [0, 1, 2, 3, 4, 5, 6, 7, 8, 9, 10, 11, 12, 13, 14, 15, 16, 17, 18, 19, 20], [0, 1, 2, 3, 4, 5, 6, 7, 8, 9, 10, 11, 12, 13, 14, 15, 16, 17, 18, 19, 20, 21], [0, 1, 2, 3, 4, 5, 6, 7, 8, 9, 10, 11, 12, 13, 14, 15, 16, 17, 18, 19, 20, 21, 22], [0, 1, 2, 3, 4, 5, 6, 7, 8, 9, 10, 11, 12, 13, 14, 15, 16, 17, 18, 19, 20, 21, 22, 23]]⟩)] }
def W4 (v0 v1 v2 : Value) (w : World) (K : Value → World → Prop) : Prop :=
  callF Try.prog 9 [] w fun t15 w1 =>
  unW .not t15 fun t16 =>
  condW t16 (
    K (.bool false) w1) (
    callF Try.prog 15 [v0] w1 fun t19 w2 =>
    extW 0 t19 fun t20 =>
    extW 1 t19 fun t21 =>
    extW 2 t19 fun t22 =>
    allocW 38 [(.slice none 0 0), (.int .i64 0), (.int .i64 0), (.bool false)] w2 fun t8 w3 =>
    stW 4 t8 t21 w3 fun w4 =>
    unW .not t22 fun t24 =>
    condW t24 (
      K (.bool false) w4) (
      callF Try.prog 16 [t20, (.slice none 0 0)] w4 fun t26 w5 =>
      lenlW v2 fun t29 =>
      minW t29 (.int .i64 1000) fun t30 =>
      sllW 1 v2 none (some t30) none fun t31 =>
      eqW .ptr false t26 (.pointer none) fun t33 =>
      GdW (isB t33 false) [undef] w5 (fun J6 =>
        callF Try.prog 10 [t26, (.string (ofL [110, 101, 119])), t31] w5 fun t37 w7 =>
        binW .neq t37 (.int .i64 0) fun t38 =>
        J6 [t38] w7)
      fun s6 _ w8 =>
      pickW t33 (.bool true) (s6.getD 0 undef) fun t39 =>
      condW t39 (
        eqW .ptr true t26 (.pointer none) fun t41 =>
        GdW (isB t41 true) [undef] w8 (fun J9 =>
          callF Try.prog 14 [t26] w8 fun t44 w10 =>
          lenlW t44 fun t45 =>
          binW .eql t45 (.int .i64 64) fun t46 =>
          J9 [t46] w10)
        fun s9 _ w11 =>
        pickW t41 (s9.getD 0 undef) (.bool false) fun t47 =>
        K t47 w11) (
        callF Try.prog 17 [t26, (.string (ofL [110, 101, 119]))] w8 fun t49 w12 =>
        binW .neq t49 (.int .i64 0) fun t50 =>
        condW t50 (
          K (.bool false) w12) (
          callF Try.prog 16 [t26, v1] w12 fun t54 w13 =>
          callF Try.prog 18 [t54, (.string (ofL [110, 101, 119]))] w13 fun t55 w14 =>
          extW 0 t55 fun t56 =>
          extW 1 t55 fun t57 =>
          unW .not t57 fun t59 =>
          GdW (isB t59 false) [undef] w14 (fun J15 =>
            semQ Try.prog (convert 27 9 t56) w14 fun t62 =>
            semQ Try.prog (convert 27 9 t31) w14 fun t64 =>
            binW .neq t62 t64 fun t65 =>
            J15 [t65] w14)
          fun s15 _ w16 =>
          pickW t59 (.bool true) (s15.getD 0 undef) fun t66 =>
          condW t66 (
            K (.bool false) w16) (
            bslW 5 1 [(.int .u8 0)] [(0, 1, (.int .u8 120))] w16 fun t68 w17 =>
            semE Try.prog (Builtin.append_ #[27, 27] 27 #[t68, t31]) w17 fun t70 w18 =>
            callF Try.prog 10 [t26, (.string (ofL [110, 101, 119])), t70] w18 fun t71 w19 =>
            binW .neq t71 (.int .i64 0) fun t72 =>
            condW t72 (
              K (.bool false) w19) (
              callF Try.prog 16 [t26, v1] w19 fun t76 w20 =>
              callF Try.prog 18 [t76, (.string (ofL [110, 101, 119]))] w20 fun t77 w21 =>
              extW 0 t77 fun t78 =>
              extW 1 t77 fun t79 =>
              semQ Try.prog (convert 27 9 t31) w21 fun t81 =>
              binW .add (.string (ofL [120])) t81 fun t82 =>
              unW .not t79 fun t84 =>
              GqW (isB t84 false) (fun k22 => k22 t78) fun t86 =>
              GqW (isB t84 false) (fun k23 => semQ Try.prog (convert 27 9 t86) w21.drew k23) fun t87 =>
              GqW (isB t84 false) (fun k24 => k24 t31) fun t88 =>
              GqW (isB t84 false) (fun k25 => semQ Try.prog (convert 27 9 t88) w21.drew k25) fun t89 =>
              GqW (isB t84 false) (fun k26 => binW .neq t87 t89 k26) fun t90 =>
              GqW (isB t84 false) (fun k27 => k27 t90) fun t91 =>
              GqW (isB t91 true) (fun k28 => k28 t78) fun t92 =>
              GqW (isB t91 true) (fun k29 => lenlW t92 k29) fun t93 =>
              GqW (isB t91 true) (fun k30 => k30 t82) fun t94 =>
              GqW (isB t91 true) (fun k31 => lensW t94 k31) fun t95 =>
              GqW (isB t91 true) (fun k32 => binW .gtr t93 t95 k32) fun t96 =>
              GqW (isB t91 true) (fun k33 => k33 t96) fun t97 =>
              GqW (isB t97 false) (fun k34 => k34 t78) fun t98 =>
              GqW (isB t97 false) (fun k35 => semQ Try.prog (convert 27 9 t98) w21.drew k35) fun t99 =>
              GqW (isB t97 false) (fun k36 => k36 t82) fun t100 =>
              GqW (isB t97 false) (fun k37 => k37 t78) fun t101 =>
              GqW (isB t97 false) (fun k38 => lenlW t101 k38) fun t102 =>
              GqW (isB t97 false) (fun k39 => slsW t100 none (some t102) k39) fun t103 =>
              GqW (isB t97 false) (fun k40 => binW .neq t99 t103 k40) fun t104 =>
              GqW (isB t91 true) (fun k41 => pickW t97 (.bool true) t104 k41) fun t105 =>
              GqW (isB t84 false) (fun k42 => pickW t91 t105 (.bool false) k42) fun t106 =>
              pickW t84 (.bool true) t106 fun t107 =>
              condW t107 (
                K (.bool false) w21.drew) (
                callF Try.prog 17 [t26, (.string (ofL [110, 101, 119]))] w21.drew fun t109 w43 =>
                callF Try.prog 12 [t26, (.string (ofL [110, 101, 119])), (.string (ofL [111, 108, 100]))] w43 fun t111 w44 =>
                binW .neq t111 (.int .i64 0) fun t112 =>
                condW t112 (
                  K (.bool false) w44) (
                  callF Try.prog 16 [t26, v1] w44 fun t115 w45 =>
                  callF Try.prog 18 [t115, (.string (ofL [111, 108, 100]))] w45 fun t118 w46 =>
                  extW 0 t118 fun t119 =>
                  extW 1 t118 fun t120 =>
                  callF Try.prog 18 [t115, (.string (ofL [110, 101, 119]))] w46 fun t123 w47 =>
                  extW 0 t123 fun t124 =>
                  extW 1 t123 fun t125 =>
                  GdW (isB t120 true) [undef] w47 (fun J48 =>
                    unW .not t125 fun t129 =>
                    J48 [t129] w47)
                  fun s48 _ w49 =>
                  pickW t120 (s48.getD 0 undef) (.bool false) fun t130 =>
                  GdW (isB t130 true) [undef] w49 (fun J50 =>
                    semQ Try.prog (convert 27 9 t119) w49 fun t133 =>
                    binW .eql t133 t82 fun t135 =>
                    J50 [t135] w49)
                  fun s50 _ w51 =>
                  pickW t130 (s50.getD 0 undef) (.bool false) fun t136 =>
                  K t136 w51))))))))
theorem W4_eq (v0 v1 v2 : Value) (w : World) (K : Value → World → Prop) : funW Try.prog Try.f4 plan4 [v0, v1, v2] w K = W4 v0 v1 v2 w K := by kernel_rfl
theorem W4_chk : chkFun Try.prog Try.f4 plan4 3 = true := by kernel_rfl
theorem W4_ok {v0 v1 v2 : Value} {w : World} {K : Value → World → Prop} (h : W4 v0 v1 v2 w K) : callF Try.prog 4 [v0, v1, v2] w K :=
  tie Try.prog 4 Try.f4 plan4 [v0, v1, v2] w K 3 (W4 v0 v1 v2 w K) rfl mixed Try.func4 W4_chk (W4_eq v0 v1 v2 w K) Try.call4 h

/- purlin_purlinlaw10.VfsPlays -/
def plan5 : Plan := { js := [(30005, ⟨[42], [], 39⟩), (19003, ⟨[21], [], 20⟩), (16, ⟨[3, 5], [2, 3], 5⟩), (6003, ⟨[13], [], 12⟩)], ds := [(28, ⟨[1, 2, 3, 4, 5, 7, 8, 9, 10, 13], [[], [], [], [], [2, 3], [2, 3, 4], [0, 1, 2, 3, 4, 5], [0, 1, 2, 3, 4, 5, 6], [0, 1, 2, 3, 4, 5, 6, 7], [0, 1, 2, 3, 4, 5, 6, 7], [0, 1, 2, 3, 4, 5, 6, 7], [0, 1, 2, 3, 4, 5, 6, 7, 8], [0, 1, 2, 3, 4, 5, 6, 7, 8, 9, 11], [0, 1, 2, 3, 4, 5, 6, 7, 8, 9, 10, 11, 12]]⟩)] }
def W5 (v0 : Value) (w : World) (K : Value → World → Prop) : Prop :=
  callF Try.prog 8 [] w fun t7 w1 =>
  callF Try.prog 19 [] w1 fun t8 w2 =>
  allocW 38 [(.slice none 0 0), (.int .i64 0), (.int .i64 0), (.bool false)] w2 fun t4 w3 =>
  stW 4 t4 t8 w3 fun w4 =>
  callF Try.prog 9 [] w4 fun t9 w5 =>
  unW .not t9 fun t10 =>
  GdW (isB t10 false) [undef] w5 (fun J6 =>
    eqW .ptr false t7 (.pointer none) fun t13 =>
    J6 [t13] w5)
  fun s6 _ w7 =>
  pickW t10 (.bool true) (s6.getD 0 undef) fun t14 =>
  condW t14 (
    K (.bool false) w7) (
    LoopW [t7, (.int .i64 0)] w7 fun s8 _ w9 L8 =>
      lenlW v0 fun t17 =>
      binW .lss (s8.getD 1 undef) t17 fun t18 =>
      GdW (isB t18 true) [undef] w9 (fun J10 =>
        binW .lss (s8.getD 1 undef) (.int .i64 120) fun t21 =>
        J10 [t21] w9)
      fun s10 _ w11 =>
      pickW t18 (s10.getD 0 undef) (.bool false) fun t22 =>
      condW t22 (
        ldW true 4 t4 w11.drew fun t27 =>
        ixaW none 6 v0 (s8.getD 1 undef) fun t30 =>
        ldW true 6 t30 w11.drew fun t31 =>
        (ldW true 6 t30 w11.drew fun x => x = t31) ∧
        (ldW true 4 t4 w11.drew fun x => x = t27) ∧
        callF Try.prog 20 [(s8.getD 0 undef), t27, t31] w11.drew fun t32 w12 =>
        extW 0 t32 fun t33 =>
        extW 1 t32 fun t34 =>
        extW 2 t32 fun t35 =>
        stW 4 t4 t34 w12 fun w13 =>
        unW .not t35 fun t37 =>
        GdW (isB t37 false) [undef] w13 (fun J14 =>
          ldW true 4 t4 w13 fun t40 =>
          callF Try.prog 21 [t33, t40] w13 fun t41 w15 =>
          unW .not t41 fun t42 =>
          J14 [t42] w15)
        fun s14 _ w16 =>
        pickW t37 (.bool true) (s14.getD 0 undef) fun t43 =>
        condW t43 (
          K (.bool false) w16) (
          binW .add (s8.getD 1 undef) (.int .i64 1) fun t24 =>
          L8 [t33, t24] w16)) (
        K (.bool true) w11))
theorem W5_eq (v0 : Value) (w : World) (K : Value → World → Prop) : funW Try.prog Try.f5 plan5 [v0] w K = W5 v0 w K := by kernel_rfl
theorem W5_chk : chkFun Try.prog Try.f5 plan5 1 = true := by kernel_rfl
theorem W5_ok {v0 : Value} {w : World} {K : Value → World → Prop} (h : W5 v0 w K) : callF Try.prog 5 [v0] w K :=
  tie Try.prog 5 Try.f5 plan5 [v0] w K 1 (W5 v0 w K) rfl mixed Try.func5 W5_chk (W5_eq v0 w K) Try.call5 h

/- purlin_purlinlaw10.VfsArmed -/
def plan6 : Plan := { js := [(64005, ⟨[92], [], 90⟩), (64010, ⟨[87], [], 85⟩), (64014, ⟨[82], [], 81⟩), (38, ⟨[8], [4], 7⟩), (26004, ⟨[41], [], 39⟩), (26010, ⟨[36], [], 33⟩)], ds := [(54, ⟨[0, 1, 2, 3, 4, 6, 7, 8, 9], [[], [], [0, 1], [0, 1, 2], [0, 1, 2, 3], [0, 1, 2, 3, 4], [0, 1, 2, 3], [0, 1, 2, 3, 6], [0, 1, 2, 3, 4, 5, 6, 7], [0, 1, 2, 3, 4, 5, 6, 7, 8]]⟩), (21, ⟨[2], [[], [0], [], [0, 1, 2], [0, 1, 2, 3], [0, 1, 2, 3, 4]]⟩)] }
def W6 (v0 v1 : Value) (w : World) (K : Value → World → Prop) : Prop :=
  callF Try.prog 9 [] w fun t12 w1 =>
  unW .not t12 fun t13 =>
  condW t13 (
    K (.bool false) w1) (
    callF Try.prog 15 [v0] w1 fun t16 w2 =>
    extW 0 t16 fun t17 =>
    extW 1 t16 fun t18 =>
    extW 2 t16 fun t19 =>
    allocW 38 [(.slice none 0 0), (.int .i64 0), (.int .i64 0), (.bool false)] w2 fun t6 w3 =>
    stW 4 t6 t18 w3 fun w4 =>
    unW .not t19 fun t21 =>
    condW t21 (
      K (.bool false) w4) (
      ldW true 4 t6 w4.drew fun t24 =>
      (ldW true 4 t6 w4.drew fun x => x = t24) ∧
      callF Try.prog 16 [t17, (.slice none 0 0)] w4.drew fun t23 w5 =>
      (ldW true 4 t6 w5 fun x => x = t24) ∧
      callF Try.prog 22 [t24, (.slice none 0 0)] w5 fun t25 w6 =>
      stW 4 t6 t25 w6 fun w7 =>
      cvtW .u64 v1 fun t27 =>
      binW .rem t27 (.int .u64 30) fun t28 =>
      cvtW .i64 t28 fun t29 =>
      eqW .ptr false t23 (.pointer none) fun t31 =>
      GdW (isB t31 false) [undef] w7 (fun J8 =>
        callF Try.prog 23 [t23, t29] w7 fun t35 w9 =>
        binW .neq t35 (.int .i64 0) fun t36 =>
        J8 [t36] w9)
      fun s8 _ w10 =>
      pickW t31 (.bool true) (s8.getD 0 undef) fun t37 =>
      GdW (isB t37 false) [undef] w10 (fun J11 =>
        callF Try.prog 23 [t23, (.int .i64 (-1))] w10 fun t40 w12 =>
        binW .neq t40 (.int .i64 1) fun t41 =>
        J11 [t41] w12)
      fun s11 _ w13 =>
      pickW t37 (.bool true) (s11.getD 0 undef) fun t42 =>
      condW t42 (
        K (.bool false) w13) (
        fldW 2 t6 fun t44 =>
        stW 1 t44 t29 w13 fun w14 =>
        LoopW [(.int .i64 0)] w14 fun s15 _ w16 L15 =>
          binW .add t29 (.int .i64 3) fun t47 =>
          binW .lss (s15.getD 0 undef) t47 fun t48 =>
          condW t48 (
            cvtW .u8 (s15.getD 0 undef) fun t53 =>
            bslW 5 1 [(.int .u8 0)] [(0, 1, t53)] w16 fun t54 w17 =>
            callF Try.prog 10 [t23, (.string (ofL [122])), t54] w17 fun t55 w18 =>
            ldW true 4 t6 w18 fun t57 =>
            cvtW .u8 (s15.getD 0 undef) fun t59 =>
            bslW 5 1 [(.int .u8 0)] [(0, 1, t59)] w18 fun t60 w19 =>
            semQ Try.prog (convert 27 9 t60) w19 fun t61 =>
            callF Try.prog 24 [t57, (.string (ofL [122])), t61, (.bool false)] w19 fun t62 w20 =>
            extW 0 t62 fun t63 =>
            extW 1 t62 fun t64 =>
            stW 4 t6 t63 w20 fun w21 =>
            binW .neq t55 t64 fun t67 =>
            GqW (isB t67 false) (fun k22 => k22 t23) fun t69 =>
            GqW (isB t67 false) (fun k23 => fldW 3 t6 k23) fun t71 =>
            GqW (isB t67 false) (fun k24 => ldW false 1 t71 w21.drew k24) fun t72 =>
            GeW (isB t67 false) w21.drew (fun k25 => callF Try.prog 25 [t69] w21.drew k25) fun t70 w26 =>
            ((isB t67 false) = true → ldW false 1 t71 w26 fun x => x = t72) ∧
            GqW (isB t67 false) (fun k27 => eqW .bool true t70 t72 k27) fun t73 =>
            pickW t67 (.bool true) t73 fun t74 =>
            condW t74 (
              K (.bool false) w26) (
              binW .add (s15.getD 0 undef) (.int .i64 1) fun t50 =>
              L15 [t50] w26)) (
            callF Try.prog 16 [t23, (.slice none 0 0)] w16 fun t76 w28 =>
            ldW true 4 t6 w28 fun t78 =>
            callF Try.prog 21 [t23, t78] w28 fun t79 w29 =>
            GdW (isB t79 true) [undef] w29 (fun J30 =>
              eqW .ptr true t76 (.pointer none) fun t82 =>
              J30 [t82] w29)
            fun s30 _ w31 =>
            pickW t79 (s30.getD 0 undef) (.bool false) fun t83 =>
            GdW (isB t83 true) [undef] w31 (fun J32 =>
              callF Try.prog 25 [t76] w31 fun t86 w33 =>
              unW .not t86 fun t87 =>
              J32 [t87] w33)
            fun s32 _ w34 =>
            pickW t83 (s32.getD 0 undef) (.bool false) fun t88 =>
            GdW (isB t88 true) [undef] w34 (fun J35 =>
              callF Try.prog 26 [t76] w34 fun t91 w36 =>
              binW .eql t91 (.int .i64 0) fun t92 =>
              J35 [t92] w36)
            fun s35 _ w37 =>
            pickW t88 (s35.getD 0 undef) (.bool false) fun t93 =>
            K t93 w37))))
theorem W6_eq (v0 v1 : Value) (w : World) (K : Value → World → Prop) : funW Try.prog Try.f6 plan6 [v0, v1] w K = W6 v0 v1 w K := by kernel_rfl
theorem W6_chk : chkFun Try.prog Try.f6 plan6 2 = true := by kernel_rfl
theorem W6_ok {v0 v1 : Value} {w : World} {K : Value → World → Prop} (h : W6 v0 v1 w K) : callF Try.prog 6 [v0, v1] w K :=
  tie Try.prog 6 Try.f6 plan6 [v0, v1] w K 2 (W6 v0 v1 w K) rfl mixed Try.func6 W6_chk (W6_eq v0 v1 w K) Try.call6 h

/- purlin_purlinlaw10.VfsApart -/
def plan7 : Plan := { js := [(84, ⟨[127], [6, 21, 22, 23, 24, 25], 127⟩), (60, ⟨[111], [6, 18, 19, 20, 21, 22, 23, 24, 25], 111⟩), (50006, ⟨[96], [], 92⟩), (26007, ⟨[56], [], 51⟩), (26013, ⟨[48], [], 45⟩)], ds := [(100, ⟨[0, 1, 2, 3, 4, 5, 6, 7, 8, 9, 10, 11, 12, 13, 14, 15], [[], [], [0, 1], [0, 1, 2], [], [], [4, 5], [4, 5, 6], [0, 1, 2, 3, 4, 5, 6, 7], [0, 1, 2, 3, 4, 5, 6, 7, 8], [0, 1, 2, 3, 4, 5, 6, 7, 8, 9], [0, 1, 2, 3, 4, 5, 6, 7, 8, 9, 10], [0, 1, 2, 3, 4, 5, 6, 7, 8, 9], [0, 1, 2, 3, 4, 5, 6, 7, 8, 9, 12], [0, 1, 2, 3, 4, 5, 6, 7, 8, 9, 10, 11, 12, 13], [0, 1, 2, 3, 4, 5, 6, 7, 8, 9, 10, 11, 12, 13, 14]]⟩), (98, ⟨[0, 1, 2, 3, 4, 5, 7, 8, 9, 10, 11], [[], [0], [], [], [2, 3], [2, 3, 4], [0, 1, 2, 3, 4, 5], [0, 1, 2, 3, 4, 5, 6], [0, 1, 2, 3, 4, 5, 6, 7], [0, 1, 2, 3, 4, 5, 6, 7], [0, 1, 2, 3, 4, 5, 6, 7, 8], [0, 1, 2, 3, 4, 5, 6, 7, 8, 9, 10]]⟩), (96, ⟨[0, 1, 2, 3, 4, 5, 7, 8, 9, 10, 11], [[], [0], [], [], [2, 3], [2, 3, 4], [0, 1, 2, 3, 4, 5], [0, 1, 2, 3, 4, 5, 6], [0, 1, 2, 3, 4, 5, 6, 7], [0, 1, 2, 3, 4, 5, 6, 7], [0, 1, 2, 3, 4, 5, 6, 7, 8], [0, 1, 2, 3, 4, 5, 6, 7, 8, 9, 10]]⟩), (72, ⟨[0, 1, 3, 4, 6, 7], [[], [0], [0, 1], [], [3], [0, 1, 2, 3, 4], [0, 1, 2, 3, 4, 5], [0, 1, 2, 3, 4, 5, 6]]⟩), (11, ⟨[0, 1, 2, 3, 4, 5], [[], [0], [], [2], [0, 1], [0, 1, 2, 3, 4]]⟩)] }
def W7 (v0 v1 v2 : Value) (w : World) (K : Value → World → Prop) : Prop :=
  boxW 57 v1 w fun t4 w1 =>
  callF Try.prog 9 [] w1 fun t26 w2 =>
  unW .not t26 fun t27 =>
  condW t27 (
    K (.bool false) w2) (
    ixaW (some 2) 1 t4 (.int .i64 0) fun t28 =>
    ldW false 1 t28 w2.drew fun t29 =>
    ixaW (some 2) 1 t4 (.int .i64 1) fun t30 =>
    ldW false 1 t30 w2.drew fun t31 =>
    callF Try.prog 15 [v0] w2.drew fun t34 w3 =>
    extW 0 t34 fun t35 =>
    extW 1 t34 fun t36 =>
    extW 2 t34 fun t37 =>
    allocW 38 [(.slice none 0 0), (.int .i64 0), (.int .i64 0), (.bool false)] w3 fun t10 w4 =>
    stW 4 t10 t36 w4 fun w5 =>
    unW .not t37 fun t39 =>
    condW t39 (
      K (.bool false) w5) (
      callF Try.prog 16 [t35, (.slice none 0 0)] w5 fun t41 w6 =>
      eqW .ptr false t41 (.pointer none) fun t43 =>
      GdW (isB t43 false) [undef] w6 (fun J7 =>
        fldW 0 t10 fun t45 =>
        ldW false 1 t45 w6 fun t46 =>
        lenlW t46 fun t47 =>
        binW .gtr t47 (.int .i64 60) fun t48 =>
        J7 [t48] w6)
      fun s7 _ w8 =>
      pickW t43 (.bool true) (s7.getD 0 undef) fun t49 =>
      GdW (isB t49 false) [undef] w8 (fun J9 =>
        lenlW t29 fun t52 =>
        lenlW t31 fun t54 =>
        binW .add t52 t54 fun t55 =>
        binW .gtr t55 (.int .i64 1000) fun t56 =>
        J9 [t56] w8)
      fun s9 _ w10 =>
      pickW t49 (.bool true) (s9.getD 0 undef) fun t57 =>
      condW t57 (
        eqW .ptr true t41 (.pointer none) fun t59 =>
        K t59 w10) (
        callF Try.prog 27 [t41] w10 fun t61 w11 =>
        eqW .ptr false t61 (.pointer none) fun t63 =>
        condW t63 (
          K (.bool false) w11) (
          callF Try.prog 10 [t41, (.string (ofL [112])), t29] w11 fun t66 w12 =>
          callF Try.prog 17 [t41, (.string (ofL [112]))] w12 fun t68 w13 =>
          callF Try.prog 10 [t41, (.string (ofL [113])), t31] w13 fun t71 w14 =>
          callF Try.prog 12 [t41, (.string (ofL [113])), (.string (ofL [114]))] w14 fun t73 w15 =>
          putW [(.int .i64 0), (.int .i64 0), (.int .i64 0), (.int .i64 0)] [(0, 1, t66), (1, 1, t68), (2, 1, t71), (3, 1, t73)] fun c16 =>
          allocW 58 [(.int .i64 0), (.int .i64 0), (.int .i64 0), (.int .i64 0)] w15 fun t13 w17 =>
          stW 4 t13 (.agg c16.toArray) w17 fun w18 =>
          callF Try.prog 10 [t61, (.string (ofL [113])), t31] w18 fun t77 w19 =>
          callF Try.prog 12 [t61, (.string (ofL [113])), (.string (ofL [114]))] w19 fun t79 w20 =>
          callF Try.prog 10 [t61, (.string (ofL [112])), t29] w20 fun t82 w21 =>
          callF Try.prog 17 [t61, (.string (ofL [112]))] w21 fun t84 w22 =>
          putW [(.int .i64 0), (.int .i64 0), (.int .i64 0), (.int .i64 0)] [(0, 1, t82), (1, 1, t84), (2, 1, t77), (3, 1, t79)] fun c23 =>
          allocW 58 [(.int .i64 0), (.int .i64 0), (.int .i64 0), (.int .i64 0)] w22 fun t16 w24 =>
          stW 4 t16 (.agg c23.toArray) w24 fun w25 =>
          ldW true 4 t13 w25 fun t88 =>
          ldW true 4 t16 w25 fun t89 =>
          eqQ Try.prog .neq 58 false false t88 t89 w25 fun t90 =>
          GdW (isB t90 false) [undef] w25 (fun J26 =>
            callF Try.prog 26 [t41] w25 fun t93 w27 =>
            callF Try.prog 26 [t61] w27 fun t95 w28 =>
            binW .neq t93 t95 fun t96 =>
            J26 [t96] w28)
          fun s26 _ w29 =>
          pickW t90 (.bool true) (s26.getD 0 undef) fun t97 =>
          condW t97 (
            K (.bool false) w29) (
            putW [(.pointer none), (.pointer none)] [(0, 1, t41), (1, 1, t61)] fun c30 =>
            bslW 3 1 [(.int .i64 0)] [(0, 1, v2)] w29 fun t103 w31 =>
            callF Try.prog 16 [t41, t103] w31 fun t104 w32 =>
            bslW 3 1 [(.int .i64 0)] [(0, 1, v2)] w32 fun t107 w33 =>
            callF Try.prog 16 [t61, t107] w33 fun t108 w34 =>
            putW [(.pointer none), (.pointer none)] [(0, 1, t104), (1, 1, t108)] fun c35 =>
            putW [(.pointer none), (.pointer none), (.pointer none), (.pointer none)] [(0, 2, (.agg c30.toArray)), (2, 2, (.agg c35.toArray))] fun c36 =>
            LoopW [(.int .i64 0)] w34 fun s37 _ w38 L37 =>
              binW .lss (s37.getD 0 undef) (.int .i64 2) fun t112 =>
              condW t112 (
                ixgW 2 true 2 (.agg c36.toArray) (s37.getD 0 undef) fun t113 =>
                allocW 59 [(.pointer none), (.pointer none)] w38 fun t18 w39 =>
                stW 2 t18 t113 w39 fun w40 =>
                ixaW (some 2) 1 t18 (.int .i64 0) fun t114 =>
                ldW false 1 t114 w40.drew fun t115 =>
                ixaW (some 2) 1 t18 (.int .i64 1) fun t117 =>
                ldW false 1 t117 w40.drew fun t118 =>
                callF Try.prog 14 [t115] w40.drew fun t116 w41 =>
                (ldW false 1 t117 w41 fun x => x = t118) ∧
                callF Try.prog 14 [t118] w41 fun t119 w42 =>
                lenlW t116 fun t121 =>
                lenlW t119 fun t123 =>
                binW .neq t121 t123 fun t124 =>
                condW t124 (
                  K (.bool false) w42) (
                  lenlW t116 fun t126 =>
                  LoopW [(.int .i64 0)] w42 fun s43 _ w44 L43 =>
                    binW .lss (s43.getD 0 undef) t126 fun t128 =>
                    condW t128 (
                      ixaW (some 2) 1 t18 (.int .i64 0) fun t131 =>
                      ldW false 1 t131 w44.drew fun t132 =>
                      ixaW none 1 t116 (s43.getD 0 undef) fun t135 =>
                      ldW false 1 t135 w44.drew fun t136 =>
                      callF Try.prog 18 [t132, t136] w44.drew fun t137 w45 =>
                      extW 0 t137 fun t138 =>
                      extW 1 t137 fun t139 =>
                      ixaW (some 2) 1 t18 (.int .i64 1) fun t141 =>
                      ldW false 1 t141 w45.drew fun t142 =>
                      ixaW none 1 t119 (s43.getD 0 undef) fun t145 =>
                      ldW false 1 t145 w45.drew fun t146 =>
                      callF Try.prog 18 [t142, t146] w45.drew fun t147 w46 =>
                      extW 0 t147 fun t148 =>
                      extW 1 t147 fun t149 =>
                      ixaW none 1 t116 (s43.getD 0 undef) fun t152 =>
                      ldW false 1 t152 w46.drew fun t153 =>
                      ixaW none 1 t119 (s43.getD 0 undef) fun t156 =>
                      ldW false 1 t156 w46.drew fun t157 =>
                      binW .neq t153 t157 fun t158 =>
                      GqW (isB t158 false) (fun k47 => k47 t138) fun t160 =>
                      GqW (isB t158 false) (fun k48 => semQ Try.prog (convert 27 9 t160) w46.drew k48) fun t161 =>
                      GqW (isB t158 false) (fun k49 => k49 t148) fun t162 =>
                      GqW (isB t158 false) (fun k50 => semQ Try.prog (convert 27 9 t162) w46.drew k50) fun t163 =>
                      GqW (isB t158 false) (fun k51 => binW .neq t161 t163 k51) fun t164 =>
                      pickW t158 (.bool true) t164 fun t165 =>
                      condW t165 (
                        K (.bool false) w46.drew) (
                        binW .add (s43.getD 0 undef) (.int .i64 1) fun t166 =>
                        L43 [t166] w46.drew)) (
                      binW .add (s37.getD 0 undef) (.int .i64 1) fun t167 =>
                      L37 [t167] w44))) (
                K (.bool true) w38))))))
theorem W7_eq (v0 v1 v2 : Value) (w : World) (K : Value → World → Prop) : funW Try.prog Try.f7 plan7 [v0, v1, v2] w K = W7 v0 v1 v2 w K := by kernel_rfl
theorem W7_chk : chkFun Try.prog Try.f7 plan7 3 = true := by kernel_rfl
theorem W7_ok {v0 v1 v2 : Value} {w : World} {K : Value → World → Prop} (h : W7 v0 v1 v2 w K) : callF Try.prog 7 [v0, v1, v2] w K :=
  tie Try.prog 7 Try.f7 plan7 [v0, v1, v2] w K 3 (W7 v0 v1 v2 w K) rfl mixed Try.func7 W7_chk (W7_eq v0 v1 v2 w K) Try.call7 h

/- purlin_purlinlaw10.awake -/
def plan9 : Plan := { js := [(27005, ⟨[67], [], 65⟩), (27010, ⟨[62], [], 60⟩), (16003, ⟨[44], [], 43⟩), (6004, ⟨[33], [], 31⟩), (6011, ⟨[28], [], 24⟩), (6016, ⟨[21], [], 19⟩), (6023, ⟨[16], [], 12⟩)], ds := [] }
def W9 (w : World) (K : Value → World → Prop) : Prop :=
  callF Try.prog 8 [] w fun t8 w1 =>
  eqW .ptr false t8 (.pointer none) fun t10 =>
  GdW (isB t10 false) [undef] w1 (fun J2 =>
    bslW 5 2 [(.int .u8 0), (.int .u8 0)] [(0, 1, (.int .u8 49)), (1, 1, (.int .u8 50))] w1 fun t13 w3 =>
    semE Try.prog (convert 27 27 t13) w3 fun t14 w4 =>
    callF Try.prog 10 [t8, (.string (ofL [97])), t14] w4 fun t15 w5 =>
    binW .neq t15 (.int .i64 0) fun t16 =>
    J2 [t16] w5)
  fun s2 _ w6 =>
  pickW t10 (.bool true) (s2.getD 0 undef) fun t17 =>
  GdW (isB t17 false) [undef] w6 (fun J7 =>
    callF Try.prog 17 [t8, (.string (ofL [97]))] w6 fun t20 w8 =>
    binW .neq t20 (.int .i64 0) fun t21 =>
    J7 [t21] w8)
  fun s7 _ w9 =>
  pickW t17 (.bool true) (s7.getD 0 undef) fun t22 =>
  GdW (isB t22 false) [undef] w9 (fun J10 =>
    bslW 5 3 [(.int .u8 0), (.int .u8 0), (.int .u8 0)] [(0, 1, (.int .u8 51)), (1, 1, (.int .u8 52)), (2, 1, (.int .u8 53))] w9 fun t25 w11 =>
    semE Try.prog (convert 27 27 t25) w11 fun t26 w12 =>
    callF Try.prog 10 [t8, (.string (ofL [97])), t26] w12 fun t27 w13 =>
    binW .neq t27 (.int .i64 0) fun t28 =>
    J10 [t28] w13)
  fun s10 _ w14 =>
  pickW t22 (.bool true) (s10.getD 0 undef) fun t29 =>
  GdW (isB t29 false) [undef] w14 (fun J15 =>
    callF Try.prog 11 [t8, (.string (ofL [97])), (.slice none 0 0)] w14 fun t32 w16 =>
    binW .neq t32 (.int .i64 2) fun t33 =>
    J15 [t33] w16)
  fun s15 _ w17 =>
  pickW t29 (.bool true) (s15.getD 0 undef) fun t34 =>
  condW t34 (
    K (.bool false) w17) (
    callF Try.prog 16 [t8, (.slice none 0 0)] w17 fun t36 w18 =>
    bslW 3 1 [(.int .i64 0)] [(0, 1, (.int .i64 2))] w18 fun t38 w19 =>
    callF Try.prog 16 [t8, t38] w19 fun t39 w20 =>
    eqW .ptr false t36 (.pointer none) fun t41 =>
    GdW (isB t41 false) [undef] w20 (fun J21 =>
      eqW .ptr false t39 (.pointer none) fun t44 =>
      J21 [t44] w20)
    fun s21 _ w22 =>
    pickW t41 (.bool true) (s21.getD 0 undef) fun t45 =>
    condW t45 (
      K (.bool false) w22) (
      callF Try.prog 18 [t36, (.string (ofL [97]))] w22 fun t48 w23 =>
      extW 0 t48 fun t49 =>
      extW 1 t48 fun t50 =>
      callF Try.prog 18 [t39, (.string (ofL [97]))] w23 fun t53 w24 =>
      extW 0 t53 fun t54 =>
      extW 1 t53 fun t55 =>
      semQ Try.prog (convert 27 9 t49) w24 fun t57 =>
      binW .eql t57 (.string (ofL [49, 50])) fun t58 =>
      GdW (isB t58 true) [undef] w24 (fun J25 =>
        semQ Try.prog (convert 27 9 t54) w24 fun t61 =>
        binW .eql t61 (.string (ofL [51, 52])) fun t62 =>
        J25 [t62] w24)
      fun s25 _ w26 =>
      pickW t58 (s25.getD 0 undef) (.bool false) fun t63 =>
      GdW (isB t63 true) [undef] w26 (fun J27 =>
        callF Try.prog 26 [t8] w26 fun t66 w28 =>
        binW .eql t66 (.int .i64 3) fun t67 =>
        J27 [t67] w28)
      fun s27 _ w29 =>
      pickW t63 (s27.getD 0 undef) (.bool false) fun t68 =>
      K t68 w29))
theorem W9_eq (w : World) (K : Value → World → Prop) : funW Try.prog Try.f9 plan9 [] w K = W9 w K := by kernel_rfl
theorem W9_chk : chkFun Try.prog Try.f9 plan9 0 = true := by kernel_rfl
theorem W9_ok {w : World} {K : Value → World → Prop} (h : W9 w K) : callF Try.prog 9 [] w K :=
  tie Try.prog 9 Try.f9 plan9 [] w K 0 (W9 w K) rfl mixed Try.func9 W9_chk (W9_eq w K) Try.call9 h

/- purlin_purlinlaw10.built -/
def plan15 : Plan := { js := [(19003, ⟨[20], [], 19⟩), (16, ⟨[5, 7], [2, 4, 5], 7⟩)], ds := [(38, ⟨[0, 1, 2, 4], [[], [], [0], [0, 1, 2], [0, 1, 2, 3]]⟩), (33, ⟨[0, 1, 3], [[], [], [0, 1], [0, 1, 2]]⟩), (28, ⟨[1, 2, 3, 4, 5, 7, 8, 9, 10, 13], [[], [], [], [], [2, 3], [2, 3, 4], [0, 1, 2, 3, 4, 5], [0, 1, 2, 3, 4, 5, 6], [0, 1, 2, 3, 4, 5, 6, 7], [0, 1, 2, 3, 4, 5, 6, 7], [0, 1, 2, 3, 4, 5, 6, 7], [0, 1, 2, 3, 4, 5, 6, 7, 8], [0, 1, 2, 3, 4, 5, 6, 7, 8, 9, 11], [0, 1, 2, 3, 4, 5, 6, 7, 8, 9, 10, 11, 12]]⟩), (9, ⟨[0, 1, 3], [[], [], [0, 1], [0, 1, 2]]⟩)] }
def W15 (v0 : Value) (w : World) (K : Value → World → Prop) : Prop :=
  allocW 38 [(.slice none 0 0), (.int .i64 0), (.int .i64 0), (.bool false)] w fun t3 w1 =>
  callF Try.prog 8 [] w1 fun t9 w2 =>
  callF Try.prog 19 [] w2 fun t10 w3 =>
  allocW 38 [(.slice none 0 0), (.int .i64 0), (.int .i64 0), (.bool false)] w3 fun t6 w4 =>
  stW 4 t6 t10 w4 fun w5 =>
  eqW .ptr false t9 (.pointer none) fun t12 =>
  condW t12 (
    ldW true 4 t6 w5.drew fun t13 =>
    stW 4 t3 t13 w5.drew fun w6 =>
    ldW true 4 t3 w6 fun r7 =>
    K (.tuple #[(.pointer none), r7, (.bool false)]) w6) (
    LoopW [t9, (.int .i64 0)] w5 fun s8 _ w9 L8 =>
      lenlW v0 fun t16 =>
      binW .lss (s8.getD 1 undef) t16 fun t17 =>
      GdW (isB t17 true) [undef] w9 (fun J10 =>
        binW .lss (s8.getD 1 undef) (.int .i64 120) fun t20 =>
        J10 [t20] w9)
      fun s10 _ w11 =>
      pickW t17 (s10.getD 0 undef) (.bool false) fun t21 =>
      condW t21 (
        ldW true 4 t6 w11.drew fun t26 =>
        ixaW none 6 v0 (s8.getD 1 undef) fun t29 =>
        ldW true 6 t29 w11.drew fun t30 =>
        (ldW true 6 t29 w11.drew fun x => x = t30) ∧
        (ldW true 4 t6 w11.drew fun x => x = t26) ∧
        callF Try.prog 20 [(s8.getD 0 undef), t26, t30] w11.drew fun t31 w12 =>
        extW 0 t31 fun t32 =>
        extW 1 t31 fun t33 =>
        extW 2 t31 fun t34 =>
        stW 4 t6 t33 w12 fun w13 =>
        unW .not t34 fun t36 =>
        condW t36 (
          ldW true 4 t6 w13.drew fun t37 =>
          stW 4 t3 t37 w13.drew fun w14 =>
          ldW true 4 t3 w14 fun r15 =>
          K (.tuple #[(.pointer none), r15, (.bool false)]) w14) (
          binW .add (s8.getD 1 undef) (.int .i64 1) fun t23 =>
          L8 [t32, t23] w13)) (
        ldW true 4 t6 w11.drew fun t39 =>
        stW 4 t3 t39 w11.drew fun w16 =>
        ldW true 4 t3 w16 fun r17 =>
        K (.tuple #[(s8.getD 0 undef), r17, (.bool true)]) w16))
theorem W15_eq (v0 : Value) (w : World) (K : Value → World → Prop) : funW Try.prog Try.f15 plan15 [v0] w K = W15 v0 w K := by kernel_rfl
theorem W15_chk : chkFun Try.prog Try.f15 plan15 1 = true := by kernel_rfl
theorem W15_ok {v0 : Value} {w : World} {K : Value → World → Prop} (h : W15 v0 w K) : callF Try.prog 15 [v0] w K :=
  tie Try.prog 15 Try.f15 plan15 [v0] w K 1 (W15 v0 w K) rfl mixed Try.func15 W15_chk (W15_eq v0 w K) Try.call15 h

/- purlin_purlinlaw10.Play -/
def plan20 : Plan := { js := [(6, ⟨[0, 9, 10], [0, 6], 8⟩)], ds := [(68, ⟨[0, 1, 2, 3, 4, 5, 7], [[], [], [], [], [2, 3], [0], [0, 1, 5], [0, 1, 2, 3, 4, 5, 6]]⟩), (65, ⟨[0, 1, 2, 3, 4, 5, 6, 7, 8, 9, 10, 11, 12, 13, 14, 15, 16, 17, 18, 19, 20, 21, 22, 23, 24, 25, 26, 27, 28, 29, 30, 32], [[], [], [], [], [3], [2, 3, 4], [2, 3, 4, 5], [2, 3, 4, 5, 6], [2, 3, 4, 5, 6, 7], [2, 3, 4, 5, 6, 7, 8], [2, 3, 4, 5, 6, 7, 8, 9], [2, 3, 4, 5, 6, 7, 8, 9, 10], [2, 3, 4, 5, 6, 7, 8, 9, 10, 11], [2, 3, 4, 5, 6, 7, 8, 9, 10, 11, 12], [2, 3, 4, 5, 6, 7, 8, 9, 10, 11, 12, 13], [2, 3, 4, 5, 6, 7, 8, 9, 10, 11, 12, 13, 14], [2, 3, 4, 5, 6, 7, 8, 9, 10, 11, 12, 13, 14, 15], [2, 3, 4, 5, 6, 7, 8, 9, 10, 11, 12, 13, 14, 15, 16], [2, 3, 4, 5, 6, 7, 8, 9, 10, 11, 12, 13, 14, 15, 16, 17], [2, 3, 4, 5, 6, 7, 8, 9, 10, 11, 12, 13, 14, 15, 16, 17, 18], [2, 3, 4, 5, 6, 7, 8, 9, 10, 11, 12, 13, 14, 15, 16, 17], [2, 3, 4, 5, 6, 7, 8, 9, 10, 11, 12, 13, 14, 15, 16, 17, 20], [2, 3, 4, 5, 6, 7, 8, 9, 10, 11, 12, 13, 14, 15, 16, 17], [2, 3, 4, 5, 6, 7, 8, 9, 10, 11, 12, 13, 14, 15, 16, 17, 20, 21, 22], [2, 3, 4, 5, 6, 7, 8, 9, 10, 11, 12, 13, 14, 15, 16, 17, 20, 21, 22, 23], [2, 3, 4, 5, 6, 7, 8, 9, 10, 11, 12, 13, 14, 15, 16, 17, 20, 21, 22, 23, 24], [2, 3, 4, 5, 6, 7, 8, 9, 10, 11, 12, 13, 14, 15, 16, 17, 18, 19, 20, 21, 22, 23, 24, 25], [2, 3, 4, 5, 6, 7, 8, 9, 10, 11, 12, 13, 14, 15, 16, 17, 18, 19, 20, 21, 22, 23, 24, 25, 26], [2, 3, 4, 5, 6, 7, 8, 9, 10, 11, 12, 13, 14, 15, 16, 17, 18, 19, 20, 21, 22, 23, 24, 25, 26, 27], [2, 3, 4, 5, 6, 7, 8, 9, 10, 11, 12, 13, 14, 15, 16, 17, 18, 19, 20, 21, 22, 23, 24, 25, 26, 27, 28], [0, 2, 3, 4, 5, 6, 7, 8, 9, 10, 11, 12, 13, 14, 15, 16, 17], [0, 1, 2, 3, 4, 5, 6, 7, 8, 9, 10, 11, 12, 13, 14, 15, 16, 17, 30], [0, 1, 2, 3, 4, 5, 6, 7, 8, 9, 10, 11, 12, 13, 14, 15, 16, 17, 18, 19, 20, 21, 22, 23, 24, 25, 26, 27, 28, 29, 30, 31]]⟩), (57, ⟨[0, 1, 2, 4], [[], [], [0], [0, 1, 2], [0, 1, 2, 3]]⟩)] }
def W20 (v0 v1 v2 : Value) (w : World) (K : Value → World → Prop) : Prop :=
  boxW 38 v1 w fun t4 w1 =>
  boxW 48 v2 w1 fun t5 w2 =>
  allocW 38 [(.slice none 0 0), (.int .i64 0), (.int .i64 0), (.bool false)] w2 fun t7 w3 =>
  bslW 5 0 [] [] w3 fun t15 w4 =>
  fldW 3 t5 fun t16 =>
  ldW false 1 t16 w4 fun t17 =>
  semE Try.prog (Builtin.append_ #[27, 27] 27 #[t15, t17]) w4 fun t18 w5 =>
  JoinW (fun J6 =>
    fldW 0 t5 fun t19 =>
    ldW false 1 t19 w5 fun t20 =>
    binW .eql t20 (.int .i64 1) fun t63 =>
    condW t63 (
      fldW 1 t5 fun t65 =>
      ldW false 1 t65 w5 fun t66 =>
      callF Try.prog 10 [v0, t66, t18] w5 fun t68 w7 =>
      ldW true 4 t4 w7 fun t70 =>
      fldW 1 t5 fun t71 =>
      ldW false 1 t71 w7 fun t72 =>
      fldW 3 t5 fun t73 =>
      ldW false 1 t73 w7 fun t74 =>
      semQ Try.prog (convert 27 9 t74) w7 fun t75 =>
      callF Try.prog 24 [t70, t72, t75, (.bool false)] w7 fun t76 w8 =>
      extW 0 t76 fun t77 =>
      extW 1 t76 fun t78 =>
      stW 4 t4 t77 w8 fun w9 =>
      J6 [v0, t68, t78] w9) (
      binW .eql t20 (.int .i64 2) fun t80 =>
      condW t80 (
        fldW 1 t5 fun t82 =>
        ldW false 1 t82 w5 fun t83 =>
        callF Try.prog 11 [v0, t83, t18] w5 fun t85 w10 =>
        ldW true 4 t4 w10 fun t87 =>
        fldW 1 t5 fun t88 =>
        ldW false 1 t88 w10 fun t89 =>
        fldW 3 t5 fun t90 =>
        ldW false 1 t90 w10 fun t91 =>
        semQ Try.prog (convert 27 9 t91) w10 fun t92 =>
        callF Try.prog 24 [t87, t89, t92, (.bool true)] w10 fun t93 w11 =>
        extW 0 t93 fun t94 =>
        extW 1 t93 fun t95 =>
        stW 4 t4 t94 w11 fun w12 =>
        J6 [v0, t85, t95] w12) (
        binW .eql t20 (.int .i64 3) fun t97 =>
        condW t97 (
          fldW 1 t5 fun t99 =>
          ldW false 1 t99 w5 fun t100 =>
          callF Try.prog 17 [v0, t100] w5 fun t101 w13 =>
          ldW true 4 t4 w13 fun t103 =>
          fldW 1 t5 fun t104 =>
          ldW false 1 t104 w13 fun t105 =>
          callF Try.prog 35 [t103, t105] w13 fun t106 w14 =>
          extW 0 t106 fun t107 =>
          extW 1 t106 fun t108 =>
          stW 4 t4 t107 w14 fun w15 =>
          J6 [v0, t101, t108] w15) (
          binW .eql t20 (.int .i64 4) fun t110 =>
          condW t110 (
            fldW 1 t5 fun t112 =>
            ldW false 1 t112 w5 fun t113 =>
            fldW 2 t5 fun t114 =>
            ldW false 1 t114 w5 fun t115 =>
            callF Try.prog 12 [v0, t113, t115] w5 fun t116 w16 =>
            ldW true 4 t4 w16 fun t118 =>
            fldW 1 t5 fun t119 =>
            ldW false 1 t119 w16 fun t120 =>
            fldW 2 t5 fun t121 =>
            ldW false 1 t121 w16 fun t122 =>
            callF Try.prog 36 [t118, t120, t122] w16 fun t123 w17 =>
            extW 0 t123 fun t124 =>
            extW 1 t123 fun t125 =>
            stW 4 t4 t124 w17 fun w18 =>
            J6 [v0, t116, t125] w18) (
            binW .eql t20 (.int .i64 5) fun t127 =>
            condW t127 (
              fldW 1 t5 fun t129 =>
              ldW false 1 t129 w5 fun t130 =>
              callF Try.prog 13 [v0, t130] w5 fun t131 w19 =>
              ldW true 4 t4 w19 fun t133 =>
              fldW 1 t5 fun t134 =>
              ldW false 1 t134 w19 fun t135 =>
              callF Try.prog 37 [t133, t135] w19 fun t136 w20 =>
              extW 0 t136 fun t137 =>
              extW 1 t136 fun t138 =>
              stW 4 t4 t137 w20 fun w21 =>
              J6 [v0, t131, t138] w21) (
              binW .eql t20 (.int .i64 6) fun t140 =>
              condW t140 (
                fldW 4 t5 fun t142 =>
                ldW false 1 t142 w5 fun t143 =>
                callF Try.prog 23 [v0, t143] w5 fun t144 w22 =>
                ldW true 4 t4 w22 fun t146 =>
                fldW 4 t5 fun t147 =>
                ldW false 1 t147 w22 fun t148 =>
                callF Try.prog 38 [t146, t148] w22 fun t149 w23 =>
                extW 0 t149 fun t150 =>
                extW 1 t149 fun t151 =>
                stW 4 t4 t150 w23 fun w24 =>
                J6 [v0, t144, t151] w24) (
                binW .eql t20 (.int .i64 7) fun t153 =>
                condW t153 (
                  fldW 4 t5 fun t155 =>
                  ldW false 1 t155 w5 fun t156 =>
                  fldW 5 t5 fun t157 =>
                  ldW false 1 t157 w5 fun t158 =>
                  bslW 3 2 [(.int .i64 0), (.int .i64 0)] [(0, 1, t156), (1, 1, t158)] w5 fun t159 w25 =>
                  callF Try.prog 16 [v0, t159] w25 fun t160 w26 =>
                  ldW true 4 t4 w26 fun t161 =>
                  fldW 4 t5 fun t162 =>
                  ldW false 1 t162 w26 fun t163 =>
                  fldW 5 t5 fun t164 =>
                  ldW false 1 t164 w26 fun t165 =>
                  bslW 3 2 [(.int .i64 0), (.int .i64 0)] [(0, 1, t163), (1, 1, t165)] w26 fun t166 w27 =>
                  callF Try.prog 22 [t161, t166] w27 fun t167 w28 =>
                  stW 4 t4 t167 w28 fun w29 =>
                  eqW .ptr false t160 (.pointer none) fun t169 =>
                  condW t169 (
                    ldW true 4 t4 w29.drew fun t171 =>
                    stW 4 t7 t171 w29.drew fun w30 =>
                    ldW true 4 t7 w30 fun r31 =>
                    K (.tuple #[t160, r31, (.bool false)]) w30) (
                    J6 [t160, (.int .i64 0), (.int .i64 0)] w29)) (
                  fldW 1 t5 fun t23 =>
                  ldW false 1 t23 w5 fun t24 =>
                  callF Try.prog 18 [v0, t24] w5 fun t25 w32 =>
                  extW 0 t25 fun t26 =>
                  extW 1 t25 fun t27 =>
                  ldW true 4 t4 w32 fun t28 =>
                  fldW 1 t5 fun t29 =>
                  ldW false 1 t29 w32 fun t30 =>
                  callF Try.prog 39 [t28, t30] w32 fun t31 w33 =>
                  ldW true 4 t4 w33.drew fun t33 =>
                  binW .geq t31 (.int .i64 0) fun t36 =>
                  eqW .bool false t27 t36 fun t37 =>
                  GqW (isB t37 true) (fun k34 => k34 t31) fun t39 =>
                  GqW (isB t37 true) (fun k35 => binW .lss t39 (.int .i64 0) k35) fun t40 =>
                  GqW (isB t37 true) (fun k36 => k36 t40) fun t41 =>
                  GqW (isB t41 true) (fun k37 => k37 t26) fun t42 =>
                  GqW (isB t41 true) (fun k38 => lenlW t42 k38) fun t43 =>
                  GqW (isB t41 true) (fun k39 => binW .eql t43 (.int .i64 0) k39) fun t44 =>
                  GqW (isB t37 true) (fun k40 => pickW t41 t44 (.bool false) k40) fun t45 =>
                  GqW (isB t37 true) (fun k41 => k41 t45) fun t46 =>
                  GqW (isB t46 false) (fun k42 => k42 t31) fun t47 =>
                  GqW (isB t46 false) (fun k43 => binW .geq t47 (.int .i64 0) k43) fun t48 =>
                  GqW (isB t46 false) (fun k44 => k44 t48) fun t49 =>
                  GqW (isB t49 true) (fun k45 => k45 t26) fun t50 =>
                  GqW (isB t49 true) (fun k46 => semQ Try.prog (convert 27 9 t50) w33.drew k46) fun t51 =>
                  GqW (isB t49 true) (fun k47 => fldW 0 t4 k47) fun t52 =>
                  GqW (isB t49 true) (fun k48 => ldW false 1 t52 w33.drew k48) fun t53 =>
                  GqW (isB t49 true) (fun k49 => k49 t31) fun t54 =>
                  GqW (isB t49 true) (fun k50 => ixaW none 4 t53 t54 k50) fun t55 =>
                  GqW (isB t49 true) (fun k51 => fldW 1 t55 k51) fun t56 =>
                  GqW (isB t49 true) (fun k52 => ldW false 1 t56 w33.drew k52) fun t57 =>
                  GqW (isB t49 true) (fun k53 => binW .eql t51 t57 k53) fun t58 =>
                  GqW (isB t46 false) (fun k54 => pickW t49 t58 (.bool false) k54) fun t59 =>
                  GqW (isB t37 true) (fun k55 => pickW t46 (.bool true) t59 k55) fun t60 =>
                  pickW t37 t60 (.bool false) fun t61 =>
                  stW 4 t7 t33 w33.drew fun w56 =>
                  ((isB t49 true) = true → ldW false 1 t56 w56 fun x => x = t57) ∧
                  ((isB t49 true) = true → ldW false 1 t52 w56 fun x => x = t53) ∧
                  ((isB t49 true) = true → semQ Try.prog (convert 27 9 t50) w56 fun x => x = t51) ∧
                  ldW true 4 t7 w56 fun r57 =>
                  K (.tuple #[v0, r57, t61]) w56))))))))
  fun s6 _ w58 =>
  ldW true 4 t4 w58.drew fun t173 =>
  binW .eql (s6.getD 1 undef) (s6.getD 2 undef) fun t176 =>
  stW 4 t7 t173 w58.drew fun w59 =>
  ldW true 4 t7 w59 fun r60 =>
  K (.tuple #[(s6.getD 0 undef), r60, t176]) w59
theorem W20_eq (v0 v1 v2 : Value) (w : World) (K : Value → World → Prop) : funW Try.prog Try.f20 plan20 [v0, v1, v2] w K = W20 v0 v1 v2 w K := by kernel_rfl
theorem W20_chk : chkFun Try.prog Try.f20 plan20 3 = true := by kernel_rfl
theorem W20_ok {v0 v1 v2 : Value} {w : World} {K : Value → World → Prop} (h : W20 v0 v1 v2 w K) : callF Try.prog 20 [v0, v1, v2] w K :=
  tie Try.prog 20 Try.f20 plan20 [v0, v1, v2] w K 3 (W20 v0 v1 v2 w K) rfl mixed Try.func20 W20_chk (W20_eq v0 v1 v2 w K) Try.call20 h

/- purlin_purlinlaw10.Tells -/
def plan21 : Plan := { js := [(16, ⟨[35], [4, 6, 7, 8], 35⟩)], ds := [(30, ⟨[0, 1, 2, 3, 4, 5, 6, 7, 8, 9, 10, 11, 12, 13, 14, 15, 16, 17, 18, 19, 20, 21, 22, 23, 24, 25], [[], [], [0, 1], [0, 1, 2], [], [4], [], [4, 5, 6], [4, 5, 6, 7], [4, 5, 6, 7, 8], [0, 1, 2, 3, 4, 5, 6, 7, 8, 9], [0, 1, 2, 3, 4, 5, 6, 7, 8, 9, 10], [0, 1, 2, 3, 4, 5, 6, 7, 8, 9, 10, 11], [0, 1, 2, 3, 4, 5, 6, 7, 8, 9, 10, 11, 12], [0, 1, 2, 3, 4, 5, 6, 7, 8, 9, 10, 11, 12, 13], [0, 1, 2, 3, 4, 5, 6, 7, 8, 9, 10, 11, 12, 13, 14], [0, 1, 2, 3, 4, 5, 6, 7, 8, 9, 10, 11, 12, 13, 14, 15], [0, 1, 2, 3, 4, 5, 6, 7, 8, 9, 10, 11, 12, 13, 14, 15, 16], [0, 1, 2, 3, 4, 5, 6, 7, 8, 9, 10, 11, 12, 13, 14, 15], [0, 1, 2, 3, 4, 5, 6, 7, 8, 9, 10, 11, 12, 13, 14, 15, 18], [0, 1, 2, 3, 4, 5, 6, 7, 8, 9, 10, 11, 12, 13, 14, 15], [0, 1, 2, 3, 4, 5, 6, 7, 8, 9, 10, 11, 12, 13, 14, 15, 18, 19, 20], [0, 1, 2, 3, 4, 5, 6, 7, 8, 9, 10, 11, 12, 13, 14, 15, 18, 19, 20, 21], [0, 1, 2, 3, 4, 5, 6, 7, 8, 9, 10, 11, 12, 13, 14, 15, 18, 19, 20, 21, 22], [0, 1, 2, 3, 4, 5, 6, 7, 8, 9, 10, 11, 12, 13, 14, 15, 16, 17, 18, 19, 20, 21, 22, 23], [0, 1, 2, 3, 4, 5, 6, 7, 8, 9, 10, 11, 12, 13, 14, 15, 16, 17, 18, 19, 20, 21, 22, 23, 24]]⟩), (6, ⟨[0, 1, 2, 3, 4, 5, 6, 7, 9, 10, 11, 12, 13, 14, 16, 17, 18, 19], [[], [0], [], [2], [2, 3], [0, 1, 2, 3, 4], [0, 1, 2, 3, 4, 5], [0, 1, 2, 3, 4, 5, 6], [0, 1, 2, 3, 4, 5, 6, 7], [0, 1, 2, 3, 4, 5, 6], [0, 1, 2, 3, 4, 5, 6, 9], [0, 1, 2, 3, 4, 5, 6, 7, 8, 9, 10], [0, 1, 2, 3, 4, 5, 6, 7, 8, 9, 10, 11], [0, 1, 2, 3, 4, 5, 6, 7, 8, 9, 10, 11, 12], [0, 1, 2, 3, 4, 5, 6, 7, 8, 9, 10, 11, 12, 13], [0, 1, 2, 3, 4, 5, 6, 7, 8, 9, 10, 11, 12, 13, 14], [0, 1, 2, 3, 4, 5, 6, 7, 8, 9, 10, 11, 12, 13], [0, 1, 2, 3, 4, 5, 6, 7, 8, 9, 10, 11, 12, 13, 16], [0, 1, 2, 3, 4, 5, 6, 7, 8, 9, 10, 11, 12, 13, 14, 15, 16, 17], [0, 1, 2, 3, 4, 5, 6, 7, 8, 9, 10, 11, 12, 13, 14, 15, 16, 17, 18]]⟩)] }
def W21 (v0 v1 : Value) (w : World) (K : Value → World → Prop) : Prop :=
  boxW 38 v1 w fun t3 w1 =>
  callF Try.prog 14 [v0] w1 fun t12 w2 =>
  lenlW t12 fun t14 =>
  fldW 0 t3 fun t15 =>
  ldW false 1 t15 w2.drew fun t16 =>
  lenlW t16 fun t17 =>
  binW .neq t14 t17 fun t18 =>
  GqW (isB t18 false) (fun k3 => k3 v0) fun t20 =>
  GqW (isB t18 false) (fun k4 => fldW 1 t3 k4) fun t22 =>
  GqW (isB t18 false) (fun k5 => ldW false 1 t22 w2.drew k5) fun t23 =>
  GeW (isB t18 false) w2.drew (fun k6 => callF Try.prog 26 [t20] w2.drew k6) fun t21 w7 =>
  ((isB t18 false) = true → ldW false 1 t22 w7 fun x => x = t23) ∧
  GqW (isB t18 false) (fun k8 => binW .neq t21 t23 k8) fun t24 =>
  pickW t18 (.bool true) t24 fun t25 =>
  GqW (isB t25 false) (fun k9 => k9 v0) fun t27 =>
  GqW (isB t25 false) (fun k10 => fldW 3 t3 k10) fun t29 =>
  GqW (isB t25 false) (fun k11 => ldW false 1 t29 w7 k11) fun t30 =>
  GeW (isB t25 false) w7 (fun k12 => callF Try.prog 25 [t27] w7 k12) fun t28 w13 =>
  ((isB t25 false) = true → ldW false 1 t29 w13 fun x => x = t30) ∧
  GqW (isB t25 false) (fun k14 => eqW .bool true t28 t30 k14) fun t31 =>
  pickW t25 (.bool true) t31 fun t32 =>
  condW t32 (
    K (.bool false) w13) (
    lenlW t12 fun t34 =>
    LoopW [(.int .i64 0)] w13 fun s15 _ w16 L15 =>
      binW .lss (s15.getD 0 undef) t34 fun t36 =>
      condW t36 (
        ixaW none 1 t12 (s15.getD 0 undef) fun t42 =>
        ldW false 1 t42 w16 fun t43 =>
        callF Try.prog 18 [v0, t43] w16 fun t44 w17 =>
        extW 0 t44 fun t45 =>
        extW 1 t44 fun t46 =>
        ixaW none 1 t12 (s15.getD 0 undef) fun t49 =>
        ldW false 1 t49 w17.drew fun t50 =>
        fldW 0 t3 fun t51 =>
        ldW false 1 t51 w17.drew fun t52 =>
        ixaW none 4 t52 (s15.getD 0 undef) fun t54 =>
        fldW 0 t54 fun t55 =>
        ldW false 1 t55 w17.drew fun t56 =>
        binW .neq t50 t56 fun t57 =>
        GqW (isB t57 false) (fun k18 => k18 t46) fun t59 =>
        GqW (isB t57 false) (fun k19 => unW .not t59 k19) fun t60 =>
        pickW t57 (.bool true) t60 fun t61 =>
        GqW (isB t61 false) (fun k20 => k20 t45) fun t63 =>
        GqW (isB t61 false) (fun k21 => semQ Try.prog (convert 27 9 t63) w17.drew k21) fun t64 =>
        GqW (isB t61 false) (fun k22 => fldW 0 t3 k22) fun t65 =>
        GqW (isB t61 false) (fun k23 => ldW false 1 t65 w17.drew k23) fun t66 =>
        GqW (isB t61 false) (fun k24 => k24 (s15.getD 0 undef)) fun t67 =>
        GqW (isB t61 false) (fun k25 => ixaW none 4 t66 t67 k25) fun t68 =>
        GqW (isB t61 false) (fun k26 => fldW 1 t68 k26) fun t69 =>
        GqW (isB t61 false) (fun k27 => ldW false 1 t69 w17.drew k27) fun t70 =>
        GqW (isB t61 false) (fun k28 => binW .neq t64 t70 k28) fun t71 =>
        pickW t61 (.bool true) t71 fun t72 =>
        condW t72 (
          K (.bool false) w17.drew) (
          binW .add (s15.getD 0 undef) (.int .i64 1) fun t73 =>
          L15 [t73] w17.drew)) (
        callF Try.prog 18 [v0, (.string (ofL [110, 111, 32, 102, 105, 108, 101]))] w16 fun t76 w29 =>
        extW 0 t76 fun t77 =>
        extW 1 t76 fun t78 =>
        unW .not t78 fun t80 =>
        K t80 w29))
theorem W21_eq (v0 v1 : Value) (w : World) (K : Value → World → Prop) : funW Try.prog Try.f21 plan21 [v0, v1] w K = W21 v0 v1 w K := by kernel_rfl
theorem W21_chk : chkFun Try.prog Try.f21 plan21 2 = true := by kernel_rfl
theorem W21_ok {v0 v1 : Value} {w : World} {K : Value → World → Prop} (h : W21 v0 v1 w K) : callF Try.prog 21 [v0, v1] w K :=
  tie Try.prog 21 Try.f21 plan21 [v0, v1] w K 2 (W21 v0 v1 w K) rfl mixed Try.func21 W21_chk (W21_eq v0 v1 w K) Try.call21 h


end Go.Proofs.Ytcefidpmlnfheaa
