/- One plain sentence: weakest preconditions, contracts and plain laws that the claim rests on, text behind text. Conditions: those that each states. -/
import Derived.Test.YtpiaegojabkioaaGreatDoorNH1
import Derived.Shelf.Strings.BuilderF
import Derived.Shelf.Strings.BuilderK
import Derived.Shelf.Strconv.Atoi
import Derived.Shelf.Strconv.AtoiInnerAll
import Derived.Shelf.Strconv.AtoiFail
import Derived.Shelf.Strconv.ParseInt10
import Derived.Shelf.Sort.Plain
import Derived.Shelf.Small.Wraps
import Derived.Shelf.Strconv.Itoa3
import Derived.Shelf.Pu.ParseUintPublic10
import Derived.Shelf.Strconv.ToErrorRange
import Derived.Shelf.Strconv.ToError
import Derived.Shelf.Strings.Prefix
import Derived.Shelf.Strings.IndexAnyAll
import Derived.Shelf.Small.Strs
import Derived.Shelf.Strings.IndexAny
import Derived.Shelf.Strconv.Clone
import Derived.Shelf.Unicode.DecodeAny
import Derived.Shelf.Small.Utf8
import Derived.Shelf.Unicode.ValidAny
import Derived.Shelf.Strings.BuilderX
import Derived.Shelf.Lays
import Derived.Shelf.LaysC
import Derived.Shelf.LaysM
import Derived.Shelf.Pu.Lays
import Derived.Ground.MpProg
import Derived.Ground.Names2Prog
import Derived.Ground.SlgnProg
import Derived.Test.YtpiaegojabkioaaGreatDoorProg
import Derived.Lib.MapLaws
set_option linter.all false
set_option linter.unusedSimpArgs false
set_option linter.unusedVariables false
set_option linter.unusedSectionVars false
namespace Go.Proofs.YtpiaegojabkioaaGreatDoor
open Go Go.Eng
set_option maxRecDepth 100000
variable [HX]
def plan3 : Plan := { js := [(25,⟨[6],[4,6],8⟩),(79002,⟨[159],[],149⟩),(79004,⟨[158],[],157⟩),(79006,⟨[156],[],149⟩),(79009,⟨[154],[],152⟩),(79012,⟨[151],[],149⟩),(79015,⟨[146],[],136⟩),(79017,⟨[145],[],144⟩),(79019,⟨[143],[],136⟩),(79022,⟨[141],[],139⟩),(79025,⟨[138],[],136⟩),(79029,⟨[133],[],132⟩),(66004,⟨[124],[],122⟩),(49002,⟨[107],[],99⟩),(49004,⟨[106],[],105⟩),(49006,⟨[104],[],99⟩),(49008,⟨[102],[],101⟩),(49010,⟨[100],[],99⟩),(49013,⟨[96],[],88⟩),(49015,⟨[95],[],94⟩),(49017,⟨[93],[],88⟩),(49019,⟨[91],[],90⟩),(49021,⟨[89],[],88⟩),(49025,⟨[85],[],84⟩),(35004,⟨[70],[],68⟩),(30005,⟨[56],[],54⟩),(21004,⟨[33],[],31⟩),(21008,⟨[28],[],27⟩),(18,⟨[6,7],[4],6⟩),(6003,⟨[20],[],19⟩)],ds := [] }
def W3 (v0 v1 : Value) (w : World) (K : Value → World → Prop) : Prop :=
 callF Tryz.prog 6 [] w fun t15 w1 =>
 callF Tryz.prog 7 [] w1 fun t16 w2 =>
 unW .not t16 fun t17 =>
 GdW (isB t17 false) [undef] w2 (fun J3 =>
 eqW .ptr false t15 (.pointer none) fun t20 =>
 J3 [t20] w2)
 fun s3 _ w4 =>
 pickW t17 (.bool true) (s3.getD 0 undef) fun t21 =>
 condW t21 (
 K (.bool false) w4) (
 LoopW [(.string (ofL [])),(.int .i64 0)] w4 fun s5 _ w6 L5 =>
 lenlW v1 fun t24 =>
 binW .lss (s5.getD 1 undef) t24 fun t25 =>
 GdW (isB t25 true) [undef] w6 (fun J7 =>
 binW .lss (s5.getD 1 undef) (.int .i64 100) fun t28 =>
 J7 [t28] w6)
 fun s7 _ w8 =>
 pickW t25 (s7.getD 0 undef) (.bool false) fun t29 =>
 GdW (isB t29 true) [undef] w8 (fun J9 =>
 lenlW v0 fun t32 =>
 binW .gtr t32 (.int .i64 0) fun t33 =>
 J9 [t33] w8)
 fun s9 _ w10 =>
 pickW t29 (s9.getD 0 undef) (.bool false) fun t34 =>
 condW t34 (
 JoinW (fun J11 =>
 ixaW none 1 v1 (s5.getD 1 undef) fun t40 =>
 ldW false 1 t40 w10 fun t41 =>
 cvtW .u64 t41 fun t42 =>
 lenlW v0 fun t44 =>
 cvtW .u64 t44 fun t45 =>
 binW .rem t42 t45 fun t46 =>
 cvtW .i64 t46 fun t47 =>
 ixaW none 1 v0 t47 fun t48 =>
 ldW false 1 t48 w10 fun t49 =>
 lensW t49 fun t51 =>
 binW .geq t51 (.int .i64 1) fun t52 =>
 GdW (isB t52 true) [undef] w10 (fun J12 =>
 lensW t49 fun t55 =>
 binW .leq t55 (.int .i64 32) fun t56 =>
 J12 [t56] w10)
 fun s12 _ w13 =>
 pickW t52 (s12.getD 0 undef) (.bool false) fun t57 =>
 callF Tryz.prog 8 [t15] w13 fun t60 w14 =>
 extW 0 t60 fun t61 =>
 extW 1 t60 fun t62 =>
 binW .neq (s5.getD 0 undef) (.string (ofL [])) fun t65 =>
 eqW .bool true t62 t65 fun t66 =>
 GdW (isB t66 false) [undef] w14 (fun J15 =>
 binW .neq t61 (s5.getD 0 undef) fun t70 =>
 J15 [t70] w14)
 fun s15 _ w16 =>
 pickW t66 (.bool true) (s15.getD 0 undef) fun t71 =>
 condW t71 (
 K (.bool false) w16) (
 ixaW none 1 v1 (s5.getD 1 undef) fun t74 =>
 ldW false 1 t74 w16 fun t75 =>
 binW .rem t75 (.int .i64 3) fun t76 =>
 binW .neq t76 (.int .i64 0) fun t77 =>
 condW t77 (
 callF Tryz.prog 9 [t15,t49] w16 fun t80 w17 =>
 unW .not t57 fun t82 =>
 GdW (isB t82 true) [undef] w17 (fun J18 =>
 binW .neq t80 (.int .i64 6) fun t85 =>
 J18 [t85] w17)
 fun s18 _ w19 =>
 pickW t82 (s18.getD 0 undef) (.bool false) fun t86 =>
 GdW (isB t86 false) [undef] w19 (fun J20 =>
 J20 [t57] w19)
 fun s20 _ w21 =>
 GdW (isB (s20.getD 0 undef) true) [undef] w21 (fun J22 =>
 binW .neq (s5.getD 0 undef) (.string (ofL [])) fun t91 =>
 J22 [t91] w21)
 fun s22 _ w23 =>
 GdW (isB t86 false) [undef] w23 (fun J24 =>
 pickW (s20.getD 0 undef) (s22.getD 0 undef) (.bool false) fun t92 =>
 J24 [t92] w23)
 fun s24 _ w25 =>
 GdW (isB (s24.getD 0 undef) true) [undef] w25 (fun J26 =>
 binW .neq t80 (.int .i64 140) fun t95 =>
 J26 [t95] w25)
 fun s26 _ w27 =>
 GdW (isB t86 false) [undef] w27 (fun J28 =>
 pickW (s24.getD 0 undef) (s26.getD 0 undef) (.bool false) fun t96 =>
 J28 [t96] w27)
 fun s28 _ w29 =>
 pickW t86 (.bool true) (s28.getD 0 undef) fun t97 =>
 GdW (isB t97 false) [undef] w29 (fun J30 =>
 J30 [t57] w29)
 fun s30 _ w31 =>
 GdW (isB (s30.getD 0 undef) true) [undef] w31 (fun J32 =>
 binW .eql (s5.getD 0 undef) (.string (ofL [])) fun t102 =>
 J32 [t102] w31)
 fun s32 _ w33 =>
 GdW (isB t97 false) [undef] w33 (fun J34 =>
 pickW (s30.getD 0 undef) (s32.getD 0 undef) (.bool false) fun t103 =>
 J34 [t103] w33)
 fun s34 _ w35 =>
 GdW (isB (s34.getD 0 undef) true) [undef] w35 (fun J36 =>
 binW .neq t80 (.int .i64 0) fun t106 =>
 J36 [t106] w35)
 fun s36 _ w37 =>
 GdW (isB t97 false) [undef] w37 (fun J38 =>
 pickW (s34.getD 0 undef) (s36.getD 0 undef) (.bool false) fun t107 =>
 J38 [t107] w37)
 fun s38 _ w39 =>
 pickW t97 (.bool true) (s38.getD 0 undef) fun t108 =>
 condW t108 (
 K (.bool false) w39) (
 binW .eql t80 (.int .i64 0) fun t110 =>
 condW t110 (
 callF Tryz.prog 10 [t15,(.slice none 0 0)] w39 fun t113 w40 =>
 callF Tryz.prog 8 [t113] w40 fun t116 w41 =>
 extW 0 t116 fun t117 =>
 extW 1 t116 fun t118 =>
 unW .not t118 fun t120 =>
 GdW (isB t120 false) [undef] w41 (fun J42 =>
 binW .neq t117 t49 fun t124 =>
 J42 [t124] w41)
 fun s42 _ w43 =>
 pickW t120 (.bool true) (s42.getD 0 undef) fun t125 =>
 condW t125 (
 K (.bool false) w43) (
 J11 [t49] w43)) (
 J11 [(s5.getD 0 undef)] w39))) (
 callF Tryz.prog 11 [t15,t49] w16 fun t128 w44 =>
 binW .eql (s5.getD 0 undef) (.string (ofL [])) fun t130 =>
 GdW (isB t130 true) [undef] w44 (fun J45 =>
 binW .neq t128 (.int .i64 4) fun t133 =>
 J45 [t133] w44)
 fun s45 _ w46 =>
 pickW t130 (s45.getD 0 undef) (.bool false) fun t134 =>
 GdW (isB t134 false) [undef] w46 (fun J47 =>
 binW .neq (s5.getD 0 undef) (.string (ofL [])) fun t137 =>
 J47 [t137] w46)
 fun s47 _ w48 =>
 GdW (isB (s47.getD 0 undef) true) [undef] w48 (fun J49 =>
 binW .neq (s5.getD 0 undef) t49 fun t141 =>
 J49 [t141] w48)
 fun s49 _ w50 =>
 GdW (isB t134 false) [undef] w50 (fun J51 =>
 pickW (s47.getD 0 undef) (s49.getD 0 undef) (.bool false) fun t142 =>
 J51 [t142] w50)
 fun s51 _ w52 =>
 GdW (isB (s51.getD 0 undef) true) [undef] w52 (fun J53 =>
 binW .neq t128 (.int .i64 140) fun t145 =>
 J53 [t145] w52)
 fun s53 _ w54 =>
 GdW (isB t134 false) [undef] w54 (fun J55 =>
 pickW (s51.getD 0 undef) (s53.getD 0 undef) (.bool false) fun t146 =>
 J55 [t146] w54)
 fun s55 _ w56 =>
 pickW t134 (.bool true) (s55.getD 0 undef) fun t147 =>
 GdW (isB t147 false) [undef] w56 (fun J57 =>
 binW .neq (s5.getD 0 undef) (.string (ofL [])) fun t150 =>
 J57 [t150] w56)
 fun s57 _ w58 =>
 GdW (isB (s57.getD 0 undef) true) [undef] w58 (fun J59 =>
 binW .eql (s5.getD 0 undef) t49 fun t154 =>
 J59 [t154] w58)
 fun s59 _ w60 =>
 GdW (isB t147 false) [undef] w60 (fun J61 =>
 pickW (s57.getD 0 undef) (s59.getD 0 undef) (.bool false) fun t155 =>
 J61 [t155] w60)
 fun s61 _ w62 =>
 GdW (isB (s61.getD 0 undef) true) [undef] w62 (fun J63 =>
 binW .neq t128 (.int .i64 0) fun t158 =>
 J63 [t158] w62)
 fun s63 _ w64 =>
 GdW (isB t147 false) [undef] w64 (fun J65 =>
 pickW (s61.getD 0 undef) (s63.getD 0 undef) (.bool false) fun t159 =>
 J65 [t159] w64)
 fun s65 _ w66 =>
 pickW t147 (.bool true) (s65.getD 0 undef) fun t160 =>
 condW t160 (
 K (.bool false) w66) (
 binW .eql t128 (.int .i64 0) fun t162 =>
 condW t162 (
 J11 [(.string (ofL []))] w66) (
 J11 [(s5.getD 0 undef)] w66)))))
 fun s11 _ w67 =>
 binW .add (s5.getD 1 undef) (.int .i64 1) fun t36 =>
 L5 [(s11.getD 0 undef),t36] w67) (
 K (.bool true) w10))
theorem W3_ok {v0 v1 : Value} {w : World} {K : Value → World → Prop} (h : W3 v0 v1 w K) : callF Tryz.prog 3 [v0,v1] w K :=
 tie _ 3 Tryz.f3 plan3 _ w K 2 _ rfl mixed Tryz.func3 (by kernel_rfl) (by kernel_rfl) Tryz.call3 h
def plan4 : Plan := { js := [(74002,⟨[79],[],69⟩),(74007,⟨[78],[],74⟩),(74012,⟨[73],[],69⟩),(37,⟨[6],[6,7],9⟩),(41,⟨[6,7,9],[6,7],9⟩),(23003,⟨[25],[],24⟩),(20,⟨[5,6,7,8],[],2⟩),(6003,⟨[17],[],16⟩)],ds := [] }
def W4 (v0 v1 : Value) (w : World) (K : Value → World → Prop) : Prop :=
 callF Tryz.prog 6 [] w fun t12 w1 =>
 callF Tryz.prog 7 [] w1 fun t13 w2 =>
 unW .not t13 fun t14 =>
 GdW (isB t14 false) [undef] w2 (fun J3 =>
 eqW .ptr false t12 (.pointer none) fun t17 =>
 J3 [t17] w2)
 fun s3 _ w4 =>
 pickW t14 (.bool true) (s3.getD 0 undef) fun t18 =>
 condW t18 (
 K (.bool false) w4) (
 LoopW [t12,(.int .i64 0),(.int .i64 0),(.int .i64 0)] w4 fun s5 _ w6 L5 =>
 lenlW v1 fun t21 =>
 binW .lss (s5.getD 3 undef) t21 fun t22 =>
 GdW (isB t22 true) [undef] w6 (fun J7 =>
 binW .lss (s5.getD 3 undef) (.int .i64 20) fun t25 =>
 J7 [t25] w6)
 fun s7 _ w8 =>
 pickW t22 (s7.getD 0 undef) (.bool false) fun t26 =>
 condW t26 (
 ixaW none 1 v1 (s5.getD 3 undef) fun t32 =>
 ldW false 1 t32 w8 fun t33 =>
 cvtW .u64 t33 fun t34 =>
 binW .rem t34 (.int .u64 12) fun t35 =>
 cvtW .i64 t35 fun t36 =>
 callF Tryz.prog 12 [(s5.getD 0 undef),t36] w8 fun t37 w9 =>
 binW .neq t37 (.int .i64 0) fun t38 =>
 condW t38 (
 K (.bool false) w9) (
 JoinW (fun J10 =>
 LoopW [(s5.getD 1 undef),(s5.getD 2 undef),(.int .i64 0)] w9 fun s11 _ w12 L11 =>
 binW .lss (s11.getD 2 undef) (.int .i64 5) fun t40 =>
 condW t40 (
 binW .add (s11.getD 1 undef) (.int .i64 1) fun t44 =>
 putW [(.int .i64 0),(.slice none 0 0)] [(0,1,t44)] fun c13 =>
 callF Tryz.prog 13 [(s5.getD 0 undef),(.agg c13.toArray)] w12 fun t48 w14 =>
 binW .neq t48 (.int .i64 0) fun t49 =>
 condW t49 (
 J10 [(s11.getD 0 undef)] w14) (
 binW .add (s11.getD 2 undef) (.int .i64 1) fun t42 =>
 L11 [t44,t44,t42] w14)) (
 J10 [(s11.getD 0 undef)] w12))
 fun s10 _ w15 =>
 ixaW none 1 v1 (s5.getD 3 undef) fun t55 =>
 ldW false 1 t55 w15 fun t56 =>
 bslW 3 2 [(.int .i64 0),(.int .i64 0)] [(0,1,v0),(1,1,t56)] w15 fun t57 w16 =>
 callF Tryz.prog 10 [(s5.getD 0 undef),t57] w16 fun t58 w17 =>
 eqW .ptr false t58 (.pointer none) fun t60 =>
 condW t60 (
 K (.bool false) w17) (
 callF Tryz.prog 14 [t58] w17 fun t63 w18 =>
 extW 0 t63 fun t64 =>
 extW 1 t63 fun t65 =>
 allocW 38 [(.int .i64 0),(.slice none 0 0)] w18 fun t10 w19 =>
 stW 2 t10 t64 w19 fun w20 =>
 binW .neq t65 (.int .i64 0) fun t67 =>
 GdW (isB t67 false) [undef] w20 (fun J21 =>
 fldW 0 t10 fun t69 =>
 ldW false 1 t69 w20 fun t70 =>
 binW .neq t70 (s10.getD 0 undef) fun t72 =>
 J21 [t72] w20)
 fun s21 _ w22 =>
 GdW (isB (s21.getD 0 undef) true) [undef] w22 (fun J23 =>
 fldW 0 t10 fun t74 =>
 ldW false 1 t74 w22 fun t75 =>
 binW .add (s10.getD 0 undef) (.int .i64 1) fun t77 =>
 binW .neq t75 t77 fun t78 =>
 J23 [t78] w22)
 fun s23 _ w24 =>
 GdW (isB t67 false) [undef] w24 (fun J25 =>
 pickW (s21.getD 0 undef) (s23.getD 0 undef) (.bool false) fun t79 =>
 J25 [t79] w24)
 fun s25 _ w26 =>
 pickW t67 (.bool true) (s25.getD 0 undef) fun t80 =>
 condW t80 (
 K (.bool false) w26) (
 fldW 0 t10 fun t81 =>
 ldW false 1 t81 w26 fun t82 =>
 callF Tryz.prog 15 [t58] w26 fun t85 w27 =>
 binW .neq t85 (.int .i64 0) fun t86 =>
 condW t86 (
 K (.bool false) w27) (
 binW .add (s5.getD 3 undef) (.int .i64 1) fun t28 =>
 L5 [t58,t82,t82,t28] w27))))) (
 K (.bool true) w8))
theorem W4_ok {v0 v1 : Value} {w : World} {K : Value → World → Prop} (h : W4 v0 v1 w K) : callF Tryz.prog 4 [v0,v1] w K :=
 tie _ 4 Tryz.f4 plan4 _ w K 2 _ rfl mixed Tryz.func4 (by kernel_rfl) (by kernel_rfl) Tryz.call4 h
def plan5 : Plan := { js := [(68005,⟨[106],[],103⟩),(68011,⟨[100],[],97⟩),(51002,⟨[84],[],77⟩),(51006,⟨[83],[],80⟩),(51009,⟨[79],[],77⟩),(51012,⟨[74],[],65⟩),(51016,⟨[73],[],70⟩),(51021,⟨[69],[],65⟩),(37005,⟨[45],[],42⟩),(24,⟨[8],[6],8⟩),(4004,⟨[25],[],23⟩),(4009,⟨[20],[],18⟩)],ds := [] }
def W5 (v0 v1 v2 : Value) (w : World) (K : Value → World → Prop) : Prop :=
 boxW 38 v0 w fun t3 w1 =>
 boxW 38 v1 w1 fun t4 w2 =>
 callF Tryz.prog 7 [] w2 fun t15 w3 =>
 unW .not t15 fun t16 =>
 GdW (isB t16 false) [undef] w3 (fun J4 =>
 ldW true 2 t3 w3 fun t18 =>
 callF Tryz.prog 16 [t18] w3 fun t19 w5 =>
 unW .not t19 fun t20 =>
 J4 [t20] w5)
 fun s4 _ w6 =>
 pickW t16 (.bool true) (s4.getD 0 undef) fun t21 =>
 GdW (isB t21 false) [undef] w6 (fun J7 =>
 ldW true 2 t4 w6 fun t23 =>
 callF Tryz.prog 16 [t23] w6 fun t24 w8 =>
 unW .not t24 fun t25 =>
 J7 [t25] w8)
 fun s7 _ w9 =>
 pickW t21 (.bool true) (s7.getD 0 undef) fun t26 =>
 condW t26 (
 callF Tryz.prog 7 [] w9 fun t27 w10 =>
 K t27 w10) (
 callF Tryz.prog 6 [] w9 fun t28 w11 =>
 ldW true 2 t3 w11 fun t30 =>
 callF Tryz.prog 13 [t28,t30] w11 fun t31 w12 =>
 binW .neq t31 (.int .i64 0) fun t32 =>
 condW t32 (
 K (.bool true) w12) (
 LoopW [(.int .i64 0)] w12 fun s13 _ w14 L13 =>
 binW .lss (s13.getD 0 undef) (.int .i64 5) fun t34 =>
 condW t34 (
 callF Tryz.prog 17 [t28] w14 fun t38 w15 =>
 eqW .ptr false t38 (.pointer none) fun t40 =>
 GdW (isB t40 false) [undef] w15 (fun J16 =>
 callF Tryz.prog 12 [t38,(s13.getD 0 undef)] w15 fun t44 w17 =>
 binW .neq t44 (.int .i64 0) fun t45 =>
 J16 [t45] w17)
 fun s16 _ w18 =>
 pickW t40 (.bool true) (s16.getD 0 undef) fun t46 =>
 condW t46 (
 K (.bool false) w18) (
 ldW true 2 t4 w18 fun t48 =>
 callF Tryz.prog 13 [t38,t48] w18 fun t49 w19 =>
 binW .mul (s13.getD 0 undef) (.int .i64 30) fun t52 =>
 bslW 3 1 [(.int .i64 0)] [(0,1,t52)] w19 fun t53 w20 =>
 semE Tryz.prog (Builtin.append_ #[23,23] 23 #[t53,v2]) w20 fun t55 w21 =>
 callF Tryz.prog 10 [t38,t55] w21 fun t56 w22 =>
 callF Tryz.prog 14 [t56] w22 fun t59 w23 =>
 extW 0 t59 fun t60 =>
 extW 1 t59 fun t61 =>
 allocW 38 [(.int .i64 0),(.slice none 0 0)] w23 fun t12 w24 =>
 stW 2 t12 t60 w24 fun w25 =>
 binW .neq t61 (.int .i64 0) fun t63 =>
 GdW (isB t63 false) [undef] w25 (fun J26 =>
 ldW true 2 t12 w25 fun t65 =>
 ldW true 2 t3 w25 fun t66 =>
 callF Tryz.prog 18 [t65,t66] w25 fun t67 w27 =>
 unW .not t67 fun t68 =>
 J26 [t68] w27)
 fun s26 _ w28 =>
 GdW (isB (s26.getD 0 undef) true) [undef] w28 (fun J29 =>
 ldW true 2 t12 w28 fun t70 =>
 ldW true 2 t4 w28 fun t71 =>
 callF Tryz.prog 18 [t70,t71] w28 fun t72 w30 =>
 unW .not t72 fun t73 =>
 J29 [t73] w30)
 fun s29 _ w31 =>
 GdW (isB t63 false) [undef] w31 (fun J32 =>
 pickW (s26.getD 0 undef) (s29.getD 0 undef) (.bool false) fun t74 =>
 J32 [t74] w31)
 fun s32 _ w33 =>
 pickW t63 (.bool true) (s32.getD 0 undef) fun t75 =>
 GdW (isB t75 false) [undef] w33 (fun J34 =>
 binW .eql t49 (.int .i64 0) fun t78 =>
 J34 [t78] w33)
 fun s34 _ w35 =>
 GdW (isB (s34.getD 0 undef) true) [undef] w35 (fun J36 =>
 ldW true 2 t12 w35 fun t80 =>
 ldW true 2 t4 w35 fun t81 =>
 callF Tryz.prog 18 [t80,t81] w35 fun t82 w37 =>
 unW .not t82 fun t83 =>
 J36 [t83] w37)
 fun s36 _ w38 =>
 GdW (isB t75 false) [undef] w38 (fun J39 =>
 pickW (s34.getD 0 undef) (s36.getD 0 undef) (.bool false) fun t84 =>
 J39 [t84] w38)
 fun s39 _ w40 =>
 pickW t75 (.bool true) (s39.getD 0 undef) fun t85 =>
 condW t85 (
 K (.bool false) w40) (
 callF Tryz.prog 15 [t56] w40 fun t87 w41 =>
 binW .neq t87 (.int .i64 0) fun t88 =>
 condW t88 (
 K (.bool false) w41) (
 callF Tryz.prog 14 [t56] w41 fun t91 w42 =>
 extW 0 t91 fun t92 =>
 extW 1 t91 fun t93 =>
 allocW 38 [(.int .i64 0),(.slice none 0 0)] w42 fun t14 w43 =>
 stW 2 t14 t92 w43 fun w44 =>
 binW .neq t93 (.int .i64 0) fun t95 =>
 GdW (isB t95 false) [undef] w44 (fun J45 =>
 ldW true 2 t14 w44 fun t97 =>
 ldW true 2 t12 w44 fun t98 =>
 callF Tryz.prog 18 [t97,t98] w44 fun t99 w46 =>
 unW .not t99 fun t100 =>
 J45 [t100] w46)
 fun s45 _ w47 =>
 pickW t95 (.bool true) (s45.getD 0 undef) fun t101 =>
 GdW (isB t101 false) [undef] w47 (fun J48 =>
 callF Tryz.prog 19 [t56] w47 fun t104 w49 =>
 lenlW t104 fun t105 =>
 binW .neq t105 (.int .i64 1) fun t106 =>
 J48 [t106] w49)
 fun s48 _ w50 =>
 pickW t101 (.bool true) (s48.getD 0 undef) fun t107 =>
 condW t107 (
 K (.bool false) w50) (
 binW .add (s13.getD 0 undef) (.int .i64 1) fun t36 =>
 L13 [t36] w50))))) (
 K (.bool true) w14)))
theorem W5_ok {v0 v1 v2 : Value} {w : World} {K : Value → World → Prop} (h : W5 v0 v1 v2 w K) : callF Tryz.prog 5 [v0,v1,v2] w K :=
 tie _ 5 Tryz.f5 plan5 _ w K 3 _ rfl mixed Tryz.func5 (by kernel_rfl) (by kernel_rfl) Tryz.call5 h
def plan6 : Plan := { js := [],ds := [] }
def W6 (w : World) (K : Value → World → Prop) : Prop :=
 semE Tryz.prog (Instr.makeMap 47 none) w fun t1 w1 =>
 putW [(.map none),(.int .i64 0),(.int .i64 0),(.bool false)] [(0,1,t1),(2,1,(.int .i64 (-1)))] fun c2 =>
 boxW 49 (.agg c2.toArray) w1 fun t3 w3 =>
 K t3 w3
theorem W6_ok {w : World} {K : Value → World → Prop} (h : W6 w K) : callF Tryz.prog 6 [] w K :=
 tie _ 6 Tryz.f6 plan6 _ w K 0 _ rfl mixed Tryz.func6 (by kernel_rfl) (by kernel_rfl) Tryz.call6 h
def plan7 : Plan := { js := [(17005,⟨[45],[],43⟩),(17009,⟨[40],[],39⟩),(6004,⟨[26],[],24⟩),(6009,⟨[21],[],19⟩),(6014,⟨[16],[],14⟩),(6019,⟨[11],[],9⟩)],ds := [] }
def W7 (w : World) (K : Value → World → Prop) : Prop :=
 callF Tryz.prog 6 [] w fun t5 w1 =>
 eqW .ptr false t5 (.pointer none) fun t7 =>
 GdW (isB t7 false) [undef] w1 (fun J2 =>
 callF Tryz.prog 9 [t5,(.string (ofL [97]))] w1 fun t10 w3 =>
 binW .neq t10 (.int .i64 0) fun t11 =>
 J2 [t11] w3)
 fun s2 _ w4 =>
 pickW t7 (.bool true) (s2.getD 0 undef) fun t12 =>
 GdW (isB t12 false) [undef] w4 (fun J5 =>
 callF Tryz.prog 9 [t5,(.string (ofL [98]))] w4 fun t15 w6 =>
 binW .neq t15 (.int .i64 140) fun t16 =>
 J5 [t16] w6)
 fun s5 _ w7 =>
 pickW t12 (.bool true) (s5.getD 0 undef) fun t17 =>
 GdW (isB t17 false) [undef] w7 (fun J8 =>
 callF Tryz.prog 11 [t5,(.string (ofL [98]))] w7 fun t20 w9 =>
 binW .neq t20 (.int .i64 140) fun t21 =>
 J8 [t21] w9)
 fun s8 _ w10 =>
 pickW t17 (.bool true) (s8.getD 0 undef) fun t22 =>
 GdW (isB t22 false) [undef] w10 (fun J11 =>
 callF Tryz.prog 11 [t5,(.string (ofL [97]))] w10 fun t25 w12 =>
 binW .neq t25 (.int .i64 0) fun t26 =>
 J11 [t26] w12)
 fun s11 _ w13 =>
 pickW t22 (.bool true) (s11.getD 0 undef) fun t27 =>
 condW t27 (
 K (.bool false) w13) (
 putW [(.int .i64 0),(.slice none 0 0)] [(0,1,(.int .i64 1))] fun c14 =>
 callF Tryz.prog 13 [t5,(.agg c14.toArray)] w13 fun t30 w15 =>
 callF Tryz.prog 14 [t5] w15 fun t33 w16 =>
 extW 0 t33 fun t34 =>
 extW 1 t33 fun t35 =>
 allocW 38 [(.int .i64 0),(.slice none 0 0)] w16 fun t3 w17 =>
 stW 2 t3 t34 w17 fun w18 =>
 binW .eql t30 (.int .i64 0) fun t37 =>
 GdW (isB t37 true) [undef] w18 (fun J19 =>
 binW .eql t35 (.int .i64 0) fun t40 =>
 J19 [t40] w18)
 fun s19 _ w20 =>
 pickW t37 (s19.getD 0 undef) (.bool false) fun t41 =>
 GdW (isB t41 true) [undef] w20 (fun J21 =>
 fldW 0 t3 fun t43 =>
 ldW false 1 t43 w20 fun t44 =>
 binW .eql t44 (.int .i64 1) fun t45 =>
 J21 [t45] w20)
 fun s21 _ w22 =>
 pickW t41 (s21.getD 0 undef) (.bool false) fun t46 =>
 K t46 w22)
theorem W7_ok {w : World} {K : Value → World → Prop} (h : W7 w K) : callF Tryz.prog 7 [] w K :=
 tie _ 7 Tryz.f7 plan7 _ w K 0 _ rfl mixed Tryz.func7 (by kernel_rfl) (by kernel_rfl) Tryz.call7 h
def plan8 : Plan := { js := [],ds := [] }
def W8 (v0 : Value) (w : World) (K : Value → World → Prop) : Prop :=
 callF Tryz.prog 20 [v0,(.string (ofL [115,116,97,116,101,46,108,111,99,107]))] w fun t8 w1 =>
 extW 0 t8 fun t9 =>
 extW 1 t8 fun t10 =>
 semQ Tryz.prog (convert 50 9 t9) w1 fun t12 =>
 K (.tuple #[t12,t10]) w1
theorem W8_ok {v0 : Value} {w : World} {K : Value → World → Prop} (h : W8 v0 w K) : callF Tryz.prog 8 [v0] w K :=
 tie _ 8 Tryz.f8 plan8 _ w K 1 _ rfl mixed Tryz.func8 (by kernel_rfl) (by kernel_rfl) Tryz.call8 h
def plan9 : Plan := { js := [(4004,⟨[11],[],9⟩)],ds := [] }
def W9 (v0 v1 : Value) (w : World) (K : Value → World → Prop) : Prop :=
 binW .eql v1 (.string (ofL [])) fun t7 =>
 GdW (isB t7 false) [undef] w (fun J1 =>
 lensW v1 fun t10 =>
 binW .gtr t10 (.int .i64 32) fun t11 =>
 J1 [t11] w)
 fun s1 _ w2 =>
 pickW t7 (.bool true) (s1.getD 0 undef) fun t12 =>
 condW t12 (
 K (.int .i64 6) w2) (
 semE Tryz.prog (convert 9 50 v1) w2 fun t15 w3 =>
 callF Tryz.prog 21 [v0,(.string (ofL [115,116,97,116,101,46,108,111,99,107])),t15] w3 fun t16 w4 =>
 binW .eql t16 (.int .i64 0) fun t20 =>
 condW t20 (
 callF Tryz.prog 22 [v0,(.string (ofL [115,116,97,116,101,46,108,111,99,107]))] w4 fun t22 w5 =>
 K t22 w5) (
 binW .eql t16 (.int .i64 2) fun t24 =>
 condW t24 (
 K (.int .i64 140) w4) (
 K t16 w4)))
theorem W9_ok {v0 v1 : Value} {w : World} {K : Value → World → Prop} (h : W9 v0 v1 w K) : callF Tryz.prog 9 [v0,v1] w K :=
 tie _ 9 Tryz.f9 plan9 _ w K 2 _ rfl mixed Tryz.func9 (by kernel_rfl) (by kernel_rfl) Tryz.call9 h
def plan10 : Plan := { js := [(17,⟨[6],[6,8,9,10],16⟩),(23,⟨[6],[6,10],16⟩),(29,⟨[10],[10],16⟩),(10,⟨[6,15],[6,8,9,10],15⟩)],ds := [(48,⟨[0,1,2,3,4,5,6,8,9,11],[[],[0],[0,1],[0,1,2],[],[],[5],[5,6],[],[8],[5,6,7,8,9],[5,6,7,8,9,10],[0,1,2,3,4,5,6,7,8,9,10,11]]⟩)] }
def W10 (v0 v1 : Value) (w : World) (K : Value → World → Prop) : Prop :=
 callF Tryz.prog 6 [] w fun t11 w1 =>
 callF Tryz.prog 19 [v0] w1 fun t13 w2 =>
 lenlW t13 fun t14 =>
 LoopW [(.int .i64 0),(.int .i64 0)] w2 fun s3 _ w4 L3 =>
 binW .lss (s3.getD 1 undef) t14 fun t16 =>
 condW t16 (
 JoinW (fun J5 =>
 ixaW none 1 t13 (s3.getD 1 undef) fun t17 =>
 ldW false 1 t17 w4 fun t18 =>
 nilW v0 fun t20 =>
 fldW 0 t20 fun t21 =>
 ldW false 1 t21 w4 fun t22 =>
 semQ Tryz.prog (Instr.lookup 47 t22 t18 false) w4 fun t24 =>
 allocW 56 [(.slice none 0 0),(.slice none 0 0),(.int .i64 0)] w4 fun t9 w6 =>
 stW 3 t9 t24 w6 fun w7 =>
 JoinW (fun J8 =>
 ldW true 3 t9 w7 fun t25 =>
 callF Tryz.prog 23 [t25] w7 fun t26 w9 =>
 unW .not t26 fun t27 =>
 condW t27 (
 JoinW (fun J10 =>
 lenlW v1 fun t30 =>
 binW .lss (s3.getD 0 undef) t30 fun t31 =>
 condW t31 (
 ixaW none 1 v1 (s3.getD 0 undef) fun t34 =>
 ldW false 1 t34 w9 fun t35 =>
 J10 [t35] w9) (
 J10 [(.int .i64 0)] w9))
 fun s10 _ w11 =>
 binW .add (s3.getD 0 undef) (.int .i64 1) fun t37 =>
 binW .geq (s10.getD 0 undef) (.int .i64 1) fun t40 =>
 condW t40 (
 fldW 0 t9 fun t41 =>
 ldW false 1 t41 w11 fun t42 =>
 fldW 0 t9 fun t44 =>
 ldW false 1 t44 w11 fun t45 =>
 lenlW t45 fun t46 =>
 minW (s10.getD 0 undef) t46 fun t47 =>
 sllW 1 t42 none (some t47) none fun t48 =>
 fldW 1 t9 fun t49 =>
 stW 1 t49 t48 w11 fun w12 =>
 J8 [t37] w12) (
 fldW 2 t9 fun t51 =>
 ldW false 1 t51 w11 fun t52 =>
 binW .eql t52 (.int .i64 0) fun t53 =>
 condW t53 (
 J5 [t37] w11) (
 J8 [t37] w11))) (
 J8 [(s3.getD 0 undef)] w9))
 fun s8 _ w13 =>
 nilW t11 fun t55 =>
 fldW 0 t55 fun t56 =>
 ldW false 1 t56 w13.drew fun t57 =>
 fldW 1 t9 fun t59 =>
 ldW false 1 t59 w13.drew fun t60 =>
 fldW 1 t9 fun t62 =>
 ldW false 1 t62 w13.drew fun t63 =>
 callF Tryz.prog 24 [t60] w13.drew fun t61 w14 =>
 (ldW false 1 t62 w14 fun x => x = t63) ∧
 (ldW false 1 t56 w14 fun x => x = t57) ∧
 callF Tryz.prog 24 [t63] w14 fun t64 w15 =>
 (ldW false 1 t56 w15 fun x => x = t57) ∧
 putW [(.slice none 0 0),(.slice none 0 0),(.int .i64 0)] [(0,1,t61),(1,1,t64),(2,1,(.int .i64 1))] fun c16 =>
 semU Tryz.prog (Instr.mapUpdate 47 t57 t18 (.agg c16.toArray)) w15 fun w17 =>
 J5 [(s8.getD 0 undef)] w17)
 fun s5 _ w18 =>
 binW .add (s3.getD 1 undef) (.int .i64 1) fun t66 =>
 L3 [(s5.getD 0 undef),t66] w18) (
 K t11 w4)
theorem W10_ok {v0 v1 : Value} {w : World} {K : Value → World → Prop} (h : W10 v0 v1 w K) : callF Tryz.prog 10 [v0,v1] w K :=
 tie _ 10 Tryz.f10 plan10 _ w K 2 _ rfl mixed Tryz.func10 (by kernel_rfl) (by kernel_rfl) Tryz.call10 h
def plan11 : Plan := { js := [],ds := [] }
def W11 (v0 v1 : Value) (w : World) (K : Value → World → Prop) : Prop :=
 callF Tryz.prog 8 [v0] w fun t9 w1 =>
 extW 0 t9 fun t10 =>
 extW 1 t9 fun t11 =>
 unW .not t11 fun t14 =>
 condW t14 (
 K (.int .i64 4) w1) (
 binW .neq t10 v1 fun t18 =>
 condW t18 (
 K (.int .i64 140) w1) (
 callF Tryz.prog 25 [v0,(.string (ofL [115,116,97,116,101,46,108,111,99,107]))] w1 fun t20 w2 =>
 K t20 w2))
theorem W11_ok {v0 v1 : Value} {w : World} {K : Value → World → Prop} (h : W11 v0 v1 w K) : callF Tryz.prog 11 [v0,v1] w K :=
 tie _ 11 Tryz.f11 plan11 _ w K 2 _ rfl mixed Tryz.func11 (by kernel_rfl) (by kernel_rfl) Tryz.call11 h
def plan12 : Plan := { js := [],ds := [] }
def W12 (v0 v1 : Value) (w : World) (K : Value → World → Prop) : Prop :=
 binW .lss v1 (.int .i64 0) fun t6 =>
 condW t6 (
 K (.int .i64 1) w) (
 nilW v0 fun t9 =>
 fldW 2 t9 fun t10 =>
 stW 1 t10 v1 w fun w1 =>
 K (.int .i64 0) w1)
theorem W12_ok {v0 v1 : Value} {w : World} {K : Value → World → Prop} (h : W12 v0 v1 w K) : callF Tryz.prog 12 [v0,v1] w K :=
 tie _ 12 Tryz.f12 plan12 _ w K 2 _ rfl mixed Tryz.func12 (by kernel_rfl) (by kernel_rfl) Tryz.call12 h
def plan13 : Plan := { js := [],ds := [] }
def W13 (v0 v1 : Value) (w : World) (K : Value → World → Prop) : Prop :=
 boxW 38 v1 w fun t3 w1 =>
 ldW true 2 t3 w1 fun t8 =>
 callF Tryz.prog 26 [t8] w1 fun t9 w2 =>
 extW 0 t9 fun t10 =>
 extW 1 t9 fun t11 =>
 binW .neq t11 (.int .i64 0) fun t13 =>
 condW t13 (
 K t11 w2) (
 callF Tryz.prog 27 [v0,(.string (ofL [115,116,97,116,101,46,116,109,112])),t10] w2 fun t17 w3 =>
 binW .neq t17 (.int .i64 0) fun t19 =>
 condW t19 (
 K t17 w3) (
 callF Tryz.prog 22 [v0,(.string (ofL [115,116,97,116,101,46,116,109,112]))] w3 fun t22 w4 =>
 binW .neq t22 (.int .i64 0) fun t24 =>
 condW t24 (
 K t22 w4) (
 callF Tryz.prog 28 [v0,(.string (ofL [115,116,97,116,101,46,116,109,112])),(.string (ofL [115,116,97,116,101,46,106,115,111,110]))] w4 fun t27 w5 =>
 K t27 w5)))
theorem W13_ok {v0 v1 : Value} {w : World} {K : Value → World → Prop} (h : W13 v0 v1 w K) : callF Tryz.prog 13 [v0,v1] w K :=
 tie _ 13 Tryz.f13 plan13 _ w K 2 _ rfl mixed Tryz.func13 (by kernel_rfl) (by kernel_rfl) Tryz.call13 h
def plan14 : Plan := { js := [],ds := [] }
def W14 (v0 : Value) (w : World) (K : Value → World → Prop) : Prop :=
 allocW 38 [(.int .i64 0),(.slice none 0 0)] w fun t2 w1 =>
 callF Tryz.prog 20 [v0,(.string (ofL [115,116,97,116,101,46,106,115,111,110]))] w1 fun t8 w2 =>
 extW 0 t8 fun t9 =>
 extW 1 t8 fun t10 =>
 unW .not t10 fun t12 =>
 condW t12 (
 putW [(.int .i64 0),(.slice none 0 0)] [] fun c3 =>
 stW 2 t2 (.agg c3.toArray) w2 fun w4 =>
 ldW true 2 t2 w4 fun r5 =>
 K (.tuple #[r5,(.int .i64 0)]) w4) (
 callF Tryz.prog 29 [t9] w2 fun t15 w6 =>
 extW 0 t15 fun t16 =>
 extW 1 t15 fun t17 =>
 stW 2 t2 t16 w6 fun w7 =>
 ldW true 2 t2 w7 fun r8 =>
 K (.tuple #[r8,t17]) w7)
theorem W14_ok {v0 : Value} {w : World} {K : Value → World → Prop} (h : W14 v0 w K) : callF Tryz.prog 14 [v0] w K :=
 tie _ 14 Tryz.f14 plan14 _ w K 1 _ rfl mixed Tryz.func14 (by kernel_rfl) (by kernel_rfl) Tryz.call14 h
def plan15 : Plan := { js := [],ds := [] }
def W15 (v0 : Value) (w : World) (K : Value → World → Prop) : Prop :=
 callF Tryz.prog 20 [v0,(.string (ofL [115,116,97,116,101,46,116,109,112]))] w fun t7 w1 =>
 extW 0 t7 fun t8 =>
 extW 1 t7 fun t9 =>
 unW .not t9 fun t11 =>
 condW t11 (
 K (.int .i64 0) w1) (
 callF Tryz.prog 25 [v0,(.string (ofL [115,116,97,116,101,46,116,109,112]))] w1 fun t13 w2 =>
 K t13 w2)
theorem W15_ok {v0 : Value} {w : World} {K : Value → World → Prop} (h : W15 v0 w K) : callF Tryz.prog 15 [v0] w K :=
 tie _ 15 Tryz.f15 plan15 _ w K 1 _ rfl mixed Tryz.func15 (by kernel_rfl) (by kernel_rfl) Tryz.call15 h
def plan16 : Plan := { js := [],ds := [] }
def W16 (v0 : Value) (w : World) (K : Value → World → Prop) : Prop :=
 boxW 38 v0 w fun t1 w1 =>
 fldW 1 t1 fun t3 =>
 ldW false 1 t3 w1 fun t4 =>
 lenlW t4 fun t5 =>
 binW .leq t5 (.int .i64 200) fun t6 =>
 K t6 w1
theorem W16_ok {v0 : Value} {w : World} {K : Value → World → Prop} (h : W16 v0 w K) : callF Tryz.prog 16 [v0] w K :=
 tie _ 16 Tryz.f16 plan16 _ w K 1 _ rfl mixed Tryz.func16 (by kernel_rfl) (by kernel_rfl) Tryz.call16 h
def plan17 : Plan := { js := [],ds := [] }
def W17 (v0 : Value) (w : World) (K : Value → World → Prop) : Prop :=
 nilW v0 fun t5 =>
 ldW true 4 t5 w fun t6 =>
 allocW 49 [(.map none),(.int .i64 0),(.int .i64 0),(.bool false)] w fun t3 w1 =>
 stW 4 t3 t6 w1 fun w2 =>
 nilW v0 fun t8 =>
 fldW 0 t8 fun t9 =>
 ldW false 1 t9 w2 fun t10 =>
 callF Tryz.prog 30 [t10] w2 fun t11 w3 =>
 fldW 0 t3 fun t12 =>
 stW 1 t12 t11 w3 fun w4 =>
 K t3 w4
theorem W17_ok {v0 : Value} {w : World} {K : Value → World → Prop} (h : W17 v0 w K) : callF Tryz.prog 17 [v0] w K :=
 tie _ 17 Tryz.f17 plan17 _ w K 1 _ rfl mixed Tryz.func17 (by kernel_rfl) (by kernel_rfl) Tryz.call17 h
def plan18 : Plan := { js := [(14,⟨[23],[4,5],23⟩),(4008,⟨[18],[],12⟩)],ds := [(26,⟨[0,1,2,3,4,5,6,7,8,9,11],[[],[0],[],[0,1,2],[0,1,2,3],[],[5],[],[5,6,7],[5,6,7,8],[0,1,2,3,4,5,6,7,8,9],[0,1,2,3,4,5,6,7,8,9,10]]⟩)] }
def W18 (v0 v1 : Value) (w : World) (K : Value → World → Prop) : Prop :=
 boxW 38 v0 w fun t2 w1 =>
 boxW 38 v1 w1 fun t3 w2 =>
 fldW 0 t2 fun t6 =>
 ldW false 1 t6 w2 fun t7 =>
 fldW 0 t3 fun t8 =>
 ldW false 1 t8 w2 fun t9 =>
 binW .neq t7 t9 fun t10 =>
 GdW (isB t10 false) [undef] w2 (fun J3 =>
 fldW 1 t2 fun t12 =>
 ldW false 1 t12 w2 fun t13 =>
 lenlW t13 fun t14 =>
 fldW 1 t3 fun t15 =>
 ldW false 1 t15 w2 fun t16 =>
 lenlW t16 fun t17 =>
 binW .neq t14 t17 fun t18 =>
 J3 [t18] w2)
 fun s3 _ w4 =>
 pickW t10 (.bool true) (s3.getD 0 undef) fun t19 =>
 condW t19 (
 K (.bool false) w4) (
 fldW 1 t2 fun t20 =>
 ldW false 1 t20 w4 fun t21 =>
 lenlW t21 fun t22 =>
 LoopW [(.int .i64 0)] w4 fun s5 _ w6 L5 =>
 binW .lss (s5.getD 0 undef) t22 fun t24 =>
 condW t24 (
 fldW 1 t2 fun t26 =>
 ldW false 1 t26 w6.drew fun t27 =>
 ixaW none 9 t27 (s5.getD 0 undef) fun t29 =>
 ldW true 9 t29 w6.drew fun t30 =>
 fldW 1 t3 fun t31 =>
 ldW false 1 t31 w6.drew fun t32 =>
 ixaW none 9 t32 (s5.getD 0 undef) fun t34 =>
 ldW true 9 t34 w6.drew fun t35 =>
 callF Tryz.prog 31 [t30,t35] w6.drew fun t36 w7 =>
 unW .not t36 fun t37 =>
 condW t37 (
 K (.bool false) w7) (
 binW .add (s5.getD 0 undef) (.int .i64 1) fun t38 =>
 L5 [t38] w7)) (
 K (.bool true) w6))
theorem W18_ok {v0 v1 : Value} {w : World} {K : Value → World → Prop} (h : W18 v0 v1 w K) : callF Tryz.prog 18 [v0,v1] w K :=
 tie _ 18 Tryz.f18 plan18 _ w K 2 _ rfl mixed Tryz.func18 (by kernel_rfl) (by kernel_rfl) Tryz.call18 h
def plan19 : Plan := { js := [],ds := [] }
def W19 (v0 : Value) (w : World) (K : Value → World → Prop) : Prop :=
 nilW v0 fun t4 =>
 fldW 0 t4 fun t5 =>
 ldW false 1 t5 w fun t6 =>
 callF Tryz.prog 33 [t6] w fun t7 w1 =>
 callF Tryz.prog 32 [t7] w1 fun t8 w2 =>
 K t8 w2
theorem W19_ok {v0 : Value} {w : World} {K : Value → World → Prop} (h : W19 v0 w K) : callF Tryz.prog 19 [v0] w K :=
 tie _ 19 Tryz.f19 plan19 _ w K 1 _ rfl mixed Tryz.func19 (by kernel_rfl) (by kernel_rfl) Tryz.call19 h
def plan20 : Plan := { js := [],ds := [] }
def W20 (v0 v1 : Value) (w : World) (K : Value → World → Prop) : Prop :=
 nilW v0 fun t10 =>
 fldW 0 t10 fun t11 =>
 ldW false 1 t11 w fun t12 =>
 semQ Tryz.prog (Instr.lookup 47 t12 v1 true) w fun t14 =>
 extW 0 t14 fun t15 =>
 extW 1 t14 fun t16 =>
 allocW 56 [(.slice none 0 0),(.slice none 0 0),(.int .i64 0)] w fun t6 w1 =>
 stW 3 t6 t15 w1 fun w2 =>
 fldW 0 t6 fun t17 =>
 ldW false 1 t17 w2 fun t18 =>
 callF Tryz.prog 24 [t18] w2 fun t19 w3 =>
 K (.tuple #[t19,t16]) w3
theorem W20_ok {v0 v1 : Value} {w : World} {K : Value → World → Prop} (h : W20 v0 v1 w K) : callF Tryz.prog 20 [v0,v1] w K :=
 tie _ 20 Tryz.f20 plan20 _ w K 2 _ rfl mixed Tryz.func20 (by kernel_rfl) (by kernel_rfl) Tryz.call20 h
def plan21 : Plan := { js := [(6004,⟨[22],[],20⟩)],ds := [] }
def W21 (v0 v1 v2 : Value) (w : World) (K : Value → World → Prop) : Prop :=
 nilW v0 fun t11 =>
 fldW 0 t11 fun t12 =>
 ldW false 1 t12 w fun t13 =>
 semQ Tryz.prog (Instr.lookup 47 t13 v1 true) w fun t15 =>
 extW 0 t15 fun t16 =>
 extW 1 t15 fun t17 =>
 allocW 56 [(.slice none 0 0),(.slice none 0 0),(.int .i64 0)] w fun t7 w1 =>
 stW 3 t7 t16 w1 fun w2 =>
 GdW (isB t17 true) [undef] w2 (fun J3 =>
 lenlW v2 fun t21 =>
 binW .leq t21 (.int .i64 65536) fun t22 =>
 J3 [t22] w2)
 fun s3 _ w4 =>
 pickW t17 (s3.getD 0 undef) (.bool false) fun t23 =>
 condW t23 (
 K (.int .i64 2) w4) (
 callF Tryz.prog 27 [v0,v1,v2] w4 fun t27 w5 =>
 K t27 w5)
theorem W21_ok {v0 v1 v2 : Value} {w : World} {K : Value → World → Prop} (h : W21 v0 v1 v2 w K) : callF Tryz.prog 21 [v0,v1,v2] w K :=
 tie _ 21 Tryz.f21 plan21 _ w K 3 _ rfl mixed Tryz.func21 (by kernel_rfl) (by kernel_rfl) Tryz.call21 h
def plan22 : Plan := { js := [],ds := [(32,⟨[0,1,2,3,4,5],[[],[0],[0,1],[0,1,2],[],[],[0,1,2,3,4,5]]⟩)] }
def W22 (v0 v1 : Value) (w : World) (K : Value → World → Prop) : Prop :=
 nilW v0 fun t10 =>
 fldW 0 t10 fun t11 =>
 ldW false 1 t11 w fun t12 =>
 semQ Tryz.prog (Instr.lookup 47 t12 v1 true) w fun t14 =>
 extW 0 t14 fun t15 =>
 extW 1 t14 fun t16 =>
 allocW 56 [(.slice none 0 0),(.slice none 0 0),(.int .i64 0)] w fun t5 w1 =>
 stW 3 t5 t15 w1 fun w2 =>
 callF Tryz.prog 34 [v1] w2 fun t19 w3 =>
 unW .not t19 fun t20 =>
 condW t20 (
 K (.int .i64 6) w3) (
 unW .not t16 fun t23 =>
 condW t23 (
 K (.int .i64 4) w3) (
 callF Tryz.prog 35 [v0] w3 fun t25 w4 =>
 binW .neq t25 (.int .i64 0) fun t27 =>
 condW t27 (
 K t25 w4) (
 fldW 0 t5 fun t29 =>
 ldW false 1 t29 w4 fun t30 =>
 fldW 1 t5 fun t31 =>
 stW 1 t31 t30 w4 fun w5 =>
 fldW 2 t5 fun t32 =>
 stW 1 t32 (.int .i64 1) w5 fun w6 =>
 nilW v0 fun t34 =>
 fldW 0 t34 fun t35 =>
 ldW false 1 t35 w6.drew fun t36 =>
 ldW true 3 t5 w6.drew fun t38 =>
 semU Tryz.prog (Instr.mapUpdate 47 t36 v1 t38) w6.drew fun w7 =>
 K (.int .i64 0) w7)))
theorem W22_ok {v0 v1 : Value} {w : World} {K : Value → World → Prop} (h : W22 v0 v1 w K) : callF Tryz.prog 22 [v0,v1] w K :=
 tie _ 22 Tryz.f22 plan22 _ w K 2 _ rfl mixed Tryz.func22 (by kernel_rfl) (by kernel_rfl) Tryz.call22 h
def plan23 : Plan := { js := [(3009,⟨[13],[],7⟩)],ds := [] }
def W23 (v0 : Value) (w : World) (K : Value → World → Prop) : Prop :=
 boxW 56 v0 w fun t1 w1 =>
 fldW 2 t1 fun t3 =>
 ldW false 1 t3 w1 fun t4 =>
 binW .eql t4 (.int .i64 1) fun t5 =>
 GdW (isB t5 true) [undef] w1 (fun J2 =>
 fldW 0 t1 fun t7 =>
 ldW false 1 t7 w1 fun t8 =>
 semQ Tryz.prog (convert 50 9 t8) w1 fun t9 =>
 fldW 1 t1 fun t10 =>
 ldW false 1 t10 w1 fun t11 =>
 semQ Tryz.prog (convert 50 9 t11) w1 fun t12 =>
 binW .eql t9 t12 fun t13 =>
 J2 [t13] w1)
 fun s2 _ w3 =>
 pickW t5 (s2.getD 0 undef) (.bool false) fun t14 =>
 K t14 w3
theorem W23_ok {v0 : Value} {w : World} {K : Value → World → Prop} (h : W23 v0 w K) : callF Tryz.prog 23 [v0] w K :=
 tie _ 23 Tryz.f23 plan23 _ w K 1 _ rfl mixed Tryz.func23 (by kernel_rfl) (by kernel_rfl) Tryz.call23 h
def plan24 : Plan := { js := [],ds := [] }
def W24 (v0 : Value) (w : World) (K : Value → World → Prop) : Prop :=
 eqW .slice false v0 (.slice none 0 0) fun t4 =>
 condW t4 (
 K (.slice none 0 0) w) (
 bslW 5 0 [] [] w fun t5 w1 =>
 semE Tryz.prog (Builtin.append_ #[50,50] 50 #[t5,v0]) w1 fun t7 w2 =>
 K t7 w2)
theorem W24_ok {v0 : Value} {w : World} {K : Value → World → Prop} (h : W24 v0 w K) : callF Tryz.prog 24 [v0] w K :=
 tie _ 24 Tryz.f24 plan24 _ w K 1 _ rfl mixed Tryz.func24 (by kernel_rfl) (by kernel_rfl) Tryz.call24 h
def plan25 : Plan := { js := [],ds := [] }
def W25 (v0 v1 : Value) (w : World) (K : Value → World → Prop) : Prop :=
 nilW v0 fun t10 =>
 fldW 0 t10 fun t11 =>
 ldW false 1 t11 w fun t12 =>
 semQ Tryz.prog (Instr.lookup 47 t12 v1 true) w fun t14 =>
 extW 0 t14 fun t15 =>
 extW 1 t14 fun t16 =>
 allocW 56 [(.slice none 0 0),(.slice none 0 0),(.int .i64 0)] w fun t5 w1 =>
 stW 3 t5 t15 w1 fun w2 =>
 callF Tryz.prog 34 [v1] w2 fun t19 w3 =>
 unW .not t19 fun t20 =>
 condW t20 (
 K (.int .i64 6) w3) (
 unW .not t16 fun t23 =>
 condW t23 (
 K (.int .i64 4) w3) (
 callF Tryz.prog 35 [v0] w3 fun t25 w4 =>
 binW .neq t25 (.int .i64 0) fun t27 =>
 condW t27 (
 K t25 w4) (
 nilW v0 fun t30 =>
 fldW 0 t30 fun t31 =>
 ldW false 1 t31 w4 fun t32 =>
 semE Tryz.prog (Builtin.delete_ #[47,9] 0 #[t32,v1]) w4 fun _ w5 =>
 K (.int .i64 0) w5)))
theorem W25_ok {v0 v1 : Value} {w : World} {K : Value → World → Prop} (h : W25 v0 v1 w K) : callF Tryz.prog 25 [v0,v1] w K :=
 tie _ 25 Tryz.f25 plan25 _ w K 2 _ rfl mixed Tryz.func25 (by kernel_rfl) (by kernel_rfl) Tryz.call25 h
def plan26 : Plan := { js := [(48,⟨[10,11],[],0⟩),(23,⟨[],[6,7,9],20⟩),(33,⟨[27],[9],27⟩),(16,⟨[19],[6,7,9],19⟩)],ds := [(49,⟨[1,2,3,8,9,10,11,12],[[],[],[],[2],[2,3],[1,2,3,4],[0,1,2,3,4,5],[0,1,2,3,4,5,6],[0,1,2,3,4,5,6,7],[0,1,2,3,4,5,6,7,8],[0,1,2,3,4,5,6,7,8],[0,1,2,3,4,5,6,7,8,9],[0,1,2,3,4,5,6,7,8,9,10,11]]⟩),(46,⟨[0,1,3,4,6,7,8,9,10,12,13,19],[[],[0],[],[],[3],[3,4],[],[6],[],[],[9],[3,4,5,9,10],[],[12],[3,4,5,9,10,11,12,13],[3,4,5,6,7,8,9,10,11,12,13,14],[2,3,4,5,6,7,8,9,10,11,12,13,14,15],[2,3,4,5,6,7,8,9,10,11,12,13,14,15,16],[0,1,2,3,4,5,6,7,8,9,10,11,12,13,14,15,16,17],[0,1,2,3,4,5,6,7,8,9,10,11,12,13,14,15,16,17,18],[0,1,2,3,4,5,6,7,8,9,10,11,12,13,14,15,16,17,18,19]]⟩),(44,⟨[0,1,2,6],[[],[0],[],[2],[2,3],[0,1,2,3,4],[0,1,2,3,4,5],[0,1,2,3,4,5,6]]⟩)] }
def W26 (v0 : Value) (w : World) (K : Value → World → Prop) : Prop :=
 boxW 38 v0 w fun t1 w1 =>
 ldW true 2 t1 w1 fun t12 =>
 callF Tryz.prog 36 [t12] w1 fun t13 w2 =>
 unW .not t13 fun t14 =>
 condW t14 (
 K (.tuple #[(.slice none 0 0),(.int .i64 150)]) w2) (
 putW [(.int .i64 0),(.bool false),(.string (ofL [])),(.slice none 0 0),(.slice none 0 0)] [(0,1,(.int .i64 5))] fun c3 =>
 allocW 67 [(.int .i64 0),(.bool false),(.string (ofL [])),(.slice none 0 0),(.slice none 0 0)] w2 fun t4 w4 =>
 stW 5 t4 (.agg c3.toArray) w4 fun w5 =>
 fldW 1 t1 fun t16 =>
 ldW false 1 t16 w5 fun t17 =>
 lenlW t17 fun t18 =>
 LoopW [(.int .i64 0)] w5 fun s6 _ w7 L6 =>
 binW .lss (s6.getD 0 undef) t18 fun t20 =>
 condW t20 (
 JoinW (fun J8 =>
 ixaW none 9 t17 (s6.getD 0 undef) fun t21 =>
 ldW true 9 t21 w7 fun t22 =>
 allocW 69 [(.string (ofL [])),(.string (ofL [])),(.string (ofL [])),(.int .i64 0),(.bool false),(.string (ofL [])),(.slice none 0 0),(.slice none 0 0),(.slice none 0 0)] w7 fun t6 w9 =>
 stW 9 t6 t22 w9 fun w10 =>
 putW [(.int .i64 0),(.bool false),(.string (ofL [])),(.slice none 0 0),(.slice none 0 0)] [(0,1,(.int .i64 5))] fun c11 =>
 allocW 67 [(.int .i64 0),(.bool false),(.string (ofL [])),(.slice none 0 0),(.slice none 0 0)] w10 fun t7 w12 =>
 stW 5 t7 (.agg c11.toArray) w12 fun w13 =>
 fldW 8 t6 fun t24 =>
 ldW false 1 t24 w13 fun t25 =>
 lenlW t25 fun t26 =>
 LoopW [(.int .i64 0)] w13 fun s14 _ w15 L14 =>
 binW .lss (s14.getD 0 undef) t26 fun t28 =>
 condW t28 (
 ixaW none 1 t25 (s14.getD 0 undef) fun t29 =>
 ldW false 1 t29 w15 fun t30 =>
 fldW 3 t7 fun t31 =>
 ldW false 1 t31 w15.drew fun t32 =>
 callF Tryz.prog 37 [t30] w15.drew fun t34 w16 =>
 (ldW false 1 t31 w16 fun x => x = t32) ∧
 bslW 67 1 [(.int .i64 0),(.bool false),(.string (ofL [])),(.slice none 0 0),(.slice none 0 0)] [(0,5,t34)] w16 fun t35 w17 =>
 (ldW false 1 t31 w17 fun x => x = t32) ∧
 semE Tryz.prog (Builtin.append_ #[65,65] 65 #[t32,t35]) w17 fun t36 w18 =>
 fldW 3 t7 fun t37 =>
 stW 1 t37 t36 w18 fun w19 =>
 binW .add (s14.getD 0 undef) (.int .i64 1) fun t38 =>
 L14 [t38] w19) (
 fldW 3 t4 fun t39 =>
 ldW false 1 t39 w15.drew fun t40 =>
 fldW 0 t6 fun t42 =>
 ldW false 1 t42 w15.drew fun t43 =>
 fldW 3 t6 fun t45 =>
 ldW true 5 t45 w15.drew fun t46 =>
 ldW true 5 t7 w15.drew fun t47 =>
 fldW 2 t6 fun t48 =>
 ldW false 1 t48 w15.drew fun t49 =>
 fldW 1 t6 fun t51 =>
 ldW false 1 t51 w15.drew fun t52 =>
 (
 bslW 9 5 [(.string (ofL [])),(.string (ofL [])),(.string (ofL [])),(.string (ofL [])),(.string (ofL []))] [(0,1,(.string (ofL [97,100,100,114]))),(1,1,(.string (ofL [97,116,116,114,115]))),(2,1,(.string (ofL [100,101,112,115]))),(3,1,(.string (ofL [105,100]))),(4,1,(.string (ofL [116,121,112,101])))] w15.drew fun t41 w20 =>
 (ldW false 1 t51 w20 fun x => x = t52) ∧
 (ldW false 1 t48 w20 fun x => x = t49) ∧
 (ldW true 5 t7 w20 fun x => x = t47) ∧
 (ldW true 5 t45 w20 fun x => x = t46) ∧
 (ldW false 1 t42 w20 fun x => x = t43) ∧
 (ldW false 1 t39 w20 fun x => x = t40) ∧
 callF Tryz.prog 37 [t43] w20 fun t44 w21 =>
 (ldW false 1 t51 w21 fun x => x = t52) ∧
 (ldW false 1 t48 w21 fun x => x = t49) ∧
 (ldW true 5 t7 w21 fun x => x = t47) ∧
 (ldW true 5 t45 w21 fun x => x = t46) ∧
 (ldW false 1 t39 w21 fun x => x = t40) ∧
 callF Tryz.prog 37 [t49] w21 fun t50 w22 =>
 (ldW false 1 t51 w22 fun x => x = t52) ∧
 (ldW true 5 t7 w22 fun x => x = t47) ∧
 (ldW true 5 t45 w22 fun x => x = t46) ∧
 (ldW false 1 t39 w22 fun x => x = t40) ∧
 callF Tryz.prog 37 [t52] w22 fun t53 w23 =>
 (ldW true 5 t7 w23 fun x => x = t47) ∧
 (ldW true 5 t45 w23 fun x => x = t46) ∧
 (ldW false 1 t39 w23 fun x => x = t40) ∧
 bslW 67 5 [(.int .i64 0),(.bool false),(.string (ofL [])),(.slice none 0 0),(.slice none 0 0),(.int .i64 0),(.bool false),(.string (ofL [])),(.slice none 0 0),(.slice none 0 0),(.int .i64 0),(.bool false),(.string (ofL [])),(.slice none 0 0),(.slice none 0 0),(.int .i64 0),(.bool false),(.string (ofL [])),(.slice none 0 0),(.slice none 0 0),(.int .i64 0),(.bool false),(.string (ofL [])),(.slice none 0 0),(.slice none 0 0)] [(0,5,t44),(5,5,t46),(10,5,t47),(15,5,t50),(20,5,t53)] w23 fun t54 w24 =>
 (ldW false 1 t39 w24 fun x => x = t40) ∧
 callF Tryz.prog 38 [t41,t54] w24 fun t55 w25 =>
 (ldW false 1 t39 w25 fun x => x = t40) ∧
 bslW 67 1 [(.int .i64 0),(.bool false),(.string (ofL [])),(.slice none 0 0),(.slice none 0 0)] [(0,5,t55)] w25 fun t56 w26 =>
 (ldW false 1 t39 w26 fun x => x = t40) ∧
 semE Tryz.prog (Builtin.append_ #[65,65] 65 #[t40,t56]) w26 fun t57 w27 =>
 fldW 3 t4 fun t58 =>
 stW 1 t58 t57 w27 fun w28 =>
 J8 [] w28) ∧
 (
 callF Tryz.prog 37 [t43] w15.drew fun t44 w29 =>
 (ldW false 1 t51 w29 fun x => x = t52) ∧
 (ldW false 1 t48 w29 fun x => x = t49) ∧
 (ldW true 5 t7 w29 fun x => x = t47) ∧
 (ldW true 5 t45 w29 fun x => x = t46) ∧
 (ldW false 1 t39 w29 fun x => x = t40) ∧
 (
 bslW 9 5 [(.string (ofL [])),(.string (ofL [])),(.string (ofL [])),(.string (ofL [])),(.string (ofL []))] [(0,1,(.string (ofL [97,100,100,114]))),(1,1,(.string (ofL [97,116,116,114,115]))),(2,1,(.string (ofL [100,101,112,115]))),(3,1,(.string (ofL [105,100]))),(4,1,(.string (ofL [116,121,112,101])))] w29 fun t41 w30 =>
 (ldW false 1 t51 w30 fun x => x = t52) ∧
 (ldW false 1 t48 w30 fun x => x = t49) ∧
 (ldW true 5 t7 w30 fun x => x = t47) ∧
 (ldW true 5 t45 w30 fun x => x = t46) ∧
 (ldW false 1 t39 w30 fun x => x = t40) ∧
 callF Tryz.prog 37 [t49] w30 fun t50 w31 =>
 (ldW false 1 t51 w31 fun x => x = t52) ∧
 (ldW true 5 t7 w31 fun x => x = t47) ∧
 (ldW true 5 t45 w31 fun x => x = t46) ∧
 (ldW false 1 t39 w31 fun x => x = t40) ∧
 callF Tryz.prog 37 [t52] w31 fun t53 w32 =>
 (ldW true 5 t7 w32 fun x => x = t47) ∧
 (ldW true 5 t45 w32 fun x => x = t46) ∧
 (ldW false 1 t39 w32 fun x => x = t40) ∧
 bslW 67 5 [(.int .i64 0),(.bool false),(.string (ofL [])),(.slice none 0 0),(.slice none 0 0),(.int .i64 0),(.bool false),(.string (ofL [])),(.slice none 0 0),(.slice none 0 0),(.int .i64 0),(.bool false),(.string (ofL [])),(.slice none 0 0),(.slice none 0 0),(.int .i64 0),(.bool false),(.string (ofL [])),(.slice none 0 0),(.slice none 0 0),(.int .i64 0),(.bool false),(.string (ofL [])),(.slice none 0 0),(.slice none 0 0)] [(0,5,t44),(5,5,t46),(10,5,t47),(15,5,t50),(20,5,t53)] w32 fun t54 w33 =>
 (ldW false 1 t39 w33 fun x => x = t40) ∧
 callF Tryz.prog 38 [t41,t54] w33 fun t55 w34 =>
 (ldW false 1 t39 w34 fun x => x = t40) ∧
 bslW 67 1 [(.int .i64 0),(.bool false),(.string (ofL [])),(.slice none 0 0),(.slice none 0 0)] [(0,5,t55)] w34 fun t56 w35 =>
 (ldW false 1 t39 w35 fun x => x = t40) ∧
 semE Tryz.prog (Builtin.append_ #[65,65] 65 #[t40,t56]) w35 fun t57 w36 =>
 fldW 3 t4 fun t58 =>
 stW 1 t58 t57 w36 fun w37 =>
 J8 [] w37) ∧
 (
 callF Tryz.prog 37 [t49] w29 fun t50 w38 =>
 (ldW false 1 t51 w38 fun x => x = t52) ∧
 (ldW true 5 t7 w38 fun x => x = t47) ∧
 (ldW true 5 t45 w38 fun x => x = t46) ∧
 (ldW false 1 t39 w38 fun x => x = t40) ∧
 (
 bslW 9 5 [(.string (ofL [])),(.string (ofL [])),(.string (ofL [])),(.string (ofL [])),(.string (ofL []))] [(0,1,(.string (ofL [97,100,100,114]))),(1,1,(.string (ofL [97,116,116,114,115]))),(2,1,(.string (ofL [100,101,112,115]))),(3,1,(.string (ofL [105,100]))),(4,1,(.string (ofL [116,121,112,101])))] w38 fun t41 w39 =>
 (ldW false 1 t51 w39 fun x => x = t52) ∧
 (ldW true 5 t7 w39 fun x => x = t47) ∧
 (ldW true 5 t45 w39 fun x => x = t46) ∧
 (ldW false 1 t39 w39 fun x => x = t40) ∧
 callF Tryz.prog 37 [t52] w39 fun t53 w40 =>
 (ldW true 5 t7 w40 fun x => x = t47) ∧
 (ldW true 5 t45 w40 fun x => x = t46) ∧
 (ldW false 1 t39 w40 fun x => x = t40) ∧
 bslW 67 5 [(.int .i64 0),(.bool false),(.string (ofL [])),(.slice none 0 0),(.slice none 0 0),(.int .i64 0),(.bool false),(.string (ofL [])),(.slice none 0 0),(.slice none 0 0),(.int .i64 0),(.bool false),(.string (ofL [])),(.slice none 0 0),(.slice none 0 0),(.int .i64 0),(.bool false),(.string (ofL [])),(.slice none 0 0),(.slice none 0 0),(.int .i64 0),(.bool false),(.string (ofL [])),(.slice none 0 0),(.slice none 0 0)] [(0,5,t44),(5,5,t46),(10,5,t47),(15,5,t50),(20,5,t53)] w40 fun t54 w41 =>
 (ldW false 1 t39 w41 fun x => x = t40) ∧
 callF Tryz.prog 38 [t41,t54] w41 fun t55 w42 =>
 (ldW false 1 t39 w42 fun x => x = t40) ∧
 bslW 67 1 [(.int .i64 0),(.bool false),(.string (ofL [])),(.slice none 0 0),(.slice none 0 0)] [(0,5,t55)] w42 fun t56 w43 =>
 (ldW false 1 t39 w43 fun x => x = t40) ∧
 semE Tryz.prog (Builtin.append_ #[65,65] 65 #[t40,t56]) w43 fun t57 w44 =>
 fldW 3 t4 fun t58 =>
 stW 1 t58 t57 w44 fun w45 =>
 J8 [] w45) ∧
 (
 callF Tryz.prog 37 [t52] w38 fun t53 w46 =>
 (ldW true 5 t7 w46 fun x => x = t47) ∧
 (ldW true 5 t45 w46 fun x => x = t46) ∧
 (ldW false 1 t39 w46 fun x => x = t40) ∧
 (
 bslW 9 5 [(.string (ofL [])),(.string (ofL [])),(.string (ofL [])),(.string (ofL [])),(.string (ofL []))] [(0,1,(.string (ofL [97,100,100,114]))),(1,1,(.string (ofL [97,116,116,114,115]))),(2,1,(.string (ofL [100,101,112,115]))),(3,1,(.string (ofL [105,100]))),(4,1,(.string (ofL [116,121,112,101])))] w46 fun t41 w47 =>
 (ldW true 5 t7 w47 fun x => x = t47) ∧
 (ldW true 5 t45 w47 fun x => x = t46) ∧
 (ldW false 1 t39 w47 fun x => x = t40) ∧
 bslW 67 5 [(.int .i64 0),(.bool false),(.string (ofL [])),(.slice none 0 0),(.slice none 0 0),(.int .i64 0),(.bool false),(.string (ofL [])),(.slice none 0 0),(.slice none 0 0),(.int .i64 0),(.bool false),(.string (ofL [])),(.slice none 0 0),(.slice none 0 0),(.int .i64 0),(.bool false),(.string (ofL [])),(.slice none 0 0),(.slice none 0 0),(.int .i64 0),(.bool false),(.string (ofL [])),(.slice none 0 0),(.slice none 0 0)] [(0,5,t44),(5,5,t46),(10,5,t47),(15,5,t50),(20,5,t53)] w47 fun t54 w48 =>
 (ldW false 1 t39 w48 fun x => x = t40) ∧
 callF Tryz.prog 38 [t41,t54] w48 fun t55 w49 =>
 (ldW false 1 t39 w49 fun x => x = t40) ∧
 bslW 67 1 [(.int .i64 0),(.bool false),(.string (ofL [])),(.slice none 0 0),(.slice none 0 0)] [(0,5,t55)] w49 fun t56 w50 =>
 (ldW false 1 t39 w50 fun x => x = t40) ∧
 semE Tryz.prog (Builtin.append_ #[65,65] 65 #[t40,t56]) w50 fun t57 w51 =>
 fldW 3 t4 fun t58 =>
 stW 1 t58 t57 w51 fun w52 =>
 J8 [] w52) ∧
 (
 bslW 67 5 [(.int .i64 0),(.bool false),(.string (ofL [])),(.slice none 0 0),(.slice none 0 0),(.int .i64 0),(.bool false),(.string (ofL [])),(.slice none 0 0),(.slice none 0 0),(.int .i64 0),(.bool false),(.string (ofL [])),(.slice none 0 0),(.slice none 0 0),(.int .i64 0),(.bool false),(.string (ofL [])),(.slice none 0 0),(.slice none 0 0),(.int .i64 0),(.bool false),(.string (ofL [])),(.slice none 0 0),(.slice none 0 0)] [(0,5,t44),(5,5,t46),(10,5,t47),(15,5,t50),(20,5,t53)] w46 fun t54 w53 =>
 (ldW false 1 t39 w53 fun x => x = t40) ∧
 bslW 9 5 [(.string (ofL [])),(.string (ofL [])),(.string (ofL [])),(.string (ofL [])),(.string (ofL []))] [(0,1,(.string (ofL [97,100,100,114]))),(1,1,(.string (ofL [97,116,116,114,115]))),(2,1,(.string (ofL [100,101,112,115]))),(3,1,(.string (ofL [105,100]))),(4,1,(.string (ofL [116,121,112,101])))] w53 fun t41 w54 =>
 (ldW false 1 t39 w54 fun x => x = t40) ∧
 callF Tryz.prog 38 [t41,t54] w54 fun t55 w55 =>
 (ldW false 1 t39 w55 fun x => x = t40) ∧
 bslW 67 1 [(.int .i64 0),(.bool false),(.string (ofL [])),(.slice none 0 0),(.slice none 0 0)] [(0,5,t55)] w55 fun t56 w56 =>
 (ldW false 1 t39 w56 fun x => x = t40) ∧
 semE Tryz.prog (Builtin.append_ #[65,65] 65 #[t40,t56]) w56 fun t57 w57 =>
 fldW 3 t4 fun t58 =>
 stW 1 t58 t57 w57 fun w58 =>
 J8 [] w58))))))
 fun s8 _ w59 =>
 binW .add (s6.getD 0 undef) (.int .i64 1) fun t59 =>
 L6 [t59] w59) (
 JoinW (fun J60 =>
 ldW true 5 t4 w7.drew fun t62 =>
 fldW 0 t1 fun t63 =>
 ldW false 1 t63 w7.drew fun t64 =>
 (
 bslW 9 2 [(.string (ofL [])),(.string (ofL []))] [(0,1,(.string (ofL [114,101,99,111,114,100,115]))),(1,1,(.string (ofL [115,101,114,105,97,108])))] w7.drew fun t61 w61 =>
 (ldW false 1 t63 w61 fun x => x = t64) ∧
 (ldW true 5 t4 w61 fun x => x = t62) ∧
 callF Tryz.prog 40 [t64] w61 fun t65 w62 =>
 (ldW true 5 t4 w62 fun x => x = t62) ∧
 bslW 67 2 [(.int .i64 0),(.bool false),(.string (ofL [])),(.slice none 0 0),(.slice none 0 0),(.int .i64 0),(.bool false),(.string (ofL [])),(.slice none 0 0),(.slice none 0 0)] [(0,5,t62),(5,5,t65)] w62 fun t66 w63 =>
 callF Tryz.prog 38 [t61,t66] w63 fun t67 w64 =>
 callF Tryz.prog 39 [t67] w64 fun t68 w65 =>
 extW 0 t68 fun t69 =>
 extW 1 t68 fun t70 =>
 J60 [t69,t70] w65) ∧
 (
 callF Tryz.prog 40 [t64] w7.drew fun t65 w66 =>
 (ldW true 5 t4 w66 fun x => x = t62) ∧
 (
 bslW 9 2 [(.string (ofL [])),(.string (ofL []))] [(0,1,(.string (ofL [114,101,99,111,114,100,115]))),(1,1,(.string (ofL [115,101,114,105,97,108])))] w66 fun t61 w67 =>
 (ldW true 5 t4 w67 fun x => x = t62) ∧
 bslW 67 2 [(.int .i64 0),(.bool false),(.string (ofL [])),(.slice none 0 0),(.slice none 0 0),(.int .i64 0),(.bool false),(.string (ofL [])),(.slice none 0 0),(.slice none 0 0)] [(0,5,t62),(5,5,t65)] w67 fun t66 w68 =>
 callF Tryz.prog 38 [t61,t66] w68 fun t67 w69 =>
 callF Tryz.prog 39 [t67] w69 fun t68 w70 =>
 extW 0 t68 fun t69 =>
 extW 1 t68 fun t70 =>
 J60 [t69,t70] w70) ∧
 (
 bslW 67 2 [(.int .i64 0),(.bool false),(.string (ofL [])),(.slice none 0 0),(.slice none 0 0),(.int .i64 0),(.bool false),(.string (ofL [])),(.slice none 0 0),(.slice none 0 0)] [(0,5,t62),(5,5,t65)] w66 fun t66 w71 =>
 bslW 9 2 [(.string (ofL [])),(.string (ofL []))] [(0,1,(.string (ofL [114,101,99,111,114,100,115]))),(1,1,(.string (ofL [115,101,114,105,97,108])))] w71 fun t61 w72 =>
 callF Tryz.prog 38 [t61,t66] w72 fun t67 w73 =>
 callF Tryz.prog 39 [t67] w73 fun t68 w74 =>
 extW 0 t68 fun t69 =>
 extW 1 t68 fun t70 =>
 J60 [t69,t70] w74)))
 fun s60 _ w75 =>
 binW .neq (s60.getD 1 undef) (.int .i64 0) fun t72 =>
 condW t72 (
 K (.tuple #[(.slice none 0 0),(.int .i64 3)]) w75) (
 semE Tryz.prog (convert 9 50 (s60.getD 0 undef)) w75 fun t74 w76 =>
 K (.tuple #[t74,(.int .i64 0)]) w76)))
theorem W26_ok {v0 : Value} {w : World} {K : Value → World → Prop} (h : W26 v0 w K) : callF Tryz.prog 26 [v0] w K :=
 tie _ 26 Tryz.f26 plan26 _ w K 1 _ rfl mixed Tryz.func26 (by kernel_rfl) (by kernel_rfl) Tryz.call26 h
def plan27 : Plan := { js := [],ds := [(33,⟨[0,1,2,3,4,5],[[],[0],[0,1],[0,1,2],[],[],[0,1,2,3,4,5]]⟩)] }
def W27 (v0 v1 v2 : Value) (w : World) (K : Value → World → Prop) : Prop :=
 callF Tryz.prog 34 [v1] w fun t10 w1 =>
 unW .not t10 fun t11 =>
 condW t11 (
 K (.int .i64 6) w1) (
 callF Tryz.prog 41 [v0,v1,v2] w1 fun t15 w2 =>
 unW .not t15 fun t16 =>
 condW t16 (
 K (.int .i64 3) w2) (
 callF Tryz.prog 35 [v0] w2 fun t18 w3 =>
 binW .neq t18 (.int .i64 0) fun t20 =>
 condW t20 (
 K t18 w3) (
 nilW v0 fun t23 =>
 fldW 0 t23 fun t24 =>
 ldW false 1 t24 w3 fun t25 =>
 semQ Tryz.prog (Instr.lookup 47 t25 v1 false) w3 fun t27 =>
 allocW 56 [(.slice none 0 0),(.slice none 0 0),(.int .i64 0)] w3 fun t8 w4 =>
 stW 3 t8 t27 w4 fun w5 =>
 callF Tryz.prog 24 [v2] w5 fun t29 w6 =>
 fldW 0 t8 fun t30 =>
 stW 1 t30 t29 w6 fun w7 =>
 nilW v0 fun t32 =>
 fldW 0 t32 fun t33 =>
 ldW false 1 t33 w7.drew fun t34 =>
 ldW true 3 t8 w7.drew fun t36 =>
 semU Tryz.prog (Instr.mapUpdate 47 t34 v1 t36) w7.drew fun w8 =>
 K (.int .i64 0) w8)))
theorem W27_ok {v0 v1 v2 : Value} {w : World} {K : Value → World → Prop} (h : W27 v0 v1 v2 w K) : callF Tryz.prog 27 [v0,v1,v2] w K :=
 tie _ 27 Tryz.f27 plan27 _ w K 3 _ rfl mixed Tryz.func27 (by kernel_rfl) (by kernel_rfl) Tryz.call27 h
def plan28 : Plan := { js := [(7005,⟨[26],[],24⟩)],ds := [(32,⟨[0,1,2,3,4,5],[[],[0],[0,1],[0,1,2],[],[],[0,1,2,3,4,5]]⟩)] }
def W28 (v0 v1 v2 : Value) (w : World) (K : Value → World → Prop) : Prop :=
 nilW v0 fun t12 =>
 fldW 0 t12 fun t13 =>
 ldW false 1 t13 w fun t14 =>
 semQ Tryz.prog (Instr.lookup 47 t14 v1 true) w fun t16 =>
 extW 0 t16 fun t17 =>
 extW 1 t16 fun t18 =>
 allocW 56 [(.slice none 0 0),(.slice none 0 0),(.int .i64 0)] w fun t7 w1 =>
 stW 3 t7 t17 w1 fun w2 =>
 callF Tryz.prog 34 [v1] w2 fun t21 w3 =>
 unW .not t21 fun t22 =>
 GdW (isB t22 false) [undef] w3 (fun J4 =>
 callF Tryz.prog 34 [v2] w3 fun t25 w5 =>
 unW .not t25 fun t26 =>
 J4 [t26] w5)
 fun s4 _ w6 =>
 pickW t22 (.bool true) (s4.getD 0 undef) fun t27 =>
 condW t27 (
 K (.int .i64 6) w6) (
 unW .not t18 fun t30 =>
 condW t30 (
 K (.int .i64 4) w6) (
 callF Tryz.prog 35 [v0] w6 fun t32 w7 =>
 binW .neq t32 (.int .i64 0) fun t34 =>
 condW t34 (
 K t32 w7) (
 nilW v0 fun t37 =>
 fldW 0 t37 fun t38 =>
 ldW false 1 t38 w7 fun t39 =>
 semE Tryz.prog (Builtin.delete_ #[47,9] 0 #[t39,v1]) w7 fun _ w8 =>
 nilW v0 fun t42 =>
 fldW 0 t42 fun t43 =>
 ldW false 1 t43 w8.drew fun t44 =>
 ldW true 3 t7 w8.drew fun t46 =>
 semU Tryz.prog (Instr.mapUpdate 47 t44 v2 t46) w8.drew fun w9 =>
 K (.int .i64 0) w9)))
theorem W28_ok {v0 v1 v2 : Value} {w : World} {K : Value → World → Prop} (h : W28 v0 v1 v2 w K) : callF Tryz.prog 28 [v0,v1,v2] w K :=
 tie _ 28 Tryz.f28 plan28 _ w K 3 _ rfl mixed Tryz.func28 (by kernel_rfl) (by kernel_rfl) Tryz.call28 h
def plan29 : Plan := { js := [(41004,⟨[87],[],85⟩),(36003,⟨[73],[],73⟩),(22,⟨[7,62],[7,11,12,13],62⟩),(8006,⟨[44],[],40⟩),(8013,⟨[37],[],33⟩),(8017,⟨[30],[],29⟩)],ds := [] }
def W29 (v0 : Value) (w : World) (K : Value → World → Prop) : Prop :=
 allocW 38 [(.int .i64 0),(.slice none 0 0)] w fun t2 w1 =>
 semQ Tryz.prog (convert 50 9 v0) w1 fun t16 =>
 callF Tryz.prog 42 [t16] w1 fun t17 w2 =>
 extW 0 t17 fun t18 =>
 extW 1 t17 fun t19 =>
 allocW 67 [(.int .i64 0),(.bool false),(.string (ofL [])),(.slice none 0 0),(.slice none 0 0)] w2 fun t4 w3 =>
 stW 5 t4 t18 w3 fun w4 =>
 ldW true 5 t4 w4 fun t21 =>
 bslW 9 2 [(.string (ofL [])),(.string (ofL []))] [(0,1,(.string (ofL [114,101,99,111,114,100,115]))),(1,1,(.string (ofL [115,101,114,105,97,108])))] w4 fun t22 w5 =>
 callF Tryz.prog 43 [t21,t22] w5 fun t23 w6 =>
 extW 0 t23 fun t24 =>
 extW 1 t23 fun t25 =>
 eqW .ptr true t19 (.pointer none) fun t27 =>
 GdW (isB t27 false) [undef] w6 (fun J7 =>
 unW .not t25 fun t30 =>
 J7 [t30] w6)
 fun s7 _ w8 =>
 pickW t27 (.bool true) (s7.getD 0 undef) fun t31 =>
 GdW (isB t31 false) [undef] w8 (fun J9 =>
 ixaW none 5 t24 (.int .i64 0) fun t34 =>
 fldW 0 t34 fun t35 =>
 ldW false 1 t35 w8 fun t36 =>
 binW .neq t36 (.int .i64 5) fun t37 =>
 J9 [t37] w8)
 fun s9 _ w10 =>
 pickW t31 (.bool true) (s9.getD 0 undef) fun t38 =>
 GdW (isB t38 false) [undef] w10 (fun J11 =>
 ixaW none 5 t24 (.int .i64 1) fun t41 =>
 fldW 0 t41 fun t42 =>
 ldW false 1 t42 w10 fun t43 =>
 binW .neq t43 (.int .i64 3) fun t44 =>
 J11 [t44] w10)
 fun s11 _ w12 =>
 pickW t38 (.bool true) (s11.getD 0 undef) fun t45 =>
 condW t45 (
 putW [(.int .i64 0),(.slice none 0 0)] [] fun c13 =>
 stW 2 t2 (.agg c13.toArray) w12 fun w14 =>
 ldW true 2 t2 w14 fun r15 =>
 K (.tuple #[r15,(.int .i64 150)]) w14) (
 ixaW none 5 t24 (.int .i64 1) fun t49 =>
 fldW 2 t49 fun t50 =>
 ldW false 1 t50 w12 fun t51 =>
 callF Tryz.prog 44 [t51] w12 fun t52 w16 =>
 extW 0 t52 fun t53 =>
 extW 1 t52 fun t54 =>
 putW [(.int .i64 0),(.slice none 0 0)] [(0,1,t53)] fun c17 =>
 allocW 38 [(.int .i64 0),(.slice none 0 0)] w16 fun t9 w18 =>
 stW 2 t9 (.agg c17.toArray) w18 fun w19 =>
 ixaW none 5 t24 (.int .i64 0) fun t58 =>
 fldW 3 t58 fun t59 =>
 ldW false 1 t59 w19 fun t60 =>
 lenlW t60 fun t61 =>
 LoopW [t54,(.int .i64 0)] w19 fun s20 _ w21 L20 =>
 binW .lss (s20.getD 1 undef) t61 fun t63 =>
 condW t63 (
 ixaW none 5 t60 (s20.getD 1 undef) fun t64 =>
 ldW true 5 t64 w21 fun t65 =>
 allocW 67 [(.int .i64 0),(.bool false),(.string (ofL [])),(.slice none 0 0),(.slice none 0 0)] w21 fun t11 w22 =>
 stW 5 t11 t65 w22 fun w23 =>
 ldW true 5 t11 w23 fun t67 =>
 callF Tryz.prog 45 [t67] w23 fun t68 w24 =>
 extW 0 t68 fun t69 =>
 extW 1 t68 fun t70 =>
 allocW 69 [(.string (ofL [])),(.string (ofL [])),(.string (ofL [])),(.int .i64 0),(.bool false),(.string (ofL [])),(.slice none 0 0),(.slice none 0 0),(.slice none 0 0)] w24 fun t12 w25 =>
 stW 9 t12 t69 w25 fun w26 =>
 GdW (isB (s20.getD 0 undef) true) [undef] w26 (fun J27 =>
 J27 [t70] w26)
 fun s27 _ w28 =>
 pickW (s20.getD 0 undef) (s27.getD 0 undef) (.bool false) fun t74 =>
 fldW 1 t9 fun t75 =>
 ldW false 1 t75 w28 fun t76 =>
 ldW true 9 t12 w28 fun t77 =>
 bslW 69 1 [(.string (ofL [])),(.string (ofL [])),(.string (ofL [])),(.int .i64 0),(.bool false),(.string (ofL [])),(.slice none 0 0),(.slice none 0 0),(.slice none 0 0)] [(0,9,t77)] w28 fun t78 w29 =>
 semE Tryz.prog (Builtin.append_ #[36,36] 36 #[t76,t78]) w29 fun t79 w30 =>
 fldW 1 t9 fun t80 =>
 stW 1 t80 t79 w30 fun w31 =>
 binW .add (s20.getD 1 undef) (.int .i64 1) fun t81 =>
 L20 [t74,t81] w31) (
 unW .not (s20.getD 0 undef) fun t83 =>
 GdW (isB t83 false) [undef] w21 (fun J32 =>
 ldW true 2 t9 w21 fun t85 =>
 callF Tryz.prog 36 [t85] w21 fun t86 w33 =>
 unW .not t86 fun t87 =>
 J32 [t87] w33)
 fun s32 _ w34 =>
 pickW t83 (.bool true) (s32.getD 0 undef) fun t88 =>
 condW t88 (
 putW [(.int .i64 0),(.slice none 0 0)] [] fun c35 =>
 stW 2 t2 (.agg c35.toArray) w34 fun w36 =>
 ldW true 2 t2 w36 fun r37 =>
 K (.tuple #[r37,(.int .i64 150)]) w36) (
 ldW true 2 t9 w34 fun t90 =>
 stW 2 t2 t90 w34 fun w38 =>
 ldW true 2 t2 w38 fun r39 =>
 K (.tuple #[r39,(.int .i64 0)]) w38)))
theorem W29_ok {v0 : Value} {w : World} {K : Value → World → Prop} (h : W29 v0 w K) : callF Tryz.prog 29 [v0] w K :=
 tie _ 29 Tryz.f29 plan29 _ w K 1 _ rfl mixed Tryz.func29 (by kernel_rfl) (by kernel_rfl) Tryz.call29 h
def plan30 : Plan := { js := [],ds := [] }
def W30 (v0 : Value) (w : World) (K : Value → World → Prop) : Prop :=
 eqW .map false v0 (.map none) fun t4 =>
 condW t4 (
 K (.map none) w) (
 callF Tryz.prog 46 [(.iface 47 v0)] w fun t7 w1 =>
 semQ Tryz.prog (Instr.typeAssert t7 20 47 false) w1 fun t8 =>
 K t8 w1)
theorem W30_ok {v0 : Value} {w : World} {K : Value → World → Prop} (h : W30 v0 w K) : callF Tryz.prog 30 [v0] w K :=
 tie _ 30 Tryz.f30 plan30 _ w K 1 _ rfl mixed Tryz.func30 (by kernel_rfl) (by kernel_rfl) Tryz.call30 h
def plan31 : Plan := { js := [(3007,⟨[36],[],32⟩),(3014,⟨[29],[],25⟩),(3021,⟨[22],[],18⟩),(3028,⟨[15],[],11⟩)],ds := [] }
def W31 (v0 v1 : Value) (w : World) (K : Value → World → Prop) : Prop :=
 boxW 69 v0 w fun t2 w1 =>
 boxW 69 v1 w1 fun t3 w2 =>
 fldW 0 t2 fun t5 =>
 ldW false 1 t5 w2 fun t6 =>
 fldW 0 t3 fun t7 =>
 ldW false 1 t7 w2 fun t8 =>
 binW .eql t6 t8 fun t9 =>
 GdW (isB t9 true) [undef] w2 (fun J3 =>
 fldW 1 t2 fun t11 =>
 ldW false 1 t11 w2 fun t12 =>
 fldW 1 t3 fun t13 =>
 ldW false 1 t13 w2 fun t14 =>
 binW .eql t12 t14 fun t15 =>
 J3 [t15] w2)
 fun s3 _ w4 =>
 pickW t9 (s3.getD 0 undef) (.bool false) fun t16 =>
 GdW (isB t16 true) [undef] w4 (fun J5 =>
 fldW 2 t2 fun t18 =>
 ldW false 1 t18 w4 fun t19 =>
 fldW 2 t3 fun t20 =>
 ldW false 1 t20 w4 fun t21 =>
 binW .eql t19 t21 fun t22 =>
 J5 [t22] w4)
 fun s5 _ w6 =>
 pickW t16 (s5.getD 0 undef) (.bool false) fun t23 =>
 GdW (isB t23 true) [undef] w6 (fun J7 =>
 fldW 3 t2 fun t25 =>
 ldW true 5 t25 w6 fun t26 =>
 fldW 3 t3 fun t27 =>
 ldW true 5 t27 w6 fun t28 =>
 callF Tryz.prog 47 [t26,t28] w6 fun t29 w8 =>
 J7 [t29] w8)
 fun s7 _ w9 =>
 pickW t23 (s7.getD 0 undef) (.bool false) fun t30 =>
 GdW (isB t30 true) [undef] w9 (fun J10 =>
 fldW 8 t2 fun t32 =>
 ldW false 1 t32 w9 fun t33 =>
 fldW 8 t3 fun t34 =>
 ldW false 1 t34 w9 fun t35 =>
 callF Tryz.prog 48 [t33,t35] w9 fun t36 w11 =>
 J10 [t36] w11)
 fun s10 _ w12 =>
 pickW t30 (s10.getD 0 undef) (.bool false) fun t37 =>
 K t37 w12
theorem W31_ok {v0 v1 : Value} {w : World} {K : Value → World → Prop} (h : W31 v0 v1 w K) : callF Tryz.prog 31 [v0,v1] w K :=
 tie _ 31 Tryz.f31 plan31 _ w K 2 _ rfl mixed Tryz.func31 (by kernel_rfl) (by kernel_rfl) Tryz.call31 h
def plan34 : Plan := { js := [(3005,⟨[14],[],12⟩),(3010,⟨[9],[],7⟩)],ds := [] }
def W34 (v0 : Value) (w : World) (K : Value → World → Prop) : Prop :=
 lensW v0 fun t4 =>
 binW .geq t4 (.int .i64 1) fun t5 =>
 GdW (isB t5 true) [undef] w (fun J1 =>
 lensW v0 fun t8 =>
 binW .leq t8 (.int .i64 64) fun t9 =>
 J1 [t9] w)
 fun s1 _ w2 =>
 pickW t5 (s1.getD 0 undef) (.bool false) fun t10 =>
 GdW (isB t10 true) [undef] w2 (fun J3 =>
 callF Tryz.prog 52 [v0,(.string (ofL [0,10,32]))] w2 fun t13 w4 =>
 unW .not t13 fun t14 =>
 J3 [t14] w4)
 fun s3 _ w5 =>
 pickW t10 (s3.getD 0 undef) (.bool false) fun t15 =>
 K t15 w5
theorem W34_ok {v0 : Value} {w : World} {K : Value → World → Prop} (h : W34 v0 w K) : callF Tryz.prog 34 [v0] w K :=
 tie _ 34 Tryz.f34 plan34 _ w K 1 _ rfl mixed Tryz.func34 (by kernel_rfl) (by kernel_rfl) Tryz.call34 h
def plan35 : Plan := { js := [(12,⟨[],[],1⟩),(4006,⟨[12],[],8⟩)],ds := [] }
def W35 (v0 : Value) (w : World) (K : Value → World → Prop) : Prop :=
 nilW v0 fun t4 =>
 fldW 3 t4 fun t5 =>
 ldW false 1 t5 w fun t6 =>
 GdW (isB t6 false) [undef] w (fun J1 =>
 nilW v0 fun t9 =>
 fldW 2 t9 fun t10 =>
 ldW false 1 t10 w fun t11 =>
 binW .eql t11 (.int .i64 0) fun t12 =>
 J1 [t12] w)
 fun s1 _ w2 =>
 pickW t6 (.bool true) (s1.getD 0 undef) fun t13 =>
 condW t13 (
 nilW v0 fun t15 =>
 fldW 3 t15 fun t16 =>
 stW 1 t16 (.bool true) w2 fun w3 =>
 K (.int .i64 5) w3) (
 JoinW (fun J4 =>
 nilW v0 fun t18 =>
 fldW 2 t18 fun t19 =>
 ldW false 1 t19 w2 fun t20 =>
 binW .gtr t20 (.int .i64 0) fun t21 =>
 condW t21 (
 nilW v0 fun t23 =>
 fldW 2 t23 fun t24 =>
 ldW false 1 t24 w2 fun t25 =>
 binW .sub t25 (.int .i64 1) fun t26 =>
 nilW v0 fun t27 =>
 fldW 2 t27 fun t28 =>
 stW 1 t28 t26 w2 fun w5 =>
 J4 [] w5) (
 J4 [] w2))
 fun s4 _ w6 =>
 nilW v0 fun t30 =>
 fldW 1 t30 fun t31 =>
 ldW false 1 t31 w6 fun t32 =>
 binW .add t32 (.int .i64 1) fun t33 =>
 nilW v0 fun t34 =>
 fldW 1 t34 fun t35 =>
 stW 1 t35 t33 w6 fun w7 =>
 K (.int .i64 0) w7)
theorem W35_ok {v0 : Value} {w : World} {K : Value → World → Prop} (h : W35 v0 w K) : callF Tryz.prog 35 [v0] w K :=
 tie _ 35 Tryz.f35 plan35 _ w K 1 _ rfl mixed Tryz.func35 (by kernel_rfl) (by kernel_rfl) Tryz.call35 h
def plan36 : Plan := { js := [(57005,⟨[102],[],100⟩),(48002,⟨[92],[],81⟩),(48010,⟨[91],[],84⟩),(48013,⟨[83],[],81⟩),(36,⟨[72],[2,5,6],72⟩),(27005,⟨[67],[],64⟩),(27011,⟨[61],[],58⟩),(27017,⟨[55],[],52⟩),(6,⟨[10],[2,3,4,5,6],10⟩)],ds := [(19,⟨[0,1,2,3,4,5,6,7,8,9,10,11,12,13,14,15,16,18,19,20,21,22,24,25,26,27,28,30,31],[[],[0],[0,1],[0,1,2],[0,1,2,3],[0,1,2],[0,1,2,5],[0,1,2,3,4,5,6],[0,1,2,3,4,5,6,7],[0,1,2,3,4,5,6,7,8],[0,1,2],[0,1,2,10],[0,1,2,3,4,5,6,7,8,9,10,11],[0,1,2,3,4,5,6,7,8,9,10,11,12],[0,1,2,3,4,5,6,7,8,9,10,11,12,13],[0,1,2,3,4,5,6,7,8,9,10,11,12,13,14],[0,1,2,3,4,5,6,7,8,9,10,11,12,13,14,15],[0,1,2,3,4,5,6,7,8,9,10,11,12,13,14,15,16],[0,1,2,3,4,5,6,7,8,9,10,11,12,13,14,15,16,17],[0,1,2,3,4,5,6,7,8,9,10,11,12,13,14,15,16,17,18],[0,1,2,3,4,5,6,7,8,9,10,11,12,13,14,15,16,17,18,19],[0,1,2,3,4,5,6,7,8,9,10,11,12,13,14,15,16,17,18,19,20],[0,1,2,3,4,5,6,7,8,9,10,11,12,13,14,15,16,17,18,19,20,21],[0,1,2,3,4,5,6,7,8,9,10,11,12,13,14,15,16,17,18,19,20,21,22],[0,1,2,3,4,5,6,7,8,9,10,11,12,13,14,15,16,17,18,19,20,21,22,23],[0,1,2,3,4,5,6,7,8,9,10,11,12,13,14,15,16,17,18,19,20,21,22,23,24],[0,1,2,3,4,5,6,7,8,9,10,11,12,13,14,15,16,17,18,19,20,21,22,23,24,25],[0,1,2,3,4,5,6,7,8,9,10,11,12,13,14,15,16,17,18,19,20,21,22,23,24,25,26],[0,1,2,3,4,5,6,7,8,9,10,11,12,13,14,15,16,17,18,19,20,21,22,23,24,25,26,27],[0,1,2,3,4,5,6,7,8,9,10,11,12,13,14,15,16,17,18,19,20,21,22,23,24,25,26,27,28],[0,1,2,3,4,5,6,7,8,9,10,11,12,13,14,15,16,17,18,19,20,21,22,23,24,25,26,27,28,29],[0,1,2,3,4,5,6,7,8,9,10,11,12,13,14,15,16,17,18,19,20,21,22,23,24,25,26,27,28,29,30]]⟩)] }
def W36 (v0 : Value) (w : World) (K : Value → World → Prop) : Prop :=
 boxW 38 v0 w fun t1 w1 =>
 fldW 1 t1 fun t7 =>
 ldW false 1 t7 w1 fun t8 =>
 lenlW t8 fun t9 =>
 LoopW [(.int .i64 0)] w1 fun s2 _ w3 L2 =>
 binW .lss (s2.getD 0 undef) t9 fun t11 =>
 condW t11 (
 ixaW none 9 t8 (s2.getD 0 undef) fun t13 =>
 ldW true 9 t13 w3 fun t14 =>
 allocW 69 [(.string (ofL [])),(.string (ofL [])),(.string (ofL [])),(.int .i64 0),(.bool false),(.string (ofL [])),(.slice none 0 0),(.slice none 0 0),(.slice none 0 0)] w3 fun t4 w4 =>
 stW 9 t4 t14 w4 fun w5 =>
 binW .gtr (s2.getD 0 undef) (.int .i64 0) fun t16 =>
 GqW (isB t16 true) (fun k6 => fldW 1 t1 k6) fun t18 =>
 GqW (isB t16 true) (fun k7 => ldW false 1 t18 w5.drew k7) fun t19 =>
 GqW (isB t16 true) (fun k8 => k8 (s2.getD 0 undef)) fun t20 =>
 GqW (isB t16 true) (fun k9 => binW .sub t20 (.int .i64 1) k9) fun t21 =>
 GqW (isB t16 true) (fun k10 => ixaW none 9 t19 t21 k10) fun t22 =>
 GqW (isB t16 true) (fun k11 => fldW 0 t22 k11) fun t23 =>
 GqW (isB t16 true) (fun k12 => ldW false 1 t23 w5.drew k12) fun t24 =>
 GqW (isB t16 true) (fun k13 => fldW 0 t4 k13) fun t25 =>
 GqW (isB t16 true) (fun k14 => ldW false 1 t25 w5.drew k14) fun t26 =>
 GqW (isB t16 true) (fun k15 => binW .geq t24 t26 k15) fun t27 =>
 pickW t16 t27 (.bool false) fun t28 =>
 GqW (isB t28 false) (fun k16 => fldW 0 t4 k16) fun t30 =>
 GqW (isB t28 false) (fun k17 => ldW false 1 t30 w5.drew k17) fun t31 =>
 GeW (isB t28 false) w5.drew (fun k18 => callF Tryz.prog 53 [t31] w5.drew k18) fun t32 w19 =>
 GqW (isB t28 false) (fun k20 => unW .not t32 k20) fun t33 =>
 pickW t28 (.bool true) t33 fun t34 =>
 GqW (isB t34 false) (fun k21 => fldW 1 t4 k21) fun t36 =>
 GqW (isB t34 false) (fun k22 => ldW false 1 t36 w19 k22) fun t37 =>
 GeW (isB t34 false) w19 (fun k23 => callF Tryz.prog 53 [t37] w19 k23) fun t38 w24 =>
 GqW (isB t34 false) (fun k25 => unW .not t38 k25) fun t39 =>
 pickW t34 (.bool true) t39 fun t40 =>
 GqW (isB t40 false) (fun k26 => fldW 2 t4 k26) fun t42 =>
 GqW (isB t40 false) (fun k27 => ldW false 1 t42 w24 k27) fun t43 =>
 GeW (isB t40 false) w24 (fun k28 => callF Tryz.prog 53 [t43] w24 k28) fun t44 w29 =>
 GqW (isB t40 false) (fun k30 => unW .not t44 k30) fun t45 =>
 pickW t40 (.bool true) t45 fun t46 =>
 condW t46 (
 K (.bool false) w29) (
 fldW 3 t4 fun t47 =>
 fldW 0 t47 fun t48 =>
 ldW false 1 t48 w29 fun t49 =>
 binW .neq t49 (.int .i64 6) fun t50 =>
 GdW (isB t50 false) [undef] w29 (fun J31 =>
 fldW 3 t4 fun t52 =>
 ldW true 5 t52 w29 fun t53 =>
 callF Tryz.prog 54 [t53] w29 fun t54 w32 =>
 unW .not t54 fun t55 =>
 J31 [t55] w32)
 fun s31 _ w33 =>
 pickW t50 (.bool true) (s31.getD 0 undef) fun t56 =>
 GdW (isB t56 false) [undef] w33 (fun J34 =>
 fldW 3 t4 fun t58 =>
 ldW true 5 t58 w33 fun t59 =>
 callF Tryz.prog 55 [t59] w33 fun t60 w35 =>
 unW .not t60 fun t61 =>
 J34 [t61] w35)
 fun s34 _ w36 =>
 pickW t56 (.bool true) (s34.getD 0 undef) fun t62 =>
 GdW (isB t62 false) [undef] w36 (fun J37 =>
 fldW 3 t4 fun t64 =>
 ldW true 5 t64 w36 fun t65 =>
 callF Tryz.prog 56 [t65] w36 fun t66 w38 =>
 unW .not t66 fun t67 =>
 J37 [t67] w38)
 fun s37 _ w39 =>
 pickW t62 (.bool true) (s37.getD 0 undef) fun t68 =>
 condW t68 (
 K (.bool false) w39) (
 fldW 8 t4 fun t69 =>
 ldW false 1 t69 w39 fun t70 =>
 lenlW t70 fun t71 =>
 LoopW [(.int .i64 0)] w39 fun s40 _ w41 L40 =>
 binW .lss (s40.getD 0 undef) t71 fun t73 =>
 condW t73 (
 ixaW none 1 t70 (s40.getD 0 undef) fun t75 =>
 ldW false 1 t75 w41 fun t76 =>
 callF Tryz.prog 53 [t76] w41 fun t78 w42 =>
 unW .not t78 fun t79 =>
 GdW (isB t79 false) [undef] w42 (fun J43 =>
 binW .gtr (s40.getD 0 undef) (.int .i64 0) fun t82 =>
 J43 [t82] w42)
 fun s43 _ w44 =>
 GdW (isB (s43.getD 0 undef) true) [undef] w44 (fun J45 =>
 fldW 8 t4 fun t84 =>
 ldW false 1 t84 w44 fun t85 =>
 binW .sub (s40.getD 0 undef) (.int .i64 1) fun t87 =>
 ixaW none 1 t85 t87 fun t88 =>
 ldW false 1 t88 w44 fun t89 =>
 binW .geq t89 t76 fun t91 =>
 J45 [t91] w44)
 fun s45 _ w46 =>
 GdW (isB t79 false) [undef] w46 (fun J47 =>
 pickW (s43.getD 0 undef) (s45.getD 0 undef) (.bool false) fun t92 =>
 J47 [t92] w46)
 fun s47 _ w48 =>
 pickW t79 (.bool true) (s47.getD 0 undef) fun t93 =>
 condW t93 (
 K (.bool false) w48) (
 binW .add (s40.getD 0 undef) (.int .i64 1) fun t94 =>
 L40 [t94] w48)) (
 binW .add (s2.getD 0 undef) (.int .i64 1) fun t95 =>
 L2 [t95] w41)))) (
 fldW 0 t1 fun t96 =>
 ldW false 1 t96 w3 fun t97 =>
 binW .geq t97 (.int .i64 0) fun t98 =>
 GdW (isB t98 true) [undef] w3 (fun J49 =>
 fldW 0 t1 fun t100 =>
 ldW false 1 t100 w3 fun t101 =>
 binW .leq t101 (.int .i64 1099511627776) fun t102 =>
 J49 [t102] w3)
 fun s49 _ w50 =>
 pickW t98 (s49.getD 0 undef) (.bool false) fun t103 =>
 K t103 w50)
theorem W36_ok {v0 : Value} {w : World} {K : Value → World → Prop} (h : W36 v0 w K) : callF Tryz.prog 36 [v0] w K :=
 tie _ 36 Tryz.f36 plan36 _ w K 1 _ rfl mixed Tryz.func36 (by kernel_rfl) (by kernel_rfl) Tryz.call36 h
def plan37 : Plan := { js := [],ds := [] }
def W37 (v0 : Value) (w : World) (K : Value → World → Prop) : Prop :=
 allocW 67 [(.int .i64 0),(.bool false),(.string (ofL [])),(.slice none 0 0),(.slice none 0 0)] w fun t2 w1 =>
 putW [(.int .i64 0),(.bool false),(.string (ofL [])),(.slice none 0 0),(.slice none 0 0)] [(0,1,(.int .i64 4)),(2,1,v0)] fun c2 =>
 stW 5 t2 (.agg c2.toArray) w1 fun w3 =>
 ldW true 5 t2 w3 fun r4 =>
 K r4 w3
theorem W37_ok {v0 : Value} {w : World} {K : Value → World → Prop} (h : W37 v0 w K) : callF Tryz.prog 37 [v0] w K :=
 tie _ 37 Tryz.f37 plan37 _ w K 1 _ rfl mixed Tryz.func37 (by kernel_rfl) (by kernel_rfl) Tryz.call37 h
def plan38 : Plan := { js := [],ds := [] }
def W38 (v0 v1 : Value) (w : World) (K : Value → World → Prop) : Prop :=
 allocW 67 [(.int .i64 0),(.bool false),(.string (ofL [])),(.slice none 0 0),(.slice none 0 0)] w fun t4 w1 =>
 callF Tryz.prog 57 [v0,v1] w1 fun t10 w2 =>
 extW 0 t10 fun t11 =>
 extW 1 t10 fun t12 =>
 allocW 67 [(.int .i64 0),(.bool false),(.string (ofL [])),(.slice none 0 0),(.slice none 0 0)] w2 fun t5 w3 =>
 stW 5 t5 t11 w3 fun w4 =>
 ldW true 5 t5 w4 fun t13 =>
 stW 5 t4 t13 w4 fun w5 =>
 ldW true 5 t4 w5 fun r6 =>
 K r6 w5
theorem W38_ok {v0 v1 : Value} {w : World} {K : Value → World → Prop} (h : W38 v0 v1 w K) : callF Tryz.prog 38 [v0,v1] w K :=
 tie _ 38 Tryz.f38 plan38 _ w K 2 _ rfl mixed Tryz.func38 (by kernel_rfl) (by kernel_rfl) Tryz.call38 h
def plan39 : Plan := { js := [],ds := [] }
def W39 (v0 : Value) (w : World) (K : Value → World → Prop) : Prop :=
 boxW 67 v0 w fun t1 w1 =>
 ldW true 5 t1 w1 fun t6 =>
 callF Tryz.prog 54 [t6] w1 fun t7 w2 =>
 unW .not t7 fun t8 =>
 condW t8 (
 K (.tuple #[(.string (ofL [])),(.int .i64 1)]) w2) (
 ldW true 5 t1 w2 fun t10 =>
 callF Tryz.prog 55 [t10] w2 fun t11 w3 =>
 unW .not t11 fun t12 =>
 condW t12 (
 K (.tuple #[(.string (ofL [])),(.int .i64 20)]) w3) (
 ldW true 5 t1 w3 fun t14 =>
 callF Tryz.prog 58 [t14] w3 fun t15 w4 =>
 unW .not t15 fun t16 =>
 condW t16 (
 K (.tuple #[(.string (ofL [])),(.int .i64 31)]) w4) (
 allocW 102 [(.pointer none),(.slice none 0 0)] w4 fun t4 w5 =>
 ldW true 5 t1 w5 fun t17 =>
 callF Tryz.prog 59 [t4,t17] w5 fun t18 w6 =>
 callF Tryz.prog 60 [t4] w6 fun t19 w7 =>
 binW .gtr t19 (.int .i64 65536) fun t20 =>
 condW t20 (
 K (.tuple #[(.string (ofL [])),(.int .i64 3)]) w7) (
 callF Tryz.prog 61 [t4] w7 fun t21 w8 =>
 K (.tuple #[t21,(.int .i64 0)]) w8))))
theorem W39_ok {v0 : Value} {w : World} {K : Value → World → Prop} (h : W39 v0 w K) : callF Tryz.prog 39 [v0] w K :=
 tie _ 39 Tryz.f39 plan39 _ w K 1 _ rfl mixed Tryz.func39 (by kernel_rfl) (by kernel_rfl) Tryz.call39 h
def plan40 : Plan := { js := [],ds := [] }
def W40 (v0 : Value) (w : World) (K : Value → World → Prop) : Prop :=
 allocW 67 [(.int .i64 0),(.bool false),(.string (ofL [])),(.slice none 0 0),(.slice none 0 0)] w fun t2 w1 =>
 callF Tryz.prog 62 [v0] w1 fun t4 w2 =>
 putW [(.int .i64 0),(.bool false),(.string (ofL [])),(.slice none 0 0),(.slice none 0 0)] [(0,1,(.int .i64 3)),(2,1,t4)] fun c3 =>
 stW 5 t2 (.agg c3.toArray) w2 fun w4 =>
 ldW true 5 t2 w4 fun r5 =>
 K r5 w4
theorem W40_ok {v0 : Value} {w : World} {K : Value → World → Prop} (h : W40 v0 w K) : callF Tryz.prog 40 [v0] w K :=
 tie _ 40 Tryz.f40 plan40 _ w K 1 _ rfl mixed Tryz.func40 (by kernel_rfl) (by kernel_rfl) Tryz.call40 h
def plan41 : Plan := { js := [(5003,⟨[30],[],22⟩),(5009,⟨[29],[],24⟩),(5011,⟨[23],[],22⟩)],ds := [] }
def W41 (v0 v1 v2 : Value) (w : World) (K : Value → World → Prop) : Prop :=
 nilW v0 fun t11 =>
 fldW 0 t11 fun t12 =>
 ldW false 1 t12 w fun t13 =>
 semQ Tryz.prog (Instr.lookup 47 t13 v1 true) w fun t15 =>
 extW 0 t15 fun t16 =>
 extW 1 t15 fun t17 =>
 allocW 56 [(.slice none 0 0),(.slice none 0 0),(.int .i64 0)] w fun t7 w1 =>
 stW 3 t7 t16 w1 fun w2 =>
 lenlW v2 fun t19 =>
 binW .leq t19 (.int .i64 65536) fun t20 =>
 GdW (isB t20 true) [undef] w2 (fun J3 =>
 J3 [t17] w2)
 fun s3 _ w4 =>
 GdW (isB (s3.getD 0 undef) false) [undef] w4 (fun J5 =>
 nilW v0 fun t25 =>
 fldW 0 t25 fun t26 =>
 ldW false 1 t26 w4 fun t27 =>
 semQ Tryz.prog (Builtin.len_ #[47] 3 #[t27]) w4 fun t28 =>
 binW .lss t28 (.int .i64 64) fun t29 =>
 J5 [t29] w4)
 fun s5 _ w6 =>
 GdW (isB t20 true) [undef] w6 (fun J7 =>
 pickW (s3.getD 0 undef) (.bool true) (s5.getD 0 undef) fun t30 =>
 J7 [t30] w6)
 fun s7 _ w8 =>
 pickW t20 (s7.getD 0 undef) (.bool false) fun t31 =>
 K t31 w8
theorem W41_ok {v0 v1 v2 : Value} {w : World} {K : Value → World → Prop} (h : W41 v0 v1 v2 w K) : callF Tryz.prog 41 [v0,v1,v2] w K :=
 tie _ 41 Tryz.f41 plan41 _ w K 3 _ rfl mixed Tryz.func41 (by kernel_rfl) (by kernel_rfl) Tryz.call41 h
def plan42 : Plan := { js := [(16,⟨[],[],4⟩),(4,⟨[],[],4⟩)],ds := [] }
def W42 (v0 : Value) (w : World) (K : Value → World → Prop) : Prop :=
 allocW 67 [(.int .i64 0),(.bool false),(.string (ofL [])),(.slice none 0 0),(.slice none 0 0)] w fun t2 w1 =>
 allocW 83 [(.pointer none)] w1 fun t3 w2 =>
 letI : HX := ⟨fun ch x3 => DefC Tryz.prog 63 [t2,t3] (.panicking ch) x3 fun w3 =>
 ldW true 5 t2 w3 fun r4 =>
 ldW false 1 t3 w3 fun r5 =>
 K (.tuple #[r4,r5]) w3⟩
 JoinW (fun J6 =>
 lensW v0 fun t7 =>
 binW .gtr t7 (.int .i64 65536) fun t8 =>
 condW t8 (
 callF Tryz.prog 64 [(.int .i64 3),(.int .i64 0)] w2 fun t9 w7 =>
 J6 [] w7) (
 J6 [] w2))
 fun s6 _ w8 =>
 putW [(.string (ofL [])),(.int .i64 0),(.int .i64 0)] [(0,1,v0)] fun c9 =>
 boxW 110 (.agg c9.toArray) w8 fun t12 w10 =>
 callF Tryz.prog 65 [t12,(.int .i64 1)] w10 fun t14 w11 =>
 stW 5 t2 t14 w11 fun w12 =>
 callF Tryz.prog 66 [t12] w12 fun t16 w13 =>
 JoinW (fun J14 =>
 nilW t12 fun t18 =>
 fldW 1 t18 fun t19 =>
 ldW false 1 t19 w13 fun t20 =>
 lensW v0 fun t22 =>
 binW .lss t20 t22 fun t23 =>
 condW t23 (
 nilW t12 fun t25 =>
 fldW 1 t25 fun t26 =>
 ldW false 1 t26 w13 fun t27 =>
 callF Tryz.prog 64 [(.int .i64 30),t27] w13 fun t28 w15 =>
 J14 [] w15) (
 J14 [] w13))
 fun s14 _ w16 =>
 ldW true 5 t2 w16 fun t29 =>
 stW 5 t2 t29 w16 fun w17 =>
 stW 1 t3 (.pointer none) w17 fun w18 =>
 DefC Tryz.prog 63 [t2,t3] .returning w18 fun w19 =>
 ldW true 5 t2 w19 fun r20 =>
 ldW false 1 t3 w19 fun r21 =>
 K (.tuple #[r20,r21]) w19
theorem W42_eq (v0 : Value) (w : World) (K : Value → World → Prop) : funD Tryz.prog Tryz.f42 plan42 1 [v0] w (EndK K) = W42 v0 w K := by kernel_rfl
theorem W42_chk : chkFunD Tryz.prog Tryz.f42 plan42 4 63 1 1 = true := by kernel_rfl
theorem W42_ok {v0 : Value} {w : World} {K : Value → World → Prop} (h : W42 v0 w K) : callF Tryz.prog 42 [v0] w K :=
 tieD Tryz.prog 42 Tryz.f42 plan42 [v0] w K 4 63 1 1 (W42 v0 w K) rfl mixed Tryz.func42 W42_chk (W42_eq v0 w K) Tryz.call42 Tryz.call63 h
def plan43 : Plan := { js := [],ds := [(3,⟨[0,1,2,3,4,5,6,7,8,10,11,12],[[],[0],[],[2],[2,3],[2,3,4],[2,3,4,5],[2,3,4,5,6],[2,3,4,5],[2,3,4,5,6,7,8],[2,3,4,5,6,7,8,9],[0,1,2,3,4,5,6,7,8,9],[0,1,2,3,4,5,6,7,8,9,10,11]]⟩)] }
def W43 (v0 v1 : Value) (w : World) (K : Value → World → Prop) : Prop :=
 boxW 67 v0 w fun t2 w1 =>
 fldW 3 t2 fun t6 =>
 ldW false 1 t6 w1.drew fun t7 =>
 fldW 0 t2 fun t8 =>
 ldW false 1 t8 w1.drew fun t9 =>
 binW .eql t9 (.int .i64 6) fun t10 =>
 GqW (isB t10 true) (fun k2 => fldW 4 t2 k2) fun t12 =>
 GqW (isB t10 true) (fun k3 => ldW false 1 t12 w1.drew k3) fun t13 =>
 GqW (isB t10 true) (fun k4 => k4 v1) fun t14 =>
 GeW (isB t10 true) w1.drew (fun k5 => callF Tryz.prog 67 [t13,t14] w1.drew k5) fun t15 w6 =>
 (ldW false 1 t6 w6 fun x => x = t7) ∧
 pickW t10 t15 (.bool false) fun t16 =>
 K (.tuple #[t7,t16]) w6
theorem W43_ok {v0 v1 : Value} {w : World} {K : Value → World → Prop} (h : W43 v0 v1 w K) : callF Tryz.prog 43 [v0,v1] w K :=
 tie _ 43 Tryz.f43 plan43 _ w K 2 _ rfl mixed Tryz.func43 (by kernel_rfl) (by kernel_rfl) Tryz.call43 h
def plan44 : Plan := { js := [(6004,⟨[16],[],14⟩)],ds := [] }
def W44 (v0 : Value) (w : World) (K : Value → World → Prop) : Prop :=
 callF Tryz.prog 68 [v0] w fun t8 w1 =>
 extW 0 t8 fun t9 =>
 extW 1 t8 fun t10 =>
 eqQ Tryz.prog .neq 112 false true t10 .nilIface w1 fun t12 =>
 GdW (isB t12 false) [undef] w1 (fun J2 =>
 callF Tryz.prog 69 [v0] w1 fun t15 w3 =>
 unW .not t15 fun t16 =>
 J2 [t16] w3)
 fun s2 _ w4 =>
 pickW t12 (.bool true) (s2.getD 0 undef) fun t17 =>
 condW t17 (
 K (.tuple #[(.int .i64 0),(.bool false)]) w4) (
 K (.tuple #[t9,(.bool true)]) w4)
theorem W44_ok {v0 : Value} {w : World} {K : Value → World → Prop} (h : W44 v0 w K) : callF Tryz.prog 44 [v0] w K :=
 tie _ 44 Tryz.f44 plan44 _ w K 1 _ rfl mixed Tryz.func44 (by kernel_rfl) (by kernel_rfl) Tryz.call44 h
def plan45 : Plan := { js := [(18,⟨[67],[3,8],67⟩),(6006,⟨[43],[],39⟩),(6013,⟨[36],[],32⟩),(6020,⟨[29],[],25⟩),(6027,⟨[22],[],18⟩)],ds := [(13,⟨[0,1,2,3,4,5,6,7,8,9,10,11,12,13,14,15],[[],[0],[0,1],[0,1,2],[],[4],[4,5],[],[7],[7,8],[7,8,9],[],[11],[11,12],[11,12,13],[0,1,2,3,4,5,6,7,8,9,10,11,12,13,14],[],[0,1,2,3,4,5,6,7,8,9,10,11,12,13,14,15,16]]⟩)] }
def W45 (v0 : Value) (w : World) (K : Value → World → Prop) : Prop :=
 boxW 67 v0 w fun t1 w1 =>
 allocW 69 [(.string (ofL [])),(.string (ofL [])),(.string (ofL [])),(.int .i64 0),(.bool false),(.string (ofL [])),(.slice none 0 0),(.slice none 0 0),(.slice none 0 0)] w1 fun t2 w2 =>
 ldW true 5 t1 w2 fun t10 =>
 bslW 9 5 [(.string (ofL [])),(.string (ofL [])),(.string (ofL [])),(.string (ofL [])),(.string (ofL []))] [(0,1,(.string (ofL [97,100,100,114]))),(1,1,(.string (ofL [97,116,116,114,115]))),(2,1,(.string (ofL [100,101,112,115]))),(3,1,(.string (ofL [105,100]))),(4,1,(.string (ofL [116,121,112,101])))] w2 fun t11 w3 =>
 callF Tryz.prog 43 [t10,t11] w3 fun t12 w4 =>
 extW 0 t12 fun t13 =>
 extW 1 t12 fun t14 =>
 unW .not t14 fun t16 =>
 GdW (isB t16 false) [undef] w4 (fun J5 =>
 ixaW none 5 t13 (.int .i64 0) fun t19 =>
 fldW 0 t19 fun t20 =>
 ldW false 1 t20 w4 fun t21 =>
 binW .neq t21 (.int .i64 4) fun t22 =>
 J5 [t22] w4)
 fun s5 _ w6 =>
 pickW t16 (.bool true) (s5.getD 0 undef) fun t23 =>
 GdW (isB t23 false) [undef] w6 (fun J7 =>
 ixaW none 5 t13 (.int .i64 2) fun t26 =>
 fldW 0 t26 fun t27 =>
 ldW false 1 t27 w6 fun t28 =>
 binW .neq t28 (.int .i64 5) fun t29 =>
 J7 [t29] w6)
 fun s7 _ w8 =>
 pickW t23 (.bool true) (s7.getD 0 undef) fun t30 =>
 GdW (isB t30 false) [undef] w8 (fun J9 =>
 ixaW none 5 t13 (.int .i64 3) fun t33 =>
 fldW 0 t33 fun t34 =>
 ldW false 1 t34 w8 fun t35 =>
 binW .neq t35 (.int .i64 4) fun t36 =>
 J9 [t36] w8)
 fun s9 _ w10 =>
 pickW t30 (.bool true) (s9.getD 0 undef) fun t37 =>
 GdW (isB t37 false) [undef] w10 (fun J11 =>
 ixaW none 5 t13 (.int .i64 4) fun t40 =>
 fldW 0 t40 fun t41 =>
 ldW false 1 t41 w10 fun t42 =>
 binW .neq t42 (.int .i64 4) fun t43 =>
 J11 [t43] w10)
 fun s11 _ w12 =>
 pickW t37 (.bool true) (s11.getD 0 undef) fun t44 =>
 condW t44 (
 putW [(.string (ofL [])),(.string (ofL [])),(.string (ofL [])),(.int .i64 0),(.bool false),(.string (ofL [])),(.slice none 0 0),(.slice none 0 0),(.slice none 0 0)] [] fun c13 =>
 stW 9 t2 (.agg c13.toArray) w12 fun w14 =>
 ldW true 9 t2 w14 fun r15 =>
 K (.tuple #[r15,(.bool false)]) w14) (
 ixaW none 5 t13 (.int .i64 0) fun t47 =>
 fldW 2 t47 fun t48 =>
 ldW false 1 t48 w12.drew fun t49 =>
 ixaW none 5 t13 (.int .i64 1) fun t51 =>
 ldW true 5 t51 w12.drew fun t52 =>
 ixaW none 5 t13 (.int .i64 3) fun t54 =>
 fldW 2 t54 fun t55 =>
 ldW false 1 t55 w12.drew fun t56 =>
 ixaW none 5 t13 (.int .i64 4) fun t58 =>
 fldW 2 t58 fun t59 =>
 ldW false 1 t59 w12.drew fun t60 =>
 putW [(.string (ofL [])),(.string (ofL [])),(.string (ofL [])),(.int .i64 0),(.bool false),(.string (ofL [])),(.slice none 0 0),(.slice none 0 0),(.slice none 0 0)] [(0,1,t49),(3,5,t52),(2,1,t56),(1,1,t60)] fun c16 =>
 allocW 69 [(.string (ofL [])),(.string (ofL [])),(.string (ofL [])),(.int .i64 0),(.bool false),(.string (ofL [])),(.slice none 0 0),(.slice none 0 0),(.slice none 0 0)] w12.drew fun t6 w17 =>
 (ldW false 1 t59 w17 fun x => x = t60) ∧
 (ldW false 1 t55 w17 fun x => x = t56) ∧
 (ldW true 5 t51 w17 fun x => x = t52) ∧
 (ldW false 1 t48 w17 fun x => x = t49) ∧
 stW 9 t6 (.agg c16.toArray) w17 fun w18 =>
 ixaW none 5 t13 (.int .i64 2) fun t63 =>
 fldW 3 t63 fun t64 =>
 ldW false 1 t64 w18 fun t65 =>
 lenlW t65 fun t66 =>
 LoopW [(.int .i64 0)] w18 fun s19 _ w20 L19 =>
 binW .lss (s19.getD 0 undef) t66 fun t68 =>
 condW t68 (
 ixaW none 5 t65 (s19.getD 0 undef) fun t69 =>
 ldW true 5 t69 w20 fun t70 =>
 allocW 67 [(.int .i64 0),(.bool false),(.string (ofL [])),(.slice none 0 0),(.slice none 0 0)] w20 fun t8 w21 =>
 stW 5 t8 t70 w21 fun w22 =>
 fldW 0 t8 fun t71 =>
 ldW false 1 t71 w22 fun t72 =>
 binW .neq t72 (.int .i64 4) fun t73 =>
 condW t73 (
 putW [(.string (ofL [])),(.string (ofL [])),(.string (ofL [])),(.int .i64 0),(.bool false),(.string (ofL [])),(.slice none 0 0),(.slice none 0 0),(.slice none 0 0)] [] fun c23 =>
 stW 9 t2 (.agg c23.toArray) w22 fun w24 =>
 ldW true 9 t2 w24 fun r25 =>
 K (.tuple #[r25,(.bool false)]) w24) (
 fldW 8 t6 fun t75 =>
 ldW false 1 t75 w22 fun t76 =>
 fldW 2 t8 fun t77 =>
 ldW false 1 t77 w22 fun t78 =>
 bslW 9 1 [(.string (ofL []))] [(0,1,t78)] w22 fun t79 w26 =>
 semE Tryz.prog (Builtin.append_ #[22,22] 22 #[t76,t79]) w26 fun t80 w27 =>
 fldW 8 t6 fun t81 =>
 stW 1 t81 t80 w27 fun w28 =>
 binW .add (s19.getD 0 undef) (.int .i64 1) fun t82 =>
 L19 [t82] w28)) (
 ldW true 9 t6 w20 fun t83 =>
 stW 9 t2 t83 w20 fun w29 =>
 ldW true 9 t2 w29 fun r30 =>
 K (.tuple #[r30,(.bool true)]) w29))
theorem W45_ok {v0 : Value} {w : World} {K : Value → World → Prop} (h : W45 v0 w K) : callF Tryz.prog 45 [v0] w K :=
 tie _ 45 Tryz.f45 plan45 _ w K 1 _ rfl mixed Tryz.func45 (by kernel_rfl) (by kernel_rfl) Tryz.call45 h
end Go.Proofs.YtpiaegojabkioaaGreatDoor
namespace Go.Proofs.YtpiaegojabkioaaGreatDoor
open Go Go.Eng
set_option maxRecDepth 100000
variable [HX]
def plan52 : Plan := { js := [],ds := [] }
def W52 (v0 v1 : Value) (w : World) (K : Value → World → Prop) : Prop :=
 callF Tryz.prog 73 [v0,v1] w fun t7 w1 =>
 binW .geq t7 (.int .i64 0) fun t8 =>
 K t8 w1
theorem W52_ok {v0 v1 : Value} {w : World} {K : Value → World → Prop} (h : W52 v0 v1 w K) : callF Tryz.prog 52 [v0,v1] w K :=
 tie _ 52 Tryz.f52 plan52 _ w K 2 _ rfl mixed Tryz.func52 (by kernel_rfl) (by kernel_rfl) Tryz.call52 h
def plan53 : Plan := { js := [(3004,⟨[12],[],11⟩),(3009,⟨[8],[],6⟩)],ds := [] }
def W53 (v0 : Value) (w : World) (K : Value → World → Prop) : Prop :=
 binW .neq v0 (.string (ofL [])) fun t4 =>
 GdW (isB t4 true) [undef] w (fun J1 =>
 lensW v0 fun t7 =>
 binW .leq t7 (.int .i64 16384) fun t8 =>
 J1 [t8] w)
 fun s1 _ w2 =>
 pickW t4 (s1.getD 0 undef) (.bool false) fun t9 =>
 GdW (isB t9 true) [undef] w2 (fun J3 =>
 callF Tryz.prog 74 [v0] w2 fun t12 w4 =>
 J3 [t12] w4)
 fun s3 _ w5 =>
 pickW t9 (s3.getD 0 undef) (.bool false) fun t13 =>
 K t13 w5
theorem W53_ok {v0 : Value} {w : World} {K : Value → World → Prop} (h : W53 v0 w K) : callF Tryz.prog 53 [v0] w K :=
 tie _ 53 Tryz.f53 plan53 _ w K 1 _ rfl mixed Tryz.func53 (by kernel_rfl) (by kernel_rfl) Tryz.call53 h
def plan54 : Plan := { js := [],ds := [] }
def W54 (v0 : Value) (w : World) (K : Value → World → Prop) : Prop :=
 boxW 67 v0 w fun t1 w1 =>
 allocW 3 [(.int .i64 0)] w1 fun t3 w2 =>
 stW 1 t3 (.int .i64 2000) w2 fun w3 =>
 ldW true 5 t1 w3 fun t4 =>
 callF Tryz.prog 75 [t4,(.int .i64 24),t3] w3 fun t5 w4 =>
 K t5 w4
theorem W54_ok {v0 : Value} {w : World} {K : Value → World → Prop} (h : W54 v0 w K) : callF Tryz.prog 54 [v0] w K :=
 tie _ 54 Tryz.f54 plan54 _ w K 1 _ rfl mixed Tryz.func54 (by kernel_rfl) (by kernel_rfl) Tryz.call54 h
def plan56 : Plan := { js := [(5006,⟨[20],[],17⟩),(5013,⟨[14],[],10⟩)],ds := [] }
def W56 (v0 : Value) (w : World) (K : Value → World → Prop) : Prop :=
 boxW 67 v0 w fun t1 w1 =>
 fldW 2 t1 fun t5 =>
 ldW false 1 t5 w1 fun t6 =>
 callV Tryz.prog (.func (.func 78) #[] #[]) [t6] w1 fun t7 w2 =>
 unW .not t7 fun t8 =>
 GdW (isB t8 true) [undef] w2 (fun J3 =>
 fldW 4 t1 fun t10 =>
 ldW false 1 t10 w2 fun t11 =>
 callF Tryz.prog 79 [t11,(.func (.func 78) #[] #[])] w2 fun t13 w4 =>
 unW .not t13 fun t14 =>
 J3 [t14] w4)
 fun s3 _ w5 =>
 pickW t8 (s3.getD 0 undef) (.bool false) fun t15 =>
 GdW (isB t15 true) [undef] w5 (fun J6 =>
 fldW 3 t1 fun t17 =>
 ldW false 1 t17 w5 fun t18 =>
 callF Tryz.prog 76 [t18,(.func (.func 80) #[] #[])] w5 fun t19 w7 =>
 unW .not t19 fun t20 =>
 J6 [t20] w7)
 fun s6 _ w8 =>
 pickW t15 (s6.getD 0 undef) (.bool false) fun t21 =>
 K t21 w8
theorem W56_ok {v0 : Value} {w : World} {K : Value → World → Prop} (h : W56 v0 w K) : callF Tryz.prog 56 [v0] w K :=
 tie _ 56 Tryz.f56 plan56 _ w K 1 _ rfl mixed Tryz.func56 (by kernel_rfl) (by kernel_rfl) Tryz.call56 h
def plan57 : Plan := { js := [(16,⟨[20],[5,7,8,9,10],20⟩)],ds := [(37,⟨[0,1,2,3,4,5],[[],[],[],[],[2,3],[2,3,4],[2,3,4,5],[0,1,2,3,4,5,6],[0,1,2,3,4,5,6,7]]⟩)] }
def W57 (v0 v1 : Value) (w : World) (K : Value → World → Prop) : Prop :=
 allocW 67 [(.int .i64 0),(.bool false),(.string (ofL [])),(.slice none 0 0),(.slice none 0 0)] w fun t4 w1 =>
 lenlW v0 fun t12 =>
 lenlW v1 fun t14 =>
 binW .neq t12 t14 fun t15 =>
 condW t15 (
 putW [(.int .i64 0),(.bool false),(.string (ofL [])),(.slice none 0 0),(.slice none 0 0)] [] fun c2 =>
 stW 5 t4 (.agg c2.toArray) w1 fun w3 =>
 ldW true 5 t4 w3 fun r4 =>
 K (.tuple #[r4,(.int .i64 1)]) w3) (
 putW [(.int .i64 0),(.bool false),(.string (ofL [])),(.slice none 0 0),(.slice none 0 0)] [(0,1,(.int .i64 6))] fun c5 =>
 allocW 67 [(.int .i64 0),(.bool false),(.string (ofL [])),(.slice none 0 0),(.slice none 0 0)] w1 fun t6 w6 =>
 stW 5 t6 (.agg c5.toArray) w6 fun w7 =>
 lenlW v0 fun t19 =>
 LoopW [(.int .i64 0)] w7 fun s8 _ w9 L8 =>
 binW .lss (s8.getD 0 undef) t19 fun t21 =>
 condW t21 (
 ixaW none 1 v0 (s8.getD 0 undef) fun t23 =>
 ldW false 1 t23 w9 fun t24 =>
 ldW true 5 t6 w9 fun t26 =>
 callF Tryz.prog 81 [t26,t24] w9 fun t28 w10 =>
 extW 0 t28 fun t29 =>
 extW 1 t28 fun t30 =>
 allocW 67 [(.int .i64 0),(.bool false),(.string (ofL [])),(.slice none 0 0),(.slice none 0 0)] w10 fun t9 w11 =>
 stW 5 t9 t29 w11 fun w12 =>
 condW t30 (
 putW [(.int .i64 0),(.bool false),(.string (ofL [])),(.slice none 0 0),(.slice none 0 0)] [] fun c13 =>
 stW 5 t4 (.agg c13.toArray) w12 fun w14 =>
 ldW true 5 t4 w14 fun r15 =>
 K (.tuple #[r15,(.int .i64 2)]) w14) (
 ldW true 5 t6 w12.drew fun t33 =>
 ixaW none 5 v1 (s8.getD 0 undef) fun t37 =>
 ldW true 5 t37 w12.drew fun t38 =>
 callF Tryz.prog 83 [t38] w12.drew fun t39 w16 =>
 (ldW true 5 t6 w16 fun x => x = t33) ∧
 callF Tryz.prog 82 [t33,t24,t39] w16 fun t40 w17 =>
 stW 5 t6 t40 w17 fun w18 =>
 binW .add (s8.getD 0 undef) (.int .i64 1) fun t41 =>
 L8 [t41] w18)) (
 ldW true 5 t6 w9 fun t42 =>
 stW 5 t4 t42 w9 fun w19 =>
 ldW true 5 t4 w19 fun r20 =>
 K (.tuple #[r20,(.int .i64 0)]) w19))
theorem W57_ok {v0 v1 : Value} {w : World} {K : Value → World → Prop} (h : W57 v0 v1 w K) : callF Tryz.prog 57 [v0,v1] w K :=
 tie _ 57 Tryz.f57 plan57 _ w K 2 _ rfl mixed Tryz.func57 (by kernel_rfl) (by kernel_rfl) Tryz.call57 h
def plan58 : Plan := { js := [(5006,⟨[20],[],17⟩),(5013,⟨[14],[],10⟩)],ds := [] }
def W58 (v0 : Value) (w : World) (K : Value → World → Prop) : Prop :=
 boxW 67 v0 w fun t1 w1 =>
 fldW 2 t1 fun t5 =>
 ldW false 1 t5 w1 fun t6 =>
 callV Tryz.prog (.func (.func 84) #[] #[]) [t6] w1 fun t7 w2 =>
 unW .not t7 fun t8 =>
 GdW (isB t8 true) [undef] w2 (fun J3 =>
 fldW 4 t1 fun t10 =>
 ldW false 1 t10 w2 fun t11 =>
 callF Tryz.prog 79 [t11,(.func (.func 84) #[] #[])] w2 fun t13 w4 =>
 unW .not t13 fun t14 =>
 J3 [t14] w4)
 fun s3 _ w5 =>
 pickW t8 (s3.getD 0 undef) (.bool false) fun t15 =>
 GdW (isB t15 true) [undef] w5 (fun J6 =>
 fldW 3 t1 fun t17 =>
 ldW false 1 t17 w5 fun t18 =>
 callF Tryz.prog 76 [t18,(.func (.func 85) #[] #[])] w5 fun t19 w7 =>
 unW .not t19 fun t20 =>
 J6 [t20] w7)
 fun s6 _ w8 =>
 pickW t15 (s6.getD 0 undef) (.bool false) fun t21 =>
 K t21 w8
theorem W58_ok {v0 : Value} {w : World} {K : Value → World → Prop} (h : W58 v0 w K) : callF Tryz.prog 58 [v0] w K :=
 tie _ 58 Tryz.f58 plan58 _ w K 1 _ rfl mixed Tryz.func58 (by kernel_rfl) (by kernel_rfl) Tryz.call58 h
def plan59 : Plan := { js := [(70,⟨[],[],63⟩),(59,⟨[62],[6,7],62⟩),(41,⟨[],[],41⟩),(30,⟨[40],[4,5],40⟩)],ds := [] }
def W59 (v0 v1 : Value) (w : World) (K : Value → World → Prop) : Prop :=
 boxW 67 v1 w fun t3 w1 =>
 fldW 0 t3 fun t8 =>
 ldW false 1 t8 w1 fun t9 =>
 binW .eql t9 (.int .i64 0) fun t11 =>
 condW t11 (
 callF Tryz.prog 86 [v0,(.string (ofL [110,117,108,108]))] w1 fun t13 w2 =>
 K (.tuple #[]) w2) (
 binW .eql t9 (.int .i64 2) fun t15 =>
 condW t15 (
 fldW 1 t3 fun t17 =>
 ldW false 1 t17 w1 fun t18 =>
 callF Tryz.prog 87 [t18] w1 fun t19 w3 =>
 callF Tryz.prog 86 [v0,t19] w3 fun t20 w4 =>
 K (.tuple #[]) w4) (
 binW .eql t9 (.int .i64 3) fun t22 =>
 condW t22 (
 fldW 2 t3 fun t24 =>
 ldW false 1 t24 w1 fun t25 =>
 callF Tryz.prog 86 [v0,t25] w1 fun t26 w5 =>
 K (.tuple #[]) w5) (
 binW .eql t9 (.int .i64 4) fun t28 =>
 condW t28 (
 fldW 2 t3 fun t30 =>
 ldW false 1 t30 w1 fun t31 =>
 callF Tryz.prog 88 [v0,t31] w1 fun t32 w6 =>
 K (.tuple #[]) w6) (
 binW .eql t9 (.int .i64 5) fun t34 =>
 condW t34 (
 callF Tryz.prog 89 [v0,(.int .u8 91)] w1 fun t36 w7 =>
 fldW 3 t3 fun t37 =>
 ldW false 1 t37 w7 fun t38 =>
 lenlW t38 fun t39 =>
 LoopW [(.int .i64 0)] w7 fun s8 _ w9 L8 =>
 binW .lss (s8.getD 0 undef) t39 fun t41 =>
 condW t41 (
 ixaW none 5 t38 (s8.getD 0 undef) fun t43 =>
 ldW true 5 t43 w9 fun t44 =>
 allocW 67 [(.int .i64 0),(.bool false),(.string (ofL [])),(.slice none 0 0),(.slice none 0 0)] w9 fun t5 w10 =>
 stW 5 t5 t44 w10 fun w11 =>
 JoinW (fun J12 =>
 binW .gtr (s8.getD 0 undef) (.int .i64 0) fun t46 =>
 condW t46 (
 callF Tryz.prog 89 [v0,(.int .u8 44)] w11 fun t48 w13 =>
 J12 [] w13) (
 J12 [] w11))
 fun s12 _ w14 =>
 ldW true 5 t5 w14 fun t50 =>
 callF Tryz.prog 59 [v0,t50] w14 fun t51 w15 =>
 binW .add (s8.getD 0 undef) (.int .i64 1) fun t52 =>
 L8 [t52] w15) (
 callF Tryz.prog 89 [v0,(.int .u8 93)] w9 fun t54 w16 =>
 K (.tuple #[]) w16)) (
 binW .eql t9 (.int .i64 6) fun t56 =>
 condW t56 (
 callF Tryz.prog 89 [v0,(.int .u8 123)] w1 fun t58 w17 =>
 fldW 3 t3 fun t59 =>
 ldW false 1 t59 w17 fun t60 =>
 lenlW t60 fun t61 =>
 LoopW [(.int .i64 0)] w17 fun s18 _ w19 L18 =>
 binW .lss (s18.getD 0 undef) t61 fun t63 =>
 condW t63 (
 ixaW none 5 t60 (s18.getD 0 undef) fun t65 =>
 ldW true 5 t65 w19 fun t66 =>
 allocW 67 [(.int .i64 0),(.bool false),(.string (ofL [])),(.slice none 0 0),(.slice none 0 0)] w19 fun t7 w20 =>
 stW 5 t7 t66 w20 fun w21 =>
 JoinW (fun J22 =>
 binW .gtr (s18.getD 0 undef) (.int .i64 0) fun t68 =>
 condW t68 (
 callF Tryz.prog 89 [v0,(.int .u8 44)] w21 fun t70 w23 =>
 J22 [] w23) (
 J22 [] w21))
 fun s22 _ w24 =>
 fldW 4 t3 fun t72 =>
 ldW false 1 t72 w24 fun t73 =>
 ixaW none 1 t73 (s18.getD 0 undef) fun t75 =>
 ldW false 1 t75 w24 fun t76 =>
 callF Tryz.prog 88 [v0,t76] w24 fun t77 w25 =>
 callF Tryz.prog 89 [v0,(.int .u8 58)] w25 fun t79 w26 =>
 ldW true 5 t7 w26 fun t81 =>
 callF Tryz.prog 59 [v0,t81] w26 fun t82 w27 =>
 binW .add (s18.getD 0 undef) (.int .i64 1) fun t83 =>
 L18 [t83] w27) (
 callF Tryz.prog 89 [v0,(.int .u8 125)] w19 fun t85 w28 =>
 K (.tuple #[]) w28)) (
 K (.tuple #[]) w1))))))
theorem W59_ok {v0 v1 : Value} {w : World} {K : Value → World → Prop} (h : W59 v0 v1 w K) : callF Tryz.prog 59 [v0,v1] w K :=
 tie _ 59 Tryz.f59 plan59 _ w K 2 _ rfl mixed Tryz.func59 (by kernel_rfl) (by kernel_rfl) Tryz.call59 h
def plan62 : Plan := { js := [],ds := [] }
def W62 (v0 : Value) (w : World) (K : Value → World → Prop) : Prop :=
 callF Tryz.prog 90 [v0] w fun t4 w1 =>
 K t4 w1
theorem W62_ok {v0 : Value} {w : World} {K : Value → World → Prop} (h : W62 v0 w K) : callF Tryz.prog 62 [v0] w K :=
 tie _ 62 Tryz.f62 plan62 _ w K 1 _ rfl mixed Tryz.func62 (by kernel_rfl) (by kernel_rfl) Tryz.call62 h
def plan63 : Plan := { js := [],ds := [(5,⟨[0,1,2],[[],[],[1],[0],[0,1,2,3]]⟩)] }
def R63 (v0 v1 : Value) (x : Value) (w : World) (K : World → Prop) : Prop :=
 letI : HX := noX
 eqQ Tryz.prog .neq 20 false true x .nilIface w fun t5 =>
 condW t5 (
 putW [(.int .i64 0),(.bool false),(.string (ofL [])),(.slice none 0 0),(.slice none 0 0)] [] fun c1 =>
 semQ Tryz.prog (Instr.typeAssert x 20 83 false) w.drew fun t8 =>
 stW 5 v0 (.agg c1.toArray) w.drew fun w2 =>
 (semQ Tryz.prog (Instr.typeAssert x 20 83 false) w2 fun x => x = t8) ∧
 stW 1 v1 t8 w2 fun w3 =>
 K w3) (
 K w)
theorem R63_eq (v0 v1 : Value) (x : Value) (w : World) (K : World → Prop) : funR Tryz.prog Tryz.f63 plan63 [v0,v1] x w K = R63 v0 v1 x w K := by kernel_rfl
theorem R63_chk : chkFunR Tryz.prog Tryz.f63 plan63 2 = true := by kernel_rfl
theorem R63_ok {v0 v1 : Value} {x : Value} {u : FrameMode} {w : World} {K : World → Prop} (hu : Finds u x) (h : R63 v0 v1 x w K) : DefC Tryz.prog 63 [v0,v1] u w K :=
 funR_sound (args := [v0,v1]) mixed Tryz.func63 R63_chk hu (by rw [R63_eq]; exact h)
def plan64 : Plan := { js := [],ds := [] }
def W64 (v0 v1 : Value) (w : World) (K : Value → World → Prop) : Prop :=
 putW [(.int .i64 0),(.string (ofL [])),(.int .i64 0)] [(0,1,v0),(2,1,v1)] fun c1 =>
 boxW 132 (.agg c1.toArray) w fun t7 w2 =>
 pncW (.iface 83 t7) w2
theorem W64_ok {v0 v1 : Value} {w : World} {K : Value → World → Prop} (h : W64 v0 v1 w K) : callF Tryz.prog 64 [v0,v1] w K :=
 tie _ 64 Tryz.f64 plan64 _ w K 2 _ rfl mixed Tryz.func64 (by kernel_rfl) (by kernel_rfl) Tryz.call64 h
def plan65 : Plan := { js := [(48003,⟨[88],[],83⟩),(48005,⟨[87],[],86⟩),(48008,⟨[85],[],83⟩),(4,⟨[],[],5⟩)],ds := [(18,⟨[0,1,2,3,4,5,6,7,8,9],[[],[0],[0,1],[0,1,2],[],[4],[4,5],[4,5,6],[0,1,2,3,4,5,6,7],[0,1,2,3,4,5,6,7,8]]⟩)] }
def W65 (v0 v1 : Value) (w : World) (K : Value → World → Prop) : Prop :=
 allocW 67 [(.int .i64 0),(.bool false),(.string (ofL [])),(.slice none 0 0),(.slice none 0 0)] w fun t4 w1 =>
 callF Tryz.prog 66 [v0] w1 fun t8 w2 =>
 JoinW (fun J3 =>
 binW .gtr v1 (.int .i64 24) fun t11 =>
 condW t11 (
 nilW v0 fun t13 =>
 fldW 1 t13 fun t14 =>
 ldW false 1 t14 w2 fun t15 =>
 callF Tryz.prog 64 [(.int .i64 7),t15] w2 fun t16 w4 =>
 J3 [] w4) (
 nilW v0 fun t19 =>
 fldW 2 t19 fun t20 =>
 ldW false 1 t20 w2 fun t21 =>
 binW .eql t21 (.int .i64 2000) fun t22 =>
 condW t22 (
 nilW v0 fun t24 =>
 fldW 1 t24 fun t25 =>
 ldW false 1 t25 w2 fun t26 =>
 callF Tryz.prog 64 [(.int .i64 3),t26] w2 fun t27 w5 =>
 J3 [] w5) (
 J3 [] w2)))
 fun s3 _ w6 =>
 nilW v0 fun t29 =>
 fldW 2 t29 fun t30 =>
 ldW false 1 t30 w6 fun t31 =>
 binW .add t31 (.int .i64 1) fun t32 =>
 nilW v0 fun t33 =>
 fldW 2 t33 fun t34 =>
 stW 1 t34 t32 w6 fun w7 =>
 nilW v0 fun t36 =>
 fldW 0 t36 fun t37 =>
 ldW false 1 t37 w7.drew fun t38 =>
 nilW v0 fun t40 =>
 fldW 1 t40 fun t41 =>
 ldW false 1 t41 w7.drew fun t42 =>
 slsW t38 (some t42) none fun t43 =>
 callF Tryz.prog 91 [v0] w7.drew fun t45 w8 =>
 callF Tryz.prog 92 [t43,(.string (ofL [110,117,108,108]))] w8 fun t48 w9 =>
 condW t48 (
 nilW v0 fun t50 =>
 fldW 1 t50 fun t51 =>
 ldW false 1 t51 w9 fun t52 =>
 binW .add t52 (.int .i64 4) fun t53 =>
 nilW v0 fun t54 =>
 fldW 1 t54 fun t55 =>
 stW 1 t55 t53 w9 fun w10 =>
 callF Tryz.prog 93 [] w10 fun t56 w11 =>
 stW 5 t4 t56 w11 fun w12 =>
 ldW true 5 t4 w12 fun r13 =>
 K r13 w12) (
 callF Tryz.prog 92 [t43,(.string (ofL [116,114,117,101]))] w9 fun t59 w14 =>
 condW t59 (
 nilW v0 fun t61 =>
 fldW 1 t61 fun t62 =>
 ldW false 1 t62 w14 fun t63 =>
 binW .add t63 (.int .i64 4) fun t64 =>
 nilW v0 fun t65 =>
 fldW 1 t65 fun t66 =>
 stW 1 t66 t64 w14 fun w15 =>
 callF Tryz.prog 94 [(.bool true)] w15 fun t67 w16 =>
 stW 5 t4 t67 w16 fun w17 =>
 ldW true 5 t4 w17 fun r18 =>
 K r18 w17) (
 callF Tryz.prog 92 [t43,(.string (ofL [102,97,108,115,101]))] w14 fun t70 w19 =>
 condW t70 (
 nilW v0 fun t72 =>
 fldW 1 t72 fun t73 =>
 ldW false 1 t73 w19 fun t74 =>
 binW .add t74 (.int .i64 5) fun t75 =>
 nilW v0 fun t76 =>
 fldW 1 t76 fun t77 =>
 stW 1 t77 t75 w19 fun w20 =>
 callF Tryz.prog 94 [(.bool false)] w20 fun t78 w21 =>
 stW 5 t4 t78 w21 fun w22 =>
 ldW true 5 t4 w22 fun r23 =>
 K r23 w22) (
 binW .eql t45 (.int .u8 45) fun t81 =>
 GdW (isB t81 false) [undef] w19 (fun J24 =>
 binW .geq t45 (.int .u8 48) fun t84 =>
 J24 [t84] w19)
 fun s24 _ w25 =>
 GdW (isB (s24.getD 0 undef) true) [undef] w25 (fun J26 =>
 binW .leq t45 (.int .u8 57) fun t87 =>
 J26 [t87] w25)
 fun s26 _ w27 =>
 GdW (isB t81 false) [undef] w27 (fun J28 =>
 pickW (s24.getD 0 undef) (s26.getD 0 undef) (.bool false) fun t88 =>
 J28 [t88] w27)
 fun s28 _ w29 =>
 pickW t81 (.bool true) (s28.getD 0 undef) fun t89 =>
 condW t89 (
 callF Tryz.prog 95 [v0] w29 fun t91 w30 =>
 stW 5 t4 t91 w30 fun w31 =>
 ldW true 5 t4 w31 fun r32 =>
 K r32 w31) (
 binW .eql t45 (.int .u8 34) fun t94 =>
 condW t94 (
 callF Tryz.prog 96 [v0] w29 fun t96 w33 =>
 callF Tryz.prog 37 [t96] w33 fun t97 w34 =>
 stW 5 t4 t97 w34 fun w35 =>
 ldW true 5 t4 w35 fun r36 =>
 K r36 w35) (
 binW .eql t45 (.int .u8 91) fun t100 =>
 condW t100 (
 callF Tryz.prog 97 [v0,v1] w29 fun t103 w37 =>
 stW 5 t4 t103 w37 fun w38 =>
 ldW true 5 t4 w38 fun r39 =>
 K r39 w38) (
 binW .eql t45 (.int .u8 123) fun t106 =>
 condW t106 (
 callF Tryz.prog 98 [v0,v1] w29 fun t109 w40 =>
 stW 5 t4 t109 w40 fun w41 =>
 ldW true 5 t4 w41 fun r42 =>
 K r42 w41) (
 nilW v0 fun t111 =>
 fldW 1 t111 fun t112 =>
 ldW false 1 t112 w29 fun t113 =>
 callF Tryz.prog 64 [(.int .i64 30),t113] w29 fun t114 w43 =>
 putW [(.int .i64 0),(.bool false),(.string (ofL [])),(.slice none 0 0),(.slice none 0 0)] [] fun c44 =>
 stW 5 t4 (.agg c44.toArray) w43 fun w45 =>
 ldW true 5 t4 w45 fun r46 =>
 K r46 w45)))))))
theorem W65_ok {v0 v1 : Value} {w : World} {K : Value → World → Prop} (h : W65 v0 v1 w K) : callF Tryz.prog 65 [v0,v1] w K :=
 tie _ 65 Tryz.f65 plan65 _ w K 2 _ rfl mixed Tryz.func65 (by kernel_rfl) (by kernel_rfl) Tryz.call65 h
def plan66 : Plan := { js := [(1,⟨[],[],1⟩)],ds := [(4,⟨[0,1,2,3,4,5,6,7,8,9,10,11,12,13,14,15,16,17,18,19,21,22],[[],[0],[0,1],[0,1,2],[],[4],[4,5],[4,5,6],[4,5,6,7],[0,1,2,3,4,5,6,7,8],[0,1,2,3,4,5,6,7,8,9],[0,1,2,3,4,5,6,7,8,9,10],[0,1,2,3,4,5,6,7,8,9,10,11],[0,1,2,3,4,5,6,7,8,9,10,11,12],[0,1,2,3,4,5,6,7,8,9,10,11,12,13],[0,1,2,3,4,5,6,7,8,9,10],[0,1,2,3,4,5,6,7,8,9,10,15],[0,1,2,3,4,5,6,7,8,9,10,15,16],[0,1,2,3,4,5,6,7,8,9,10,15,16,17],[0,1,2,3,4,5,6,7,8,9,10,11,12,13,14,15,16,17,18],[0,1,2,3,4,5,6,7,8,9,10,11,12,13,14,15,16,17,18,19],[0,1,2,3,4,5,6,7,8,9,10,11,12,13,14,15,16,17,18,19,20],[0,1,2,3,4,5,6,7,8,9,10,11,12,13,14,15,16,17,18,19,20,21]]⟩)] }
def W66 (v0 : Value) (w : World) (K : Value → World → Prop) : Prop :=
 LoopW [] w fun s1 _ w2 L1 =>
 nilW v0 fun t3 =>
 fldW 1 t3 fun t4 =>
 ldW false 1 t4 w2.drew fun t5 =>
 nilW v0 fun t7 =>
 fldW 0 t7 fun t8 =>
 ldW false 1 t8 w2.drew fun t9 =>
 lensW t9 fun t10 =>
 binW .lss t5 t10 fun t11 =>
 GqW (isB t11 true) (fun k3 => k3 v0) fun t13 =>
 GqW (isB t11 true) (fun k4 => nilW t13 k4) fun t14 =>
 GqW (isB t11 true) (fun k5 => fldW 0 t14 k5) fun t15 =>
 GqW (isB t11 true) (fun k6 => ldW false 1 t15 w2.drew k6) fun t16 =>
 GqW (isB t11 true) (fun k7 => k7 v0) fun t17 =>
 GqW (isB t11 true) (fun k8 => nilW t17 k8) fun t18 =>
 GqW (isB t11 true) (fun k9 => fldW 1 t18 k9) fun t19 =>
 GqW (isB t11 true) (fun k10 => ldW false 1 t19 w2.drew k10) fun t20 =>
 GqW (isB t11 true) (fun k11 => ixsW t16 t20 k11) fun t21 =>
 GeW (isB t11 true) w2.drew (fun k12 => callF Tryz.prog 99 [(.string (ofL [32,9,10,13])),t21] w2.drew k12) fun t22 w13 =>
 GqW (isB t11 true) (fun k14 => binW .geq t22 (.int .i64 0) k14) fun t23 =>
 pickW t11 t23 (.bool false) fun t24 =>
 condW t24 (
 nilW v0 fun t26 =>
 fldW 1 t26 fun t27 =>
 ldW false 1 t27 w13 fun t28 =>
 binW .add t28 (.int .i64 1) fun t29 =>
 nilW v0 fun t30 =>
 fldW 1 t30 fun t31 =>
 stW 1 t31 t29 w13 fun w15 =>
 L1 [] w15) (
 K (.tuple #[]) w13)
theorem W66_ok {v0 : Value} {w : World} {K : Value → World → Prop} (h : W66 v0 w K) : callF Tryz.prog 66 [v0] w K :=
 tie _ 66 Tryz.f66 plan66 _ w K 1 _ rfl mixed Tryz.func66 (by kernel_rfl) (by kernel_rfl) Tryz.call66 h
def plan67 : Plan := { js := [(14,⟨[13],[4,5],13⟩)],ds := [(26,⟨[0,1,2,3,4,5,6,7,8],[[],[],[0,1],[0,1,2],[],[],[4,5],[4,5,6],[0,1,2,3,4,5,6,7]]⟩)] }
def W67 (v0 v1 : Value) (w : World) (K : Value → World → Prop) : Prop :=
 lenlW v0 fun t7 =>
 lenlW v1 fun t9 =>
 binW .neq t7 t9 fun t10 =>
 condW t10 (
 K (.bool false) w) (
 lenlW v0 fun t12 =>
 LoopW [(.int .i64 0)] w fun s1 _ w2 L1 =>
 binW .lss (s1.getD 0 undef) t12 fun t14 =>
 condW t14 (
 ixaW none 1 v0 (s1.getD 0 undef) fun t18 =>
 ldW false 1 t18 w2.drew fun t19 =>
 ixaW none 1 v1 (s1.getD 0 undef) fun t22 =>
 ldW false 1 t22 w2.drew fun t23 =>
 binW .neq t19 t23 fun t24 =>
 condW t24 (
 K (.bool false) w2.drew) (
 binW .add (s1.getD 0 undef) (.int .i64 1) fun t25 =>
 L1 [t25] w2.drew)) (
 K (.bool true) w2))
theorem W67_ok {v0 v1 : Value} {w : World} {K : Value → World → Prop} (h : W67 v0 v1 w K) : callF Tryz.prog 67 [v0,v1] w K :=
 tie _ 67 Tryz.f67 plan67 _ w K 2 _ rfl mixed Tryz.func67 (by kernel_rfl) (by kernel_rfl) Tryz.call67 h
def plan68 : Plan := { js := [],ds := [] }
def W68 (v0 : Value) (w : World) (K : Value → World → Prop) : Prop :=
 callF Tryz.prog 100 [v0] w fun t8 w1 =>
 extW 0 t8 fun t9 =>
 extW 1 t8 fun t10 =>
 eqQ Tryz.prog .neq 112 false true t10 .nilIface w1 fun t12 =>
 condW t12 (
 callF Tryz.prog 101 [(.string (ofL [65,116,111,105])),v0,(.int .i64 0),(.int .i64 0),t10] w1 fun t16 w2 =>
 K (.tuple #[t9,t16]) w2) (
 K (.tuple #[t9,.nilIface]) w1)
theorem W68_ok {v0 : Value} {w : World} {K : Value → World → Prop} (h : W68 v0 w K) : callF Tryz.prog 68 [v0] w K :=
 tie _ 68 Tryz.f68 plan68 _ w K 1 _ rfl mixed Tryz.func68 (by kernel_rfl) (by kernel_rfl) Tryz.call68 h
def plan73 : Plan := { js := [(65,⟨[],[4,9,10],46⟩),(26,⟨[],[],2⟩),(39,⟨[8],[4],7⟩),(16,⟨[5],[],1⟩)],ds := [] }
def W73 (v0 v1 : Value) (w : World) (K : Value → World → Prop) : Prop :=
 binW .eql v1 (.string (ofL [])) fun t12 =>
 condW t12 (
 K (.int .i64 (-1)) w) (
 lensW v1 fun t14 =>
 binW .eql t14 (.int .i64 1) fun t15 =>
 condW t15 (
 ixsW v1 (.int .i64 0) fun t17 =>
 cvtW .i32 t17 fun t18 =>
 JoinW (fun J1 =>
 binW .geq t18 (.int .i32 128) fun t20 =>
 condW t20 (
 J1 [(.int .i32 65533)] w) (
 J1 [t18] w))
 fun s1 _ w2 =>
 callF Tryz.prog 114 [v0,(s1.getD 0 undef)] w2 fun t23 w3 =>
 K t23 w3) (
 JoinW (fun J4 =>
 lensW v0 fun t25 =>
 callF Tryz.prog 115 [t25] w fun t26 w5 =>
 condW t26 (
 callF Tryz.prog 116 [v1] w5 fun t29 w6 =>
 extW 0 t29 fun t30 =>
 extW 1 t29 fun t31 =>
 allocW 153 (List.replicate 256 (.bool false)) w6 fun t6 w7 =>
 stW 256 t6 t30 w7 fun w8 =>
 condW t31 (
 LoopW [(.int .i64 0)] w8 fun s9 _ w10 L9 =>
 lensW v0 fun t35 =>
 binW .lss (s9.getD 0 undef) t35 fun t36 =>
 condW t36 (
 ixsW v0 (s9.getD 0 undef) fun t41 =>
 callF Tryz.prog 117 [t6,t41] w10 fun t42 w11 =>
 condW t42 (
 K (s9.getD 0 undef) w11) (
 binW .add (s9.getD 0 undef) (.int .i64 1) fun t38 =>
 L9 [t38] w11)) (
 K (.int .i64 (-1)) w10)) (
 J4 [] w8)) (
 J4 [] w5))
 fun s4 _ w12 =>
 semE Tryz.prog (Instr.range 9 v0) w12 fun t45 w13 =>
 LoopW [] w13 fun s14 _ w15 L14 =>
 semE Tryz.prog (Instr.next t45 true 0) w15 fun t46 w16 =>
 extW 0 t46 fun t47 =>
 condW t47 (
 extW 1 t46 fun t48 =>
 extW 2 t46 fun t49 =>
 callF Tryz.prog 114 [v1,t49] w16 fun t52 w17 =>
 binW .geq t52 (.int .i64 0) fun t53 =>
 condW t53 (
 K t48 w17) (
 L14 [] w17)) (
 K (.int .i64 (-1)) w16)))
theorem W73_ok {v0 v1 : Value} {w : World} {K : Value → World → Prop} (h : W73 v0 v1 w K) : callF Tryz.prog 73 [v0,v1] w K :=
 tie _ 73 Tryz.f73 plan73 _ w K 2 _ rfl mixed Tryz.func73 (by kernel_rfl) (by kernel_rfl) Tryz.call73 h
def plan75 : Plan := { js := [(89007,⟨[130],[],126⟩),(12,⟨[],[],6⟩),(78002,⟨[119],[],108⟩),(78010,⟨[118],[],111⟩),(78013,⟨[110],[],108⟩),(66,⟨[99],[6,7,8],99⟩),(40010,⟨[79],[],72⟩),(34010,⟨[63],[],56⟩),(28010,⟨[48],[],41⟩),(16,⟨[33],[],33⟩),(6002,⟨[29],[],23⟩),(6005,⟨[28],[],26⟩),(6008,⟨[25],[],23⟩),(6014,⟨[20],[],17⟩)],ds := [] }
def W75 (v0 v1 v2 : Value) (w : World) (K : Value → World → Prop) : Prop :=
 boxW 67 v0 w fun t3 w1 =>
 boxW 3 v1 w1 fun t4 w2 =>
 boxW 120 v2 w2 fun t5 w3 =>
 ldW false 1 t5 w3 fun t9 =>
 nilW t9 fun t10 =>
 ldW false 1 t10 w3 fun t11 =>
 binW .sub t11 (.int .i64 1) fun t12 =>
 nilW t9 fun t13 =>
 stW 1 t13 t12 w3 fun w4 =>
 ldW false 1 t4 w4 fun t14 =>
 binW .eql t14 (.int .i64 0) fun t15 =>
 GdW (isB t15 false) [undef] w4 (fun J5 =>
 ldW false 1 t5 w4 fun t17 =>
 nilW t17 fun t18 =>
 ldW false 1 t18 w4 fun t19 =>
 binW .lss t19 (.int .i64 0) fun t20 =>
 J5 [t20] w4)
 fun s5 _ w6 =>
 pickW t15 (.bool true) (s5.getD 0 undef) fun t21 =>
 GdW (isB t21 false) [undef] w6 (fun J7 =>
 fldW 1 t3 fun t23 =>
 ldW false 1 t23 w6 fun t24 =>
 J7 [t24] w6)
 fun s7 _ w8 =>
 GdW (isB (s7.getD 0 undef) true) [undef] w8 (fun J9 =>
 fldW 0 t3 fun t26 =>
 ldW false 1 t26 w8 fun t27 =>
 binW .neq t27 (.int .i64 2) fun t28 =>
 J9 [t28] w8)
 fun s9 _ w10 =>
 GdW (isB t21 false) [undef] w10 (fun J11 =>
 pickW (s7.getD 0 undef) (s9.getD 0 undef) (.bool false) fun t29 =>
 J11 [t29] w10)
 fun s11 _ w12 =>
 pickW t21 (.bool true) (s11.getD 0 undef) fun t30 =>
 condW t30 (
 K (.bool false) w12) (
 JoinW (fun J13 =>
 fldW 0 t3 fun t31 =>
 ldW false 1 t31 w12 fun t32 =>
 JoinW (fun J14 =>
 binW .eql t32 (.int .i64 0) fun t34 =>
 condW t34 (
 J14 [t34] w12) (
 binW .eql t32 (.int .i64 1) fun t35 =>
 condW t35 (
 J14 [t35] w12) (
 binW .eql t32 (.int .i64 2) fun t36 =>
 J14 [t36] w12)))
 fun s14 _ w15 =>
 condW (s14.getD 0 undef) (
 fldW 2 t3 fun t37 =>
 ldW false 1 t37 w15 fun t38 =>
 binW .eql t38 (.string (ofL [])) fun t39 =>
 GdW (isB t39 true) [undef] w15 (fun J16 =>
 fldW 3 t3 fun t41 =>
 ldW false 1 t41 w15 fun t42 =>
 lenlW t42 fun t43 =>
 fldW 4 t3 fun t44 =>
 ldW false 1 t44 w15 fun t45 =>
 lenlW t45 fun t46 =>
 binW .add t43 t46 fun t47 =>
 binW .eql t47 (.int .i64 0) fun t48 =>
 J16 [t48] w15)
 fun s16 _ w17 =>
 pickW t39 (s16.getD 0 undef) (.bool false) fun t49 =>
 K t49 w17) (
 binW .eql t32 (.int .i64 3) fun t51 =>
 condW t51 (
 fldW 2 t3 fun t52 =>
 ldW false 1 t52 w15 fun t53 =>
 callF Tryz.prog 69 [t53] w15 fun t54 w18 =>
 GdW (isB t54 true) [undef] w18 (fun J19 =>
 fldW 3 t3 fun t56 =>
 ldW false 1 t56 w18 fun t57 =>
 lenlW t57 fun t58 =>
 fldW 4 t3 fun t59 =>
 ldW false 1 t59 w18 fun t60 =>
 lenlW t60 fun t61 =>
 binW .add t58 t61 fun t62 =>
 binW .eql t62 (.int .i64 0) fun t63 =>
 J19 [t63] w18)
 fun s19 _ w20 =>
 pickW t54 (s19.getD 0 undef) (.bool false) fun t64 =>
 K t64 w20) (
 binW .eql t32 (.int .i64 4) fun t66 =>
 condW t66 (
 fldW 2 t3 fun t67 =>
 ldW false 1 t67 w15 fun t68 =>
 lensW t68 fun t69 =>
 binW .leq t69 (.int .i64 16384) fun t70 =>
 GdW (isB t70 true) [undef] w15 (fun J21 =>
 fldW 3 t3 fun t72 =>
 ldW false 1 t72 w15 fun t73 =>
 lenlW t73 fun t74 =>
 fldW 4 t3 fun t75 =>
 ldW false 1 t75 w15 fun t76 =>
 lenlW t76 fun t77 =>
 binW .add t74 t77 fun t78 =>
 binW .eql t78 (.int .i64 0) fun t79 =>
 J21 [t79] w15)
 fun s21 _ w22 =>
 pickW t70 (s21.getD 0 undef) (.bool false) fun t80 =>
 K t80 w22) (
 binW .eql t32 (.int .i64 5) fun t82 =>
 condW t82 (
 fldW 4 t3 fun t83 =>
 ldW false 1 t83 w15 fun t84 =>
 lenlW t84 fun t85 =>
 binW .gtr t85 (.int .i64 0) fun t86 =>
 condW t86 (
 K (.bool false) w15) (
 J13 [] w15)) (
 binW .eql t32 (.int .i64 6) fun t88 =>
 condW t88 (
 fldW 4 t3 fun t89 =>
 ldW false 1 t89 w15 fun t90 =>
 lenlW t90 fun t91 =>
 fldW 3 t3 fun t92 =>
 ldW false 1 t92 w15 fun t93 =>
 lenlW t93 fun t94 =>
 binW .neq t91 t94 fun t95 =>
 condW t95 (
 K (.bool false) w15) (
 fldW 4 t3 fun t96 =>
 ldW false 1 t96 w15 fun t97 =>
 lenlW t97 fun t98 =>
 LoopW [(.int .i64 0)] w15 fun s23 _ w24 L23 =>
 binW .lss (s23.getD 0 undef) t98 fun t100 =>
 condW t100 (
 ixaW none 1 t97 (s23.getD 0 undef) fun t102 =>
 ldW false 1 t102 w24 fun t103 =>
 lensW t103 fun t105 =>
 binW .gtr t105 (.int .i64 16384) fun t106 =>
 GdW (isB t106 false) [undef] w24 (fun J25 =>
 binW .gtr (s23.getD 0 undef) (.int .i64 0) fun t109 =>
 J25 [t109] w24)
 fun s25 _ w26 =>
 GdW (isB (s25.getD 0 undef) true) [undef] w26 (fun J27 =>
 fldW 4 t3 fun t111 =>
 ldW false 1 t111 w26 fun t112 =>
 binW .sub (s23.getD 0 undef) (.int .i64 1) fun t114 =>
 ixaW none 1 t112 t114 fun t115 =>
 ldW false 1 t115 w26 fun t116 =>
 binW .geq t116 t103 fun t118 =>
 J27 [t118] w26)
 fun s27 _ w28 =>
 GdW (isB t106 false) [undef] w28 (fun J29 =>
 pickW (s25.getD 0 undef) (s27.getD 0 undef) (.bool false) fun t119 =>
 J29 [t119] w28)
 fun s29 _ w30 =>
 pickW t106 (.bool true) (s29.getD 0 undef) fun t120 =>
 condW t120 (
 K (.bool false) w30) (
 binW .add (s23.getD 0 undef) (.int .i64 1) fun t121 =>
 L23 [t121] w30)) (
 J13 [] w24))) (
 K (.bool false) w15))))))
 fun s13 _ w31 =>
 fldW 2 t3 fun t122 =>
 ldW false 1 t122 w31 fun t123 =>
 binW .eql t123 (.string (ofL [])) fun t124 =>
 GdW (isB t124 true) [undef] w31 (fun J32 =>
 fldW 3 t3 fun t126 =>
 ldW false 1 t126 w31 fun t127 =>
 callF Tryz.prog 76 [t127,(.func (.func 119) #[] #[t4,t5])] w31 fun t129 w33 =>
 unW .not t129 fun t130 =>
 J32 [t130] w33)
 fun s32 _ w34 =>
 pickW t124 (s32.getD 0 undef) (.bool false) fun t131 =>
 K t131 w34)
theorem W75_ok {v0 v1 v2 : Value} {w : World} {K : Value → World → Prop} (h : W75 v0 v1 v2 w K) : callF Tryz.prog 75 [v0,v1,v2] w K :=
 tie _ 75 Tryz.f75 plan75 _ w K 3 _ rfl mixed Tryz.func75 (by kernel_rfl) (by kernel_rfl) Tryz.call75 h
def plan78 : Plan := { js := [],ds := [] }
def W78 (v0 : Value) (w : World) (K : Value → World → Prop) : Prop :=
 callF Tryz.prog 74 [v0] w fun t4 w1 =>
 unW .not t4 fun t5 =>
 K t5 w1
theorem W78_ok {v0 : Value} {w : World} {K : Value → World → Prop} (h : W78 v0 w K) : callF Tryz.prog 78 [v0] w K :=
 tie _ 78 Tryz.f78 plan78 _ w K 1 _ rfl mixed Tryz.func78 (by kernel_rfl) (by kernel_rfl) Tryz.call78 h
def plan80 : Plan := { js := [],ds := [] }
def W80 (v0 : Value) (w : World) (K : Value → World → Prop) : Prop :=
 boxW 67 v0 w fun t1 w1 =>
 ldW true 5 t1 w1 fun t3 =>
 callF Tryz.prog 56 [t3] w1 fun t4 w2 =>
 unW .not t4 fun t5 =>
 K t5 w2
theorem W80_ok {v0 : Value} {w : World} {K : Value → World → Prop} (h : W80 v0 w K) : callF Tryz.prog 80 [v0] w K :=
 tie _ 80 Tryz.f80 plan80 _ w K 1 _ rfl mixed Tryz.func80 (by kernel_rfl) (by kernel_rfl) Tryz.call80 h
def plan82 : Plan := { js := [(14,⟨[],[],7⟩)],ds := [(15,⟨[0,1,2,3,6,7,8,9,12,14],[[],[0],[],[],[3],[0,1,2,3,4],[],[6],[],[],[9],[0,1,2,3,4,5,6,7,8,9,10],[0,1,2,3,4,5,6,7],[0,1,2,3,4,5,6,7,8,9,10,11,12],[0,1,2,3,4,5,6,7,8,9,10,11,12,13],[0,1,2,3,4,5,6,7,8,9,10,11,12,13,14]]⟩)] }
def W82 (v0 v1 v2 : Value) (w : World) (K : Value → World → Prop) : Prop :=
 boxW 67 v0 w fun t3 w1 =>
 boxW 67 v2 w1 fun t5 w2 =>
 allocW 67 [(.int .i64 0),(.bool false),(.string (ofL [])),(.slice none 0 0),(.slice none 0 0)] w2 fun t6 w3 =>
 fldW 4 t3 fun t10 =>
 ldW false 1 t10 w3 fun t11 =>
 callF Tryz.prog 122 [t11,v1] w3 fun t13 w4 =>
 extW 0 t13 fun t14 =>
 extW 1 t13 fun t15 =>
 condW t15 (
 fldW 3 t3 fun t17 =>
 ldW false 1 t17 w4 fun t18 =>
 ldW true 5 t5 w4 fun t20 =>
 ixaW none 5 t18 t14 fun t21 =>
 stW 5 t21 t20 w4 fun w5 =>
 ldW true 5 t3 w5 fun t22 =>
 stW 5 t6 t22 w5 fun w6 =>
 ldW true 5 t6 w6 fun r7 =>
 K r7 w6) (
 JoinW (fun J8 =>
 fldW 4 t3 fun t23 =>
 ldW false 1 t23 w4.drew fun t24 =>
 fldW 3 t3 fun t29 =>
 ldW false 1 t29 w4.drew fun t30 =>
 ldW true 5 t5 w4.drew fun t32 =>
 (
 bslW 9 1 [(.string (ofL []))] [(0,1,v1)] w4.drew fun t27 w9 =>
 (ldW true 5 t5 w9 fun x => x = t32) ∧
 (ldW false 1 t29 w9 fun x => x = t30) ∧
 (ldW false 1 t23 w9 fun x => x = t24) ∧
 (
 callF Tryz.prog 123 [t24,t14,t27] w9 fun t28 w10 =>
 (ldW true 5 t5 w10 fun x => x = t32) ∧
 (ldW false 1 t29 w10 fun x => x = t30) ∧
 fldW 4 t3 fun t35 =>
 bslW 67 1 [(.int .i64 0),(.bool false),(.string (ofL [])),(.slice none 0 0),(.slice none 0 0)] [(0,5,t32)] w10 fun t33 w11 =>
 (ldW false 1 t29 w11 fun x => x = t30) ∧
 callF Tryz.prog 124 [t30,t14,t33] w11 fun t34 w12 =>
 stW 1 t35 t28 w12 fun w13 =>
 fldW 3 t3 fun t36 =>
 stW 1 t36 t34 w13 fun w14 =>
 J8 [] w14) ∧
 (
 bslW 67 1 [(.int .i64 0),(.bool false),(.string (ofL [])),(.slice none 0 0),(.slice none 0 0)] [(0,5,t32)] w9 fun t33 w15 =>
 (ldW false 1 t29 w15 fun x => x = t30) ∧
 (ldW false 1 t23 w15 fun x => x = t24) ∧
 callF Tryz.prog 123 [t24,t14,t27] w15 fun t28 w16 =>
 (ldW false 1 t29 w16 fun x => x = t30) ∧
 fldW 4 t3 fun t35 =>
 callF Tryz.prog 124 [t30,t14,t33] w16 fun t34 w17 =>
 stW 1 t35 t28 w17 fun w18 =>
 fldW 3 t3 fun t36 =>
 stW 1 t36 t34 w18 fun w19 =>
 J8 [] w19)) ∧
 (
 bslW 67 1 [(.int .i64 0),(.bool false),(.string (ofL [])),(.slice none 0 0),(.slice none 0 0)] [(0,5,t32)] w4.drew fun t33 w20 =>
 (ldW false 1 t29 w20 fun x => x = t30) ∧
 (ldW false 1 t23 w20 fun x => x = t24) ∧
 bslW 9 1 [(.string (ofL []))] [(0,1,v1)] w20 fun t27 w21 =>
 (ldW false 1 t29 w21 fun x => x = t30) ∧
 (ldW false 1 t23 w21 fun x => x = t24) ∧
 callF Tryz.prog 123 [t24,t14,t27] w21 fun t28 w22 =>
 (ldW false 1 t29 w22 fun x => x = t30) ∧
 fldW 4 t3 fun t35 =>
 callF Tryz.prog 124 [t30,t14,t33] w22 fun t34 w23 =>
 stW 1 t35 t28 w23 fun w24 =>
 fldW 3 t3 fun t36 =>
 stW 1 t36 t34 w24 fun w25 =>
 J8 [] w25))
 fun s8 _ w26 =>
 ldW true 5 t3 w26 fun t37 =>
 stW 5 t6 t37 w26 fun w27 =>
 ldW true 5 t6 w27 fun r28 =>
 K r28 w27)
theorem W82_ok {v0 v1 v2 : Value} {w : World} {K : Value → World → Prop} (h : W82 v0 v1 v2 w K) : callF Tryz.prog 82 [v0,v1,v2] w K :=
 tie _ 82 Tryz.f82 plan82 _ w K 3 _ rfl mixed Tryz.func82 (by kernel_rfl) (by kernel_rfl) Tryz.call82 h
def plan84 : Plan := { js := [],ds := [] }
def W84 (v0 : Value) (w : World) (K : Value → World → Prop) : Prop :=
 callF Tryz.prog 74 [v0] w fun t4 w1 =>
 unW .not t4 fun t5 =>
 K t5 w1
theorem W84_ok {v0 : Value} {w : World} {K : Value → World → Prop} (h : W84 v0 w K) : callF Tryz.prog 84 [v0] w K :=
 tie _ 84 Tryz.f84 plan84 _ w K 1 _ rfl mixed Tryz.func84 (by kernel_rfl) (by kernel_rfl) Tryz.call84 h
def plan85 : Plan := { js := [],ds := [] }
def W85 (v0 : Value) (w : World) (K : Value → World → Prop) : Prop :=
 boxW 67 v0 w fun t1 w1 =>
 ldW true 5 t1 w1 fun t3 =>
 callF Tryz.prog 58 [t3] w1 fun t4 w2 =>
 unW .not t4 fun t5 =>
 K t5 w2
theorem W85_ok {v0 : Value} {w : World} {K : Value → World → Prop} (h : W85 v0 w K) : callF Tryz.prog 85 [v0] w K :=
 tie _ 85 Tryz.f85 plan85 _ w K 1 _ rfl mixed Tryz.func85 (by kernel_rfl) (by kernel_rfl) Tryz.call85 h
def plan86 : Plan := { js := [],ds := [] }
def W86 (v0 v1 : Value) (w : World) (K : Value → World → Prop) : Prop :=
 callF Tryz.prog 127 [v0] w fun t7 w1 =>
 nilW v0 fun t10 =>
 fldW 1 t10 fun t11 =>
 ldW false 1 t11 w1 fun t12 =>
 semE Tryz.prog (Builtin.append_ #[50,9] 50 #[t12,v1]) w1 fun t14 w2 =>
 nilW v0 fun t15 =>
 fldW 1 t15 fun t16 =>
 stW 1 t16 t14 w2 fun w3 =>
 lensW v1 fun t18 =>
 K (.tuple #[t18,.nilIface]) w3
theorem W86_ok {v0 v1 : Value} {w : World} {K : Value → World → Prop} (h : W86 v0 v1 w K) : callF Tryz.prog 86 [v0,v1] w K :=
 tie _ 86 Tryz.f86 plan86 _ w K 2 _ rfl mixed Tryz.func86 (by kernel_rfl) (by kernel_rfl) Tryz.call86 h
def plan88 : Plan := { js := [(6,⟨[],[5,6],11⟩)],ds := [] }
def W88 (v0 v1 : Value) (w : World) (K : Value → World → Prop) : Prop :=
 callF Tryz.prog 89 [v0,(.int .u8 34)] w fun t8 w1 =>
 semE Tryz.prog (Instr.range 9 v1) w1 fun t10 w2 =>
 LoopW [] w2 fun s3 _ w4 L3 =>
 semE Tryz.prog (Instr.next t10 true 0) w4 fun t11 w5 =>
 extW 0 t11 fun t12 =>
 condW t12 (
 extW 2 t11 fun t13 =>
 callF Tryz.prog 129 [t13] w5 fun t15 w6 =>
 binW .neq t15 (.int .u8 0) fun t21 =>
 condW t21 (
 cvtW .i32 t15 fun t24 =>
 cvsW t24 fun t25 =>
 binW .add (.string (ofL [92])) t25 fun t26 =>
 callF Tryz.prog 86 [v0,t26] w6 fun t27 w7 =>
 L3 [] w7) (
 binW .lss t13 (.int .i32 32) fun t30 =>
 condW t30 (
 cvtW .i64 t13 fun t33 =>
 binW .add t33 (.int .i64 256) fun t34 =>
 callF Tryz.prog 130 [t34,(.int .i64 16)] w6 fun t35 w8 =>
 slsW t35 (some (.int .i64 1)) none fun t36 =>
 binW .add (.string (ofL [92,117,48,48])) t36 fun t37 =>
 callF Tryz.prog 86 [v0,t37] w8 fun t38 w9 =>
 L3 [] w9) (
 callF Tryz.prog 131 [v0,t13] w6 fun t18 w10 =>
 L3 [] w10))) (
 callF Tryz.prog 89 [v0,(.int .u8 34)] w5 fun t40 w11 =>
 K (.tuple #[]) w11)
theorem W88_ok {v0 v1 : Value} {w : World} {K : Value → World → Prop} (h : W88 v0 v1 w K) : callF Tryz.prog 88 [v0,v1] w K :=
 tie _ 88 Tryz.f88 plan88 _ w K 2 _ rfl mixed Tryz.func88 (by kernel_rfl) (by kernel_rfl) Tryz.call88 h
def plan89 : Plan := { js := [],ds := [] }
def W89 (v0 v1 : Value) (w : World) (K : Value → World → Prop) : Prop :=
 callF Tryz.prog 127 [v0] w fun t6 w1 =>
 nilW v0 fun t9 =>
 fldW 1 t9 fun t10 =>
 ldW false 1 t10 w1 fun t11 =>
 bslW 5 1 [(.int .u8 0)] [(0,1,v1)] w1 fun t13 w2 =>
 semE Tryz.prog (Builtin.append_ #[50,50] 50 #[t11,t13]) w2 fun t14 w3 =>
 nilW v0 fun t15 =>
 fldW 1 t15 fun t16 =>
 stW 1 t16 t14 w3 fun w4 =>
 K .nilIface w4
theorem W89_ok {v0 v1 : Value} {w : World} {K : Value → World → Prop} (h : W89 v0 v1 w K) : callF Tryz.prog 89 [v0,v1] w K :=
 tie _ 89 Tryz.f89 plan89 _ w K 2 _ rfl mixed Tryz.func89 (by kernel_rfl) (by kernel_rfl) Tryz.call89 h
def plan91 : Plan := { js := [],ds := [(7,⟨[0,1,2,3,4,5,6,7,8,9],[[],[0],[0,1],[0,1,2],[],[4],[4,5],[4,5,6],[0,1,2,3,4,5,6,7],[0,1,2,3,4,5,6,7,8]]⟩),(4,⟨[0,1,2,3,4,5,6,7,8,9],[[],[0],[0,1],[0,1,2],[],[4],[4,5],[4,5,6],[4,5,6,7],[0,1,2,3,4,5,6,7,8]]⟩)] }
def W91 (v0 : Value) (w : World) (K : Value → World → Prop) : Prop :=
 nilW v0 fun t4 =>
 fldW 1 t4 fun t5 =>
 ldW false 1 t5 w.drew fun t6 =>
 nilW v0 fun t8 =>
 fldW 0 t8 fun t9 =>
 ldW false 1 t9 w.drew fun t10 =>
 lensW t10 fun t11 =>
 binW .lss t6 t11 fun t12 =>
 condW t12 (
 nilW v0 fun t14 =>
 fldW 0 t14 fun t15 =>
 ldW false 1 t15 w.drew.drew fun t16 =>
 nilW v0 fun t18 =>
 fldW 1 t18 fun t19 =>
 ldW false 1 t19 w.drew.drew fun t20 =>
 ixsW t16 t20 fun t21 =>
 K t21 w.drew.drew) (
 K (.int .u8 0) w.drew)
theorem W91_ok {v0 : Value} {w : World} {K : Value → World → Prop} (h : W91 v0 w K) : callF Tryz.prog 91 [v0] w K :=
 tie _ 91 Tryz.f91 plan91 _ w K 1 _ rfl mixed Tryz.func91 (by kernel_rfl) (by kernel_rfl) Tryz.call91 h
def plan93 : Plan := { js := [],ds := [] }
def W93 (w : World) (K : Value → World → Prop) : Prop :=
 allocW 67 [(.int .i64 0),(.bool false),(.string (ofL [])),(.slice none 0 0),(.slice none 0 0)] w fun t0 w1 =>
 putW [(.int .i64 0),(.bool false),(.string (ofL [])),(.slice none 0 0),(.slice none 0 0)] [] fun c2 =>
 stW 5 t0 (.agg c2.toArray) w1 fun w3 =>
 ldW true 5 t0 w3 fun r4 =>
 K r4 w3
theorem W93_ok {w : World} {K : Value → World → Prop} (h : W93 w K) : callF Tryz.prog 93 [] w K :=
 tie _ 93 Tryz.f93 plan93 _ w K 0 _ rfl mixed Tryz.func93 (by kernel_rfl) (by kernel_rfl) Tryz.call93 h
def plan94 : Plan := { js := [],ds := [] }
def W94 (v0 : Value) (w : World) (K : Value → World → Prop) : Prop :=
 allocW 67 [(.int .i64 0),(.bool false),(.string (ofL [])),(.slice none 0 0),(.slice none 0 0)] w fun t2 w1 =>
 putW [(.int .i64 0),(.bool false),(.string (ofL [])),(.slice none 0 0),(.slice none 0 0)] [(0,1,(.int .i64 2)),(1,1,v0)] fun c2 =>
 stW 5 t2 (.agg c2.toArray) w1 fun w3 =>
 ldW true 5 t2 w3 fun r4 =>
 K r4 w3
theorem W94_ok {v0 : Value} {w : World} {K : Value → World → Prop} (h : W94 v0 w K) : callF Tryz.prog 94 [v0] w K :=
 tie _ 94 Tryz.f94 plan94 _ w K 1 _ rfl mixed Tryz.func94 (by kernel_rfl) (by kernel_rfl) Tryz.call94 h
def plan95 : Plan := { js := [(36,⟨[6],[],3⟩),(26,⟨[],[],4⟩),(30003,⟨[60],[],59⟩),(30007,⟨[56],[],55⟩),(30011,⟨[52],[],51⟩),(30015,⟨[48],[],47⟩),(20,⟨[],[],4⟩),(14,⟨[],[],5⟩),(8,⟨[],[],5⟩)],ds := [(35,⟨[0,1,2,3,4,5,6,7,8,9,10],[[],[0],[0,1],[0,1,2],[],[],[5],[5,6],[5,6,7],[0,1,2,3,4,5,6,7,8],[0,1,2,3,4,5,6,7,8,9]]⟩)] }
def W95 (v0 : Value) (w : World) (K : Value → World → Prop) : Prop :=
 allocW 67 [(.int .i64 0),(.bool false),(.string (ofL [])),(.slice none 0 0),(.slice none 0 0)] w fun t2 w1 =>
 nilW v0 fun t8 =>
 fldW 1 t8 fun t9 =>
 ldW false 1 t9 w1 fun t10 =>
 callF Tryz.prog 134 [v0,(.int .u8 45)] w1 fun t12 w2 =>
 nilW v0 fun t14 =>
 fldW 1 t14 fun t15 =>
 ldW false 1 t15 w2 fun t16 =>
 JoinW (fun J3 =>
 callF Tryz.prog 134 [v0,(.int .u8 48)] w2 fun t18 w4 =>
 unW .not t18 fun t19 =>
 condW t19 (
 callF Tryz.prog 135 [v0] w4 fun t21 w5 =>
 J3 [] w5) (
 J3 [] w4))
 fun s3 _ w6 =>
 JoinW (fun J7 =>
 nilW v0 fun t23 =>
 fldW 1 t23 fun t24 =>
 ldW false 1 t24 w6 fun t25 =>
 binW .eql t25 t16 fun t27 =>
 condW t27 (
 nilW v0 fun t29 =>
 fldW 1 t29 fun t30 =>
 ldW false 1 t30 w6 fun t31 =>
 callF Tryz.prog 64 [(.int .i64 30),t31] w6 fun t32 w8 =>
 J7 [] w8) (
 J7 [] w6))
 fun s7 _ w9 =>
 JoinW (fun J10 =>
 nilW v0 fun t34 =>
 fldW 1 t34 fun t35 =>
 ldW false 1 t35 w9 fun t36 =>
 binW .sub t36 t16 fun t38 =>
 binW .gtr t38 (.int .i64 100) fun t39 =>
 condW t39 (
 callF Tryz.prog 64 [(.int .i64 3),t10] w9 fun t41 w11 =>
 J10 [] w11) (
 J10 [] w9))
 fun s10 _ w12 =>
 JoinW (fun J13 =>
 callF Tryz.prog 91 [v0] w12 fun t43 w14 =>
 binW .geq t43 (.int .u8 48) fun t45 =>
 GdW (isB t45 true) [undef] w14 (fun J15 =>
 binW .leq t43 (.int .u8 57) fun t48 =>
 J15 [t48] w14)
 fun s15 _ w16 =>
 pickW t45 (s15.getD 0 undef) (.bool false) fun t49 =>
 GdW (isB t49 false) [undef] w16 (fun J17 =>
 binW .eql t43 (.int .u8 46) fun t52 =>
 J17 [t52] w16)
 fun s17 _ w18 =>
 pickW t49 (.bool true) (s17.getD 0 undef) fun t53 =>
 GdW (isB t53 false) [undef] w18 (fun J19 =>
 binW .eql t43 (.int .u8 101) fun t56 =>
 J19 [t56] w18)
 fun s19 _ w20 =>
 pickW t53 (.bool true) (s19.getD 0 undef) fun t57 =>
 GdW (isB t57 false) [undef] w20 (fun J21 =>
 binW .eql t43 (.int .u8 69) fun t60 =>
 J21 [t60] w20)
 fun s21 _ w22 =>
 pickW t57 (.bool true) (s21.getD 0 undef) fun t61 =>
 condW t61 (
 nilW v0 fun t63 =>
 fldW 1 t63 fun t64 =>
 ldW false 1 t64 w22 fun t65 =>
 callF Tryz.prog 64 [(.int .i64 30),t65] w22 fun t66 w23 =>
 J13 [] w23) (
 J13 [] w22))
 fun s13 _ w24 =>
 nilW v0 fun t68 =>
 fldW 0 t68 fun t69 =>
 ldW false 1 t69 w24.drew fun t70 =>
 nilW v0 fun t73 =>
 fldW 1 t73 fun t74 =>
 ldW false 1 t74 w24.drew fun t75 =>
 slsW t70 (some t10) (some t75) fun t76 =>
 JoinW (fun J25 =>
 callF Tryz.prog 69 [t76] w24.drew fun t78 w26 =>
 unW .not t78 fun t79 =>
 condW t79 (
 J25 [(.string (ofL [48]))] w26) (
 J25 [t76] w26))
 fun s25 _ w27 =>
 putW [(.int .i64 0),(.bool false),(.string (ofL [])),(.slice none 0 0),(.slice none 0 0)] [(0,1,(.int .i64 3)),(2,1,(s25.getD 0 undef))] fun c28 =>
 stW 5 t2 (.agg c28.toArray) w27 fun w29 =>
 ldW true 5 t2 w29 fun r30 =>
 K r30 w29
theorem W95_ok {v0 : Value} {w : World} {K : Value → World → Prop} (h : W95 v0 w K) : callF Tryz.prog 95 [v0] w K :=
 tie _ 95 Tryz.f95 plan95 _ w K 1 _ rfl mixed Tryz.func95 (by kernel_rfl) (by kernel_rfl) Tryz.call95 h
def plan96 : Plan := { js := [(19,⟨[],[2],7⟩),(46004,⟨[81],[],80⟩),(26,⟨[],[],7⟩),(11,⟨[],[],5⟩),(9,⟨[],[2],5⟩)],ds := [(18,⟨[0,1,2,3,4,5,6,7,8,10,11,12,13,14],[[],[0],[0,1],[0,1,2],[],[4],[4,5],[4,5,6],[0,1,2,3,4,5,6,7],[0,1,2,3,4,5,6,7,8],[0,1,2,3,4,5,6,7,8,9],[0,1,2,3,4,5,6,7,8,9,10],[0,1,2,3,4,5,6,7,8,9,10],[0,1,2,3,4,5,6,7,8,9,10,11],[0,1,2,3,4,5,6,7,8,9,10,11,12,13]]⟩),(13,⟨[0,1,2,3,4,5,6,7,8,9],[[],[0],[0,1],[0,1,2],[],[4],[4,5],[4,5,6],[4,5,6,7],[0,1,2,3,4,5,6,7,8]]⟩)] }
def W96 (v0 : Value) (w : World) (K : Value → World → Prop) : Prop :=
 nilW v0 fun t8 =>
 fldW 1 t8 fun t9 =>
 ldW false 1 t9 w fun t10 =>
 nilW v0 fun t12 =>
 fldW 1 t12 fun t13 =>
 ldW false 1 t13 w fun t14 =>
 binW .add t14 (.int .i64 1) fun t15 =>
 nilW v0 fun t16 =>
 fldW 1 t16 fun t17 =>
 stW 1 t17 t15 w fun w1 =>
 allocW 102 [(.pointer none),(.slice none 0 0)] w1 fun t4 w2 =>
 LoopW [] w2 fun s3 _ w4 L3 =>
 JoinW (fun J5 =>
 nilW v0 fun t19 =>
 fldW 1 t19 fun t20 =>
 ldW false 1 t20 w4.drew fun t21 =>
 nilW v0 fun t23 =>
 fldW 0 t23 fun t24 =>
 ldW false 1 t24 w4.drew fun t25 =>
 lensW t25 fun t26 =>
 binW .geq t21 t26 fun t27 =>
 condW t27 (
 nilW v0 fun t29 =>
 fldW 0 t29 fun t30 =>
 ldW false 1 t30 w4.drew fun t31 =>
 lensW t31 fun t32 =>
 callF Tryz.prog 64 [(.int .i64 30),t32] w4.drew fun t33 w6 =>
 J5 [] w6) (
 J5 [] w4.drew))
 fun s5 _ w7 =>
 nilW v0 fun t36 =>
 fldW 0 t36 fun t37 =>
 ldW false 1 t37 w7.drew fun t38 =>
 nilW v0 fun t40 =>
 fldW 1 t40 fun t41 =>
 ldW false 1 t41 w7.drew fun t42 =>
 slsW t38 (some t42) none fun t43 =>
 callF Tryz.prog 136 [t43] w7.drew fun t44 w8 =>
 extW 0 t44 fun t45 =>
 extW 1 t44 fun t46 =>
 JoinW (fun J9 =>
 binW .eql t45 (.int .i32 34) fun t49 =>
 condW t49 (
 nilW v0 fun t51 =>
 fldW 1 t51 fun t52 =>
 ldW false 1 t52 w8 fun t53 =>
 binW .add t53 (.int .i64 1) fun t54 =>
 nilW v0 fun t55 =>
 fldW 1 t55 fun t56 =>
 stW 1 t56 t54 w8 fun w10 =>
 JoinW (fun J11 =>
 callF Tryz.prog 60 [t4] w10 fun t57 w12 =>
 binW .gtr t57 (.int .i64 16384) fun t58 =>
 condW t58 (
 callF Tryz.prog 64 [(.int .i64 3),t10] w12 fun t60 w13 =>
 J11 [] w13) (
 J11 [] w12))
 fun s11 _ w14 =>
 callF Tryz.prog 61 [t4] w14 fun t61 w15 =>
 K t61 w15) (
 binW .eql t45 (.int .i32 92) fun t64 =>
 condW t64 (
 callF Tryz.prog 137 [v0] w8 fun t66 w16 =>
 callF Tryz.prog 131 [t4,t66] w16 fun t67 w17 =>
 L3 [] w17) (
 binW .lss t45 (.int .i32 32) fun t70 =>
 condW t70 (
 nilW v0 fun t72 =>
 fldW 1 t72 fun t73 =>
 ldW false 1 t73 w8 fun t74 =>
 callF Tryz.prog 64 [(.int .i64 30),t74] w8 fun t75 w18 =>
 J9 [] w18) (
 binW .eql t45 (.int .i32 65533) fun t78 =>
 GdW (isB t78 true) [undef] w8 (fun J19 =>
 binW .lss t46 (.int .i64 2) fun t81 =>
 J19 [t81] w8)
 fun s19 _ w20 =>
 pickW t78 (s19.getD 0 undef) (.bool false) fun t82 =>
 condW t82 (
 nilW v0 fun t84 =>
 fldW 1 t84 fun t85 =>
 ldW false 1 t85 w20 fun t86 =>
 callF Tryz.prog 64 [(.int .i64 31),t86] w20 fun t87 w21 =>
 J9 [] w21) (
 J9 [] w20)))))
 fun s9 _ w22 =>
 callF Tryz.prog 131 [t4,t45] w22 fun t89 w23 =>
 nilW v0 fun t91 =>
 fldW 1 t91 fun t92 =>
 ldW false 1 t92 w23 fun t93 =>
 binW .add t93 t46 fun t95 =>
 nilW v0 fun t96 =>
 fldW 1 t96 fun t97 =>
 stW 1 t97 t95 w23 fun w24 =>
 L3 [] w24
theorem W96_ok {v0 : Value} {w : World} {K : Value → World → Prop} (h : W96 v0 w K) : callF Tryz.prog 96 [v0] w K :=
 tie _ 96 Tryz.f96 plan96 _ w K 1 _ rfl mixed Tryz.func96 (by kernel_rfl) (by kernel_rfl) Tryz.call96 h
def plan97 : Plan := { js := [(17,⟨[],[],6⟩)],ds := [(20,⟨[0,1,2,3,4,8],[[],[0],[],[],[3],[2,3,4],[2,3,4,5],[0,1,2,3,4,5,6],[0,1,2,3,4,5,6,7],[0,1,2,3,4,5,6,7,8]]⟩)] }
def W97 (v0 v1 : Value) (w : World) (K : Value → World → Prop) : Prop :=
 allocW 67 [(.int .i64 0),(.bool false),(.string (ofL [])),(.slice none 0 0),(.slice none 0 0)] w fun t4 w1 =>
 putW [(.int .i64 0),(.bool false),(.string (ofL [])),(.slice none 0 0),(.slice none 0 0)] [(0,1,(.int .i64 5))] fun c2 =>
 allocW 67 [(.int .i64 0),(.bool false),(.string (ofL [])),(.slice none 0 0),(.slice none 0 0)] w1 fun t5 w3 =>
 stW 5 t5 (.agg c2.toArray) w3 fun w4 =>
 nilW v0 fun t8 =>
 fldW 1 t8 fun t9 =>
 ldW false 1 t9 w4 fun t10 =>
 binW .add t10 (.int .i64 1) fun t11 =>
 nilW v0 fun t12 =>
 fldW 1 t12 fun t13 =>
 stW 1 t13 t11 w4 fun w5 =>
 callF Tryz.prog 66 [v0] w5 fun t15 w6 =>
 callF Tryz.prog 134 [v0,(.int .u8 93)] w6 fun t17 w7 =>
 condW t17 (
 ldW true 5 t5 w7 fun t18 =>
 stW 5 t4 t18 w7 fun w8 =>
 ldW true 5 t4 w8 fun r9 =>
 K r9 w8) (
 LoopW [] w7 fun s10 _ w11 L10 =>
 fldW 3 t5 fun t19 =>
 ldW false 1 t19 w11.drew fun t20 =>
 binW .add v1 (.int .i64 1) fun t23 =>
 callF Tryz.prog 65 [v0,t23] w11.drew fun t24 w12 =>
 (ldW false 1 t19 w12 fun x => x = t20) ∧
 bslW 67 1 [(.int .i64 0),(.bool false),(.string (ofL [])),(.slice none 0 0),(.slice none 0 0)] [(0,5,t24)] w12 fun t25 w13 =>
 (ldW false 1 t19 w13 fun x => x = t20) ∧
 semE Tryz.prog (Builtin.append_ #[65,65] 65 #[t20,t25]) w13 fun t26 w14 =>
 fldW 3 t5 fun t27 =>
 stW 1 t27 t26 w14 fun w15 =>
 callF Tryz.prog 66 [v0] w15 fun t29 w16 =>
 callF Tryz.prog 134 [v0,(.int .u8 93)] w16 fun t31 w17 =>
 condW t31 (
 ldW true 5 t5 w17 fun t32 =>
 stW 5 t4 t32 w17 fun w18 =>
 ldW true 5 t4 w18 fun r19 =>
 K r19 w18) (
 callF Tryz.prog 138 [v0,(.int .u8 44)] w17 fun t34 w20 =>
 L10 [] w20))
theorem W97_ok {v0 v1 : Value} {w : World} {K : Value → World → Prop} (h : W97 v0 v1 w K) : callF Tryz.prog 97 [v0,v1] w K :=
 tie _ 97 Tryz.f97 plan97 _ w K 2 _ rfl mixed Tryz.func97 (by kernel_rfl) (by kernel_rfl) Tryz.call97 h
def plan98 : Plan := { js := [(31,⟨[],[],8⟩),(23,⟨[],[],7⟩),(17,⟨[],[],6⟩)],ds := [(42,⟨[0,1,2,3,4],[[],[],[],[],[3],[2,3,4],[0,1,2,3,4,5],[0,1,2,3,4,5,6]]⟩)] }
def W98 (v0 v1 : Value) (w : World) (K : Value → World → Prop) : Prop :=
 allocW 67 [(.int .i64 0),(.bool false),(.string (ofL [])),(.slice none 0 0),(.slice none 0 0)] w fun t4 w1 =>
 putW [(.int .i64 0),(.bool false),(.string (ofL [])),(.slice none 0 0),(.slice none 0 0)] [(0,1,(.int .i64 6))] fun c2 =>
 allocW 67 [(.int .i64 0),(.bool false),(.string (ofL [])),(.slice none 0 0),(.slice none 0 0)] w1 fun t5 w3 =>
 stW 5 t5 (.agg c2.toArray) w3 fun w4 =>
 nilW v0 fun t12 =>
 fldW 1 t12 fun t13 =>
 ldW false 1 t13 w4 fun t14 =>
 binW .add t14 (.int .i64 1) fun t15 =>
 nilW v0 fun t16 =>
 fldW 1 t16 fun t17 =>
 stW 1 t17 t15 w4 fun w5 =>
 callF Tryz.prog 66 [v0] w5 fun t19 w6 =>
 callF Tryz.prog 134 [v0,(.int .u8 125)] w6 fun t21 w7 =>
 condW t21 (
 ldW true 5 t5 w7 fun t22 =>
 stW 5 t4 t22 w7 fun w8 =>
 ldW true 5 t4 w8 fun r9 =>
 K r9 w8) (
 LoopW [] w7 fun s10 _ w11 L10 =>
 callF Tryz.prog 66 [v0] w11 fun t24 w12 =>
 nilW v0 fun t26 =>
 fldW 1 t26 fun t27 =>
 ldW false 1 t27 w12 fun t28 =>
 JoinW (fun J13 =>
 callF Tryz.prog 91 [v0] w12 fun t30 w14 =>
 binW .neq t30 (.int .u8 34) fun t31 =>
 condW t31 (
 nilW v0 fun t33 =>
 fldW 1 t33 fun t34 =>
 ldW false 1 t34 w14 fun t35 =>
 callF Tryz.prog 64 [(.int .i64 30),t35] w14 fun t36 w15 =>
 J13 [] w15) (
 J13 [] w14))
 fun s13 _ w16 =>
 callF Tryz.prog 96 [v0] w16 fun t38 w17 =>
 JoinW (fun J18 =>
 ldW true 5 t5 w17 fun t40 =>
 callF Tryz.prog 81 [t40,t38] w17 fun t42 w19 =>
 extW 0 t42 fun t43 =>
 extW 1 t42 fun t44 =>
 allocW 67 [(.int .i64 0),(.bool false),(.string (ofL [])),(.slice none 0 0),(.slice none 0 0)] w19 fun t8 w20 =>
 stW 5 t8 t43 w20 fun w21 =>
 condW t44 (
 callF Tryz.prog 64 [(.int .i64 2),t28] w21 fun t47 w22 =>
 J18 [] w22) (
 J18 [] w21))
 fun s18 _ w23 =>
 callF Tryz.prog 138 [v0,(.int .u8 58)] w23 fun t49 w24 =>
 ldW true 5 t5 w24.drew fun t50 =>
 binW .add v1 (.int .i64 1) fun t54 =>
 callF Tryz.prog 65 [v0,t54] w24.drew fun t55 w25 =>
 (ldW true 5 t5 w25 fun x => x = t50) ∧
 callF Tryz.prog 139 [t50,t38,t55] w25 fun t56 w26 =>
 stW 5 t5 t56 w26 fun w27 =>
 callF Tryz.prog 66 [v0] w27 fun t58 w28 =>
 callF Tryz.prog 134 [v0,(.int .u8 125)] w28 fun t60 w29 =>
 condW t60 (
 ldW true 5 t5 w29 fun t61 =>
 stW 5 t4 t61 w29 fun w30 =>
 ldW true 5 t4 w30 fun r31 =>
 K r31 w30) (
 callF Tryz.prog 138 [v0,(.int .u8 44)] w29 fun t63 w32 =>
 L10 [] w32))
theorem W98_ok {v0 v1 : Value} {w : World} {K : Value → World → Prop} (h : W98 v0 v1 w K) : callF Tryz.prog 98 [v0,v1] w K :=
 tie _ 98 Tryz.f98 plan98 _ w K 2 _ rfl mixed Tryz.func98 (by kernel_rfl) (by kernel_rfl) Tryz.call98 h
def plan101 : Plan := { js := [],ds := [] }
def W101 (v0 v1 v2 v3 v4 : Value) (w : World) (K : Value → World → Prop) : Prop :=
 eqQ Tryz.prog .eql 112 false false v4 (.iface 176 (.int .i64 2)) w fun t14 =>
 condW t14 (
 callF Tryz.prog 142 [v0,v1] w fun t17 w1 =>
 K (.iface 179 t17) w1) (
 eqQ Tryz.prog .eql 112 false false v4 (.iface 176 (.int .i64 1)) w fun t21 =>
 condW t21 (
 callF Tryz.prog 143 [v0,v1] w fun t24 w2 =>
 K (.iface 179 t24) w2) (
 eqQ Tryz.prog .eql 112 false false v4 (.iface 176 (.int .i64 3)) w fun t28 =>
 condW t28 (
 callF Tryz.prog 144 [v0,v1,v2] w fun t32 w3 =>
 K (.iface 179 t32) w3) (
 eqQ Tryz.prog .eql 112 false false v4 (.iface 176 (.int .i64 4)) w fun t36 =>
 condW t36 (
 callF Tryz.prog 145 [v0,v1,v3] w fun t40 w4 =>
 K (.iface 179 t40) w4) (
 K v4 w))))
theorem W101_ok {v0 v1 v2 v3 v4 : Value} {w : World} {K : Value → World → Prop} (h : W101 v0 v1 v2 v3 v4 w K) : callF Tryz.prog 101 [v0,v1,v2,v3,v4] w K :=
 tie _ 101 Tryz.f101 plan101 _ w K 5 _ rfl mixed Tryz.func101 (by kernel_rfl) (by kernel_rfl) Tryz.call101 h
def plan114 : Plan := { js := [(144,⟨[],[4],16⟩),(153,⟨[16],[],16⟩),(147007,⟨[138],[],133⟩),(137,⟨[9],[4,9],16⟩),(108002,⟨[97],[],85⟩),(108006,⟨[96],[],93⟩),(108008,⟨[92],[],85⟩),(108013,⟨[90],[],86⟩),(108014,⟨[85],[],85⟩),(108020,⟨[82],[],79⟩),(108026,⟨[76],[],73⟩),(82,⟨[12],[],10⟩),(62,⟨[9],[4],9⟩),(53,⟨[9],[4],9⟩),(16,⟨[],[4,5,6],176⟩),(4004,⟨[165],[],164⟩)],ds := [(163,⟨[0,1,2,3,4,5,6,7,8,9,10],[[],[],[],[1,2],[0,1,2,3],[],[],[],[6,7],[5,6,7,8],[0,1,2,3,4,5,6,7,8,9]]⟩),(92,⟨[0,1,2,3,4,5,6,7,8,9,10],[[],[],[],[1,2],[0,1,2,3],[],[],[],[6,7],[5,6,7,8],[0,1,2,3,4,5,6,7,8,9]]⟩),(67,⟨[0,1,2,3,4,5,6,8],[[],[],[1],[0,1,2],[],[],[4,5],[0,1,2,3,4,5,6],[0,1,2,3,4,5,6,7]]⟩),(64,⟨[0,1,2,3,4,5,6],[[],[],[0,1],[],[],[3,4],[0,1,2,3,4,5]]⟩)] }
def W114 (v0 v1 : Value) (w : World) (K : Value → World → Prop) : Prop :=
 binW .leq (.int .i32 0) v1 fun t162 =>
 GdW (isB t162 true) [undef] w (fun J1 =>
 binW .lss v1 (.int .i32 128) fun t165 =>
 J1 [t165] w)
 fun s1 _ w2 =>
 pickW t162 (s1.getD 0 undef) (.bool false) fun t166 =>
 condW t166 (
 cvtW .u8 v1 fun t169 =>
 callF Tryz.prog 99 [v0,t169] w2 fun t170 w3 =>
 K t170 w3) (
 binW .eql v1 (.int .i32 65533) fun t173 =>
 condW t173 (
 semE Tryz.prog (Instr.range 9 v0) w2 fun t175 w4 =>
 LoopW [] w4 fun s5 _ w6 L5 =>
 semE Tryz.prog (Instr.next t175 true 0) w6 fun t176 w7 =>
 extW 0 t176 fun t177 =>
 condW t177 (
 extW 1 t176 fun t178 =>
 extW 2 t176 fun t179 =>
 binW .eql t179 (.int .i32 65533) fun t181 =>
 condW t181 (
 K t178 w7) (
 L5 [] w7)) (
 K (.int .i64 (-1)) w7)) (
 callF Tryz.prog 153 [v1] w2 fun t185 w8 =>
 unW .not t185 fun t186 =>
 condW t186 (
 K (.int .i64 (-1)) w8) (
 cvsW v1 fun t18 =>
 lensW t18 fun t20 =>
 binW .sub t20 (.int .i64 1) fun t21 =>
 LoopW [t21] w8 fun s9 _ w10 L9 =>
 lensW v0 fun t25 =>
 binW .lss (s9.getD 0 undef) t25 fun t26 =>
 condW t26 (
 JoinW (fun J11 =>
 ixsW v0 (s9.getD 0 undef) fun t29 =>
 ixsW t18 t21 fun t32 =>
 binW .neq t29 t32 fun t33 =>
 condW t33 (
 binW .add (s9.getD 0 undef) (.int .i64 1) fun t36 =>
 slsW v0 (some t36) none fun t37 =>
 ixsW t18 t21 fun t40 =>
 callF Tryz.prog 99 [t37,t40] w10.drew.drew fun t41 w12 =>
 binW .lss t41 (.int .i64 0) fun t43 =>
 condW t43 (
 K (.int .i64 (-1)) w12) (
 binW .add t41 (.int .i64 1) fun t46 =>
 binW .add (s9.getD 0 undef) t46 fun t47 =>
 J11 [t47] w12)) (
 J11 [(s9.getD 0 undef)] w10.drew))
 fun s11 _ w13 =>
 LoopW [(.int .i64 1)] w13 fun s14 _ w15 L14 =>
 lensW t18 fun t50 =>
 binW .lss (s14.getD 0 undef) t50 fun t51 =>
 condW t51 (
 binW .sub (s11.getD 0 undef) (s14.getD 0 undef) fun t57 =>
 ixsW v0 t57 fun t58 =>
 binW .sub t21 (s14.getD 0 undef) fun t62 =>
 ixsW t18 t62 fun t63 =>
 binW .neq t58 t63 fun t64 =>
 condW t64 (
 False) (
 binW .add (s14.getD 0 undef) (.int .i64 1) fun t53 =>
 L14 [t53] w15.drew)) (
 binW .sub (s11.getD 0 undef) t21 fun t67 =>
 K t67 w15)) (
 K (.int .i64 (-1)) w10))))
theorem W114_ok {v0 v1 : Value} {w : World} {K : Value → World → Prop} (h : W114 v0 v1 w K) : callF Tryz.prog 114 [v0,v1] w K :=
 tie _ 114 Tryz.f114 plan114 _ w K 2 _ rfl mixed Tryz.func114 (by kernel_rfl) (by kernel_rfl) Tryz.call114 h
def plan119 : Plan := { js := [],ds := [] }
def W119 (v0 v1 v2 : Value) (w : World) (K : Value → World → Prop) : Prop :=
 boxW 67 v0 w fun t3 w1 =>
 ldW true 5 t3 w1 fun t5 =>
 ldW false 1 v1 w1 fun t6 =>
 binW .sub t6 (.int .i64 1) fun t7 =>
 ldW false 1 v2 w1 fun t8 =>
 callF Tryz.prog 75 [t5,t7,t8] w1 fun t9 w2 =>
 unW .not t9 fun t10 =>
 K t10 w2
theorem W119_ok {v0 v1 v2 : Value} {w : World} {K : Value → World → Prop} (h : W119 v0 v1 v2 w K) : callF Tryz.prog 119 [v0,v1,v2] w K :=
 tie _ 119 Tryz.f119 plan119 _ w K 3 _ rfl mixed Tryz.func119 (by kernel_rfl) (by kernel_rfl) Tryz.call119 h
def plan123 : Plan := { js := [],ds := [(45,⟨[0,1,2,3,4,5,6,7],[[],[],[],[1,2],[0,1,2,3],[],[],[5,6],[0,1,2,3,4,5,6,7]]⟩),(33,⟨[0,1,2,3,4,5,6,7],[[],[],[],[1,2],[0,1,2,3],[],[],[5,6],[0,1,2,3,4,5,6,7]]⟩)] }
def W123 (v0 v1 v2 : Value) (w : World) (K : Value → World → Prop) : Prop :=
 sllW 1 v0 (some v1) none none fun t12 =>
 lenlW v2 fun t14 =>
 binW .eql t14 (.int .i64 0) fun t16 =>
 condW t16 (
 K v0 w) (
 lenlW v0 fun t19 =>
 binW .eql v1 t19 fun t22 =>
 condW t22 (
 semE Tryz.prog (Builtin.append_ #[22,22] 22 #[v0,v2]) w fun t25 w1 =>
 K t25 w1) (
 binW .add t19 t14 fun t28 =>
 capW v0 fun t30 =>
 binW .gtr t28 t30 fun t31 =>
 condW t31 (
 sllW 1 v0 none (some v1) none fun t34 =>
 binW .add t19 t14 fun t37 =>
 binW .sub t37 v1 fun t39 =>
 semE Tryz.prog (Builtin.append_ #[22,3] 22 #[t34,t39]) w fun t40 w2 =>
 sllW 1 t40 (some v1) none none fun t43 =>
 semE Tryz.prog (Builtin.copy_ #[22,22] 3 #[t43,v2]) w2 fun t45 w3 =>
 binW .add v1 t14 fun t49 =>
 sllW 1 t40 (some t49) none none fun t50 =>
 sllW 1 v0 (some v1) none none fun t53 =>
 semE Tryz.prog (Builtin.copy_ #[22,22] 3 #[t50,t53]) w3.drew fun t54 w4 =>
 K t40 w4) (
 binW .add t19 t14 fun t59 =>
 sllW 1 v0 none (some t59) none fun t60 =>
 binW .add v1 t14 fun t65 =>
 sllW 1 t60 (some t65) none none fun t66 =>
 callF Tryz.prog 157 [v2,t66] w fun t67 w5 =>
 unW .not t67 fun t68 =>
 condW t68 (
 binW .add v1 t14 fun t72 =>
 sllW 1 t60 (some t72) none none fun t73 =>
 sllW 1 t60 (some v1) none none fun t76 =>
 semE Tryz.prog (Builtin.copy_ #[22,22] 3 #[t73,t76]) w5.drew fun t77 w6 =>
 sllW 1 t60 (some v1) none none fun t80 =>
 semE Tryz.prog (Builtin.copy_ #[22,22] 3 #[t80,v2]) w6 fun t82 w7 =>
 K t60 w7) (
 sllW 1 t60 (some t19) none none fun t86 =>
 semE Tryz.prog (Builtin.copy_ #[22,22] 3 #[t86,v2]) w5 fun t88 w8 =>
 sllW 1 t60 (some v1) none none fun t91 =>
 callF Tryz.prog 158 [t91,t14] w8 fun t93 w9 =>
 K t60 w9))))
theorem W123_ok {v0 v1 v2 : Value} {w : World} {K : Value → World → Prop} (h : W123 v0 v1 v2 w K) : callF Tryz.prog 123 [v0,v1,v2] w K :=
 tie _ 123 Tryz.f123 plan123 _ w K 3 _ rfl mixed Tryz.func123 (by kernel_rfl) (by kernel_rfl) Tryz.call123 h
def plan124 : Plan := { js := [],ds := [(45,⟨[0,1,2,3,4,5,6,7],[[],[],[],[1,2],[0,1,2,3],[],[],[5,6],[0,1,2,3,4,5,6,7]]⟩),(33,⟨[0,1,2,3,4,5,6,7],[[],[],[],[1,2],[0,1,2,3],[],[],[5,6],[0,1,2,3,4,5,6,7]]⟩)] }
def W124 (v0 v1 v2 : Value) (w : World) (K : Value → World → Prop) : Prop :=
 sllW 5 v0 (some v1) none none fun t12 =>
 lenlW v2 fun t14 =>
 binW .eql t14 (.int .i64 0) fun t16 =>
 condW t16 (
 K v0 w) (
 lenlW v0 fun t19 =>
 binW .eql v1 t19 fun t22 =>
 condW t22 (
 semE Tryz.prog (Builtin.append_ #[65,65] 65 #[v0,v2]) w fun t25 w1 =>
 K t25 w1) (
 binW .add t19 t14 fun t28 =>
 capW v0 fun t30 =>
 binW .gtr t28 t30 fun t31 =>
 condW t31 (
 sllW 5 v0 none (some v1) none fun t34 =>
 binW .add t19 t14 fun t37 =>
 binW .sub t37 v1 fun t39 =>
 semE Tryz.prog (Builtin.append_ #[65,3] 65 #[t34,t39]) w fun t40 w2 =>
 sllW 5 t40 (some v1) none none fun t43 =>
 semE Tryz.prog (Builtin.copy_ #[65,65] 3 #[t43,v2]) w2 fun t45 w3 =>
 binW .add v1 t14 fun t49 =>
 sllW 5 t40 (some t49) none none fun t50 =>
 sllW 5 v0 (some v1) none none fun t53 =>
 semE Tryz.prog (Builtin.copy_ #[65,65] 3 #[t50,t53]) w3.drew fun t54 w4 =>
 K t40 w4) (
 binW .add t19 t14 fun t59 =>
 sllW 5 v0 none (some t59) none fun t60 =>
 binW .add v1 t14 fun t65 =>
 sllW 5 t60 (some t65) none none fun t66 =>
 callF Tryz.prog 159 [v2,t66] w fun t67 w5 =>
 unW .not t67 fun t68 =>
 condW t68 (
 binW .add v1 t14 fun t72 =>
 sllW 5 t60 (some t72) none none fun t73 =>
 sllW 5 t60 (some v1) none none fun t76 =>
 semE Tryz.prog (Builtin.copy_ #[65,65] 3 #[t73,t76]) w5.drew fun t77 w6 =>
 sllW 5 t60 (some v1) none none fun t80 =>
 semE Tryz.prog (Builtin.copy_ #[65,65] 3 #[t80,v2]) w6 fun t82 w7 =>
 K t60 w7) (
 sllW 5 t60 (some t19) none none fun t86 =>
 semE Tryz.prog (Builtin.copy_ #[65,65] 3 #[t86,v2]) w5 fun t88 w8 =>
 sllW 5 t60 (some v1) none none fun t91 =>
 callF Tryz.prog 160 [t91,t14] w8 fun t93 w9 =>
 K t60 w9))))
theorem W124_ok {v0 v1 v2 : Value} {w : World} {K : Value → World → Prop} (h : W124 v0 v1 v2 w K) : callF Tryz.prog 124 [v0,v1,v2] w K :=
 tie _ 124 Tryz.f124 plan124 _ w K 3 _ rfl mixed Tryz.func124 (by kernel_rfl) (by kernel_rfl) Tryz.call124 h
def plan129 : Plan := { js := [(6,⟨[4],[],4⟩)],ds := [] }
def W129 (v0 : Value) (w : World) (K : Value → World → Prop) : Prop :=
 JoinW (fun J1 =>
 binW .eql v0 (.int .i32 34) fun t5 =>
 condW t5 (
 J1 [t5] w) (
 binW .eql v0 (.int .i32 92) fun t6 =>
 J1 [t6] w))
 fun s1 _ w2 =>
 condW (s1.getD 0 undef) (
 cvtW .u8 v0 fun t8 =>
 K t8 w2) (
 binW .eql v0 (.int .i32 8) fun t10 =>
 condW t10 (
 K (.int .u8 98) w2) (
 binW .eql v0 (.int .i32 12) fun t12 =>
 condW t12 (
 K (.int .u8 102) w2) (
 binW .eql v0 (.int .i32 10) fun t14 =>
 condW t14 (
 K (.int .u8 110) w2) (
 binW .eql v0 (.int .i32 13) fun t16 =>
 condW t16 (
 K (.int .u8 114) w2) (
 binW .eql v0 (.int .i32 9) fun t18 =>
 condW t18 (
 K (.int .u8 116) w2) (
 K (.int .u8 0) w2))))))
theorem W129_ok {v0 : Value} {w : World} {K : Value → World → Prop} (h : W129 v0 w K) : callF Tryz.prog 129 [v0] w K :=
 tie _ 129 Tryz.f129 plan129 _ w K 1 _ rfl mixed Tryz.func129 (by kernel_rfl) (by kernel_rfl) Tryz.call129 h
def plan130 : Plan := { js := [],ds := [] }
def W130 (v0 v1 : Value) (w : World) (K : Value → World → Prop) : Prop :=
 callF Tryz.prog 162 [v0,v1] w fun t7 w1 =>
 K t7 w1
theorem W130_ok {v0 v1 : Value} {w : World} {K : Value → World → Prop} (h : W130 v0 v1 w K) : callF Tryz.prog 130 [v0,v1] w K :=
 tie _ 130 Tryz.f130 plan130 _ w K 2 _ rfl mixed Tryz.func130 (by kernel_rfl) (by kernel_rfl) Tryz.call130 h
def plan131 : Plan := { js := [],ds := [] }
def W131 (v0 v1 : Value) (w : World) (K : Value → World → Prop) : Prop :=
 callF Tryz.prog 127 [v0] w fun t8 w1 =>
 nilW v0 fun t10 =>
 fldW 1 t10 fun t11 =>
 ldW false 1 t11 w1 fun t12 =>
 lenlW t12 fun t13 =>
 nilW v0 fun t16 =>
 fldW 1 t16 fun t17 =>
 ldW false 1 t17 w1 fun t18 =>
 callF Tryz.prog 163 [t18,v1] w1 fun t20 w2 =>
 nilW v0 fun t21 =>
 fldW 1 t21 fun t22 =>
 stW 1 t22 t20 w2 fun w3 =>
 nilW v0 fun t24 =>
 fldW 1 t24 fun t25 =>
 ldW false 1 t25 w3 fun t26 =>
 lenlW t26 fun t27 =>
 binW .sub t27 t13 fun t29 =>
 K (.tuple #[t29,.nilIface]) w3
theorem W131_ok {v0 v1 : Value} {w : World} {K : Value → World → Prop} (h : W131 v0 v1 w K) : callF Tryz.prog 131 [v0,v1] w K :=
 tie _ 131 Tryz.f131 plan131 _ w K 2 _ rfl mixed Tryz.func131 (by kernel_rfl) (by kernel_rfl) Tryz.call131 h
def plan134 : Plan := { js := [],ds := [(4,⟨[0,2,3,4,5,6,7,8,9,10,11,12,13,14,15],[[],[0],[],[0,1,2],[0,1,2,3],[0,1,2,3,4],[0,1,2,3,4,5],[0,1,2,3,4,5,6],[0,1,2,3,4,5,6,7],[0,1,2,3,4],[0,1,2,3,4,9],[0,1,2,3,4,9,10],[0,1,2,3,4,9,10,11],[0,1,2,3,4,9,10,11,12],[0,1,2,3,4,5,6,7,8,9,10,11,12,13],[0,1,2,3,4,5,6,7,8,9,10,11,12,13,14]]⟩)] }
def W134 (v0 v1 : Value) (w : World) (K : Value → World → Prop) : Prop :=
 callF Tryz.prog 91 [v0] w.drew fun t6 w1 =>
 binW .neq t6 v1 fun t8 =>
 GqW (isB t8 false) (fun k2 => k2 v0) fun t10 =>
 GqW (isB t8 false) (fun k3 => nilW t10 k3) fun t11 =>
 GqW (isB t8 false) (fun k4 => fldW 1 t11 k4) fun t12 =>
 GqW (isB t8 false) (fun k5 => ldW false 1 t12 w1 k5) fun t13 =>
 GqW (isB t8 false) (fun k6 => k6 v0) fun t14 =>
 GqW (isB t8 false) (fun k7 => nilW t14 k7) fun t15 =>
 GqW (isB t8 false) (fun k8 => fldW 0 t15 k8) fun t16 =>
 GqW (isB t8 false) (fun k9 => ldW false 1 t16 w1 k9) fun t17 =>
 GqW (isB t8 false) (fun k10 => lensW t17 k10) fun t18 =>
 GqW (isB t8 false) (fun k11 => binW .geq t13 t18 k11) fun t19 =>
 pickW t8 (.bool true) t19 fun t20 =>
 condW t20 (
 K (.bool false) w1) (
 nilW v0 fun t22 =>
 fldW 1 t22 fun t23 =>
 ldW false 1 t23 w1 fun t24 =>
 binW .add t24 (.int .i64 1) fun t25 =>
 nilW v0 fun t26 =>
 fldW 1 t26 fun t27 =>
 stW 1 t27 t25 w1 fun w12 =>
 K (.bool true) w12)
theorem W134_ok {v0 v1 : Value} {w : World} {K : Value → World → Prop} (h : W134 v0 v1 w K) : callF Tryz.prog 134 [v0,v1] w K :=
 tie _ 134 Tryz.f134 plan134 _ w K 2 _ rfl mixed Tryz.func134 (by kernel_rfl) (by kernel_rfl) Tryz.call134 h
def plan135 : Plan := { js := [(4004,⟨[8],[],6⟩),(1,⟨[],[],1⟩)],ds := [] }
def W135 (v0 : Value) (w : World) (K : Value → World → Prop) : Prop :=
 LoopW [] w fun s1 _ w2 L1 =>
 callF Tryz.prog 91 [v0] w2 fun t3 w3 =>
 binW .geq t3 (.int .u8 48) fun t4 =>
 GdW (isB t4 true) [undef] w3 (fun J4 =>
 callF Tryz.prog 91 [v0] w3 fun t7 w5 =>
 binW .leq t7 (.int .u8 57) fun t8 =>
 J4 [t8] w5)
 fun s4 _ w6 =>
 pickW t4 (s4.getD 0 undef) (.bool false) fun t9 =>
 condW t9 (
 nilW v0 fun t11 =>
 fldW 1 t11 fun t12 =>
 ldW false 1 t12 w6 fun t13 =>
 binW .add t13 (.int .i64 1) fun t14 =>
 nilW v0 fun t15 =>
 fldW 1 t15 fun t16 =>
 stW 1 t16 t14 w6 fun w7 =>
 L1 [] w7) (
 K (.tuple #[]) w6)
theorem W135_ok {v0 : Value} {w : World} {K : Value → World → Prop} (h : W135 v0 w K) : callF Tryz.prog 135 [v0] w K :=
 tie _ 135 Tryz.f135 plan135 _ w K 1 _ rfl mixed Tryz.func135 (by kernel_rfl) (by kernel_rfl) Tryz.call135 h
def plan137 : Plan := { js := [(87002,⟨[100],[],95⟩),(87004,⟨[99],[],98⟩),(87007,⟨[97],[],95⟩),(73,⟨[],[],7⟩),(75003,⟨[74],[],73⟩),(69003,⟨[62],[],61⟩),(18,⟨[34],[],34⟩),(6,⟨[4],[],4⟩)],ds := [] }
def W137 (v0 : Value) (w : World) (K : Value → World → Prop) : Prop :=
 nilW v0 fun t8 =>
 fldW 1 t8 fun t9 =>
 ldW false 1 t9 w fun t10 =>
 JoinW (fun J1 =>
 binW .add t10 (.int .i64 1) fun t12 =>
 nilW v0 fun t14 =>
 fldW 0 t14 fun t15 =>
 ldW false 1 t15 w fun t16 =>
 lensW t16 fun t17 =>
 binW .lss t12 t17 fun t18 =>
 condW t18 (
 nilW v0 fun t20 =>
 fldW 0 t20 fun t21 =>
 ldW false 1 t21 w fun t22 =>
 binW .add t10 (.int .i64 1) fun t24 =>
 ixsW t22 t24 fun t25 =>
 J1 [t25] w) (
 J1 [(.int .u8 0)] w))
 fun s1 _ w2 =>
 nilW v0 fun t27 =>
 fldW 1 t27 fun t28 =>
 ldW false 1 t28 w2 fun t29 =>
 binW .add t29 (.int .i64 2) fun t30 =>
 nilW v0 fun t31 =>
 fldW 1 t31 fun t32 =>
 stW 1 t32 t30 w2 fun w3 =>
 JoinW (fun J4 =>
 binW .eql (s1.getD 0 undef) (.int .u8 34) fun t35 =>
 condW t35 (
 J4 [t35] w3) (
 binW .eql (s1.getD 0 undef) (.int .u8 92) fun t36 =>
 condW t36 (
 J4 [t36] w3) (
 binW .eql (s1.getD 0 undef) (.int .u8 47) fun t37 =>
 J4 [t37] w3)))
 fun s4 _ w5 =>
 condW (s4.getD 0 undef) (
 cvtW .i32 (s1.getD 0 undef) fun t39 =>
 K t39 w5) (
 binW .eql (s1.getD 0 undef) (.int .u8 98) fun t41 =>
 condW t41 (
 K (.int .i32 8) w5) (
 binW .eql (s1.getD 0 undef) (.int .u8 102) fun t43 =>
 condW t43 (
 K (.int .i32 12) w5) (
 binW .eql (s1.getD 0 undef) (.int .u8 110) fun t45 =>
 condW t45 (
 K (.int .i32 10) w5) (
 binW .eql (s1.getD 0 undef) (.int .u8 114) fun t47 =>
 condW t47 (
 K (.int .i32 13) w5) (
 binW .eql (s1.getD 0 undef) (.int .u8 116) fun t49 =>
 condW t49 (
 K (.int .i32 9) w5) (
 callF Tryz.prog 165 [v0,t10] w5 fun t52 w6 =>
 binW .add t10 (.int .i64 6) fun t55 =>
 nilW v0 fun t56 =>
 fldW 1 t56 fun t57 =>
 stW 1 t57 t55 w6 fun w7 =>
 binW .geq t52 (.int .i32 55296) fun t59 =>
 GdW (isB t59 true) [undef] w7 (fun J8 =>
 binW .lss t52 (.int .i32 56320) fun t62 =>
 J8 [t62] w7)
 fun s8 _ w9 =>
 pickW t59 (s8.getD 0 undef) (.bool false) fun t63 =>
 condW t63 (
 nilW v0 fun t66 =>
 fldW 1 t66 fun t67 =>
 ldW false 1 t67 w9 fun t68 =>
 callF Tryz.prog 165 [v0,t68] w9 fun t69 w10 =>
 JoinW (fun J11 =>
 binW .lss t69 (.int .i32 56320) fun t71 =>
 GdW (isB t71 false) [undef] w10 (fun J12 =>
 binW .gtr t69 (.int .i32 57343) fun t74 =>
 J12 [t74] w10)
 fun s12 _ w13 =>
 pickW t71 (.bool true) (s12.getD 0 undef) fun t75 =>
 condW t75 (
 callF Tryz.prog 64 [(.int .i64 30),t10] w13 fun t77 w14 =>
 J11 [] w14) (
 J11 [] w13))
 fun s11 _ w15 =>
 nilW v0 fun t79 =>
 fldW 1 t79 fun t80 =>
 ldW false 1 t80 w15 fun t81 =>
 binW .add t81 (.int .i64 6) fun t82 =>
 nilW v0 fun t83 =>
 fldW 1 t83 fun t84 =>
 stW 1 t84 t82 w15 fun w16 =>
 binW .sub t52 (.int .i32 55296) fun t86 =>
 binW .shl t86 (.int .u64 10) fun t87 =>
 binW .add (.int .i32 65536) t87 fun t88 =>
 binW .sub t69 (.int .i32 56320) fun t90 =>
 binW .add t88 t90 fun t91 =>
 K t91 w16) (
 binW .lss t52 (.int .i32 0) fun t93 =>
 GdW (isB t93 false) [undef] w9 (fun J17 =>
 binW .geq t52 (.int .i32 56320) fun t96 =>
 J17 [t96] w9)
 fun s17 _ w18 =>
 GdW (isB (s17.getD 0 undef) true) [undef] w18 (fun J19 =>
 binW .lss t52 (.int .i32 57344) fun t99 =>
 J19 [t99] w18)
 fun s19 _ w20 =>
 GdW (isB t93 false) [undef] w20 (fun J21 =>
 pickW (s17.getD 0 undef) (s19.getD 0 undef) (.bool false) fun t100 =>
 J21 [t100] w20)
 fun s21 _ w22 =>
 pickW t93 (.bool true) (s21.getD 0 undef) fun t101 =>
 condW t101 (
 callF Tryz.prog 64 [(.int .i64 30),t10] w22 fun t103 w23 =>
 K t52 w23) (
 K t52 w22))))))))
theorem W137_ok {v0 : Value} {w : World} {K : Value → World → Prop} (h : W137 v0 w K) : callF Tryz.prog 137 [v0] w K :=
 tie _ 137 Tryz.f137 plan137 _ w K 1 _ rfl mixed Tryz.func137 (by kernel_rfl) (by kernel_rfl) Tryz.call137 h
def plan138 : Plan := { js := [],ds := [] }
def W138 (v0 v1 : Value) (w : World) (K : Value → World → Prop) : Prop :=
 callF Tryz.prog 66 [v0] w fun t5 w1 =>
 callF Tryz.prog 134 [v0,v1] w1 fun t8 w2 =>
 unW .not t8 fun t9 =>
 condW t9 (
 nilW v0 fun t11 =>
 fldW 1 t11 fun t12 =>
 ldW false 1 t12 w2 fun t13 =>
 callF Tryz.prog 64 [(.int .i64 30),t13] w2 fun t14 w3 =>
 K (.tuple #[]) w3) (
 K (.tuple #[]) w2)
theorem W138_ok {v0 v1 : Value} {w : World} {K : Value → World → Prop} (h : W138 v0 v1 w K) : callF Tryz.prog 138 [v0,v1] w K :=
 tie _ 138 Tryz.f138 plan138 _ w K 2 _ rfl mixed Tryz.func138 (by kernel_rfl) (by kernel_rfl) Tryz.call138 h
def plan139 : Plan := { js := [(2,⟨[],[],7⟩)],ds := [(9,⟨[0,2,3],[[],[0],[],[],[0,1,3],[0,1,2,3,4],[0,1,2,3,4,5]]⟩)] }
def W139 (v0 v1 v2 : Value) (w : World) (K : Value → World → Prop) : Prop :=
 boxW 67 v0 w fun t3 w1 =>
 boxW 67 v2 w1 fun t5 w2 =>
 allocW 67 [(.int .i64 0),(.bool false),(.string (ofL [])),(.slice none 0 0),(.slice none 0 0)] w2 fun t6 w3 =>
 JoinW (fun J4 =>
 fldW 0 t3 fun t7 =>
 ldW false 1 t7 w3 fun t8 =>
 binW .neq t8 (.int .i64 6) fun t9 =>
 condW t9 (
 putW [(.int .i64 0),(.bool false),(.string (ofL [])),(.slice none 0 0),(.slice none 0 0)] [(0,1,(.int .i64 6))] fun c5 =>
 stW 5 t3 (.agg c5.toArray) w3 fun w6 =>
 J4 [] w6) (
 J4 [] w3))
 fun s4 _ w7 =>
 ldW true 5 t3 w7.drew fun t11 =>
 ldW true 5 t5 w7.drew fun t14 =>
 callF Tryz.prog 83 [t11] w7.drew fun t12 w8 =>
 (ldW true 5 t5 w8 fun x => x = t14) ∧
 callF Tryz.prog 83 [t14] w8 fun t15 w9 =>
 callF Tryz.prog 82 [t12,v1,t15] w9 fun t16 w10 =>
 stW 5 t6 t16 w10 fun w11 =>
 ldW true 5 t6 w11 fun r12 =>
 K r12 w11
theorem W139_ok {v0 v1 v2 : Value} {w : World} {K : Value → World → Prop} (h : W139 v0 v1 v2 w K) : callF Tryz.prog 139 [v0,v1,v2] w K :=
 tie _ 139 Tryz.f139 plan139 _ w K 3 _ rfl mixed Tryz.func139 (by kernel_rfl) (by kernel_rfl) Tryz.call139 h
def plan142 : Plan := { js := [],ds := [(3,⟨[0,1,3,4,6],[[],[],[1],[],[0,1,2,3],[0,1,2,3,4],[0,1,2,3,4,5]]⟩)] }
def W142 (v0 v1 : Value) (w : World) (K : Value → World → Prop) : Prop :=
 ldW false 1 (.pointer (some ⟨2,0,none⟩)) w.drew fun t8 =>
 callF Tryz.prog 168 [v1] w.drew fun t7 w1 =>
 (ldW false 1 (.pointer (some ⟨2,0,none⟩)) w1 fun x => x = t8) ∧
 putW [(.string (ofL [])),(.string (ofL [])),.nilIface] [(0,1,v0),(1,1,t7),(2,1,t8)] fun c2 =>
 boxW 201 (.agg c2.toArray) w1 fun t10 w3 =>
 K t10 w3
theorem W142_ok {v0 v1 : Value} {w : World} {K : Value → World → Prop} (h : W142 v0 v1 w K) : callF Tryz.prog 142 [v0,v1] w K :=
 tie _ 142 Tryz.f142 plan142 _ w K 2 _ rfl mixed Tryz.func142 (by kernel_rfl) (by kernel_rfl) Tryz.call142 h
def plan162 : Plan := { js := [(18,⟨[6],[],6⟩),(8003,⟨[16],[],15⟩)],ds := [] }
def W162 (v0 v1 : Value) (w : World) (K : Value → World → Prop) : Prop :=
 binW .eql v1 (.int .i64 10) fun t11 =>
 condW t11 (
 binW .leq (.int .i64 0) v0 fun t13 =>
 GdW (isB t13 true) [undef] w (fun J1 =>
 binW .lss v0 (.int .i64 100) fun t16 =>
 J1 [t16] w)
 fun s1 _ w2 =>
 pickW t13 (s1.getD 0 undef) (.bool false) fun t17 =>
 condW t17 (
 callF Tryz.prog 173 [v0] w2 fun t19 w3 =>
 K t19 w3) (
 allocW 206 (List.replicate 24 (.int .u8 0)) w2 fun t5 w4 =>
 cvtW .u64 v0 fun t21 =>
 JoinW (fun J5 =>
 binW .lss v0 (.int .i64 0) fun t23 =>
 condW t23 (
 unW .neg t21 fun t25 =>
 J5 [t25] w4) (
 J5 [t21] w4))
 fun s5 _ w6 =>
 callF Tryz.prog 174 [(s5.getD 0 undef)] w6 fun t27 w7 =>
 binW .add (.int .i64 1) t27 fun t29 =>
 slaW 24 1 t5 (some (.int .i64 1)) (some t29) none fun t30 =>
 callF Tryz.prog 175 [t30,(s5.getD 0 undef)] w7 fun t32 w8 =>
 binW .lss v0 (.int .i64 0) fun t34 =>
 condW t34 (
 ixaW (some 24) 1 t5 (.int .i64 0) fun t35 =>
 stW 1 t35 (.int .u8 45) w8 fun w9 =>
 binW .add (.int .i64 1) t27 fun t37 =>
 slaW 24 1 t5 none (some t37) none fun t38 =>
 semQ Tryz.prog (convert 50 9 t38) w9 fun t39 =>
 K t39 w9) (
 binW .add (.int .i64 1) t27 fun t41 =>
 slaW 24 1 t5 (some (.int .i64 1)) (some t41) none fun t42 =>
 semQ Tryz.prog (convert 50 9 t42) w8 fun t43 =>
 K t43 w8))) (
 cvtW .u64 v0 fun t46 =>
 binW .lss v0 (.int .i64 0) fun t49 =>
 callF Tryz.prog 176 [(.slice none 0 0),t46,v1,t49,(.bool false)] w fun t50 w10 =>
 extW 0 t50 fun t51 =>
 extW 1 t50 fun t52 =>
 K t52 w10)
theorem W162_ok {v0 v1 : Value} {w : World} {K : Value → World → Prop} (h : W162 v0 v1 w K) : callF Tryz.prog 162 [v0,v1] w K :=
 tie _ 162 Tryz.f162 plan162 _ w K 2 _ rfl mixed Tryz.func162 (by kernel_rfl) (by kernel_rfl) Tryz.call162 h
def plan163 : Plan := { js := [],ds := [] }
def W163 (v0 v1 : Value) (w : World) (K : Value → World → Prop) : Prop :=
 cvtW .u32 v1 fun t6 =>
 binW .leq t6 (.int .u32 127) fun t7 =>
 condW t7 (
 cvtW .u8 v1 fun t10 =>
 bslW 5 1 [(.int .u8 0)] [(0,1,t10)] w fun t11 w1 =>
 semE Tryz.prog (Builtin.append_ #[50,50] 50 #[v0,t11]) w1 fun t12 w2 =>
 K t12 w2) (
 callF Tryz.prog 177 [v0,v1] w fun t15 w3 =>
 K t15 w3)
theorem W163_ok {v0 v1 : Value} {w : World} {K : Value → World → Prop} (h : W163 v0 v1 w K) : callF Tryz.prog 163 [v0,v1] w K :=
 tie _ 163 Tryz.f163 plan163 _ w K 2 _ rfl mixed Tryz.func163 (by kernel_rfl) (by kernel_rfl) Tryz.call163 h
def plan165 : Plan := { js := [(4011,⟨[36],[],27⟩),(4022,⟨[24],[],16⟩)],ds := [] }
def W165 (v0 v1 : Value) (w : World) (K : Value → World → Prop) : Prop :=
 binW .add v1 (.int .i64 6) fun t8 =>
 nilW v0 fun t10 =>
 fldW 0 t10 fun t11 =>
 ldW false 1 t11 w fun t12 =>
 lensW t12 fun t13 =>
 binW .gtr t8 t13 fun t14 =>
 GdW (isB t14 false) [undef] w (fun J1 =>
 nilW v0 fun t17 =>
 fldW 0 t17 fun t18 =>
 ldW false 1 t18 w fun t19 =>
 binW .add v1 (.int .i64 2) fun t22 =>
 slsW t19 (some v1) (some t22) fun t23 =>
 binW .neq t23 (.string (ofL [92,117])) fun t24 =>
 J1 [t24] w)
 fun s1 _ w2 =>
 pickW t14 (.bool true) (s1.getD 0 undef) fun t25 =>
 GdW (isB t25 false) [undef] w2 (fun J3 =>
 nilW v0 fun t28 =>
 fldW 0 t28 fun t29 =>
 ldW false 1 t29 w2 fun t30 =>
 binW .add v1 (.int .i64 2) fun t32 =>
 binW .add v1 (.int .i64 6) fun t34 =>
 slsW t30 (some t32) (some t34) fun t35 =>
 callF Tryz.prog 52 [t35,(.string (ofL [43,45,95]))] w2 fun t36 w4 =>
 J3 [t36] w4)
 fun s3 _ w5 =>
 pickW t25 (.bool true) (s3.getD 0 undef) fun t37 =>
 condW t37 (
 K (.int .i32 (-1)) w5) (
 nilW v0 fun t40 =>
 fldW 0 t40 fun t41 =>
 ldW false 1 t41 w5 fun t42 =>
 binW .add v1 (.int .i64 2) fun t44 =>
 binW .add v1 (.int .i64 6) fun t46 =>
 slsW t42 (some t44) (some t46) fun t47 =>
 callF Tryz.prog 178 [t47,(.int .i64 16),(.int .i64 32)] w5 fun t48 w6 =>
 extW 0 t48 fun t49 =>
 extW 1 t48 fun t50 =>
 eqQ Tryz.prog .neq 112 false true t50 .nilIface w6 fun t52 =>
 condW t52 (
 K (.int .i32 (-1)) w6) (
 cvtW .i32 t49 fun t54 =>
 K t54 w6))
theorem W165_ok {v0 v1 : Value} {w : World} {K : Value → World → Prop} (h : W165 v0 v1 w K) : callF Tryz.prog 165 [v0,v1] w K :=
 tie _ 165 Tryz.f165 plan165 _ w K 2 _ rfl mixed Tryz.func165 (by kernel_rfl) (by kernel_rfl) Tryz.call165 h
def plan167 : Plan := { js := [(155004,⟨[168],[],166⟩),(98,⟨[12,13],[6,7,12,13,15,16,17],102⟩),(145004,⟨[158],[],156⟩),(104,⟨[12,16],[6,7,12,16],102⟩),(117005,⟨[128],[],126⟩),(113004,⟨[117],[],116⟩),(107003,⟨[110],[],110⟩),(91,⟨[12,13,101],[6,7,12,13,15,16,17],101⟩),(68,⟨[10],[],10⟩),(54,⟨[2],[2,6,7],10⟩),(60003,⟨[82],[],81⟩),(14,⟨[0,1],[0,1,6,7],10⟩),(42006,⟨[72],[],69⟩),(36006,⟨[60],[],57⟩),(30006,⟨[48],[],45⟩),(17004,⟨[30],[],29⟩)],ds := [] }
def W167 (v0 v1 v2 : Value) (w : World) (K : Value → World → Prop) : Prop :=
 binW .eql v0 (.string (ofL [])) fun t19 =>
 condW t19 (
 K (.tuple #[(.int .u64 0),(.iface 176 (.int .i64 2))]) w) (
 binW .eql v1 (.int .i64 0) fun t22 =>
 JoinW (fun J1 =>
 binW .leq (.int .i64 2) v1 fun t27 =>
 GdW (isB t27 true) [undef] w (fun J2 =>
 binW .leq v1 (.int .i64 36) fun t30 =>
 J2 [t30] w)
 fun s2 _ w3 =>
 pickW t27 (s2.getD 0 undef) (.bool false) fun t31 =>
 condW t31 (
 J1 [v0,v1] w3) (
 binW .eql v1 (.int .i64 0) fun t34 =>
 condW t34 (
 ixsW v0 (.int .i64 0) fun t36 =>
 binW .eql t36 (.int .u8 48) fun t37 =>
 condW t37 (
 lensW v0 fun t42 =>
 binW .geq t42 (.int .i64 3) fun t43 =>
 GdW (isB t43 true) [undef] w3 (fun J4 =>
 ixsW v0 (.int .i64 1) fun t46 =>
 callF Tryz.prog 179 [t46] w3 fun t47 w5 =>
 binW .eql t47 (.int .u8 98) fun t48 =>
 J4 [t48] w5)
 fun s4 _ w6 =>
 pickW t43 (s4.getD 0 undef) (.bool false) fun t49 =>
 condW t49 (
 slsW v0 (some (.int .i64 2)) none fun t51 =>
 J1 [t51,(.int .i64 2)] w6) (
 lensW v0 fun t54 =>
 binW .geq t54 (.int .i64 3) fun t55 =>
 GdW (isB t55 true) [undef] w6 (fun J7 =>
 ixsW v0 (.int .i64 1) fun t58 =>
 callF Tryz.prog 179 [t58] w6 fun t59 w8 =>
 binW .eql t59 (.int .u8 111) fun t60 =>
 J7 [t60] w8)
 fun s7 _ w9 =>
 pickW t55 (s7.getD 0 undef) (.bool false) fun t61 =>
 condW t61 (
 slsW v0 (some (.int .i64 2)) none fun t63 =>
 J1 [t63,(.int .i64 8)] w9) (
 lensW v0 fun t66 =>
 binW .geq t66 (.int .i64 3) fun t67 =>
 GdW (isB t67 true) [undef] w9 (fun J10 =>
 ixsW v0 (.int .i64 1) fun t70 =>
 callF Tryz.prog 179 [t70] w9 fun t71 w11 =>
 binW .eql t71 (.int .u8 120) fun t72 =>
 J10 [t72] w11)
 fun s10 _ w12 =>
 pickW t67 (s10.getD 0 undef) (.bool false) fun t73 =>
 condW t73 (
 slsW v0 (some (.int .i64 2)) none fun t75 =>
 J1 [t75,(.int .i64 16)] w12) (
 slsW v0 (some (.int .i64 1)) none fun t39 =>
 J1 [t39,(.int .i64 8)] w12)))) (
 J1 [v0,(.int .i64 10)] w3)) (
 K (.tuple #[(.int .u64 0),(.iface 176 (.int .i64 3))]) w3)))
 fun s1 _ w13 =>
 JoinW (fun J14 =>
 binW .eql v2 (.int .i64 0) fun t77 =>
 condW t77 (
 J14 [(.int .i64 64)] w13) (
 binW .lss v2 (.int .i64 0) fun t79 =>
 GdW (isB t79 false) [undef] w13 (fun J15 =>
 binW .gtr v2 (.int .i64 64) fun t82 =>
 J15 [t82] w13)
 fun s15 _ w16 =>
 pickW t79 (.bool true) (s15.getD 0 undef) fun t83 =>
 condW t83 (
 K (.tuple #[(.int .u64 0),(.iface 176 (.int .i64 4))]) w16) (
 J14 [v2] w16)))
 fun s14 _ w17 =>
 JoinW (fun J18 =>
 binW .eql (s1.getD 1 undef) (.int .i64 10) fun t91 =>
 condW t91 (
 J18 [(.int .u64 1844674407370955162)] w17) (
 binW .eql (s1.getD 1 undef) (.int .i64 16) fun t93 =>
 condW t93 (
 J18 [(.int .u64 1152921504606846976)] w17) (
 cvtW .u64 (s1.getD 1 undef) fun t87 =>
 binW .quo (.int .u64 18446744073709551615) t87 fun t88 =>
 binW .add t88 (.int .u64 1) fun t89 =>
 J18 [t89] w17)))
 fun s18 _ w19 =>
 cvtW .u64 (s14.getD 0 undef) fun t95 =>
 binW .shl (.int .u64 1) t95 fun t96 =>
 binW .sub t96 (.int .u64 1) fun t97 =>
 semE Tryz.prog (convert 9 50 (s1.getD 0 undef)) w19 fun t99 w20 =>
 lenlW t99 fun t100 =>
 LoopW [(.bool false),(.int .u64 0),(.int .i64 0)] w20 fun s21 _ w22 L21 =>
 binW .lss (s21.getD 2 undef) t100 fun t102 =>
 condW t102 (
 JoinW (fun J23 =>
 ixaW none 1 t99 (s21.getD 2 undef) fun t103 =>
 ldW false 1 t103 w22 fun t104 =>
 JoinW (fun J24 =>
 binW .eql t104 (.int .u8 95) fun t108 =>
 GdW (isB t108 true) [undef] w22 (fun J25 =>
 J25 [t22] w22)
 fun s25 _ w26 =>
 pickW t108 (s25.getD 0 undef) (.bool false) fun t111 =>
 condW t111 (
 J23 [(.bool true),(s21.getD 1 undef)] w26) (
 binW .leq (.int .u8 48) t104 fun t114 =>
 GdW (isB t114 true) [undef] w26 (fun J27 =>
 binW .leq t104 (.int .u8 57) fun t117 =>
 J27 [t117] w26)
 fun s27 _ w28 =>
 pickW t114 (s27.getD 0 undef) (.bool false) fun t118 =>
 condW t118 (
 binW .sub t104 (.int .u8 48) fun t120 =>
 J24 [(s21.getD 0 undef),t120] w28) (
 callF Tryz.prog 179 [t104] w28 fun t123 w29 =>
 binW .leq (.int .u8 97) t123 fun t124 =>
 GdW (isB t124 true) [undef] w29 (fun J30 =>
 callF Tryz.prog 179 [t104] w29 fun t127 w31 =>
 binW .leq t127 (.int .u8 122) fun t128 =>
 J30 [t128] w31)
 fun s30 _ w32 =>
 pickW t124 (s30.getD 0 undef) (.bool false) fun t129 =>
 condW t129 (
 callF Tryz.prog 179 [t104] w32 fun t131 w33 =>
 binW .sub t131 (.int .u8 97) fun t132 =>
 binW .add t132 (.int .u8 10) fun t133 =>
 J24 [(s21.getD 0 undef),t133] w33) (
 K (.tuple #[(.int .u64 0),(.iface 176 (.int .i64 2))]) w32))))
 fun s24 _ w34 =>
 cvtW .u8 (s1.getD 1 undef) fun t136 =>
 binW .geq (s24.getD 1 undef) t136 fun t137 =>
 condW t137 (
 K (.tuple #[(.int .u64 0),(.iface 176 (.int .i64 2))]) w34) (
 binW .geq (s21.getD 1 undef) (s18.getD 0 undef) fun t141 =>
 condW t141 (
 K (.tuple #[t97,(.iface 176 (.int .i64 1))]) w34) (
 cvtW .u64 (s1.getD 1 undef) fun t146 =>
 binW .mul (s21.getD 1 undef) t146 fun t147 =>
 cvtW .u64 (s24.getD 1 undef) fun t150 =>
 binW .add t147 t150 fun t151 =>
 binW .lss t151 t147 fun t154 =>
 GdW (isB t154 false) [undef] w34 (fun J35 =>
 binW .gtr t151 t97 fun t158 =>
 J35 [t158] w34)
 fun s35 _ w36 =>
 pickW t154 (.bool true) (s35.getD 0 undef) fun t159 =>
 condW t159 (
 K (.tuple #[t97,(.iface 176 (.int .i64 1))]) w36) (
 J23 [(s24.getD 0 undef),t151] w36))))
 fun s23 _ w37 =>
 binW .add (s21.getD 2 undef) (.int .i64 1) fun t163 =>
 L21 [(s23.getD 0 undef),(s23.getD 1 undef),t163] w37) (
 GdW (isB (s21.getD 0 undef) true) [undef] w22 (fun J38 =>
 callF Tryz.prog 180 [v0] w22 fun t167 w39 =>
 unW .not t167 fun t168 =>
 J38 [t168] w39)
 fun s38 _ w40 =>
 pickW (s21.getD 0 undef) (s38.getD 0 undef) (.bool false) fun t169 =>
 condW t169 (
 K (.tuple #[(.int .u64 0),(.iface 176 (.int .i64 2))]) w40) (
 K (.tuple #[(s21.getD 1 undef),.nilIface]) w40)))
theorem W167_ok {v0 v1 v2 : Value} {w : World} {K : Value → World → Prop} (h : W167 v0 v1 v2 w K) : callF Tryz.prog 167 [v0,v1,v2] w K :=
 tie _ 167 Tryz.f167 plan167 _ w K 3 _ rfl mixed Tryz.func167 (by kernel_rfl) (by kernel_rfl) Tryz.call167 h
def plan176 : Plan := { js := [(68,⟨[13],[],13⟩),(18,⟨[13],[1],13⟩),(50,⟨[1,13],[1,13],18⟩),(30,⟨[1,13],[1,13],17⟩),(12,⟨[1],[1],14⟩),(2,⟨[],[],12⟩),(4003,⟨[27],[],26⟩),(4007,⟨[23],[],22⟩)],ds := [] }
def W176 (v0 v1 v2 v3 v4 : Value) (w : World) (K : Value → World → Prop) : Prop :=
 JoinW (fun J1 =>
 binW .lss v2 (.int .i64 2) fun t20 =>
 GdW (isB t20 false) [undef] w (fun J2 =>
 binW .eql v2 (.int .i64 10) fun t23 =>
 J2 [t23] w)
 fun s2 _ w3 =>
 pickW t20 (.bool true) (s2.getD 0 undef) fun t24 =>
 GdW (isB t24 false) [undef] w3 (fun J4 =>
 binW .gtr v2 (.int .i64 36) fun t27 =>
 J4 [t27] w3)
 fun s4 _ w5 =>
 pickW t24 (.bool true) (s4.getD 0 undef) fun t28 =>
 condW t28 (
 pncW (.iface 9 (.string (ofL [115,116,114,99,111,110,118,58,32,105,108,108,101,103,97,108,32,65,112,112,101,110,100,73,110,116,47,70,111,114,109,97,116,73,110,116,32,98,97,115,101]))) w5) (
 J1 [] w5))
 fun s1 _ w6 =>
 allocW 217 (List.replicate 65 (.int .u8 0)) w6 fun t12 w7 =>
 JoinW (fun J8 =>
 condW v3 (
 unW .neg v1 fun t32 =>
 J8 [t32] w7) (
 J8 [v1] w7))
 fun s8 _ w9 =>
 JoinW (fun J10 =>
 callF Tryz.prog 185 [v2] w9 fun t34 w11 =>
 condW t34 (
 cvtW .u64 v2 fun t36 =>
 callF Tryz.prog 186 [t36] w11 fun t37 w12 =>
 cvtW .u64 t37 fun t38 =>
 cvtW .u64 v2 fun t40 =>
 cvtW .u64 v2 fun t42 =>
 binW .sub t42 (.int .u64 1) fun t43 =>
 LoopW [(s8.getD 0 undef),(.int .i64 65)] w12 fun s13 _ w14 L13 =>
 binW .geq (s13.getD 0 undef) t40 fun t46 =>
 condW t46 (
 binW .sub (s13.getD 1 undef) (.int .i64 1) fun t48 =>
 binW .and (s13.getD 0 undef) t43 fun t52 =>
 ixsW (.string (ofL [48,49,50,51,52,53,54,55,56,57,97,98,99,100,101,102,103,104,105,106,107,108,109,110,111,112,113,114,115,116,117,118,119,120,121,122])) t52 fun t53 =>
 ixaW (some 65) 1 t12 t48 fun t54 =>
 stW 1 t54 t53 w14 fun w15 =>
 binW .shr (s13.getD 0 undef) t38 fun t57 =>
 L13 [t57,t48] w15) (
 binW .sub (s13.getD 1 undef) (.int .i64 1) fun t59 =>
 ixsW (.string (ofL [48,49,50,51,52,53,54,55,56,57,97,98,99,100,101,102,103,104,105,106,107,108,109,110,111,112,113,114,115,116,117,118,119,120,121,122])) (s13.getD 0 undef) fun t62 =>
 ixaW (some 65) 1 t12 t59 fun t63 =>
 stW 1 t63 t62 w14 fun w16 =>
 J10 [t59] w16)) (
 cvtW .u64 v2 fun t65 =>
 LoopW [(s8.getD 0 undef),(.int .i64 65)] w11 fun s17 _ w18 L17 =>
 binW .geq (s17.getD 0 undef) t65 fun t68 =>
 condW t68 (
 binW .sub (s17.getD 1 undef) (.int .i64 1) fun t70 =>
 binW .quo (s17.getD 0 undef) t65 fun t73 =>
 binW .mul t73 t65 fun t78 =>
 binW .sub (s17.getD 0 undef) t78 fun t79 =>
 ixsW (.string (ofL [48,49,50,51,52,53,54,55,56,57,97,98,99,100,101,102,103,104,105,106,107,108,109,110,111,112,113,114,115,116,117,118,119,120,121,122])) t79 fun t80 =>
 ixaW (some 65) 1 t12 t70 fun t81 =>
 stW 1 t81 t80 w18 fun w19 =>
 L17 [t73,t70] w19) (
 binW .sub (s17.getD 1 undef) (.int .i64 1) fun t84 =>
 ixsW (.string (ofL [48,49,50,51,52,53,54,55,56,57,97,98,99,100,101,102,103,104,105,106,107,108,109,110,111,112,113,114,115,116,117,118,119,120,121,122])) (s17.getD 0 undef) fun t87 =>
 ixaW (some 65) 1 t12 t84 fun t88 =>
 stW 1 t88 t87 w18 fun w20 =>
 J10 [t84] w20)))
 fun s10 _ w21 =>
 JoinW (fun J22 =>
 condW v3 (
 binW .sub (s10.getD 0 undef) (.int .i64 1) fun t91 =>
 ixaW (some 65) 1 t12 t91 fun t93 =>
 stW 1 t93 (.int .u8 45) w21 fun w23 =>
 J22 [t91] w23) (
 J22 [(s10.getD 0 undef)] w21))
 fun s22 _ w24 =>
 condW v4 (
 slaW 65 1 t12 (some (s22.getD 0 undef)) none none fun t97 =>
 semE Tryz.prog (Builtin.append_ #[50,50] 50 #[v0,t97]) w24 fun t98 w25 =>
 K (.tuple #[t98,(.string (ofL []))]) w25) (
 slaW 65 1 t12 (some (s22.getD 0 undef)) none none fun t100 =>
 semQ Tryz.prog (convert 50 9 t100) w24 fun t101 =>
 K (.tuple #[(.slice none 0 0),t101]) w24)
theorem W176_ok {v0 v1 v2 v3 v4 : Value} {w : World} {K : Value → World → Prop} (h : W176 v0 v1 v2 v3 v4 w K) : callF Tryz.prog 176 [v0,v1,v2,v3,v4] w K :=
 tie _ 176 Tryz.f176 plan176 _ w K 5 _ rfl mixed Tryz.func176 (by kernel_rfl) (by kernel_rfl) Tryz.call176 h
def plan177 : Plan := { js := [(22004,⟨[55],[],54⟩),(11,⟨[25],[],6⟩),(16004,⟨[32],[],31⟩)],ds := [] }
def W177 (v0 v1 : Value) (w : World) (K : Value → World → Prop) : Prop :=
 cvtW .u32 v1 fun t7 =>
 binW .leq t7 (.int .u32 2047) fun t13 =>
 condW t13 (
 binW .shr v1 (.int .u64 6) fun t16 =>
 cvtW .u8 t16 fun t17 =>
 binW .or (.int .u8 192) t17 fun t18 =>
 cvtW .u8 v1 fun t20 =>
 binW .and t20 (.int .u8 63) fun t21 =>
 binW .or (.int .u8 128) t21 fun t22 =>
 bslW 5 2 [(.int .u8 0),(.int .u8 0)] [(0,1,t18),(1,1,t22)] w fun t23 w1 =>
 semE Tryz.prog (Builtin.append_ #[50,50] 50 #[v0,t23]) w1 fun t24 w2 =>
 K t24 w2) (
 JoinW (fun J3 =>
 binW .lss t7 (.int .u32 55296) fun t27 =>
 condW t27 (
 J3 [t27] w) (
 binW .lss (.int .u32 57343) t7 fun t29 =>
 GdW (isB t29 true) [undef] w (fun J4 =>
 binW .leq t7 (.int .u32 65535) fun t32 =>
 J4 [t32] w)
 fun s4 _ w5 =>
 pickW t29 (s4.getD 0 undef) (.bool false) fun t33 =>
 J3 [t33] w5))
 fun s3 _ w6 =>
 condW (s3.getD 0 undef) (
 binW .shr v1 (.int .u64 12) fun t36 =>
 cvtW .u8 t36 fun t37 =>
 binW .or (.int .u8 224) t37 fun t38 =>
 binW .shr v1 (.int .u64 6) fun t40 =>
 cvtW .u8 t40 fun t41 =>
 binW .and t41 (.int .u8 63) fun t42 =>
 binW .or (.int .u8 128) t42 fun t43 =>
 cvtW .u8 v1 fun t45 =>
 binW .and t45 (.int .u8 63) fun t46 =>
 binW .or (.int .u8 128) t46 fun t47 =>
 bslW 5 3 [(.int .u8 0),(.int .u8 0),(.int .u8 0)] [(0,1,t38),(1,1,t43),(2,1,t47)] w6 fun t48 w7 =>
 semE Tryz.prog (Builtin.append_ #[50,50] 50 #[v0,t48]) w7 fun t49 w8 =>
 K t49 w8) (
 binW .gtr t7 (.int .u32 65535) fun t52 =>
 GdW (isB t52 true) [undef] w6 (fun J9 =>
 binW .leq t7 (.int .u32 1114111) fun t55 =>
 J9 [t55] w6)
 fun s9 _ w10 =>
 pickW t52 (s9.getD 0 undef) (.bool false) fun t56 =>
 condW t56 (
 binW .shr v1 (.int .u64 18) fun t59 =>
 cvtW .u8 t59 fun t60 =>
 binW .or (.int .u8 240) t60 fun t61 =>
 binW .shr v1 (.int .u64 12) fun t63 =>
 cvtW .u8 t63 fun t64 =>
 binW .and t64 (.int .u8 63) fun t65 =>
 binW .or (.int .u8 128) t65 fun t66 =>
 binW .shr v1 (.int .u64 6) fun t68 =>
 cvtW .u8 t68 fun t69 =>
 binW .and t69 (.int .u8 63) fun t70 =>
 binW .or (.int .u8 128) t70 fun t71 =>
 cvtW .u8 v1 fun t73 =>
 binW .and t73 (.int .u8 63) fun t74 =>
 binW .or (.int .u8 128) t74 fun t75 =>
 bslW 5 4 [(.int .u8 0),(.int .u8 0),(.int .u8 0),(.int .u8 0)] [(0,1,t61),(1,1,t66),(2,1,t71),(3,1,t75)] w10 fun t76 w11 =>
 semE Tryz.prog (Builtin.append_ #[50,50] 50 #[v0,t76]) w11 fun t77 w12 =>
 K t77 w12) (
 bslW 5 3 [(.int .u8 0),(.int .u8 0),(.int .u8 0)] [(0,1,(.int .u8 239)),(1,1,(.int .u8 191)),(2,1,(.int .u8 189))] w10 fun t9 w13 =>
 semE Tryz.prog (Builtin.append_ #[50,50] 50 #[v0,t9]) w13 fun t10 w14 =>
 K t10 w14)))
theorem W177_ok {v0 v1 : Value} {w : World} {K : Value → World → Prop} (h : W177 v0 v1 w K) : callF Tryz.prog 177 [v0,v1] w K :=
 tie _ 177 Tryz.f177 plan177 _ w K 2 _ rfl mixed Tryz.func177 (by kernel_rfl) (by kernel_rfl) Tryz.call177 h
def plan179 : Plan := { js := [],ds := [] }
def W179 (v0 : Value) (w : World) (K : Value → World → Prop) : Prop :=
 binW .or v0 (.int .u8 32) fun t4 =>
 K t4 w
theorem W179_ok {v0 : Value} {w : World} {K : Value → World → Prop} (h : W179 v0 w K) : callF Tryz.prog 179 [v0] w K :=
 tie _ 179 Tryz.f179 plan179 _ w K 1 _ rfl mixed Tryz.func179 (by kernel_rfl) (by kernel_rfl) Tryz.call179 h
def plan185 : Plan := { js := [],ds := [] }
def W185 (v0 : Value) (w : World) (K : Value → World → Prop) : Prop :=
 binW .sub v0 (.int .i64 1) fun t5 =>
 binW .and v0 t5 fun t6 =>
 binW .eql t6 (.int .i64 0) fun t7 =>
 K t7 w
theorem W185_ok {v0 : Value} {w : World} {K : Value → World → Prop} (h : W185 v0 w K) : callF Tryz.prog 185 [v0] w K :=
 tie _ 185 Tryz.f185 plan185 _ w K 1 _ rfl mixed Tryz.func185 (by kernel_rfl) (by kernel_rfl) Tryz.call185 h
def plan186 : Plan := { js := [],ds := [] }
def W186 (v0 : Value) (w : World) (K : Value → World → Prop) : Prop :=
 condW (.bool false) (
 cvtW .u32 v0 fun t4 =>
 callF Tryz.prog 187 [t4] w fun t5 w1 =>
 K t5 w1) (
 callF Tryz.prog 188 [v0] w fun t7 w2 =>
 K t7 w2)
theorem W186_ok {v0 : Value} {w : World} {K : Value → World → Prop} (h : W186 v0 w K) : callF Tryz.prog 186 [v0] w K :=
 tie _ 186 Tryz.f186 plan186 _ w K 1 _ rfl mixed Tryz.func186 (by kernel_rfl) (by kernel_rfl) Tryz.call186 h
def plan188 : Plan := { js := [],ds := [] }
def W188 (v0 : Value) (w : World) (K : Value → World → Prop) : Prop :=
 binW .eql v0 (.int .u64 0) fun t4 =>
 condW t4 (
 K (.int .i64 64) w) (
 unW .neg v0 fun t7 =>
 binW .and v0 t7 fun t8 =>
 binW .mul t8 (.int .u64 285870213051353865) fun t9 =>
 binW .shr t9 (.int .u64 58) fun t10 =>
 ixaW (some 64) 1 (.pointer (some ⟨7,0,none⟩)) t10 fun t11 =>
 ldW false 1 t11 w fun t12 =>
 cvtW .i64 t12 fun t13 =>
 K t13 w)
theorem W188_ok {v0 : Value} {w : World} {K : Value → World → Prop} (h : W188 v0 w K) : callF Tryz.prog 188 [v0] w K :=
 tie _ 188 Tryz.f188 plan188 _ w K 1 _ rfl mixed Tryz.func188 (by kernel_rfl) (by kernel_rfl) Tryz.call188 h
end Go.Proofs.YtpiaegojabkioaaGreatDoor
namespace Go.Proofs.YtpiaegojabkioaaGreatDoor.Fx
open Go Go.Eng Go.Vfs
set_option maxRecDepth 100000
theorem elem_u8 : ElemT Tryz.prog 50 5 1 1 := ⟨by kernel_rfl,by kernel_rfl,by decide⟩
theorem clone_bytes [HX] {w : World} {v : Value} {l : Str} {T : TypeId} {K : Value → World → Prop} (h : Byt w T v l) (hl : l.length ≤ 1000000000000)
   (hK : ∀ v' w',Byt w' 5 v' l → Ext w w' → K v' w') : callF Tryz.prog 24 [v] w K := by
 refine W24_ok ?_
 unfold W24
 obtain ⟨p,cap,rfl,hcap,hnil,hcells⟩ := h
 cases p with
 | none =>
   obtain ⟨h0,_⟩ := hnil rfl
   have : l = [] := List.eq_nil_of_length_eq_zero h0
   subst this
   simp only [eqW,Option.isNone_none,Bool.false_xor,condW_true]
   exact hK _ _ (SlAt.nil _ _) (Chg.refl _ _)
 | some a =>
   simp only [eqW,condW_false,bslW,putW]
   have hsrc : Byt (w.alloc (.cells ([] : List Value).toArray 5)) T (.slice (some a) l.length cap) l := SlAt.ext ⟨_,_,rfl,hcap,hnil,hcells⟩ (by repeat (first | assumption | exact Chg.refl _ _ | refine Chg.drew ?_ | refine Chg.alloc ?_ _ | refine Chg.set ?_ (by first | exact .inl rfl | exact .inr (by omega) | exact .inr (by simp only [size_set,size_alloc,size_drew]; omega) | (left; simp; done)) _ | exact Chg.of_ext (by assumption)))
   have hown := own_new (w := w) (base := w.heap.size) (e := 5) (size := 1) (n := 0) (cs := []) (Nat.le_refl _) rfl (by omega)
   refine append_own elem_u8 (base := w.heap.size) hown hsrc (by simp [u8s]) (u8s_one l) (by omega) (by omega) (by simp) ?_
   intro v' w' hown hc _
   have h1 := hown.sl
   simp only [Nat.zero_add,List.nil_append] at h1
   refine hK v' w' h1 (Chg.then (S := fun _ => False) (T := OwnS _ w.heap.size 5) (by repeat (first | assumption | exact Chg.refl _ _ | refine Chg.drew ?_ | refine Chg.alloc ?_ _ | refine Chg.set ?_ (by first | exact .inl rfl | exact .inr (by omega) | exact .inr (by simp only [size_set,size_alloc,size_drew]; omega) | (left; simp; done)) _ | exact Chg.of_ext (by assumption))) hc ?_)
   intro k hk hs
   exact absurd hs.1 (by omega)
end Go.Proofs.YtpiaegojabkioaaGreatDoor.Fx
namespace Go.Proofs
open Go.Shelf
def Tryz.lays170_ren : Go.Shelf.Ren := ⟨fun | 170 => 60 | n => n,fun | 70 => 100 | 3 => 3 | 0 => 0 | 72 => 102 | 37 => 50 | 5 => 5 | n => n,fun | n => n⟩
theorem Tryz.lays170 : Go.Proofs.Lays.n170 Tryz.prog Tryz.lays170_ren := {
 mixed := by kernel_rfl
 f170 := Tryz.func60.trans (congrArg some (by kernel_rfl))
 t0 := Tryz.underlying0
 a0 := Tryz.isAgg0
 z0 := Tryz.sizeOf0
 v0 := Tryz.zeroValue0
 t3 := Tryz.underlying3
 a3 := Tryz.isAgg3
 z3 := Tryz.sizeOf3
 v3 := Tryz.zeroValue3
 t37 := Tryz.underlying50
 a37 := Tryz.isAgg50
 z37 := Tryz.sizeOf50
 v37 := Tryz.zeroValue50
 t70 := Tryz.underlying100
 a70 := Tryz.isAgg100
 z70 := Tryz.sizeOf100
 v70 := Tryz.zeroValue100
 t72 := Tryz.underlying102
 a72 := Tryz.isAgg102
 z72 := Tryz.sizeOf102
 v72 := Tryz.zeroValue102 }
def Tryz.lays169_ren : Go.Shelf.Ren := ⟨fun | 169 => 61 | n => n,fun | 70 => 100 | 9 => 9 | 0 => 0 | 72 => 102 | 37 => 50 | 127 => 130 | 3 => 3 | 5 => 5 | n => n,fun | n => n⟩
theorem Tryz.lays169 : Go.Proofs.Lays.n169 Tryz.prog Tryz.lays169_ren := {
 mixed := by kernel_rfl
 f169 := Tryz.func61.trans (congrArg some (by kernel_rfl))
 t0 := Tryz.underlying0
 a0 := Tryz.isAgg0
 z0 := Tryz.sizeOf0
 v0 := Tryz.zeroValue0
 t3 := Tryz.underlying3
 a3 := Tryz.isAgg3
 z3 := Tryz.sizeOf3
 v3 := Tryz.zeroValue3
 t9 := Tryz.underlying9
 a9 := Tryz.isAgg9
 z9 := Tryz.sizeOf9
 v9 := Tryz.zeroValue9
 t37 := Tryz.underlying50
 a37 := Tryz.isAgg50
 z37 := Tryz.sizeOf50
 v37 := Tryz.zeroValue50
 t70 := Tryz.underlying100
 a70 := Tryz.isAgg100
 z70 := Tryz.sizeOf100
 v70 := Tryz.zeroValue100
 t72 := Tryz.underlying102
 a72 := Tryz.isAgg102
 z72 := Tryz.sizeOf102
 v72 := Tryz.zeroValue102
 t127 := Tryz.underlying130
 a127 := Tryz.isAgg130
 z127 := Tryz.sizeOf130
 v127 := Tryz.zeroValue130 }
theorem Tryz.Builder_Extra_169 : Builder.Extra Tryz.prog Tryz.lays169_ren := {
 sizeBuilder := by kernel_rfl
 liesBuilder := by kernel_rfl
 t5 := Tryz.underlying5
 a5 := Tryz.isAgg5
 z5 := Tryz.sizeOf5
 v5 := Tryz.zeroValue5
 infoByte := by kernel_rfl
 cellsByte := by kernel_rfl
 sizeByte := by kernel_rfl
 neB5 := by decide }
def Tryz.lays119_ren : Go.Shelf.Ren := ⟨fun | 119 => 153 | n => n,fun | 21 => 21 | 4 => 4 | n => n,fun | n => n⟩
theorem Tryz.lays119 : Go.Proofs.Lays.n119 Tryz.prog Tryz.lays119_ren := {
 mixed := by kernel_rfl
 f119 := Tryz.func153.trans (congrArg some (by kernel_rfl))
 t4 := Tryz.underlying4
 a4 := Tryz.isAgg4
 z4 := Tryz.sizeOf4
 v4 := Tryz.zeroValue4
 t21 := Tryz.underlying21
 a21 := Tryz.isAgg21
 z21 := Tryz.sizeOf21
 v21 := Tryz.zeroValue21 }
theorem Tryz.utf8_ValidRune (r : Int) (w : World) :
   Calls Tryz.prog 153 #[.int .i32 r] w fun e w' => e = .returned (.bool (Lib.validRune r)) ∧ w' = w := Any.utf8_ValidRune Tryz.lays119 r w
def Tryz.lays137_ren : Go.Shelf.Ren := ⟨fun | 137 => 99 | 217 => 140 | 266 => 166 | n => n,fun | 9 => 9 | 5 => 5 | 3 => 3 | n => n,fun | n => n⟩
theorem Tryz.lays137 : Go.Proofs.Lays.n137 Tryz.prog Tryz.lays137_ren := {
 mixed := by kernel_rfl
 f137 := Tryz.func99.trans (congrArg some (by kernel_rfl))
 f217 := Tryz.func140.trans (congrArg some (by kernel_rfl))
 f266 := Tryz.func166.trans (congrArg some (by kernel_rfl))
 t3 := Tryz.underlying3
 a3 := Tryz.isAgg3
 z3 := Tryz.sizeOf3
 v3 := Tryz.zeroValue3
 t5 := Tryz.underlying5
 a5 := Tryz.isAgg5
 z5 := Tryz.sizeOf5
 v5 := Tryz.zeroValue5
 t9 := Tryz.underlying9
 a9 := Tryz.isAgg9
 z9 := Tryz.sizeOf9
 v9 := Tryz.zeroValue9 }
open Go.RowKit in
theorem Tryz.strings_IndexByte (s : ByteArray) (c : Int) (w : World) :
   Calls Tryz.prog 99 #[.string s,.int .u8 c] w fun e w' => e = .returned (.int .i64 (Lib.indexByte s.data.toList c.toNat.toUInt8)) ∧ w' = w := Any.strings_IndexByte Tryz.lays137 s c w
def Tryz.lays121_ren : Go.Shelf.Ren := ⟨fun | 121 => 87 | 214 => 128 | n => n,fun | 4 => 4 | 9 => 9 | n => n,fun | n => n⟩
theorem Tryz.lays121 : Go.Proofs.Lays.n121 Tryz.prog Tryz.lays121_ren := {
 mixed := by kernel_rfl
 f121 := Tryz.func87.trans (congrArg some (by kernel_rfl))
 f214 := Tryz.func128.trans (congrArg some (by kernel_rfl))
 t4 := Tryz.underlying4
 a4 := Tryz.isAgg4
 z4 := Tryz.sizeOf4
 v4 := Tryz.zeroValue4
 t9 := Tryz.underlying9
 a9 := Tryz.isAgg9
 z9 := Tryz.sizeOf9
 v9 := Tryz.zeroValue9 }
open Go.RowKit in
theorem Tryz.strconv_FormatBool (b : Bool) (w : World) :
   Calls Tryz.prog 87 #[.bool b] w fun e w' => e = .returned (.string ⟨(Lib.formatBool b).toArray⟩) ∧ w' = w := Any.strconv_FormatBool Tryz.lays121 b w
open Go.RowKit in
theorem Tryz.Builder_Len_f (B b : Nat) (bs : List Value) (w : World) (h : Lib.IsBuilderF 102 5 B b bs w) :
   Calls Tryz.prog 60 #[.pointer (some ⟨b,0,none⟩)] w fun e w' => e = .returned (.int .i64 bs.length) ∧ w' = w := Any.Builder_Len_f Tryz.lays170 B b bs w h
open Go.RowKit in
theorem Tryz.Builder_String_any_k (B b : Nat) (l : List UInt8) (w : World) (h : Lib.IsBuilderF 102 5 B b (Lib.byteCells l) w) (hBw : B ≤ w.heap.size) :
   Calls Tryz.prog 61 #[.pointer (some ⟨b,0,none⟩)] w fun e w' => e = .returned (.string ⟨l.toArray⟩) ∧ (Lib.IsBuilderF 102 5 B b (Lib.byteCells l) w' ∧ Below B w w' ∧ Lib.OthersKept 5 (some b) w w') := Any.Builder_String_any_k Tryz.lays169 Tryz.Builder_Extra_169 B b l w h hBw
def Tryz.laysM171_ren : Go.Shelf.Ren := ⟨fun | 171 => 90 | 243 => 132 | 246 => 162 | 283 => 173 | 284 => 174 | 285 => 175 | 286 => 176 | 129 => 113 | 317 => 183 | 318 => 184 | 319 => 185 | 320 => 186 | 337 => 187 | 338 => 188 | n => n,fun | 3 => 3 | 9 => 9 | 2 => 2 | 4 => 4 | 171 => 206 | 0 => 0 | 53 => 149 | 37 => 50 | 5 => 5 | 173 => 208 | 212 => 216 | 51 => 147 | 20 => 20 | 213 => 217 | 46 => 27 | 232 => 218 | 233 => 219 | n => n,fun | 17 => 5 | 18 => 6 | 19 => 7 | n => n⟩
theorem Tryz.laysM171 : Go.Proofs.LaysM.n171 Tryz.prog Tryz.laysM171_ren := {
 mixed := by kernel_rfl
 f129 := Tryz.func113.trans (congrArg some (by kernel_rfl))
 f171 := Tryz.func90.trans (congrArg some (by kernel_rfl))
 f243 := Tryz.func132.trans (congrArg some (by kernel_rfl))
 f246 := Tryz.func162.trans (congrArg some (by kernel_rfl))
 f283 := Tryz.func173.trans (congrArg some (by kernel_rfl))
 f284 := Tryz.func174.trans (congrArg some (by kernel_rfl))
 f285 := Tryz.func175.trans (congrArg some (by kernel_rfl))
 f286 := Tryz.func176.trans (congrArg some (by kernel_rfl))
 f317 := Tryz.func183.trans (congrArg some (by kernel_rfl))
 f318 := Tryz.func184.trans (congrArg some (by kernel_rfl))
 f319 := Tryz.func185.trans (congrArg some (by kernel_rfl))
 f320 := Tryz.func186.trans (congrArg some (by kernel_rfl))
 f337 := Tryz.func187.trans (congrArg some (by kernel_rfl))
 f338 := Tryz.func188.trans (congrArg some (by kernel_rfl))
 t0 := Tryz.underlying0
 a0 := Tryz.isAgg0
 z0 := Tryz.sizeOf0
 v0 := Tryz.zeroValue0
 t2 := Tryz.underlying2
 a2 := Tryz.isAgg2
 z2 := Tryz.sizeOf2
 v2 := Tryz.zeroValue2
 t3 := Tryz.underlying3
 a3 := Tryz.isAgg3
 z3 := Tryz.sizeOf3
 v3 := Tryz.zeroValue3
 t4 := Tryz.underlying4
 a4 := Tryz.isAgg4
 z4 := Tryz.sizeOf4
 v4 := Tryz.zeroValue4
 t5 := Tryz.underlying5
 a5 := Tryz.isAgg5
 z5 := Tryz.sizeOf5
 v5 := Tryz.zeroValue5
 t9 := Tryz.underlying9
 a9 := Tryz.isAgg9
 z9 := Tryz.sizeOf9
 v9 := Tryz.zeroValue9
 t20 := Tryz.underlying20
 a20 := Tryz.isAgg20
 z20 := Tryz.sizeOf20
 v20 := Tryz.zeroValue20
 t37 := Tryz.underlying50
 a37 := Tryz.isAgg50
 z37 := Tryz.sizeOf50
 v37 := Tryz.zeroValue50
 t46 := Tryz.underlying27
 a46 := Tryz.isAgg27
 z46 := Tryz.sizeOf27
 v46 := Tryz.zeroValue27
 t51 := Tryz.underlying147
 a51 := Tryz.isAgg147
 z51 := Tryz.sizeOf147
 v51 := Tryz.zeroValue147
 t53 := Tryz.underlying149
 a53 := Tryz.isAgg149
 z53 := Tryz.sizeOf149
 v53 := Tryz.zeroValue149
 t171 := Tryz.underlying206
 a171 := Tryz.isAgg206
 z171 := Tryz.sizeOf206
 v171 := Tryz.zeroValue206
 t173 := Tryz.underlying208
 a173 := Tryz.isAgg208
 z173 := Tryz.sizeOf208
 v173 := Tryz.zeroValue208
 t212 := Tryz.underlying216
 a212 := Tryz.isAgg216
 z212 := Tryz.sizeOf216
 v212 := Tryz.zeroValue216
 t213 := Tryz.underlying217
 a213 := Tryz.isAgg217
 z213 := Tryz.sizeOf217
 t232 := Tryz.underlying218
 a232 := Tryz.isAgg218
 z232 := Tryz.sizeOf218
 v232 := Tryz.zeroValue218
 t233 := Tryz.underlying219
 a233 := Tryz.isAgg219
 z233 := Tryz.sizeOf219
 v233 := Tryz.zeroValue219
 g17 := by kernel_rfl
 g18 := by kernel_rfl
 g19 := by kernel_rfl
 i0 := by kernel_rfl
 i2 := by kernel_rfl
 i3 := by kernel_rfl
 i4 := by kernel_rfl
 i5 := by kernel_rfl
 i9 := by kernel_rfl
 i20 := by kernel_rfl
 i37 := by kernel_rfl
 i46 := by kernel_rfl
 i51 := by kernel_rfl
 i53 := by kernel_rfl
 i171 := by kernel_rfl
 i173 := by kernel_rfl
 i212 := by kernel_rfl
 i232 := by kernel_rfl
 i233 := by kernel_rfl
 m17 := by kernel_rfl
 m18 := by kernel_rfl
 m19 := by kernel_rfl }
open Go.RowKit Go.Sort Go.Lib in
theorem Tryz.strconv_Itoa (n : Int) (h0 : -9223372036854775808 ≤ n) (h1 : n ≤ 9223372036854775807) (w : World) (htab : Lib.TabIs Tryz.prog w "internal/strconv.uint64pow10" .u64 Lib.pow10Tab) :
   Calls Tryz.prog 90 #[.int .i64 n] w fun e w' => e = .returned (.string ⟨(Lib.itoa n).toArray⟩) ∧ ∃ k os,w' = grow (w.drewN k) os := Any.strconv_Itoa Tryz.laysM171 n h0 h1 w htab
def Tryz.laysM316_ren : Go.Shelf.Ren := ⟨fun | 316 => 168 | n => n,fun | 9 => 9 | 3 => 3 | 4 => 4 | 37 => 50 | 0 => 0 | 127 => 130 | 5 => 5 | n => n,fun | n => n⟩
theorem Tryz.laysM316 : Go.Proofs.LaysM.n316 Tryz.prog Tryz.laysM316_ren := {
 mixed := by kernel_rfl
 f316 := Tryz.func168.trans (congrArg some (by kernel_rfl))
 t0 := Tryz.underlying0
 a0 := Tryz.isAgg0
 z0 := Tryz.sizeOf0
 v0 := Tryz.zeroValue0
 t3 := Tryz.underlying3
 a3 := Tryz.isAgg3
 z3 := Tryz.sizeOf3
 v3 := Tryz.zeroValue3
 t4 := Tryz.underlying4
 a4 := Tryz.isAgg4
 z4 := Tryz.sizeOf4
 v4 := Tryz.zeroValue4
 t9 := Tryz.underlying9
 a9 := Tryz.isAgg9
 z9 := Tryz.sizeOf9
 v9 := Tryz.zeroValue9
 t37 := Tryz.underlying50
 a37 := Tryz.isAgg50
 z37 := Tryz.sizeOf50
 v37 := Tryz.zeroValue50
 t127 := Tryz.underlying130
 a127 := Tryz.isAgg130
 z127 := Tryz.sizeOf130
 v127 := Tryz.zeroValue130
 t5 := Tryz.underlying5
 a5 := Tryz.isAgg5
 z5 := Tryz.sizeOf5
 v5 := Tryz.zeroValue5
 i0 := by kernel_rfl
 i3 := by kernel_rfl
 i4 := by kernel_rfl
 i5 := by kernel_rfl
 i9 := by kernel_rfl
 i37 := by kernel_rfl
 i127 := by kernel_rfl }
open Go.RowKit in
theorem Tryz.stringslite_Clone (s : ByteArray) (w : World) (hlim : s.size ≤ 281474976710656) :
   Calls Tryz.prog 168 #[.string s] w fun e w' => e = .returned (.string s) ∧ Below w.heap.size w w' := Any.stringslite_Clone Tryz.laysM316 s w hlim
def Tryz.laysC245_ren : Go.Shelf.Ren := ⟨fun | 245 => 101 | 279 => 142 | 280 => 143 | 281 => 144 | 282 => 145 | 316 => 168 | 171 => 90 | 205 => 169 | 243 => 132 | 246 => 162 | 283 => 173 | 284 => 174 | 285 => 175 | 286 => 176 | 129 => 113 | 317 => 183 | 318 => 184 | 319 => 185 | 320 => 186 | 337 => 187 | 338 => 188 | n => n,fun | 9 => 9 | 3 => 3 | 75 => 112 | 167 => 176 | 4 => 4 | 168 => 179 | 210 => 201 | 37 => 50 | 0 => 0 | 127 => 130 | 145 => 213 | 143 => 211 | 2 => 2 | 171 => 206 | 53 => 149 | 5 => 5 | 173 => 208 | 212 => 216 | 51 => 147 | 20 => 20 | 213 => 217 | 46 => 27 | 232 => 218 | 233 => 219 | 80 => 105 | n => n,fun | 15 => 2 | 16 => 3 | 17 => 5 | 18 => 6 | 19 => 7 | n => n⟩
theorem Tryz.laysC245 : Go.Proofs.LaysC.n245 Tryz.prog Tryz.laysC245_ren := {
 mixed := by kernel_rfl
 f129 := Tryz.func113.trans (congrArg some (by kernel_rfl))
 f171 := Tryz.func90.trans (congrArg some (by kernel_rfl))
 f205 := Tryz.func169.trans (congrArg some (by kernel_rfl))
 f243 := Tryz.func132.trans (congrArg some (by kernel_rfl))
 f245 := Tryz.func101.trans (congrArg some (by kernel_rfl))
 f246 := Tryz.func162.trans (congrArg some (by kernel_rfl))
 f279 := Tryz.func142.trans (congrArg some (by kernel_rfl))
 f280 := Tryz.func143.trans (congrArg some (by kernel_rfl))
 f281 := Tryz.func144.trans (congrArg some (by kernel_rfl))
 f282 := Tryz.func145.trans (congrArg some (by kernel_rfl))
 f283 := Tryz.func173.trans (congrArg some (by kernel_rfl))
 f284 := Tryz.func174.trans (congrArg some (by kernel_rfl))
 f285 := Tryz.func175.trans (congrArg some (by kernel_rfl))
 f286 := Tryz.func176.trans (congrArg some (by kernel_rfl))
 f316 := Tryz.func168.trans (congrArg some (by kernel_rfl))
 f317 := Tryz.func183.trans (congrArg some (by kernel_rfl))
 f318 := Tryz.func184.trans (congrArg some (by kernel_rfl))
 f319 := Tryz.func185.trans (congrArg some (by kernel_rfl))
 f320 := Tryz.func186.trans (congrArg some (by kernel_rfl))
 f337 := Tryz.func187.trans (congrArg some (by kernel_rfl))
 f338 := Tryz.func188.trans (congrArg some (by kernel_rfl))
 t0 := Tryz.underlying0
 a0 := Tryz.isAgg0
 z0 := Tryz.sizeOf0
 v0 := Tryz.zeroValue0
 t2 := Tryz.underlying2
 a2 := Tryz.isAgg2
 z2 := Tryz.sizeOf2
 v2 := Tryz.zeroValue2
 t3 := Tryz.underlying3
 a3 := Tryz.isAgg3
 z3 := Tryz.sizeOf3
 v3 := Tryz.zeroValue3
 t4 := Tryz.underlying4
 a4 := Tryz.isAgg4
 z4 := Tryz.sizeOf4
 v4 := Tryz.zeroValue4
 t5 := Tryz.underlying5
 a5 := Tryz.isAgg5
 z5 := Tryz.sizeOf5
 v5 := Tryz.zeroValue5
 t9 := Tryz.underlying9
 a9 := Tryz.isAgg9
 z9 := Tryz.sizeOf9
 v9 := Tryz.zeroValue9
 t20 := Tryz.underlying20
 a20 := Tryz.isAgg20
 z20 := Tryz.sizeOf20
 v20 := Tryz.zeroValue20
 t37 := Tryz.underlying50
 a37 := Tryz.isAgg50
 z37 := Tryz.sizeOf50
 v37 := Tryz.zeroValue50
 t46 := Tryz.underlying27
 a46 := Tryz.isAgg27
 z46 := Tryz.sizeOf27
 v46 := Tryz.zeroValue27
 t51 := Tryz.underlying147
 a51 := Tryz.isAgg147
 z51 := Tryz.sizeOf147
 v51 := Tryz.zeroValue147
 t53 := Tryz.underlying149
 a53 := Tryz.isAgg149
 z53 := Tryz.sizeOf149
 v53 := Tryz.zeroValue149
 t75 := Tryz.underlying112
 a75 := Tryz.isAgg112
 z75 := Tryz.sizeOf112
 v75 := Tryz.zeroValue112
 t127 := Tryz.underlying130
 a127 := Tryz.isAgg130
 z127 := Tryz.sizeOf130
 v127 := Tryz.zeroValue130
 t143 := Tryz.underlying211
 a143 := Tryz.isAgg211
 z143 := Tryz.sizeOf211
 v143 := Tryz.zeroValue211
 t145 := Tryz.underlying213
 a145 := Tryz.isAgg213
 z145 := Tryz.sizeOf213
 v145 := Tryz.zeroValue213
 t167 := Tryz.underlying176
 a167 := Tryz.isAgg176
 z167 := Tryz.sizeOf176
 v167 := Tryz.zeroValue176
 t168 := Tryz.underlying179
 a168 := Tryz.isAgg179
 z168 := Tryz.sizeOf179
 v168 := Tryz.zeroValue179
 t171 := Tryz.underlying206
 a171 := Tryz.isAgg206
 z171 := Tryz.sizeOf206
 v171 := Tryz.zeroValue206
 t173 := Tryz.underlying208
 a173 := Tryz.isAgg208
 z173 := Tryz.sizeOf208
 v173 := Tryz.zeroValue208
 t210 := Tryz.underlying201
 a210 := Tryz.isAgg201
 z210 := Tryz.sizeOf201
 v210 := Tryz.zeroValue201
 t212 := Tryz.underlying216
 a212 := Tryz.isAgg216
 z212 := Tryz.sizeOf216
 v212 := Tryz.zeroValue216
 t213 := Tryz.underlying217
 a213 := Tryz.isAgg217
 z213 := Tryz.sizeOf217
 t232 := Tryz.underlying218
 a232 := Tryz.isAgg218
 z232 := Tryz.sizeOf218
 v232 := Tryz.zeroValue218
 t233 := Tryz.underlying219
 a233 := Tryz.isAgg219
 z233 := Tryz.sizeOf219
 v233 := Tryz.zeroValue219
 g15 := by kernel_rfl
 g16 := by kernel_rfl
 g17 := by kernel_rfl
 g18 := by kernel_rfl
 g19 := by kernel_rfl
 t80 := Tryz.underlying105
 a80 := Tryz.isAgg105
 z80 := Tryz.sizeOf105
 v80 := Tryz.zeroValue105
 i0 := by kernel_rfl
 i2 := by kernel_rfl
 i3 := by kernel_rfl
 i4 := by kernel_rfl
 i5 := by kernel_rfl
 i9 := by kernel_rfl
 i20 := by kernel_rfl
 i37 := by kernel_rfl
 i46 := by kernel_rfl
 i51 := by kernel_rfl
 i53 := by kernel_rfl
 i75 := by kernel_rfl
 i80 := by kernel_rfl
 i127 := by kernel_rfl
 i143 := by kernel_rfl
 i145 := by kernel_rfl
 i167 := by kernel_rfl
 i168 := by kernel_rfl
 i171 := by kernel_rfl
 i173 := by kernel_rfl
 i210 := by kernel_rfl
 i212 := by kernel_rfl
 i232 := by kernel_rfl
 i233 := by kernel_rfl
 m15 := by kernel_rfl
 m16 := by kernel_rfl
 m17 := by kernel_rfl
 m18 := by kernel_rfl
 m19 := by kernel_rfl
 c0 := by kernel_rfl
 c2 := by kernel_rfl
 c3 := by kernel_rfl
 c4 := by kernel_rfl
 c5 := by kernel_rfl
 c9 := by kernel_rfl
 c20 := by kernel_rfl
 c37 := by kernel_rfl
 c46 := by kernel_rfl
 c51 := by kernel_rfl
 c53 := by kernel_rfl
 c75 := by kernel_rfl
 c80 := by kernel_rfl
 c127 := by kernel_rfl
 c143 := by kernel_rfl
 c145 := by kernel_rfl
 c167 := by kernel_rfl
 c168 := by kernel_rfl
 c171 := by kernel_rfl
 c173 := by kernel_rfl
 c210 := by kernel_rfl
 c212 := by kernel_rfl
 c213 := by kernel_rfl
 c232 := by kernel_rfl
 c233 := by kernel_rfl }
open Go.RowKit in
theorem Tryz.strconv_toError_syntax (fn s : ByteArray) (base bits : Int) (ev : Value) (w : World) (hlim : s.size ≤ 281474976710656) (hv : w.cell? ⟨2,0,none⟩ = some ev) (hev : ev = .nilIface ∨ ∃ te pe,ev = .iface te pe) :
   Calls Tryz.prog 101 #[.string fn,.string s,.int .i64 base,.int .i64 bits,.iface 176 (.int .i64 2)] w fun e w' => ∃ N,e = .returned (.iface 179 (.pointer (some ⟨N,0,none⟩))) ∧ w.heap.size ≤ N ∧ w'.heap[N]? = some (.cells #[.string fn,.string s,ev] 201 (0,0)) ∧ Below w.heap.size w w' := Any.strconv_toError_syntax Tryz.laysC245 fn s base bits ev w hlim hv hev
def Tryz.laysC244_ren : Go.Shelf.Ren := ⟨fun | 244 => 100 | 247 => 141 | 287 => 167 | 321 => 179 | 322 => 180 | n => n,fun | 9 => 9 | 3 => 3 | 75 => 112 | 4 => 4 | 5 => 5 | 167 => 176 | 37 => 50 | 0 => 0 | 85 => 177 | 2 => 2 | 53 => 149 | 175 => 197 | 46 => 27 | 21 => 21 | 80 => 105 | n => n,fun | n => n⟩
theorem Tryz.laysC244 : Go.Proofs.LaysC.n244 Tryz.prog Tryz.laysC244_ren := {
 mixed := by kernel_rfl
 f244 := Tryz.func100.trans (congrArg some (by kernel_rfl))
 f247 := Tryz.func141.trans (congrArg some (by kernel_rfl))
 f287 := Tryz.func167.trans (congrArg some (by kernel_rfl))
 f321 := Tryz.func179.trans (congrArg some (by kernel_rfl))
 f322 := Tryz.func180.trans (congrArg some (by kernel_rfl))
 t0 := Tryz.underlying0
 a0 := Tryz.isAgg0
 z0 := Tryz.sizeOf0
 v0 := Tryz.zeroValue0
 t2 := Tryz.underlying2
 a2 := Tryz.isAgg2
 z2 := Tryz.sizeOf2
 v2 := Tryz.zeroValue2
 t3 := Tryz.underlying3
 a3 := Tryz.isAgg3
 z3 := Tryz.sizeOf3
 v3 := Tryz.zeroValue3
 t4 := Tryz.underlying4
 a4 := Tryz.isAgg4
 z4 := Tryz.sizeOf4
 v4 := Tryz.zeroValue4
 t5 := Tryz.underlying5
 a5 := Tryz.isAgg5
 z5 := Tryz.sizeOf5
 v5 := Tryz.zeroValue5
 t9 := Tryz.underlying9
 a9 := Tryz.isAgg9
 z9 := Tryz.sizeOf9
 v9 := Tryz.zeroValue9
 t21 := Tryz.underlying21
 a21 := Tryz.isAgg21
 z21 := Tryz.sizeOf21
 v21 := Tryz.zeroValue21
 t37 := Tryz.underlying50
 a37 := Tryz.isAgg50
 z37 := Tryz.sizeOf50
 v37 := Tryz.zeroValue50
 t46 := Tryz.underlying27
 a46 := Tryz.isAgg27
 z46 := Tryz.sizeOf27
 v46 := Tryz.zeroValue27
 t53 := Tryz.underlying149
 a53 := Tryz.isAgg149
 z53 := Tryz.sizeOf149
 v53 := Tryz.zeroValue149
 t75 := Tryz.underlying112
 a75 := Tryz.isAgg112
 z75 := Tryz.sizeOf112
 v75 := Tryz.zeroValue112
 t85 := Tryz.underlying177
 a85 := Tryz.isAgg177
 z85 := Tryz.sizeOf177
 v85 := Tryz.zeroValue177
 t167 := Tryz.underlying176
 a167 := Tryz.isAgg176
 z167 := Tryz.sizeOf176
 v167 := Tryz.zeroValue176
 t175 := Tryz.underlying197
 a175 := Tryz.isAgg197
 z175 := Tryz.sizeOf197
 v175 := Tryz.zeroValue197
 t80 := Tryz.underlying105
 a80 := Tryz.isAgg105
 z80 := Tryz.sizeOf105
 v80 := Tryz.zeroValue105
 i0 := by kernel_rfl
 i2 := by kernel_rfl
 i3 := by kernel_rfl
 i4 := by kernel_rfl
 i5 := by kernel_rfl
 i9 := by kernel_rfl
 i21 := by kernel_rfl
 i37 := by kernel_rfl
 i46 := by kernel_rfl
 i53 := by kernel_rfl
 i75 := by kernel_rfl
 i80 := by kernel_rfl
 i85 := by kernel_rfl
 i167 := by kernel_rfl
 i175 := by kernel_rfl
 c0 := by kernel_rfl
 c2 := by kernel_rfl
 c3 := by kernel_rfl
 c4 := by kernel_rfl
 c5 := by kernel_rfl
 c9 := by kernel_rfl
 c21 := by kernel_rfl
 c37 := by kernel_rfl
 c46 := by kernel_rfl
 c53 := by kernel_rfl
 c75 := by kernel_rfl
 c80 := by kernel_rfl
 c85 := by kernel_rfl
 c167 := by kernel_rfl
 c175 := by kernel_rfl }
open Go.RowKit in
theorem Tryz.internal_strconv_Atoi_all (s : ByteArray) (hmax : s.size ≤ 9223372036854775806) (w : World) :
   Calls Tryz.prog 100 #[.string s] w fun e w' => e = .returned (Lib.intTuple 176 (Lib.atoiSat s.data.toList) (Lib.atoiAll s.data.toList)) ∧ (w' = w ∨ ∃ t,w' = Lib.bytesWorld w 5 t) := Any.internal_strconv_Atoi_all Tryz.laysC244 s hmax w
open Go.RowKit in
theorem Tryz.strconv_toError_range (fn s : ByteArray) (base bits : Int) (ev : Value) (w : World) (hlim : s.size ≤ 281474976710656) (hv : w.cell? ⟨3,0,none⟩ = some ev) (hev : ev = .nilIface ∨ ∃ te pe,ev = .iface te pe) :
   Calls Tryz.prog 101 #[.string fn,.string s,.int .i64 base,.int .i64 bits,.iface 176 (.int .i64 1)] w fun e w' => ∃ N,e = .returned (.iface 179 (.pointer (some ⟨N,0,none⟩))) ∧ w.heap.size ≤ N ∧ w'.heap[N]? = some (.cells #[.string fn,.string s,ev] 201 (0,0)) ∧ Below w.heap.size w w' := Any.strconv_toError_range Tryz.laysC245 fn s base bits ev w hlim hv hev
def Tryz.lays190_ren : Go.Shelf.Ren := ⟨fun | 190 => 50 | 125 => 72 | 258 => 71 | 128 => 112 | 129 => 113 | 302 => 103 | 303 => 104 | 304 => 105 | 305 => 106 | 306 => 107 | 307 => 108 | 308 => 109 | 309 => 110 | 310 => 111 | 333 => 147 | 329 => 148 | 330 => 149 | 334 => 150 | 335 => 151 | 336 => 152 | 344 => 170 | n => n,fun | 31 => 22 | 9 => 9 | 3 => 3 | 46 => 27 | 0 => 0 | 51 => 147 | 53 => 149 | 4 => 4 | 183 => 141 | 182 => 140 | 131 => 88 | 5 => 5 | 218 => 182 | 222 => 120 | 228 => 203 | 229 => 204 | n => n,fun | n => n⟩
theorem Tryz.lays190 : Go.Proofs.Lays.n190 Tryz.prog Tryz.lays190_ren := {
 mixed := by kernel_rfl
 f125 := Tryz.func72.trans (congrArg some (by kernel_rfl))
 f128 := Tryz.func112.trans (congrArg some (by kernel_rfl))
 f129 := Tryz.func113.trans (congrArg some (by kernel_rfl))
 f190 := Tryz.func50.trans (congrArg some (by kernel_rfl))
 f258 := Tryz.func71.trans (congrArg some (by kernel_rfl))
 f302 := Tryz.func103.trans (congrArg some (by kernel_rfl))
 f303 := Tryz.func104.trans (congrArg some (by kernel_rfl))
 f304 := Tryz.func105.trans (congrArg some (by kernel_rfl))
 f305 := Tryz.func106.trans (congrArg some (by kernel_rfl))
 f306 := Tryz.func107.trans (congrArg some (by kernel_rfl))
 f307 := Tryz.func108.trans (congrArg some (by kernel_rfl))
 f308 := Tryz.func109.trans (congrArg some (by kernel_rfl))
 f309 := Tryz.func110.trans (congrArg some (by kernel_rfl))
 f310 := Tryz.func111.trans (congrArg some (by kernel_rfl))
 f329 := Tryz.func148.trans (congrArg some (by kernel_rfl))
 f330 := Tryz.func149.trans (congrArg some (by kernel_rfl))
 f333 := Tryz.func147.trans (congrArg some (by kernel_rfl))
 f334 := Tryz.func150.trans (congrArg some (by kernel_rfl))
 f335 := Tryz.func151.trans (congrArg some (by kernel_rfl))
 f336 := Tryz.func152.trans (congrArg some (by kernel_rfl))
 f344 := Tryz.func170.trans (congrArg some (by kernel_rfl))
 t0 := Tryz.underlying0
 a0 := Tryz.isAgg0
 z0 := Tryz.sizeOf0
 v0 := Tryz.zeroValue0
 t3 := Tryz.underlying3
 a3 := Tryz.isAgg3
 z3 := Tryz.sizeOf3
 v3 := Tryz.zeroValue3
 t4 := Tryz.underlying4
 a4 := Tryz.isAgg4
 z4 := Tryz.sizeOf4
 v4 := Tryz.zeroValue4
 t5 := Tryz.underlying5
 a5 := Tryz.isAgg5
 z5 := Tryz.sizeOf5
 v5 := Tryz.zeroValue5
 t9 := Tryz.underlying9
 a9 := Tryz.isAgg9
 z9 := Tryz.sizeOf9
 v9 := Tryz.zeroValue9
 t31 := Tryz.underlying22
 a31 := Tryz.isAgg22
 z31 := Tryz.sizeOf22
 v31 := Tryz.zeroValue22
 t46 := Tryz.underlying27
 a46 := Tryz.isAgg27
 z46 := Tryz.sizeOf27
 v46 := Tryz.zeroValue27
 t51 := Tryz.underlying147
 a51 := Tryz.isAgg147
 z51 := Tryz.sizeOf147
 v51 := Tryz.zeroValue147
 t53 := Tryz.underlying149
 a53 := Tryz.isAgg149
 z53 := Tryz.sizeOf149
 v53 := Tryz.zeroValue149
 t131 := Tryz.underlying88
 a131 := Tryz.isAgg88
 z131 := Tryz.sizeOf88
 v131 := Tryz.zeroValue88
 t182 := Tryz.underlying140
 a182 := Tryz.isAgg140
 z182 := Tryz.sizeOf140
 v182 := Tryz.zeroValue140
 t183 := Tryz.underlying141
 a183 := Tryz.isAgg141
 z183 := Tryz.sizeOf141
 v183 := Tryz.zeroValue141
 t218 := Tryz.underlying182
 a218 := Tryz.isAgg182
 z218 := Tryz.sizeOf182
 v218 := Tryz.zeroValue182
 t222 := Tryz.underlying120
 a222 := Tryz.isAgg120
 z222 := Tryz.sizeOf120
 v222 := Tryz.zeroValue120
 t228 := Tryz.underlying203
 a228 := Tryz.isAgg203
 z228 := Tryz.sizeOf203
 v228 := Tryz.zeroValue203
 t229 := Tryz.underlying204
 a229 := Tryz.isAgg204
 z229 := Tryz.sizeOf204
 v229 := Tryz.zeroValue204 }
open Go.Sort Go.RowKit in
theorem Tryz.slices_Sort_string (blk off cap : Nat) (ss : List (List UInt8)) (w : World) (hH : Holds encStr w blk off ss.toArray) (hblk : blk < w.heap.size) (hsz : ss.length < 4611686018427387904) :
   Calls Tryz.prog 50 #[.slice (some ⟨blk,off,none⟩) ss.length cap] w fun e w' =>
     e = .returned (.tuple #[]) ∧ ∃ n os,w' = grow (putRow encStr (Sort.ahead w n) blk off (ss.mergeSort fun x y => decide (x ≤ y)).toArray) os := Any.slices_Sort_string Tryz.lays190 blk off cap ss w hH hblk hsz
def Tryz.lays206_ren : Go.Shelf.Ren := ⟨fun | 206 => 133 | n => n,fun | 9 => 9 | 4 => 4 | 3 => 3 | n => n,fun | n => n⟩
theorem Tryz.lays206 : Go.Proofs.Lays.n206 Tryz.prog Tryz.lays206_ren := {
 mixed := by kernel_rfl
 f206 := Tryz.func133.trans (congrArg some (by kernel_rfl))
 t3 := Tryz.underlying3
 a3 := Tryz.isAgg3
 z3 := Tryz.sizeOf3
 v3 := Tryz.zeroValue3
 t4 := Tryz.underlying4
 a4 := Tryz.isAgg4
 z4 := Tryz.sizeOf4
 v4 := Tryz.zeroValue4
 t9 := Tryz.underlying9
 a9 := Tryz.isAgg9
 z9 := Tryz.sizeOf9
 v9 := Tryz.zeroValue9 }
open Go.RowKit Go.Lib in
theorem Tryz.stringslite_HasPrefix (s p : ByteArray) (w : World) :
   Calls Tryz.prog 133 #[.string s,.string p] w fun e w' => e = .returned (.bool (Lib.hasPrefix s.data.toList p.data.toList)) ∧ w' = w := Any.stringslite_HasPrefix Tryz.lays206 s p w
def Tryz.lays99_ren : Go.Shelf.Ren := ⟨fun | 99 => 92 | 206 => 133 | n => n,fun | 9 => 9 | 4 => 4 | 3 => 3 | n => n,fun | n => n⟩
theorem Tryz.lays99 : Go.Proofs.Lays.n99 Tryz.prog Tryz.lays99_ren := {
 mixed := by kernel_rfl
 f99 := Tryz.func92.trans (congrArg some (by kernel_rfl))
 f206 := Tryz.func133.trans (congrArg some (by kernel_rfl))
 t3 := Tryz.underlying3
 a3 := Tryz.isAgg3
 z3 := Tryz.sizeOf3
 v3 := Tryz.zeroValue3
 t4 := Tryz.underlying4
 a4 := Tryz.isAgg4
 z4 := Tryz.sizeOf4
 v4 := Tryz.zeroValue4
 t9 := Tryz.underlying9
 a9 := Tryz.isAgg9
 z9 := Tryz.sizeOf9
 v9 := Tryz.zeroValue9 }
open Go.RowKit Go.Lib in
theorem Tryz.strings_HasPrefix (s p : ByteArray) (w : World) :
   Calls Tryz.prog 92 #[.string s,.string p] w fun e w' => e = .returned (.bool (Lib.hasPrefix s.data.toList p.data.toList)) ∧ w' = w := Any.strings_HasPrefix Tryz.lays99 s p w
def Tryz.lays197_ren : Go.Shelf.Ren := ⟨fun | 197 => 136 | 260 => 164 | n => n,fun | 9 => 9 | 21 => 21 | 3 => 3 | 4 => 4 | 5 => 5 | 105 => 172 | 119 => 158 | 0 => 0 | 46 => 27 | 139 => 161 | 138 => 160 | n => n,fun | 3 => 0 | 4 => 1 | n => n⟩
theorem Tryz.lays197 : Go.Proofs.Lays.n197 Tryz.prog Tryz.lays197_ren := {
 mixed := by kernel_rfl
 f197 := Tryz.func136.trans (congrArg some (by kernel_rfl))
 f260 := Tryz.func164.trans (congrArg some (by kernel_rfl))
 t0 := Tryz.underlying0
 a0 := Tryz.isAgg0
 z0 := Tryz.sizeOf0
 v0 := Tryz.zeroValue0
 t3 := Tryz.underlying3
 a3 := Tryz.isAgg3
 z3 := Tryz.sizeOf3
 v3 := Tryz.zeroValue3
 t4 := Tryz.underlying4
 a4 := Tryz.isAgg4
 z4 := Tryz.sizeOf4
 v4 := Tryz.zeroValue4
 t5 := Tryz.underlying5
 a5 := Tryz.isAgg5
 z5 := Tryz.sizeOf5
 v5 := Tryz.zeroValue5
 t9 := Tryz.underlying9
 a9 := Tryz.isAgg9
 z9 := Tryz.sizeOf9
 v9 := Tryz.zeroValue9
 t21 := Tryz.underlying21
 a21 := Tryz.isAgg21
 z21 := Tryz.sizeOf21
 v21 := Tryz.zeroValue21
 t46 := Tryz.underlying27
 a46 := Tryz.isAgg27
 z46 := Tryz.sizeOf27
 v46 := Tryz.zeroValue27
 t105 := Tryz.underlying172
 a105 := Tryz.isAgg172
 z105 := Tryz.sizeOf172
 v105 := Tryz.zeroValue172
 t119 := Tryz.underlying158
 a119 := Tryz.isAgg158
 z119 := Tryz.sizeOf158
 t138 := Tryz.underlying160
 a138 := Tryz.isAgg160
 z138 := Tryz.sizeOf160
 v138 := Tryz.zeroValue160
 t139 := Tryz.underlying161
 a139 := Tryz.isAgg161
 z139 := Tryz.sizeOf161
 v139 := Tryz.zeroValue161
 g3 := by kernel_rfl
 g4 := by kernel_rfl }
def Tryz.lays226_ren : Go.Shelf.Ren := ⟨fun | 226 => 115 | n => n,fun | 3 => 3 | 4 => 4 | n => n,fun | n => n⟩
theorem Tryz.lays226 : Go.Proofs.Lays.n226 Tryz.prog Tryz.lays226_ren := {
 mixed := by kernel_rfl
 f226 := Tryz.func115.trans (congrArg some (by kernel_rfl))
 t3 := Tryz.underlying3
 a3 := Tryz.isAgg3
 z3 := Tryz.sizeOf3
 v3 := Tryz.zeroValue3
 t4 := Tryz.underlying4
 a4 := Tryz.isAgg4
 z4 := Tryz.sizeOf4
 v4 := Tryz.zeroValue4 }
open Go.RowKit Go.Lib in
theorem Tryz.strings_shouldUseASCIISet (n : Int) (w : World) :
   Calls Tryz.prog 115 #[.int .i64 n] w fun e w' => e = .returned (.bool (decide (8 < n))) ∧ w' = w := Any.strings_shouldUseASCIISet Tryz.lays226 n w
def Tryz.lays153_ren : Go.Shelf.Ren := ⟨fun | 153 => 73 | 152 => 114 | 226 => 115 | 227 => 116 | 228 => 117 | 137 => 99 | 119 => 153 | 224 => 154 | 225 => 155 | 217 => 140 | 266 => 166 | n => n,fun | 9 => 9 | 3 => 3 | 4 => 4 | 5 => 5 | 21 => 21 | 117 => 154 | 116 => 153 | 0 => 0 | 46 => 27 | 124 => 189 | n => n,fun | n => n⟩
theorem Tryz.lays153 : Go.Proofs.Lays.n153 Tryz.prog Tryz.lays153_ren := {
 mixed := by kernel_rfl
 f119 := Tryz.func153.trans (congrArg some (by kernel_rfl))
 f137 := Tryz.func99.trans (congrArg some (by kernel_rfl))
 f152 := Tryz.func114.trans (congrArg some (by kernel_rfl))
 f153 := Tryz.func73.trans (congrArg some (by kernel_rfl))
 f217 := Tryz.func140.trans (congrArg some (by kernel_rfl))
 f224 := Tryz.func154.trans (congrArg some (by kernel_rfl))
 f225 := Tryz.func155.trans (congrArg some (by kernel_rfl))
 f226 := Tryz.func115.trans (congrArg some (by kernel_rfl))
 f227 := Tryz.func116.trans (congrArg some (by kernel_rfl))
 f228 := Tryz.func117.trans (congrArg some (by kernel_rfl))
 f266 := Tryz.func166.trans (congrArg some (by kernel_rfl))
 t0 := Tryz.underlying0
 a0 := Tryz.isAgg0
 z0 := Tryz.sizeOf0
 v0 := Tryz.zeroValue0
 t3 := Tryz.underlying3
 a3 := Tryz.isAgg3
 z3 := Tryz.sizeOf3
 v3 := Tryz.zeroValue3
 t4 := Tryz.underlying4
 a4 := Tryz.isAgg4
 z4 := Tryz.sizeOf4
 v4 := Tryz.zeroValue4
 t5 := Tryz.underlying5
 a5 := Tryz.isAgg5
 z5 := Tryz.sizeOf5
 v5 := Tryz.zeroValue5
 t9 := Tryz.underlying9
 a9 := Tryz.isAgg9
 z9 := Tryz.sizeOf9
 v9 := Tryz.zeroValue9
 t21 := Tryz.underlying21
 a21 := Tryz.isAgg21
 z21 := Tryz.sizeOf21
 v21 := Tryz.zeroValue21
 t46 := Tryz.underlying27
 a46 := Tryz.isAgg27
 z46 := Tryz.sizeOf27
 v46 := Tryz.zeroValue27
 t116 := Tryz.underlying153
 a116 := Tryz.isAgg153
 z116 := Tryz.sizeOf153
 t117 := Tryz.underlying154
 a117 := Tryz.isAgg154
 z117 := Tryz.sizeOf154
 v117 := Tryz.zeroValue154
 t124 := Tryz.underlying189
 a124 := Tryz.isAgg189
 z124 := Tryz.sizeOf189
 v124 := Tryz.zeroValue189 }
open Go.RowKit Go.Lib in
theorem Tryz.strings_IndexAny_long (hv116 : ∀ w,(zeroValue 153).run Tryz.prog w = .ok (.agg (Array.replicate 256 (.bool false))) w) (s chars : ByteArray) (w : World) (h2 : 2 ≤ chars.size) (h8 : 8 < s.size) (hs : s.size < 4294967281) (hcs : chars.size < 4294967281) (hascii : ∀ (j : Nat) b,chars.data.toList[j]? = some b → b.toNat < 128) :
   Calls Tryz.prog 73 #[.string s,.string chars] w fun e w' => e = .returned (.int .i64 (Lib.indexAny s.data.toList chars.data.toList)) ∧ w' = ((w.alloc (.cells (Lib.setCells chars.data.toList) 153)).alloc (.cells (Lib.setCells chars.data.toList) 153)) := Any.strings_IndexAny_long Tryz.lays153 hv116 (by kernel_rfl) s chars w h2 h8 hs hcs hascii
open Go.RowKit Go.Lib in
theorem Tryz.utf8_DecodeRuneInString (s : ByteArray) (w : World) (hT : Lib.Utf8Tabs 0 1 w) :
   Calls Tryz.prog 136 #[.string s] w fun e w' => e = .returned (.tuple #[.int .i32 (Lib.decodeGo s).1,.int .i64 (Lib.decodeGo s).2]) ∧ Below w.heap.size w w' := Any.utf8_DecodeRuneInString Tryz.lays197 s w hT
def Tryz.laysValid_ren : Go.Shelf.Ren := ⟨fun | 196 => 74 | 259 => 118 | n => n,fun | 9 => 9 | 4 => 4 | 3 => 3 | 5 => 5 | 12 => 12 | 119 => 158 | 0 => 0 | 46 => 27 | 139 => 161 | 138 => 160 | 53 => 149 | n => n,fun | 3 => 0 | 4 => 1 | n => n⟩
theorem Tryz.laysValid : Go.Proofs.Lays.n196 Tryz.prog Tryz.laysValid_ren := {
 mixed := by kernel_rfl
 f196 := Tryz.func74.trans (congrArg some (by kernel_rfl))
 f259 := Tryz.func118.trans (congrArg some (by kernel_rfl))
 t0 := Tryz.underlying0
 a0 := Tryz.isAgg0
 z0 := Tryz.sizeOf0
 v0 := Tryz.zeroValue0
 t3 := Tryz.underlying3
 a3 := Tryz.isAgg3
 z3 := Tryz.sizeOf3
 v3 := Tryz.zeroValue3
 t4 := Tryz.underlying4
 a4 := Tryz.isAgg4
 z4 := Tryz.sizeOf4
 v4 := Tryz.zeroValue4
 t5 := Tryz.underlying5
 a5 := Tryz.isAgg5
 z5 := Tryz.sizeOf5
 v5 := Tryz.zeroValue5
 t9 := Tryz.underlying9
 a9 := Tryz.isAgg9
 z9 := Tryz.sizeOf9
 v9 := Tryz.zeroValue9
 t12 := Tryz.underlying12
 a12 := Tryz.isAgg12
 z12 := Tryz.sizeOf12
 v12 := Tryz.zeroValue12
 t46 := Tryz.underlying27
 a46 := Tryz.isAgg27
 z46 := Tryz.sizeOf27
 v46 := Tryz.zeroValue27
 t53 := Tryz.underlying149
 a53 := Tryz.isAgg149
 z53 := Tryz.sizeOf149
 v53 := Tryz.zeroValue149
 t119 := Tryz.underlying158
 a119 := Tryz.isAgg158
 z119 := Tryz.sizeOf158
 t138 := Tryz.underlying160
 a138 := Tryz.isAgg160
 z138 := Tryz.sizeOf160
 v138 := Tryz.zeroValue160
 t139 := Tryz.underlying161
 a139 := Tryz.isAgg161
 z139 := Tryz.sizeOf161
 v139 := Tryz.zeroValue161
 g3 := by kernel_rfl
 g4 := by kernel_rfl }
open Go.RowKit Go.Lib in
theorem Tryz.utf8_ValidString (s : ByteArray) (w : World) (hs : s.size ≤ 9223372036854775807) (hT : Lib.Utf8Tabs (Tryz.laysValid_ren.g 3) (Tryz.laysValid_ren.g 4) w) :
   Calls Tryz.prog 74 #[.string s] w fun e w' => e = .returned (.bool (Lib.validD s.data.toList)) ∧ Below w.heap.size w w' := Any.utf8_ValidString Tryz.laysValid s w hs hT
end Go.Proofs
namespace Go.Proofs.YtpiaegojabkioaaGreatDoor.Fx
open Go Go.Eng
set_option maxRecDepth 100000
theorem of_calls [HX] {g : FuncId} {args : Array Value} {w : World} {K : Value → World → Prop} (hr : ∀ (ar : Array Value) (w : World),(callFunc g ar).run Tryz.prog w = .ok (.enter g ar) w)
   (h : Calls Tryz.prog g args w fun e w' => ∃ v,e = .returned v ∧ K v w') : callF Tryz.prog g args.toList w K := by
 unfold callF
 rw [show args.toList.toArray = args from by simp,hr]
 refine h.mono ?_
 rintro e w' ⟨v,rfl,hk⟩
 exact hk
theorem get!_ofL (l : Str) (i : Nat) : (ofL l).get! i = l.getD i 0 := by
 simp only [ofL,ByteArray.get!,List.getD_eq_getElem?_getD]
 show (l.toArray)[i]! = _
 simp only [List.getElem!_toArray,List.getElem!_eq_getElem?_getD]
 rfl
theorem dec_facts (l : Str) (pos : Nat) (hp : pos < l.length) :
   ((l.getD pos 0).toNat < 128 → Utf8.decode (ofL l) pos = ((l.getD pos 0).toNat,1)) ∧
   (128 ≤ (l.getD pos 0).toNat → 128 ≤ (Utf8.decode (ofL l) pos).1 ∧ ((Utf8.decode (ofL l) pos).1 < 55296 ∨ (57344 ≤ (Utf8.decode (ofL l) pos).1 ∧ (Utf8.decode (ofL l) pos).1 ≤ 1114111)) ∧ 1 ≤ (Utf8.decode (ofL l) pos).2 ∧
     pos + (Utf8.decode (ofL l) pos).2 ≤ l.length ∧ ∀ k,pos ≤ k → k < pos + (Utf8.decode (ofL l) pos).2 → 128 ≤ (l.getD k 0).toNat) := by
 have hd := Lib.decode_at (ofL l) pos
 rw [ofL_size] at hd
 simp only [get!_ofL] at hd
 have hb : ∀ i,(l.getD i 0).toNat < 256 := fun i => UInt8.toNat_lt _
 have h0 := hb pos
 have h1 := hb (pos + 1)
 have h2 := hb (pos + 2)
 have h3 := hb (pos + 3)
 have hs := Lib.decodeN_shape (l.length - pos) (l.getD pos 0).toNat (l.getD (pos + 1) 0).toNat (l.getD (pos + 2) 0).toNat (l.getD (pos + 3) 0).toNat
 rw [← hd] at hs
 have hasc : (l.getD pos 0).toNat < 128 → Utf8.decode (ofL l) pos = ((l.getD pos 0).toNat,1) := fun h => by rw [hd]; unfold Lib.decodeN; rw [if_pos h]
 refine ⟨hasc,?_⟩
 clear hasc
 generalize Utf8.decode (ofL l) pos = d at *
 obtain ⟨c,wd⟩ := d
 clear hd hb
 have one : ∀ k,pos ≤ k → k < pos + 1 → k = pos := fun k h1 h2 => by omega
 have two : ∀ k,pos ≤ k → k < pos + 2 → k = pos ∨ k = pos + 1 := fun k h1 h2 => by omega
 have three : ∀ k,pos ≤ k → k < pos + 3 → k = pos ∨ k = pos + 1 ∨ k = pos + 2 := fun k h1 h2 => by omega
 have four : ∀ k,pos ≤ k → k < pos + 4 → k = pos ∨ k = pos + 1 ∨ k = pos + 2 ∨ k = pos + 3 := fun k h1 h2 => by omega
 rcases hs with ⟨ha,he⟩ | ⟨ha,hn,q1,q2,he⟩ | ⟨ha,hn,q1,q2,q3,q4,he⟩ | ⟨ha,hn,q1,q2,q3,q4,q5,he⟩ | he <;> simp only [Prod.mk.injEq] at he <;> obtain ⟨rfl,rfl⟩ := he
 · exact fun h => by omega
 · refine fun h => ⟨q2,.inl (by omega),by omega,by omega,fun k hk1 hk2 => ?_⟩
   rcases two k hk1 hk2 with rfl | rfl <;> omega
 · refine fun h => ⟨by omega,by omega,by omega,by omega,fun k hk1 hk2 => ?_⟩
   rcases three k hk1 hk2 with rfl | rfl | rfl <;> omega
 · refine fun h => ⟨by omega,by omega,by omega,by omega,fun k hk1 hk2 => ?_⟩
   rcases four k hk1 hk2 with rfl | rfl | rfl | rfl <;> omega
 · refine fun h => ⟨by omega,by omega,by omega,by omega,fun k hk1 hk2 => ?_⟩
   rw [one k hk1 hk2]; exact h
theorem range_str {T : TypeId} (hT : Tryz.prog.underlying T = some .string) {l : Str} {w : World} {K : Value → World → Prop}
   (hK : K (.pointer (some ⟨w.heap.size,0,none⟩)) (w.alloc (.stringIter (ofL l) 0))) : semE Tryz.prog (Instr.range T (str l)) w K := by
 have hr : (Instr.range T (str l)).run Tryz.prog w = .ok (.pointer (some ⟨w.heap.size,0,none⟩)) (w.alloc (.stringIter (ofL l) 0)) := by
   simp [Instr.range,run_bind,run_underlying' hT,run_pure,newObj,Sem.run]
 unfold semE
 rw [hr]
 exact hK
theorem next_str {r pos : Nat} {l : Str} {T : TypeId} {w : World} {K : Value → World → Prop} (hw : w.heap[r]? = some (.stringIter (ofL l) pos))
   (h0 : l.length ≤ pos → K (.tuple #[.bool false]) w)
   (h1 : pos < l.length → ∀ w',w'.heap[r]? = some (.stringIter (ofL l) (pos + (Utf8.decode (ofL l) pos).2)) → Chg (· = r) w w' → K (.tuple #[.bool true,i64 pos,.int .i32 (Utf8.decode (ofL l) pos).1]) w') :
   semE Tryz.prog (Instr.next (.pointer (some ⟨r,0,none⟩)) true T) w K := by
 have hg : (getObj r).run Tryz.prog w = .ok (.stringIter (ofL l) pos) w := by simp [getObj,Sem.run,hw]
 have hlt : r < w.heap.size := (Array.getElem?_eq_some_iff.1 hw).1
 unfold semE
 simp only [Instr.next,run_bind,hg,ofL_size]
 by_cases hp : pos < l.length
 · have hset : (setObj r (.stringIter (ofL l) (pos + (Utf8.decode (ofL l) pos).2))).run Tryz.prog w = .ok () { w with heap := w.heap.setIfInBounds r (.stringIter (ofL l) (pos + (Utf8.decode (ofL l) pos).2)) } := by simp [setObj,Sem.run,hw]
   rw [if_pos hp]
   simp only [run_bind,hset,run_pure]
   exact h1 hp _ (by simp [hlt]) setObj_chg
 · rw [if_neg hp]
   simp only [run_pure]
   exact h0 (by omega)
def badL : Str := [0,10,32]
theorem index_byte [HX] {s : Str} {c : Int} {w : World} {K : Value → World → Prop} (hK : K (i64 (Lib.indexByte s c.toNat.toUInt8)) w) : callF Tryz.prog 99 [str s,.int .u8 c] w K := by
 refine of_calls (args := #[str s,.int .u8 c]) Tryz.call99 ((Tryz.strings_IndexByte (ofL s) c w).mono ?_)
 rintro e w' ⟨rfl,rfl⟩
 rw [ofL_data]
 exact ⟨_,rfl,hK⟩
theorem enc_facts {c : Int} (h0 : 128 ≤ c) (hv : c < 55296 ∨ (57344 ≤ c ∧ c ≤ 1114111)) : ∃ l : Str,Utf8.encode c = ofL l ∧ 2 ≤ l.length ∧ l.length ≤ 4 ∧ ∃ b,l[l.length - 1]? = some b ∧ 128 ≤ b.toNat := by
 obtain ⟨n,rfl⟩ := Int.eq_ofNat_of_zero_le (show 0 ≤ c by omega)
 have hval : Utf8.valid (n : Int) = true := by
   simp only [Utf8.valid,Bool.or_eq_true,Bool.and_eq_true,decide_eq_true_eq]
   omega
 have last : ∀ m : Nat,128 ≤ (UInt8.ofNat (0x80 + m % 64)).toNat := by
   intro m
   rw [UInt8.toNat_ofNat']
   omega
 unfold Utf8.encode
 simp only [hval,if_true,Int.toNat_natCast]
 rw [if_neg (by omega)]
 split
 · exact ⟨[_,_],rfl,by simp,by simp,_,rfl,last _⟩
 · split
   · exact ⟨[_,_,_],rfl,by simp,by simp,_,rfl,last _⟩
   · exact ⟨[_,_,_,_],rfl,by simp,by simp,_,rfl,last _⟩
theorem cvs_int {k : IntKind} {c : Int} {K : Value → Prop} : cvsW (.int k c) K ↔ K (.string (Utf8.encode c)) := Iff.rfl
theorem idx_none (l : Str) (b : UInt8) (h : ∀ x ∈ l,x.toNat < 128) (hb : 128 ≤ b.toNat) : Lib.indexByte l b = -1 := by
 induction l with
 | nil => rfl
 | cons x l ih =>
   have hx := h x List.mem_cons_self
   have ih := ih fun y hy => h y (List.mem_cons_of_mem _ hy)
   have hne : (x == b) = false := by
     rw [beq_eq_false_iff_ne]
     intro e
     subst e
     omega
   simp [Lib.indexByte,hne,ih]
theorem idx_bad (n : Nat) (hn : n < 128) : (0 ≤ Lib.indexByte badL (n.toUInt8) ↔ n = 0 ∨ n = 10 ∨ n = 32) := by
 have : ∀ m : Fin 128,(0 ≤ Lib.indexByte badL (m.val.toUInt8) ↔ m.val = 0 ∨ m.val = 10 ∨ m.val = 32) := by decide +kernel
 exact this ⟨n,hn⟩
theorem index_rune [HX] {c : Int} {w : World} {K : Value → World → Prop} (h0 : 0 ≤ c) (hv : c < 55296 ∨ (57344 ≤ c ∧ c ≤ 1114111))
   (hK : ∀ r : Int,∀ w',(0 ≤ r ↔ c = 0 ∨ c = 10 ∨ c = 32) → Ext w w' → K (i64 r) w') : callF Tryz.prog 114 [str badL,.int .i32 c] w K := by
 refine W114_ok ?_
 unfold W114
 simp (disch := omega) only [wfx,wsu,Nat.reduceLT,cond_true,cond_false,cellsAt,exists_eq_left',Option.map_some,List.size_toArray,List.setIfInBounds_toArray,Nat.reduceAdd,ne_eq,reduceCtorEq,decide_eq_true h0]
 refine GdW.t ?_
 simp (disch := omega) only [wfx,wsu,Nat.reduceLT,cond_true,cond_false,cellsAt,exists_eq_left',Option.map_some,List.size_toArray,List.setIfInBounds_toArray,Nat.reduceAdd,ne_eq,reduceCtorEq]
 intro g
 by_cases hasc : c < 128
 · simp (disch := omega) only [wfx,wsu,Nat.reduceLT,cond_true,cond_false,cellsAt,exists_eq_left',Option.map_some,List.size_toArray,List.setIfInBounds_toArray,Nat.reduceAdd,ne_eq,reduceCtorEq,decide_eq_true hasc]
   refine index_byte ?_
   refine hK _ _ ?_ (Chg.refl _ _)
   have e1 : IntKind.u8.wrap c = c := by
     have e1 : (2 : Int) ^ 8 = 256 := by decide
     simp only [IntKind.wrap,IntKind.bits,IntKind.signed,Bool.false_and,e1]
     simp
     omega
   rw [e1,idx_bad c.toNat (by omega)]
   omega
 · have hno : ¬ (c = 0 ∨ c = 10 ∨ c = 32) := by omega
   simp (disch := omega) only [wfx,wsu,Nat.reduceLT,cond_true,cond_false,cellsAt,exists_eq_left',Option.map_some,List.size_toArray,List.setIfInBounds_toArray,Nat.reduceAdd,ne_eq,reduceCtorEq,decide_eq_false hasc,condW_dec]
   refine ⟨fun hF => ?_,fun hF => ?_⟩
   · subst hF
     refine range_str (by kernel_rfl) ?_
     refine LoopW.go (fun _ w' => ∃ pos,w'.heap[w.heap.size]? = some (.stringIter (ofL badL) pos) ∧ pos ≤ 3 ∧ Ext w w') (fun _ w' => match w'.heap[w.heap.size]? with | some (.stringIter _ pos) => 3 - pos | _ => 0) ?_ ?_
     · exact ⟨0,heap_anew _ _ _ rfl,by omega,(by repeat (first | assumption | exact Chg.refl _ _ | refine Chg.drew ?_ | refine Chg.alloc ?_ _ | refine Chg.set ?_ (by first | exact .inl rfl | exact .inr (by omega) | exact .inr (by simp only [size_set,size_alloc,size_drew]; omega) | (left; simp; done)) _ | exact Chg.of_ext (by assumption)))⟩
     · rintro s g w' ⟨pos,hw,hp,hx⟩
       refine next_str hw (fun hle => ?_) (fun hlt w1 hw1 hc => ?_)
       · simp (disch := omega) only [wfx,wsu,Nat.reduceLT,cond_true,cond_false,cellsAt,exists_eq_left',Option.map_some,List.size_toArray,List.setIfInBounds_toArray,Nat.reduceAdd,ne_eq,reduceCtorEq]
         exact hK (-1) _ (by omega) hx
       · have hlt' : pos < 3 := hlt
         have hd : Utf8.decode (ofL badL) pos = ((badL.getD pos 0).toNat,1) ∧ (badL.getD pos 0).toNat < 128 := by
           have : (badL.getD pos 0).toNat < 128 := by
             rcases (show pos = 0 ∨ pos = 1 ∨ pos = 2 by omega) with rfl | rfl | rfl <;> decide
           exact ⟨(dec_facts badL pos hlt).1 this,this⟩
         have hne : ¬ (((Utf8.decode (ofL badL) pos).1 : Nat) : Int) = 65533 := by rw [hd.1]; have := hd.2; simp only; omega
         simp (disch := omega) only [wfx,wsu,Nat.reduceLT,cond_true,cond_false,cellsAt,exists_eq_left',Option.map_some,List.size_toArray,List.setIfInBounds_toArray,Nat.reduceAdd,ne_eq,reduceCtorEq,decide_eq_false hne]
         have hx1 : Ext w w1 := Chg.then hx hc fun k hk e => by omega
         rw [hd.1] at hw1
         refine ⟨⟨_,hw1,by simp only; omega,hx1⟩,?_⟩
         rw [hw1,hw]
         simp only
         omega
   · refine of_calls (args := #[.int .i32 c]) Tryz.call153 ((Tryz.utf8_ValidRune c w).mono ?_)
     rintro e w' ⟨rfl,rfl⟩
     have hvr : Lib.validRune c = true := by simp only [Lib.validRune,decide_eq_true_eq]; omega
     refine ⟨_,rfl,?_⟩
     rw [hvr]
     obtain ⟨l,hl,hl2,hl4,b,hb,hb128⟩ := enc_facts (show 128 ≤ c by omega) hv
     simp (disch := omega) only [wfx,wsu,Nat.reduceLT,cond_true,cond_false,cellsAt,exists_eq_left',Option.map_some,List.size_toArray,List.setIfInBounds_toArray,Nat.reduceAdd,ne_eq,reduceCtorEq,cvs_int,hl]
     rw [wrap_id (by omega) (by omega)]
     refine LoopW.go (fun s w'' => s = [i64 ((l.length : Int) - 1)] ∧ w'' = w') (fun _ _ => 0) ⟨rfl,rfl⟩ ?_
     rintro s g w'' ⟨rfl,rfl⟩
     simp (disch := omega) only [wfx,wsu,Nat.reduceLT,cond_true,cond_false,cellsAt,exists_eq_left',Option.map_some,List.size_toArray,List.setIfInBounds_toArray,Nat.reduceAdd,ne_eq,reduceCtorEq,condW_dec,show badL.length = 3 from rfl]
     refine ⟨fun h3 => ?_,fun _ => hK (-1) _ (by omega) (Chg.refl _ _)⟩
     refine JoinW.cut (fun _ _ => False) ?_ (fun _ _ _ h => h.elim)
     have hi : ((l.length : Int) - 1).toNat = l.length - 1 := by omega
     have hl23 : l.length = 2 ∨ l.length = 3 := by omega
     have hbyte : ∀ x : UInt8,x.toNat < 128 → ¬ ((x.toNat : Int) = b.toNat) := fun x hx e => by omega
     have hd : ∀ k,Lib.indexByte (badL.drop k) b = -1 := fun k => idx_none _ b (fun x hx => by
       have hx := List.mem_of_mem_drop hx
       simp only [badL,List.mem_cons,List.not_mem_nil,or_false] at hx
       rcases hx with rfl | rfl | rfl <;> decide) hb128
     have hbb : ((b.toNat : Int)).toNat.toUInt8 = b := by simp
     have fin : ∀ (x : UInt8) (k : Nat),x.toNat < 128 → k ≤ 3 → (¬ ((x.toNat : Int) = b.toNat) → callF Tryz.prog 99 [str (badL.drop k),.int .u8 b.toNat] w''.drew.drew fun t41 w12 =>
         binW BinOp.lss t41 (Value.int IntKind.i64 0) fun t43 => condW t43 (K (Value.int IntKind.i64 (-1)) w12) (binW BinOp.add t41 (Value.int IntKind.i64 1) fun t46 => binW BinOp.add (i64 ((l.length : Int) - 1)) t46 fun t47 => False)) := by
       intro x k _ _ _
       refine index_byte ?_
       rw [hbb,hd k]
       simp (disch := omega) only [wfx,wsu,Nat.reduceLT,cond_true,cond_false,cellsAt,exists_eq_left',Option.map_some,List.size_toArray,List.setIfInBounds_toArray,Nat.reduceAdd,ne_eq,reduceCtorEq,condW_dec]
       exact ⟨fun _ => hK (-1) _ (by omega) (by repeat (first | assumption | exact Chg.refl _ _ | refine Chg.drew ?_ | refine Chg.alloc ?_ _ | refine Chg.set ?_ (by first | exact .inl rfl | exact .inr (by omega) | exact .inr (by simp only [size_set,size_alloc,size_drew]; omega) | (left; simp; done)) _ | exact Chg.of_ext (by assumption))),fun h => absurd (by decide) h⟩
     simp only [hi,hb]
     rcases hl23 with h2 | h2
     · simp only [h2] at *
       refine ⟨by omega,10,rfl,by omega,b,rfl,fun hne => ?_,fun h => h (hbyte 10 (by decide))⟩
       simp (disch := omega) only [wfx,wsu,Nat.reduceLT,cond_true,cond_false,cellsAt,exists_eq_left',Option.map_some,List.size_toArray,List.setIfInBounds_toArray,Nat.reduceAdd,ne_eq,reduceCtorEq]
       rw [show IntKind.i64.wrap (((2 : Nat) : Int) - 1 + 1) = 2 from by decide]
       exact ⟨by decide,by decide,by decide,fin 10 2 (by decide) (by omega) hne⟩
     · simp only [h2] at *
       refine ⟨by omega,32,rfl,by omega,b,rfl,fun hne => ?_,fun h => h (hbyte 32 (by decide))⟩
       simp (disch := omega) only [wfx,wsu,Nat.reduceLT,cond_true,cond_false,cellsAt,exists_eq_left',Option.map_some,List.size_toArray,List.setIfInBounds_toArray,Nat.reduceAdd,ne_eq,reduceCtorEq]
       rw [show IntKind.i64.wrap (((3 : Nat) : Int) - 1 + 1) = 3 from by decide]
       exact ⟨by decide,by decide,by decide,fin 32 3 (by decide) (by omega) hne⟩
theorem index_any [HX] {l : Str} {w : World} {K : Value → World → Prop} (hl : l.length ≤ 1000000) (hK : ∀ r : Int,∀ w',(0 ≤ r ↔ l.any Vfs.badB = true) → Ext w w' → K (i64 r) w') : callF Tryz.prog 73 [str l,str badL] w K := by
 by_cases h8 : 8 < l.length
 · refine of_calls (args := #[str l,str badL]) Tryz.call73 ((Tryz.strings_IndexAny_long (by intro w; kernel_rfl) (ofL l) (ofL badL) w (by rw [ofL_size]; decide) (by rw [ofL_size]; exact h8) (by rw [ofL_size]; omega) (by rw [ofL_size]; decide) ?_).mono ?_)
   · intro j b hb
     rw [ofL_data] at hb
     have hm := List.mem_of_getElem? hb
     simp only [badL,List.mem_cons,List.not_mem_nil,or_false] at hm
     rcases hm with rfl | rfl | rfl <;> decide
   · rintro e w' ⟨rfl,rfl⟩
     rw [ofL_data,ofL_data]
     refine ⟨_,rfl,hK _ _ ?_ (by repeat (first | assumption | exact Chg.refl _ _ | refine Chg.drew ?_ | refine Chg.alloc ?_ _ | refine Chg.set ?_ (by first | exact .inl rfl | exact .inr (by omega) | exact .inr (by simp only [size_set,size_alloc,size_drew]; omega) | (left; simp; done)) _ | exact Chg.of_ext (by assumption)))⟩
     have key : ∀ m : Str,0 ≤ Lib.indexAny m badL ↔ m.any Vfs.badB = true := by
       intro m
       induction m with
       | nil => simp [Lib.indexAny]
       | cons x m ih =>
         have hx : badL.contains x = Vfs.badB x := by simp [badL,Vfs.badB,Bool.or_assoc,beq_dec]
         simp only [Lib.indexAny,hx,List.any_cons]
         cases hb : Vfs.badB x with
         | true => simp
         | false =>
           have hge := Lib.indexAny_ge badL m
           simp only [Bool.false_eq_true,if_false,Bool.false_or,← ih]
           by_cases h1 : Lib.indexAny m badL = -1
           · simp [h1]
           · rw [if_neg (by simpa using h1)]; omega
     exact key l
 · refine W73_ok ?_
   unfold W73
   simp (disch := omega) only [wfx,wsu,Nat.reduceLT,cond_true,cond_false,cellsAt,exists_eq_left',Option.map_some,List.size_toArray,List.setIfInBounds_toArray,Nat.reduceAdd,ne_eq,reduceCtorEq,show (badL = []) = False from by simp [badL],show badL.length = 3 from rfl,show (((3 : Nat) : Int) = 1) = False from by decide]
   refine JoinW.go ?_
   refine of_calls (args := #[i64 l.length]) Tryz.call115 ((Tryz.strings_shouldUseASCIISet l.length w).mono ?_)
   rintro e w' ⟨rfl,rfl⟩
   refine ⟨_,rfl,?_⟩
   rw [decide_eq_false (show ¬ (8 < (l.length : Int)) by omega)]
   simp (disch := omega) only [wfx,wsu,Nat.reduceLT,cond_true,cond_false,cellsAt,exists_eq_left',Option.map_some,List.size_toArray,List.setIfInBounds_toArray,Nat.reduceAdd,ne_eq,reduceCtorEq]
   intro _
   refine range_str (by kernel_rfl) ?_
   refine LoopW.go (fun _ w1 => ∃ pos,w1.heap[w'.heap.size]? = some (.stringIter (ofL l) pos) ∧ pos ≤ l.length ∧ Ext w' w1 ∧ (l.take pos).any Vfs.badB = false)
     (fun _ w1 => match w1.heap[w'.heap.size]? with | some (.stringIter _ pos) => l.length - pos | _ => 0) ?_ ?_
   · exact ⟨0,heap_anew _ _ _ rfl,by omega,(by repeat (first | assumption | exact Chg.refl _ _ | refine Chg.drew ?_ | refine Chg.alloc ?_ _ | refine Chg.set ?_ (by first | exact .inl rfl | exact .inr (by omega) | exact .inr (by simp only [size_set,size_alloc,size_drew]; omega) | (left; simp; done)) _ | exact Chg.of_ext (by assumption))),rfl⟩
   · rintro s g w1 ⟨pos,hw,hp,hx,hno⟩
     refine next_str hw (fun hle => ?_) (fun hlt w2 hw2 hc => ?_)
     · simp (disch := omega) only [wfx,wsu,Nat.reduceLT,cond_true,cond_false,cellsAt,exists_eq_left',Option.map_some,List.size_toArray,List.setIfInBounds_toArray,Nat.reduceAdd,ne_eq,reduceCtorEq]
       rw [List.take_of_length_le hle] at hno
       exact hK (-1) _ (by simp [hno]) hx
     · have hx2 : Ext w' w2 := Chg.then hx hc fun k hk e => by omega
       obtain ⟨f1,f2⟩ := dec_facts l pos hlt
       have hget : l[pos]? = some (l.getD pos 0) := by simp [hlt]
       simp (disch := omega) only [wfx,wsu,Nat.reduceLT,cond_true,cond_false,cellsAt,exists_eq_left',Option.map_some,List.size_toArray,List.setIfInBounds_toArray,Nat.reduceAdd,ne_eq,reduceCtorEq]
       have hcv : (((Utf8.decode (ofL l) pos).1 : Nat) : Int) < 55296 ∨ (57344 ≤ (((Utf8.decode (ofL l) pos).1 : Nat) : Int) ∧ (((Utf8.decode (ofL l) pos).1 : Nat) : Int) ≤ 1114111) := by
         by_cases h : (l.getD pos 0).toNat < 128
         · rw [f1 h]; simp only; omega
         · have := (f2 (by omega)).2.1; omega
       refine index_rune (by omega) hcv fun r w3 hr hx3 => ?_
       simp (disch := omega) only [wfx,wsu,Nat.reduceLT,cond_true,cond_false,cellsAt,exists_eq_left',Option.map_some,List.size_toArray,List.setIfInBounds_toArray,Nat.reduceAdd,ne_eq,reduceCtorEq,condW_dec]
       have hbad : (((Utf8.decode (ofL l) pos).1 : Nat) : Int) = 0 ∨ (((Utf8.decode (ofL l) pos).1 : Nat) : Int) = 10 ∨ (((Utf8.decode (ofL l) pos).1 : Nat) : Int) = 32 → Vfs.badB (l.getD pos 0) = true := by
         intro h
         by_cases h1 : (l.getD pos 0).toNat < 128
         · rw [f1 h1] at h
           simp only at h
           generalize l.getD pos 0 = x at *
           have : ∀ y : UInt8,x.toNat = y.toNat → x = y := fun y e => UInt8.toNat_inj.1 e
           rcases h with h | h | h
           · rw [this 0 (by simp; omega)]; rfl
           · rw [this 10 (by simp; omega)]; rfl
           · rw [this 32 (by simp; omega)]; rfl
         · have := (f2 (by omega)).1; omega
       have hx4 : Ext w' w3 := hx2.trans hx3
       refine ⟨fun h0 => hK pos _ ?_ hx4,fun h0 => ?_⟩
       · refine ⟨fun _ => ?_,fun _ => by omega⟩
         exact List.any_eq_true.2 ⟨_,List.mem_of_getElem? hget,hbad (hr.1 h0)⟩
       · have hle : pos + (Utf8.decode (ofL l) pos).2 ≤ l.length ∧ 1 ≤ (Utf8.decode (ofL l) pos).2 ∧ (l.take (pos + (Utf8.decode (ofL l) pos).2)).any Vfs.badB = false := by
           by_cases h1 : (l.getD pos 0).toNat < 128
           · rw [f1 h1] at hr ⊢
             simp only at hr ⊢
             refine ⟨by omega,by omega,?_⟩
             rw [List.take_succ_eq_append_getElem hlt,List.any_append,hno]
             have hxp : l[pos] = l.getD pos 0 := by simp [hlt]
             simp only [List.any_cons,List.any_nil,Bool.or_false,Bool.false_or,hxp]
             generalize l.getD pos 0 = x at *
             cases hb : Vfs.badB x with
             | false => rfl
             | true =>
               exfalso
               simp only [Vfs.badB,Bool.or_eq_true,beq_iff_eq] at hb
               refine h0 (hr.2 ?_)
               rcases hb with (rfl | rfl) | rfl
               · exact .inl rfl
               · exact .inr (.inl rfl)
               · exact .inr (.inr rfl)
           · obtain ⟨_,_,g1,g2,g3⟩ := f2 (by omega)
             refine ⟨g2,g1,?_⟩
             rw [List.any_eq_false]
             intro y hy
             obtain ⟨k,hk⟩ := List.getElem?_of_mem hy
             rw [List.getElem?_take] at hk
             split at hk
             · rename_i hk2
               by_cases hkp : k < pos
               · have := List.any_eq_false.1 hno y (List.mem_of_getElem? (i := k) (by rw [List.getElem?_take,if_pos hkp]; exact hk))
                 exact this
               · have h5 := g3 k (by omega) hk2
                 have h6 : l.getD k 0 = y := by simp [hk]
                 rw [h6] at h5
                 intro hb
                 simp only [Vfs.badB,Bool.or_eq_true,beq_iff_eq] at hb
                 rcases hb with (rfl | rfl) | rfl <;> simp at h5
             · cases hk
         have hw3 : w3.heap[w'.heap.size]? = some (.stringIter (ofL l) (pos + (Utf8.decode (ofL l) pos).2)) := by
           rw [hx3.heap _ (Array.getElem?_eq_some_iff.1 hw2).1 id]; exact hw2
         refine ⟨⟨_,hw3,hle.1,hx4,hle.2.2⟩,?_⟩
         rw [hw3,hw]
         simp only
         omega
theorem contains_any [HX] {l : Str} {w : World} {K : Value → World → Prop} (hl : l.length ≤ 1000000) (hK : ∀ w',Ext w w' → K (.bool (l.any Vfs.badB)) w') : callF Tryz.prog 52 [str l,str badL] w K := by
 refine W52_ok ?_
 unfold W52
 refine index_any hl fun r w' hr hx => ?_
 simp (disch := omega) only [wfx,wsu,Nat.reduceLT,cond_true,cond_false,cellsAt,exists_eq_left',Option.map_some,List.size_toArray,List.setIfInBounds_toArray,Nat.reduceAdd,ne_eq,reduceCtorEq]
 have : decide (0 ≤ r) = l.any Vfs.badB := by
   cases hb : l.any Vfs.badB with
   | true => exact decide_eq_true (hr.2 hb)
   | false => exact decide_eq_false fun h => by rw [hr.1 h] at hb; cases hb
 rw [this]
 exact hK w' hx
end Go.Proofs.YtpiaegojabkioaaGreatDoor.Fx
namespace Go.Proofs.YtpiaegojabkioaaGreatDoor.Fx
open Go Go.Eng Go.Vfs
set_option maxRecDepth 100000
abbrev sv (b : Bool) : Int := if b = true then 1 else 0
abbrev FT : TypeId := 49
abbrev UT : TypeId := 5
def FileV (w : World) (v : Value) (x : MF) : Prop :=
 ∃ dp dc sp sc,v = .agg [.slice dp x.data.length dc,.slice sp x.safe.length sc,i64 (sv x.saved)].toArray ∧ Byt w UT (.slice dp x.data.length dc) x.data ∧ Byt w UT (.slice sp x.safe.length sc) x.safe
def FileO (w : World) : Option Value → Option MF → Prop
 | none,none => True
 | some v,some x => FileV w v x
 | _,_ => False
structure FsB (w : World) (b m : Nat) (s : MS) : Prop where
 blk : w.heap[b]? = some (.cells #[.map (some m),i64 s.steps,i64 s.left,.bool s.dead] FT (0,0))
 fil : ∃ A,MapAt w m A ∧ A.length = s.files.length ∧ ∀ p,FileO w (alook A p) (lkM s.files p)
def Sep (w : World) (S : Nat → Prop) : Prop := ∀ k c fr,S k → w.heap[k]? ≠ some (.cells c UT fr)
theorem Byt.chg {S : Nat → Prop} {w w' : World} {v : Value} {l : Str} (h : Byt w UT v l) (hc : Chg S w w') (hs : Sep w S) : Byt w' UT v l := SlAt.chg h hc hs
theorem FileV.chg {S : Nat → Prop} {w w' : World} {v : Value} {x : MF} (h : FileV w v x) (hc : Chg S w w') (hs : Sep w S) : FileV w' v x := by
 obtain ⟨dp,dc,sp,sc,e,h1,h2⟩ := h
 exact ⟨dp,dc,sp,sc,e,h1.chg hc hs,h2.chg hc hs⟩
theorem FileO.chg {S : Nat → Prop} {w w' : World} {v : Option Value} {x : Option MF} (h : FileO w v x) (hc : Chg S w w') (hs : Sep w S) : FileO w' v x := by
 cases v <;> cases x <;> first | exact h | exact FileV.chg h hc hs
theorem FsB.lt {w : World} {b m : Nat} {s : MS} (h : FsB w b m s) : b < w.heap.size := (Array.getElem?_eq_some_iff.1 h.blk).1
theorem FsB.mlt {w : World} {b m : Nat} {s : MS} (h : FsB w b m s) : m < w.heap.size := by obtain ⟨A,hA,_⟩ := h.fil; exact hA.lt
theorem FsB.ne {w : World} {b m : Nat} {s : MS} (h : FsB w b m s) : m ≠ b := by obtain ⟨A,hA,_⟩ := h.fil; exact hA.ne h.blk
theorem FsB.chg {S : Nat → Prop} {w w' : World} {b m : Nat} {s : MS} (h : FsB w b m s) (hc : Chg S w w') (hb : ¬ S b) (hm : ¬ S m) (hs : Sep w S) : FsB w' b m s := by
 obtain ⟨A,hA,hl,hf⟩ := h.fil
 exact ⟨by rw [hc.heap b h.lt hb]; exact h.blk,A,hA.chg hc hm,hl,fun p => (hf p).chg hc hs⟩
theorem Sep.none (w : World) : Sep w (fun _ => False) := fun _ _ _ h => h.elim
theorem FsB.ext {w w' : World} {b m : Nat} {s : MS} (h : FsB w b m s) (hc : Ext w w') : FsB w' b m s := h.chg hc id id (Sep.none w)
theorem FsB.sep {w : World} {b m : Nat} {s : MS} (h : FsB w b m s) : Sep w (fun k => k = b ∨ k = m) := by
 rintro k c fr (rfl | rfl) e
 · rw [h.blk] at e; cases e
 · obtain ⟨A,⟨es,cl,hm,_⟩,_⟩ := h.fil
   rw [hm] at e; cases e
theorem Byt.mut {w w' : World} {b m : Nat} {s : MS} {T : TypeId} {v : Value} {l : Str} (h : Byt w T v l) (hf : FsB w b m s) (hc : Chg (fun k => k = b ∨ k = m) w w') : Byt w' T v l := by
 obtain ⟨p,cap,hv,h1,h2,h3⟩ := h
 refine ⟨p,cap,hv,h1,h2,fun hne => ?_⟩
 obtain ⟨k,off,c,fr,e1,e2,e3⟩ := h3 hne
 have hk : ¬ (k = b ∨ k = m) := by
   rintro (e | e)
   · have hb := hf.blk
     rw [← e,e2] at hb
     cases hb
     cases l with
     | nil => exact hne rfl
     | cons x r =>
       have := e3 0 (by simp [u8s])
       rw [u8s_get] at this
       simp only [Nat.add_zero,List.getElem?_cons_zero,Option.map_some] at this
       rcases off with _ | _ | _ | _ | off <;> simp at this
   · obtain ⟨A,⟨es,cl,hm,_⟩,_⟩ := hf.fil
     rw [← e,e2] at hm
     cases hm
 exact ⟨k,off,c,fr,e1,by rw [hc.heap k (Array.getElem?_eq_some_iff.1 e2).1 hk]; exact e2,e3⟩
abbrev zf : Value := .agg [.slice none 0 0,.slice none 0 0,i64 0].toArray
abbrev df (o : Option MF) : MF := o.getD ⟨[],[],false⟩
theorem zfile (w : World) : FileV w zf ⟨[],[],false⟩ := ⟨none,0,none,0,rfl,SlAt.nil _ _,SlAt.nil _ _⟩
theorem FileO.get {w : World} {v : Option Value} {x : Option MF} (h : FileO w v x) : FileV w (v.getD zf) (df x) ∧ v.isSome = x.isSome := by
 cases v <;> cases x <;> first | exact h.elim | exact ⟨zfile w,rfl⟩ | exact ⟨h,rfl⟩
theorem lookup_file {w : World} {m : Nat} {A : List (Str × Value)} {p : Str} {ok : Bool} {K : Value → Prop} (h : MapAt w m A) :
   semQ Tryz.prog (Instr.lookup 47 (.map (some m)) (str p) ok) w K ↔ K (bif ok then .tuple #[(alook A p).getD zf,.bool (alook A p).isSome] else (alook A p).getD zf) :=
 lookup_at (kt := 9) (et := 56) (by kernel_rfl) (by kernel_rfl) (z := zf) (fun w => by kernel_rfl) h
theorem look_fs {w : World} {b m : Nat} {s : MS} {p : Str} {K : Value → Prop} (h : FsB w b m s) (hK : ∀ v,FileV w v (df (lkM s.files p)) → K (.tuple [v,.bool (lkM s.files p).isSome].toArray)) :
   semQ Tryz.prog (Instr.lookup 47 (.map (some m)) (str p) true) w K := by
 obtain ⟨A,hA,_,hf⟩ := h.fil
 have := (hf p).get
 rw [lookup_file hA,cond_true,this.2]
 exact hK _ this.1
theorem look_fs1 {w : World} {b m : Nat} {s : MS} {p : Str} {K : Value → Prop} (h : FsB w b m s) (hK : ∀ v,FileV w v (df (lkM s.files p)) → K v) :
   semQ Tryz.prog (Instr.lookup 47 (.map (some m)) (str p) false) w K := by
 obtain ⟨A,hA,_,hf⟩ := h.fil
 have := (hf p).get
 rw [lookup_file hA]
 exact hK _ this.1
theorem len_fs {w : World} {b m : Nat} {s : MS} {K : Value → Prop} {ty : TypeId} (h : FsB w b m s) (hK : K (i64 s.files.length)) : semQ Tryz.prog (Builtin.len_ #[47] ty #[.map (some m)]) w K := by
 obtain ⟨A,hA,hl,_⟩ := h.fil
 rw [len_at (kt := 9) (et := 56) (by kernel_rfl) hA,hl]
 exact hK
theorem alook_put {A : List (Str × Value)} {x y : Str} {v : Value} : alook (aput A x v) y = if y = x then some v else alook A y := by
 induction A with
 | nil =>
   simp only [aput,alook]
   by_cases h : x = y
   · simp [h]
   · rw [if_neg h,if_neg (Ne.symm h)]
 | cons p r ih =>
   obtain ⟨k,u⟩ := p
   simp only [aput]
   by_cases h : k = x
   · rw [if_pos h]
     simp only [alook]
     subst h
     by_cases h2 : k = y
     · simp [h2]
     · rw [if_neg h2,if_neg (Ne.symm h2),if_neg h2]
   · rw [if_neg h]
     simp only [alook,ih]
     by_cases h2 : k = y
     · subst h2; simp [h]
     · rw [if_neg h2,if_neg h2]
theorem alook_del {A : List (Str × Value)} {x y : Str} (hn : (A.map (·.1)).Nodup) : alook (adel A x) y = if y = x then none else alook A y := by
 induction A with
 | nil => simp [adel,alook]
 | cons p r ih =>
   obtain ⟨k,u⟩ := p
   have hr := (List.nodup_cons.1 hn)
   simp only [adel]
   by_cases h : k = x
   · subst h
     rw [if_pos rfl]
     simp only [alook]
     by_cases h2 : k = y
     · subst h2
       rw [if_pos rfl,alook_none]
       exact hr.1
     · rw [if_neg h2,if_neg (Ne.symm h2)]
   · rw [if_neg h]
     simp only [alook,ih hr.2]
     by_cases h2 : k = y
     · subst h2; simp [h]
     · rw [if_neg h2,if_neg h2]
theorem alook_some {A : List (Str × Value)} {x : Str} : (alook A x).isSome = true ↔ x ∈ A.map (·.1) := by
 have := alook_none (A := A) (x := x)
 cases h : alook A x with
 | none => simp [this.1 h]
 | some v => rw [h] at this; simp only [Option.isSome_some,true_iff]; exact Classical.byContradiction fun hn => by cases this.2 hn
theorem aput_len {A : List (Str × Value)} {x : Str} {v : Value} : (aput A x v).length = if (alook A x).isSome = true then A.length else A.length + 1 := by
 have h := congrArg List.length (aput_keys (A := A) (x := x) (v := v))
 rw [List.length_map] at h
 rw [h]
 by_cases hx : x ∈ A.map (·.1)
 · rw [if_pos hx,if_pos (alook_some.2 hx),List.length_map]
 · rw [if_neg hx,if_neg (fun e => hx (alook_some.1 e))]; simp
theorem adel_len {A : List (Str × Value)} {x : Str} : (adel A x).length = if (alook A x).isSome = true then A.length - 1 else A.length := by
 induction A with
 | nil => simp [adel,alook]
 | cons p r ih =>
   obtain ⟨k,u⟩ := p
   by_cases h : k = x
   · simp [adel,alook,h]
   · have e1 : adel ((k,u) :: r) x = (k,u) :: adel r x := by simp [adel,h]
     have e2 : alook ((k,u) :: r) x = alook r x := by simp [alook,h]
     rw [e1,e2,List.length_cons,ih]
     split
     · rename_i hs
       have : r.length ≠ 0 := fun e => by
         have : r = [] := List.eq_nil_of_length_eq_zero e
         subst this
         simp [alook] at hs
       simp only [List.length_cons]; omega
     · rfl
theorem put_fs {w : World} {b m : Nat} {s : MS} {p : Str} {v : Value} {x : MF} {K : World → Prop} (h : FsB w b m s) (hs : Srt s.files) (hv : FileV w v x)
   (hK : ∀ w',FsB w' b m { s with files := wth s.files p x } → Chg (fun k => k = b ∨ k = m) w w' → K w') : semU Tryz.prog (Instr.mapUpdate 47 (.map (some m)) (str p) v) w K := by
 obtain ⟨A,hA,hl,hf⟩ := h.fil
 refine update_at (kt := 9) (et := 56) (by kernel_rfl) (by kernel_rfl) hA fun w' hA' hc => ?_
 have hc' : Chg (fun k => k = b ∨ k = m) w w' := hc.mono fun k _ e => .inr e
 refine hK w' ⟨by rw [hc.heap b h.lt (Ne.symm h.ne)]; exact h.blk,_,hA',?_,fun q => ?_⟩ hc'
 · show _ = (wth s.files p x).length
   rw [aput_len,wth_len hs,hl,((hf p).get).2]
 · show FileO _ _ (lkM (wth s.files p x) q)
   rw [alook_put,lk_wth]
   split
   · exact hv.chg hc' h.sep
   · exact (hf q).chg hc' h.sep
theorem del_fs {w : World} {b m : Nat} {s : MS} {p : Str} {K : Value → World → Prop} {ty : TypeId} (h : FsB w b m s) (hs : Srt s.files)
   (hK : ∀ w',FsB w' b m { s with files := wo s.files p } → Chg (fun k => k = b ∨ k = m) w w' → K (.tuple #[]) w') : semE Tryz.prog (Builtin.delete_ #[47,9] ty #[.map (some m),str p]) w K := by
 obtain ⟨A,hA,hl,hf⟩ := h.fil
 refine delete_at (kt := 9) (et := 56) (by kernel_rfl) (by kernel_rfl) hA rfl fun w' hA' hc => ?_
 have hc' : Chg (fun k => k = b ∨ k = m) w w' := hc.mono fun k _ e => .inr e
 refine hK w' ⟨by rw [hc.heap b h.lt (Ne.symm h.ne)]; exact h.blk,_,hA',?_,fun q => ?_⟩ hc'
 · show _ = (wo s.files p).length
   rw [adel_len,wo_len hs,hl,((hf p).get).2]
 · show FileO _ _ (lkM (wo s.files p) q)
   rw [alook_del hA.nodup,lk_wo]
   split
   · trivial
   · exact (hf q).chg hc' h.sep
theorem good_spec [HX] {p : Str} {w : World} {K : Value → World → Prop} (hK : ∀ w',Ext w w' → K (.bool (good p)) w') : callF Tryz.prog 34 [str p] w K := by
 refine W34_ok ?_
 unfold W34
 by_cases h1 : 1 ≤ p.length
 · by_cases h2 : p.length ≤ 64
   · have e1 : decide ((1 : Int) ≤ (p.length : Int)) = true := decide_eq_true (by omega)
     have e2 : decide ((p.length : Int) ≤ 64) = true := decide_eq_true (by omega)
     simp (disch := omega) only [wfx,wsu,Nat.reduceLT,cond_true,cond_false,cellsAt,exists_eq_left',Option.map_some,List.size_toArray,List.setIfInBounds_toArray,Nat.reduceAdd,ne_eq,reduceCtorEq,e1,e2]
     refine GdW.t ?_
     simp (disch := omega) only [wfx,wsu,Nat.reduceLT,cond_true,cond_false,cellsAt,exists_eq_left',Option.map_some,List.size_toArray,List.setIfInBounds_toArray,Nat.reduceAdd,ne_eq,reduceCtorEq,e2]
     intro g
     refine GdW.t ?_
     refine contains_any (by omega) fun w' hx => ?_
     simp (disch := omega) only [wfx,wsu,Nat.reduceLT,cond_true,cond_false,cellsAt,exists_eq_left',Option.map_some,List.size_toArray,List.setIfInBounds_toArray,Nat.reduceAdd,ne_eq,reduceCtorEq]
     intro g
     have : good p = !p.any badB := by simp [good,h1,h2]
     rw [← this]
     exact hK w' hx
   · have e1 : decide ((1 : Int) ≤ (p.length : Int)) = true := decide_eq_true (by omega)
     have e2 : decide ((p.length : Int) ≤ 64) = false := decide_eq_false (by omega)
     simp (disch := omega) only [wfx,wsu,Nat.reduceLT,cond_true,cond_false,cellsAt,exists_eq_left',Option.map_some,List.size_toArray,List.setIfInBounds_toArray,Nat.reduceAdd,ne_eq,reduceCtorEq,e1,e2]
     refine GdW.t ?_
     simp (disch := omega) only [wfx,wsu,Nat.reduceLT,cond_true,cond_false,cellsAt,exists_eq_left',Option.map_some,List.size_toArray,List.setIfInBounds_toArray,Nat.reduceAdd,ne_eq,reduceCtorEq,e2]
     intro g
     refine GdW.f fun g => ?_
     (try simp (disch := omega) only [wfx,wsu,Nat.reduceLT,cond_true,cond_false,cellsAt,exists_eq_left',Option.map_some,List.size_toArray,List.setIfInBounds_toArray,Nat.reduceAdd,ne_eq,reduceCtorEq])
     have : good p = false := by simp [good,h2]
     rw [← this]
     exact hK w (Chg.refl _ _)
 · have e1 : decide ((1 : Int) ≤ (p.length : Int)) = false := decide_eq_false (by omega)
   simp (disch := omega) only [wfx,wsu,Nat.reduceLT,cond_true,cond_false,cellsAt,exists_eq_left',Option.map_some,List.size_toArray,List.setIfInBounds_toArray,Nat.reduceAdd,ne_eq,reduceCtorEq,e1]
   refine GdW.f fun g => ?_
   (try simp (disch := omega) only [wfx,wsu,Nat.reduceLT,cond_true,cond_false,cellsAt,exists_eq_left',Option.map_some,List.size_toArray,List.setIfInBounds_toArray,Nat.reduceAdd,ne_eq,reduceCtorEq])
   refine GdW.f fun g => ?_
   (try simp (disch := omega) only [wfx,wsu,Nat.reduceLT,cond_true,cond_false,cellsAt,exists_eq_left',Option.map_some,List.size_toArray,List.setIfInBounds_toArray,Nat.reduceAdd,ne_eq,reduceCtorEq])
   have : good p = false := by simp [good,h1]
   rw [← this]
   exact hK w (Chg.refl _ _)
theorem step_fs [HX] {b m : Nat} {s : MS} {w : World} {K : Value → World → Prop} (h : FsB w b m s)
   (hK : ∀ w',FsB w' b m (stepM s).1 → Chg (fun k => k = b ∨ k = m) w w' → K (i64 (stepM s).2) w') : callF Tryz.prog 35 [.pointer (some ⟨b,0,none⟩)] w K := by
 have hb := h.blk
 have hK' : ∀ e st lf d w',stepM s = (⟨s.files,st,lf,d⟩,e) → w'.heap[b]? = some (.cells #[.map (some m),i64 st,i64 lf,.bool d] FT (0,0)) → Chg (· = b) w w' → K (i64 e) w' := by
   intro e st lf d w' he hb' hc
   have := hK w'
   rw [he] at this
   obtain ⟨A,hA,hl,hf⟩ := h.fil
   have hc' : Chg (fun k => k = b ∨ k = m) w w' := hc.mono fun k _ e => .inl e
   exact this ⟨hb',A,hA.chg hc h.ne,hl,fun p => (hf p).chg hc' h.sep⟩ hc'
 clear hK h
 obtain ⟨fs,st,lf,d⟩ := s
 refine W35_ok ?_
 unfold W35
 simp (disch := omega) only [wfx,wsu,Nat.reduceLT,cond_true,cond_false,cellsAt,exists_eq_left',Option.map_some,List.size_toArray,List.setIfInBounds_toArray,Nat.reduceAdd,ne_eq,reduceCtorEq,hb]
 refine GdW.meet [bif d then undef else .bool (decide (lf = 0))] (fun h => ?_) (fun h => ?_) (fun g => ?_)
 · cases d <;> simp at h ⊢
 · cases d <;> simp at h ⊢
 · cases d with
   | true =>
     simp (disch := omega) only [wfx,wsu,Nat.reduceLT,cond_true,cond_false,cellsAt,exists_eq_left',Option.map_some,List.size_toArray,List.setIfInBounds_toArray,Nat.reduceAdd,ne_eq,reduceCtorEq,hb,pickW]
     exact hK' 5 st lf true _ (by simp [stepM]) (by simp (disch := omega) only [wfx,wsu,Nat.reduceLT,cond_true,cond_false,cellsAt,exists_eq_left',Option.map_some,List.size_toArray,List.setIfInBounds_toArray,Nat.reduceAdd,ne_eq,reduceCtorEq,hb]) (by repeat (first | assumption | exact Chg.refl _ _ | refine Chg.drew ?_ | refine Chg.alloc ?_ _ | refine Chg.set ?_ (by first | exact .inl rfl | exact .inr (by omega) | exact .inr (by simp only [size_set,size_alloc,size_drew]; omega) | (left; simp; done)) _ | exact Chg.of_ext (by assumption)))
   | false =>
     simp (disch := omega) only [wfx,wsu,Nat.reduceLT,cond_true,cond_false,cellsAt,exists_eq_left',Option.map_some,List.size_toArray,List.setIfInBounds_toArray,Nat.reduceAdd,ne_eq,reduceCtorEq,hb,pickW,condW_dec]
     refine ⟨fun h0 => ?_,fun h0 => ?_⟩
     · exact hK' 5 st lf true _ (by simp [stepM,h0]) (by simp (disch := omega) only [wfx,wsu,Nat.reduceLT,cond_true,cond_false,cellsAt,exists_eq_left',Option.map_some,List.size_toArray,List.setIfInBounds_toArray,Nat.reduceAdd,ne_eq,reduceCtorEq,hb]) (by repeat (first | assumption | exact Chg.refl _ _ | refine Chg.drew ?_ | refine Chg.alloc ?_ _ | refine Chg.set ?_ (by first | exact .inl rfl | exact .inr (by omega) | exact .inr (by simp only [size_set,size_alloc,size_drew]; omega) | (left; simp; done)) _ | exact Chg.of_ext (by assumption)))
     · refine JoinW.cut (fun s w' => w'.heap[b]? = some (.cells #[.map (some m),i64 st,i64 (if lf > 0 then IntKind.i64.wrap (lf - 1) else lf),.bool false] FT (0,0)) ∧ Chg (· = b) w w') ?_ ?_
       · refine ⟨fun h1 => ⟨?_,(by repeat (first | assumption | exact Chg.refl _ _ | refine Chg.drew ?_ | refine Chg.alloc ?_ _ | refine Chg.set ?_ (by first | exact .inl rfl | exact .inr (by omega) | exact .inr (by simp only [size_set,size_alloc,size_drew]; omega) | (left; simp; done)) _ | exact Chg.of_ext (by assumption)))⟩,fun h1 => ⟨?_,Chg.refl _ _⟩⟩
         · simp (disch := omega) only [wfx,wsu,Nat.reduceLT,cond_true,cond_false,cellsAt,exists_eq_left',Option.map_some,List.size_toArray,List.setIfInBounds_toArray,Nat.reduceAdd,ne_eq,reduceCtorEq,hb]; rw [if_pos h1]
         · rw [hb,if_neg h1]
       · rintro s g w' ⟨hb',hc⟩
         simp (disch := omega) only [wfx,wsu,Nat.reduceLT,cond_true,cond_false,cellsAt,exists_eq_left',Option.map_some,List.size_toArray,List.setIfInBounds_toArray,Nat.reduceAdd,ne_eq,reduceCtorEq,hb']
         exact hK' 0 (IntKind.i64.wrap (st + 1)) (if lf > 0 then IntKind.i64.wrap (lf - 1) else lf) false _ (by simp [stepM,h0]) (by simp (disch := omega) only [wfx,wsu,Nat.reduceLT,cond_true,cond_false,cellsAt,exists_eq_left',Option.map_some,List.size_toArray,List.setIfInBounds_toArray,Nat.reduceAdd,ne_eq,reduceCtorEq,hb']) (by repeat (first | assumption | exact Chg.refl _ _ | refine Chg.drew ?_ | refine Chg.alloc ?_ _ | refine Chg.set ?_ (by first | exact .inl rfl | exact .inr (by omega) | exact .inr (by simp only [size_set,size_alloc,size_drew]; omega) | (left; simp; done)) _ | exact Chg.of_ext (by assumption)))
theorem FileV.shape {w : World} {v : Value} {x : MF} (h : FileV w v x) : ∃ dp dc sp sc,v = .agg [.slice dp x.data.length dc,.slice sp x.safe.length sc,i64 (sv x.saved)].toArray := by
 obtain ⟨dp,dc,sp,sc,e,_⟩ := h
 exact ⟨dp,dc,sp,sc,e⟩
theorem room_fs [HX] {b m : Nat} {s : MS} {p : Str} {dv : Value} {data : Str} {T : TypeId} {w : World} {K : Value → World → Prop} (h : FsB w b m s) (hd : Byt w T dv data)
   (hK : ∀ w',Ext w w' → K (.bool (decide ¬ (data.length > 65536 ∨ (lkM s.files p = none ∧ 64 ≤ s.files.length)))) w') : callF Tryz.prog 41 [.pointer (some ⟨b,0,none⟩),str p,dv] w K := by
 have hb := h.blk
 refine W41_ok ?_
 unfold W41
 simp (disch := omega) only [wfx,wsu,Nat.reduceLT,cond_true,cond_false,cellsAt,exists_eq_left',Option.map_some,List.size_toArray,List.setIfInBounds_toArray,Nat.reduceAdd,ne_eq,reduceCtorEq,hb]
 refine look_fs h fun v hv => ?_
 obtain ⟨dp,dc,sp,sc,rfl⟩ := hv.shape
 have hd' := fun w' (hx : Ext w w') => SlAt.ext hd hx
 simp (disch := omega) only [wfx,wsu,Nat.reduceLT,cond_true,cond_false,cellsAt,exists_eq_left',Option.map_some,List.size_toArray,List.setIfInBounds_toArray,Nat.reduceAdd,ne_eq,reduceCtorEq,hb,lenl_at hd]
 generalize hw1 : (World.setCell _ _ _) = w1
 have hx : Ext w w1 := by subst hw1; exact (by repeat (first | assumption | exact Chg.refl _ _ | refine Chg.drew ?_ | refine Chg.alloc ?_ _ | refine Chg.set ?_ (by first | exact .inl rfl | exact .inr (by omega) | exact .inr (by simp only [size_set,size_alloc,size_drew]; omega) | (left; simp; done)) _ | exact Chg.of_ext (by assumption)))
 have h1 := h.ext hx
 have hb1 := h1.blk
 clear hw1
 by_cases c1 : data.length ≤ 65536
 · have e1 : decide ((data.length : Int) ≤ 65536) = true := decide_eq_true (by omega)
   simp (disch := omega) only [wfx,wsu,Nat.reduceLT,cond_true,cond_false,cellsAt,exists_eq_left',Option.map_some,List.size_toArray,List.setIfInBounds_toArray,Nat.reduceAdd,ne_eq,reduceCtorEq,e1]
   refine GdW.t ?_
   intro g
   (try simp (disch := omega) only [wfx,wsu,Nat.reduceLT,cond_true,cond_false,cellsAt,exists_eq_left',Option.map_some,List.size_toArray,List.setIfInBounds_toArray,Nat.reduceAdd,ne_eq,reduceCtorEq])
   cases c2 : (lkM s.files p).isSome with
   | true =>
     (try simp (disch := omega) only [wfx,wsu,Nat.reduceLT,cond_true,cond_false,cellsAt,exists_eq_left',Option.map_some,List.size_toArray,List.setIfInBounds_toArray,Nat.reduceAdd,ne_eq,reduceCtorEq])
     refine GdW.f fun g => ?_
     (try simp (disch := omega) only [wfx,wsu,Nat.reduceLT,cond_true,cond_false,cellsAt,exists_eq_left',Option.map_some,List.size_toArray,List.setIfInBounds_toArray,Nat.reduceAdd,ne_eq,reduceCtorEq])
     refine GdW.t ?_
     (try simp (disch := omega) only [wfx,wsu,Nat.reduceLT,cond_true,cond_false,cellsAt,exists_eq_left',Option.map_some,List.size_toArray,List.setIfInBounds_toArray,Nat.reduceAdd,ne_eq,reduceCtorEq])
     intro g
     (try simp (disch := omega) only [wfx,wsu,Nat.reduceLT,cond_true,cond_false,cellsAt,exists_eq_left',Option.map_some,List.size_toArray,List.setIfInBounds_toArray,Nat.reduceAdd,ne_eq,reduceCtorEq])
     have : (decide ¬ (data.length > 65536 ∨ (lkM s.files p = none ∧ 64 ≤ s.files.length))) = true := by
       refine decide_eq_true ?_
       rw [not_or]
       exact ⟨by omega,fun e => by rw [e.1] at c2; cases c2⟩
     rw [← this]
     exact hK _ hx
   | false =>
     (try simp (disch := omega) only [wfx,wsu,Nat.reduceLT,cond_true,cond_false,cellsAt,exists_eq_left',Option.map_some,List.size_toArray,List.setIfInBounds_toArray,Nat.reduceAdd,ne_eq,reduceCtorEq])
     refine GdW.t ?_
     (try simp (disch := omega) only [wfx,wsu,Nat.reduceLT,cond_true,cond_false,cellsAt,exists_eq_left',Option.map_some,List.size_toArray,List.setIfInBounds_toArray,Nat.reduceAdd,ne_eq,reduceCtorEq,hb1])
     refine len_fs h1 ?_
     (try simp (disch := omega) only [wfx,wsu,Nat.reduceLT,cond_true,cond_false,cellsAt,exists_eq_left',Option.map_some,List.size_toArray,List.setIfInBounds_toArray,Nat.reduceAdd,ne_eq,reduceCtorEq,hb1])
     intro g
     (try simp (disch := omega) only [wfx,wsu,Nat.reduceLT,cond_true,cond_false,cellsAt,exists_eq_left',Option.map_some,List.size_toArray,List.setIfInBounds_toArray,Nat.reduceAdd,ne_eq,reduceCtorEq])
     refine GdW.t ?_
     (try simp (disch := omega) only [wfx,wsu,Nat.reduceLT,cond_true,cond_false,cellsAt,exists_eq_left',Option.map_some,List.size_toArray,List.setIfInBounds_toArray,Nat.reduceAdd,ne_eq,reduceCtorEq])
     intro g
     (try simp (disch := omega) only [wfx,wsu,Nat.reduceLT,cond_true,cond_false,cellsAt,exists_eq_left',Option.map_some,List.size_toArray,List.setIfInBounds_toArray,Nat.reduceAdd,ne_eq,reduceCtorEq])
     have : (decide ¬ (data.length > 65536 ∨ (lkM s.files p = none ∧ 64 ≤ s.files.length))) = decide ((s.files.length : Int) < 64) := by
       have hn : lkM s.files p = none := by cases hx : lkM s.files p with
         | none => rfl
         | some _ => rw [hx] at c2; cases c2
       rw [decide_eq_decide,hn]
       simp only [true_and]
       omega
     rw [← this]
     exact hK _ hx
 · have e1 : decide ((data.length : Int) ≤ 65536) = false := decide_eq_false (by omega)
   simp (disch := omega) only [wfx,wsu,Nat.reduceLT,cond_true,cond_false,cellsAt,exists_eq_left',Option.map_some,List.size_toArray,List.setIfInBounds_toArray,Nat.reduceAdd,ne_eq,reduceCtorEq,e1]
   refine GdW.f fun g => ?_
   (try simp (disch := omega) only [wfx,wsu,Nat.reduceLT,cond_true,cond_false,cellsAt,exists_eq_left',Option.map_some,List.size_toArray,List.setIfInBounds_toArray,Nat.reduceAdd,ne_eq,reduceCtorEq])
   have ea : isB undef false = false := rfl
   (try simp (disch := omega) only [wfx,wsu,Nat.reduceLT,cond_true,cond_false,cellsAt,exists_eq_left',Option.map_some,List.size_toArray,List.setIfInBounds_toArray,Nat.reduceAdd,ne_eq,reduceCtorEq,ea])
   refine GdW.f fun g => ?_
   (try simp (disch := omega) only [wfx,wsu,Nat.reduceLT,cond_true,cond_false,cellsAt,exists_eq_left',Option.map_some,List.size_toArray,List.setIfInBounds_toArray,Nat.reduceAdd,ne_eq,reduceCtorEq])
   refine GdW.f fun g => ?_
   (try simp (disch := omega) only [wfx,wsu,Nat.reduceLT,cond_true,cond_false,cellsAt,exists_eq_left',Option.map_some,List.size_toArray,List.setIfInBounds_toArray,Nat.reduceAdd,ne_eq,reduceCtorEq])
   have : (decide ¬ (data.length > 65536 ∨ (lkM s.files p = none ∧ 64 ≤ s.files.length))) = false := decide_eq_false (fun hn => hn (.inl (by omega)))
   rw [← this]
   exact hK _ hx
end Go.Proofs.YtpiaegojabkioaaGreatDoor.Fx
