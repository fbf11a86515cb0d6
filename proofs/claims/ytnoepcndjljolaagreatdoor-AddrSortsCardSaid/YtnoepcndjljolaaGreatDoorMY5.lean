/- One plain sentence: weakest preconditions, contracts and plain laws that the claim rests on, text behind text. Conditions: those that each states. -/
import Derived.Test.YtnoepcndjljolaaGreatDoorMY2
import Derived.Test.YtnoepcndjljolaaGreatDoorMY4
import Derived.Lib.Atoi
import Derived.Lib.AtoiBound
import Derived.Lib.AtoiAll
import Derived.Shelf.SlSortCmp.WholeK
import Derived.Shelf.SlLaysF0
import Derived.Shelf.SlGeneric
import Derived.Ground.SlsfProg
import Derived.Test.YtnoepcndjljolaaGreatDoorProg
set_option linter.all false
set_option linter.unusedSimpArgs false
set_option linter.unusedVariables false
set_option linter.unusedSectionVars false
namespace Go.Proofs.YtnoepcndjljolaaGreatDoor
open Go Go.Eng
set_option maxRecDepth 100000
variable [HX]
def plan18:Plan:={ js:=[(9005,⟨[48],[],46⟩),(9009,⟨[43],[],42⟩),(9013,⟨[39],[],38⟩),(9017,⟨[35],[],34⟩),(9022,⟨[31],[],29⟩),(9028,⟨[26],[],23⟩)],ds:=[] }
def W18 (w:World) (K:Value → World → Prop):Prop:=
 callF Tryz.prog 39 [(.string (ofL [109,47,110,47,116,46,97,91,34,107,92,110,34,93,126]))] w fun t8 w1=>
 extW 0 t8 fun t9=>
 extW 1 t8 fun t10=>
 allocW 76 [(.slice none 0 0),(.string (ofL [])),(.string (ofL [])),(.int .i64 0),(.int .i64 0),(.string (ofL [])),(.bool false)] w1 fun t1 w2=>
 stW 7 t1 t9 w2 fun w3=>
 callF Tryz.prog 39 [(.string (ofL [116,46,97,91,48,49,93]))] w3 fun t12 w4=>
 extW 0 t12 fun t13=>
 extW 1 t12 fun t14=>
 allocW 76 [(.slice none 0 0),(.string (ofL [])),(.string (ofL [])),(.int .i64 0),(.int .i64 0),(.string (ofL [])),(.bool false)] w4 fun t3 w5=>
 stW 7 t3 t13 w5 fun w6=>
 bslW 9 3 [(.string (ofL [])),(.string (ofL [])),(.string (ofL []))] [(0,1,(.string (ofL [116,46,97,91,49,48,93]))),(1,1,(.string (ofL [116,46,97,91,57,93]))),(2,1,(.string (ofL [116,46,97])))] w6 fun t16 w7=>
 callF Tryz.prog 19 [t16] w7 fun t17 w8=>
 extW 0 t17 fun t18=>
 extW 1 t17 fun t19=>
 binW .eql t10 (.int .i64 0) fun t21=>
 GdW (isB t21 true) [undef] w8 (fun J9=>
 fldW 0 t1 fun t23=>
 ldW false 1 t23 w8 fun t24=>
 lenlW t24 fun t25=>
 binW .eql t25 (.int .i64 2) fun t26=>
 J9 [t26] w8)
 fun s9 _ w10=>
 pickW t21 (s9.getD 0 undef) (.bool false) fun t27=>
 GdW (isB t27 true) [undef] w10 (fun J11=>
 fldW 5 t1 fun t29=>
 ldW false 1 t29 w10 fun t30=>
 binW .eql t30 (.string (ofL [107,10])) fun t31=>
 J11 [t31] w10)
 fun s11 _ w12=>
 pickW t27 (s11.getD 0 undef) (.bool false) fun t32=>
 GdW (isB t32 true) [undef] w12 (fun J13=>
 fldW 6 t1 fun t34=>
 ldW false 1 t34 w12 fun t35=>
 J13 [t35] w12)
 fun s13 _ w14=>
 pickW t32 (s13.getD 0 undef) (.bool false) fun t36=>
 GdW (isB t36 true) [undef] w14 (fun J15=>
 binW .eql t14 (.int .i64 6) fun t39=>
 J15 [t39] w14)
 fun s15 _ w16=>
 pickW t36 (s15.getD 0 undef) (.bool false) fun t40=>
 GdW (isB t40 true) [undef] w16 (fun J17=>
 binW .eql t19 (.int .i64 0) fun t43=>
 J17 [t43] w16)
 fun s17 _ w18=>
 pickW t40 (s17.getD 0 undef) (.bool false) fun t44=>
 GdW (isB t44 true) [undef] w18 (fun J19=>
 bslW 9 3 [(.string (ofL [])),(.string (ofL [])),(.string (ofL []))] [(0,1,(.string (ofL [116,46,97]))),(1,1,(.string (ofL [116,46,97,91,57,93]))),(2,1,(.string (ofL [116,46,97,91,49,48,93])))] w18 fun t47 w20=>
 callF Tryz.prog 21 [t18,t47] w20 fun t48 w21=>
 J19 [t48] w21)
 fun s19 _ w22=>
 pickW t44 (s19.getD 0 undef) (.bool false) fun t49=>
 K t49 w22
theorem W18_ok {w:World} {K:Value → World → Prop} (h:W18 w K):callF Tryz.prog 18 [] w K:=
 tie _ 18 Tryz.f18 plan18 _ w K 0 _ rfl mixed Tryz.func18 (by kernel_rfl) (by kernel_rfl) Tryz.call18 h
def plan42:Plan:={ js:=[(58,⟨[],[],5⟩),(31,⟨[],[2,3],5⟩),(42005,⟨[94],[],92⟩),(38005,⟨[79],[],77⟩),(38010,⟨[74],[],72⟩),(38015,⟨[69],[],67⟩),(34005,⟨[60],[],58⟩),(34010,⟨[55],[],53⟩),(16,⟨[33],[6],33⟩),(4004,⟨[28],[],26⟩),(4010,⟨[23],[],20⟩),(4016,⟨[17],[],14⟩)],ds:=[] }
def W42 (v0:Value) (w:World) (K:Value → World → Prop):Prop:=
 boxW 76 v0 w fun t1 w1=>
 fldW 0 t1 fun t9=>
 ldW false 1 t9 w1 fun t10=>
 lenlW t10 fun t11=>
 binW .gtr t11 (.int .i64 4) fun t12=>
 GdW (isB t12 false) [undef] w1 (fun J2=>
 fldW 1 t1 fun t14=>
 ldW false 1 t14 w1 fun t15=>
 callF Tryz.prog 86 [t15] w1 fun t16 w3=>
 unW .not t16 fun t17=>
 J2 [t17] w3)
 fun s2 _ w4=>
 pickW t12 (.bool true) (s2.getD 0 undef) fun t18=>
 GdW (isB t18 false) [undef] w4 (fun J5=>
 fldW 2 t1 fun t20=>
 ldW false 1 t20 w4 fun t21=>
 callF Tryz.prog 86 [t21] w4 fun t22 w6=>
 unW .not t22 fun t23=>
 J5 [t23] w6)
 fun s5 _ w7=>
 pickW t18 (.bool true) (s5.getD 0 undef) fun t24=>
 GdW (isB t24 false) [undef] w7 (fun J8=>
 fldW 0 t1 fun t26=>
 ldW false 1 t26 w7 fun t27=>
 callF Tryz.prog 87 [t27,(.func (.func 88) #[] #[])] w7 fun t28 w9=>
 J8 [t28] w9)
 fun s8 _ w10=>
 pickW t24 (.bool true) (s8.getD 0 undef) fun t29=>
 condW t29 (
 K (.tuple #[(.string (ofL [])),(.int .i64 6)]) w10) (
 allocW 93 [(.pointer none),(.slice none 0 0)] w10 fun t4 w11=>
 fldW 0 t1 fun t30=>
 ldW false 1 t30 w11 fun t31=>
 lenlW t31 fun t32=>
 LoopW [(.int .i64 0)] w11 fun s12 _ w13 L12=>
 binW .lss (s12.getD 0 undef) t32 fun t34=>
 condW t34 (
 ixaW none 1 t31 (s12.getD 0 undef) fun t35=>
 ldW false 1 t35 w13 fun t36=>
 binW .add t36 (.string (ofL [47])) fun t38=>
 callF Tryz.prog 89 [t4,t38] w13 fun t39 w14=>
 binW .add (s12.getD 0 undef) (.int .i64 1) fun t40=>
 L12 [t40] w14) (
 fldW 1 t1 fun t41=>
 ldW false 1 t41 w13 fun t42=>
 binW .add t42 (.string (ofL [46])) fun t43=>
 fldW 2 t1 fun t44=>
 ldW false 1 t44 w13 fun t45=>
 binW .add t43 t45 fun t46=>
 callF Tryz.prog 89 [t4,t46] w13 fun t47 w15=>
 JoinW (fun J16=>
 fldW 3 t1 fun t49=>
 ldW false 1 t49 w15 fun t50=>
 binW .eql t50 (.int .i64 0) fun t51=>
 GdW (isB t51 true) [undef] w15 (fun J17=>
 fldW 4 t1 fun t53=>
 ldW false 1 t53 w15 fun t54=>
 binW .eql t54 (.int .i64 0) fun t55=>
 J17 [t55] w15)
 fun s17 _ w18=>
 pickW t51 (s17.getD 0 undef) (.bool false) fun t56=>
 GdW (isB t56 true) [undef] w18 (fun J19=>
 fldW 5 t1 fun t58=>
 ldW false 1 t58 w18 fun t59=>
 binW .eql t59 (.string (ofL [])) fun t60=>
 J19 [t60] w18)
 fun s19 _ w20=>
 pickW t56 (s19.getD 0 undef) (.bool false) fun t61=>
 condW t61 (
 J16 [] w20) (
 fldW 3 t1 fun t63=>
 ldW false 1 t63 w20 fun t64=>
 binW .eql t64 (.int .i64 1) fun t65=>
 GdW (isB t65 true) [undef] w20 (fun J21=>
 fldW 4 t1 fun t67=>
 ldW false 1 t67 w20 fun t68=>
 binW .geq t68 (.int .i64 0) fun t69=>
 J21 [t69] w20)
 fun s21 _ w22=>
 pickW t65 (s21.getD 0 undef) (.bool false) fun t70=>
 GdW (isB t70 true) [undef] w22 (fun J23=>
 fldW 4 t1 fun t72=>
 ldW false 1 t72 w22 fun t73=>
 binW .leq t73 (.int .i64 1000000000) fun t74=>
 J23 [t74] w22)
 fun s23 _ w24=>
 pickW t70 (s23.getD 0 undef) (.bool false) fun t75=>
 GdW (isB t75 true) [undef] w24 (fun J25=>
 fldW 5 t1 fun t77=>
 ldW false 1 t77 w24 fun t78=>
 binW .eql t78 (.string (ofL [])) fun t79=>
 J25 [t79] w24)
 fun s25 _ w26=>
 pickW t75 (s25.getD 0 undef) (.bool false) fun t80=>
 condW t80 (
 fldW 4 t1 fun t81=>
 ldW false 1 t81 w26 fun t82=>
 callF Tryz.prog 90 [t82] w26 fun t83 w27=>
 binW .add (.string (ofL [91])) t83 fun t84=>
 binW .add t84 (.string (ofL [93])) fun t85=>
 callF Tryz.prog 89 [t4,t85] w27 fun t86 w28=>
 J16 [] w28) (
 fldW 3 t1 fun t88=>
 ldW false 1 t88 w26 fun t89=>
 binW .eql t89 (.int .i64 2) fun t90=>
 GdW (isB t90 true) [undef] w26 (fun J29=>
 fldW 4 t1 fun t92=>
 ldW false 1 t92 w26 fun t93=>
 binW .eql t93 (.int .i64 0) fun t94=>
 J29 [t94] w26)
 fun s29 _ w30=>
 pickW t90 (s29.getD 0 undef) (.bool false) fun t95=>
 condW t95 (
 fldW 5 t1 fun t97=>
 ldW false 1 t97 w30 fun t98=>
 callF Tryz.prog 23 [t98] w30 fun t99 w31=>
 callF Tryz.prog 25 [t99] w31 fun t100 w32=>
 extW 0 t100 fun t101=>
 extW 1 t100 fun t102=>
 binW .neq t102 (.int .i64 0) fun t104=>
 condW t104 (
 K (.tuple #[(.string (ofL [])),(.int .i64 6)]) w32) (
 binW .add (.string (ofL [91])) t101 fun t106=>
 binW .add t106 (.string (ofL [93])) fun t107=>
 callF Tryz.prog 89 [t4,t107] w32 fun t108 w33=>
 J16 [] w33)) (
 K (.tuple #[(.string (ofL [])),(.int .i64 6)]) w30))))
 fun s16 _ w34=>
 JoinW (fun J35=>
 fldW 6 t1 fun t109=>
 ldW false 1 t109 w34 fun t110=>
 condW t110 (
 callF Tryz.prog 91 [t4,(.int .u8 126)] w34 fun t111 w36=>
 J35 [] w36) (
 J35 [] w34))
 fun s35 _ w37=>
 callF Tryz.prog 54 [t4] w37 fun t112 w38=>
 K (.tuple #[t112,(.int .i64 0)]) w38))
theorem W42_ok {v0:Value} {w:World} {K:Value → World → Prop} (h:W42 v0 w K):callF Tryz.prog 42 [v0] w K:=
 tie _ 42 Tryz.f42 plan42 _ w K 1 _ rfl mixed Tryz.func42 (by kernel_rfl) (by kernel_rfl) Tryz.call42 h
def plan95:Plan:={ js:=[(58007,⟨[84],[],80⟩),(51005,⟨[73],[],70⟩),(51010,⟨[67],[],65⟩),(46005,⟨[59],[],57⟩),(46010,⟨[54],[],52⟩),(38005,⟨[43],[],41⟩),(27005,⟨[32],[],29⟩),(27011,⟨[26],[],23⟩),(6,⟨[7],[2,3],7⟩)],ds:=[] }
def W95 (v0:Value) (w:World) (K:Value → World → Prop):Prop:=
 boxW 84 v0 w fun t1 w1=>
 fldW 0 t1 fun t4=>
 ldW false 1 t4 w1 fun t5=>
 lenlW t5 fun t6=>
 LoopW [(.int .i64 0)] w1 fun s2 _ w3 L2=>
 binW .lss (s2.getD 0 undef) t6 fun t8=>
 condW t8 (
 fldW 0 t1 fun t10=>
 ldW false 1 t10 w3 fun t11=>
 ixaW none 1 t11 (s2.getD 0 undef) fun t13=>
 ldW false 1 t13 w3 fun t14=>
 callF Tryz.prog 156 [t14] w3 fun t15 w4=>
 unW .not t15 fun t16=>
 condW t16 (
 K (.bool false) w4) (
 binW .add (s2.getD 0 undef) (.int .i64 1) fun t17=>
 L2 [t17] w4)) (
 fldW 0 t1 fun t18=>
 ldW false 1 t18 w3 fun t19=>
 lenlW t19 fun t20=>
 binW .gtr t20 (.int .i64 4) fun t21=>
 GdW (isB t21 false) [undef] w3 (fun J5=>
 fldW 1 t1 fun t23=>
 ldW false 1 t23 w3 fun t24=>
 callF Tryz.prog 156 [t24] w3 fun t25 w6=>
 unW .not t25 fun t26=>
 J5 [t26] w6)
 fun s5 _ w7=>
 pickW t21 (.bool true) (s5.getD 0 undef) fun t27=>
 GdW (isB t27 false) [undef] w7 (fun J8=>
 fldW 2 t1 fun t29=>
 ldW false 1 t29 w7 fun t30=>
 callF Tryz.prog 156 [t30] w7 fun t31 w9=>
 unW .not t31 fun t32=>
 J8 [t32] w9)
 fun s8 _ w10=>
 pickW t27 (.bool true) (s8.getD 0 undef) fun t33=>
 condW t33 (
 K (.bool false) w10) (
 fldW 3 t1 fun t34=>
 ldW false 1 t34 w10 fun t35=>
 binW .eql t35 (.int .i64 0) fun t36=>
 condW t36 (
 fldW 4 t1 fun t37=>
 ldW false 1 t37 w10 fun t38=>
 binW .eql t38 (.int .i64 0) fun t39=>
 GdW (isB t39 true) [undef] w10 (fun J11=>
 fldW 5 t1 fun t41=>
 ldW false 1 t41 w10 fun t42=>
 binW .eql t42 (.string (ofL [])) fun t43=>
 J11 [t43] w10)
 fun s11 _ w12=>
 pickW t39 (s11.getD 0 undef) (.bool false) fun t44=>
 K t44 w12) (
 fldW 3 t1 fun t45=>
 ldW false 1 t45 w10 fun t46=>
 binW .eql t46 (.int .i64 1) fun t47=>
 condW t47 (
 fldW 4 t1 fun t48=>
 ldW false 1 t48 w10 fun t49=>
 binW .geq t49 (.int .i64 0) fun t50=>
 GdW (isB t50 true) [undef] w10 (fun J13=>
 fldW 4 t1 fun t52=>
 ldW false 1 t52 w10 fun t53=>
 binW .leq t53 (.int .i64 1000000000) fun t54=>
 J13 [t54] w10)
 fun s13 _ w14=>
 pickW t50 (s13.getD 0 undef) (.bool false) fun t55=>
 GdW (isB t55 true) [undef] w14 (fun J15=>
 fldW 5 t1 fun t57=>
 ldW false 1 t57 w14 fun t58=>
 binW .eql t58 (.string (ofL [])) fun t59=>
 J15 [t59] w14)
 fun s15 _ w16=>
 pickW t55 (s15.getD 0 undef) (.bool false) fun t60=>
 K t60 w16) (
 fldW 3 t1 fun t61=>
 ldW false 1 t61 w10 fun t62=>
 binW .neq t62 (.int .i64 2) fun t63=>
 GdW (isB t63 false) [undef] w10 (fun J17=>
 fldW 4 t1 fun t65=>
 ldW false 1 t65 w10 fun t66=>
 binW .neq t66 (.int .i64 0) fun t67=>
 J17 [t67] w10)
 fun s17 _ w18=>
 pickW t63 (.bool true) (s17.getD 0 undef) fun t68=>
 GdW (isB t68 false) [undef] w18 (fun J19=>
 fldW 5 t1 fun t70=>
 ldW false 1 t70 w18 fun t71=>
 callF Tryz.prog 64 [t71] w18 fun t72 w20=>
 binW .geq t72 (.int .i64 0) fun t73=>
 J19 [t73] w20)
 fun s19 _ w21=>
 pickW t68 (.bool true) (s19.getD 0 undef) fun t74=>
 condW t74 (
 K (.bool false) w21) (
 fldW 5 t1 fun t75=>
 ldW false 1 t75 w21 fun t76=>
 lensW t76 fun t77=>
 binW .leq t77 (.int .i64 16384) fun t78=>
 GdW (isB t78 true) [undef] w21 (fun J22=>
 fldW 5 t1 fun t80=>
 ldW false 1 t80 w21 fun t81=>
 callF Tryz.prog 99 [t81] w21 fun t82 w23=>
 lensW t82 fun t83=>
 binW .leq t83 (.int .i64 65536) fun t84=>
 J22 [t84] w23)
 fun s22 _ w24=>
 pickW t78 (s22.getD 0 undef) (.bool false) fun t85=>
 K t85 w24)))))
theorem W95_ok {v0:Value} {w:World} {K:Value → World → Prop} (h:W95 v0 w K):callF Tryz.prog 95 [v0] w K:=
 tie _ 95 Tryz.f95 plan95 _ w K 1 _ rfl mixed Tryz.func95 (by kernel_rfl) (by kernel_rfl) Tryz.call95 h
def plan39:Plan:={ js:=[(42004,⟨[88],[],86⟩),(8,⟨[5],[3],5⟩),(22003,⟨[46],[],45⟩)],ds:=[] }
def W39 (v0:Value) (w:World) (K:Value → World → Prop):Prop:=
 allocW 76 [(.slice none 0 0),(.string (ofL [])),(.string (ofL [])),(.int .i64 0),(.int .i64 0),(.string (ofL [])),(.bool false)] w fun t2 w1=>
 allocW 76 [(.slice none 0 0),(.string (ofL [])),(.string (ofL [])),(.int .i64 0),(.int .i64 0),(.string (ofL [])),(.bool false)] w1 fun t4 w2=>
 callF Tryz.prog 75 [v0,(.string (ofL [126]))] w2 fun t19 w3=>
 extW 0 t19 fun t20=>
 extW 1 t19 fun t21=>
 fldW 6 t4 fun t23=>
 stW 1 t23 t21 w3 fun w4=>
 JoinW (fun J5=>
 callF Tryz.prog 76 [t20,(.int .u8 91)] w4 fun t25 w6=>
 binW .geq t25 (.int .i64 0) fun t27=>
 condW t27 (
 binW .add t25 (.int .i64 1) fun t31=>
 slsW t20 (some t31) none fun t32=>
 callF Tryz.prog 75 [t32,(.string (ofL [93]))] w6 fun t33 w7=>
 extW 0 t33 fun t34=>
 extW 1 t33 fun t35=>
 ldW true 7 t4 w7 fun t37=>
 callF Tryz.prog 77 [t37,t34] w7 fun t39 w8=>
 extW 0 t39 fun t40=>
 extW 1 t39 fun t41=>
 stW 7 t4 t40 w8 fun w9=>
 unW .not t41 fun t43=>
 GdW (isB t43 false) [undef] w9 (fun J10=>
 unW .not t35 fun t46=>
 J10 [t46] w9)
 fun s10 _ w11=>
 pickW t43 (.bool true) (s10.getD 0 undef) fun t47=>
 condW t47 (
 putW [(.slice none 0 0),(.string (ofL [])),(.string (ofL [])),(.int .i64 0),(.int .i64 0),(.string (ofL [])),(.bool false)] [] fun c12=>
 stW 7 t2 (.agg c12.toArray) w11 fun w13=>
 ldW true 7 t2 w13 fun r14=>
 K (.tuple #[r14,(.int .i64 6)]) w13) (
 slsW t20 none (some t25) fun t51=>
 J5 [t51] w11)) (
 J5 [t20] w6))
 fun s5 _ w15=>
 callF Tryz.prog 78 [(s5.getD 0 undef),(.string (ofL [47]))] w15 fun t53 w16=>
 lenlW t53 fun t56=>
 binW .sub t56 (.int .i64 1) fun t57=>
 lenlW t53 fun t59=>
 binW .sub t59 (.int .i64 1) fun t60=>
 sllW 1 t53 none (some t57) (some t60) fun t61=>
 fldW 0 t4 fun t62=>
 stW 1 t62 t61 w16 fun w17=>
 lenlW t53 fun t66=>
 binW .sub t66 (.int .i64 1) fun t67=>
 ixaW none 1 t53 t67 fun t68=>
 ldW false 1 t68 w17 fun t69=>
 callF Tryz.prog 79 [t69,(.string (ofL [46]))] w17 fun t70 w18=>
 extW 0 t70 fun t71=>
 extW 1 t70 fun t72=>
 extW 2 t70 fun t73=>
 fldW 1 t4 fun t76=>
 stW 1 t76 t71 w18 fun w19=>
 fldW 2 t4 fun t77=>
 stW 1 t77 t72 w19 fun w20=>
 ldW true 7 t4 w20 fun t79=>
 callF Tryz.prog 42 [t79] w20 fun t80 w21=>
 extW 0 t80 fun t81=>
 extW 1 t80 fun t82=>
 binW .neq t82 (.int .i64 0) fun t84=>
 GdW (isB t84 false) [undef] w21 (fun J22=>
 binW .neq t81 v0 fun t88=>
 J22 [t88] w21)
 fun s22 _ w23=>
 pickW t84 (.bool true) (s22.getD 0 undef) fun t89=>
 condW t89 (
 putW [(.slice none 0 0),(.string (ofL [])),(.string (ofL [])),(.int .i64 0),(.int .i64 0),(.string (ofL [])),(.bool false)] [] fun c24=>
 stW 7 t2 (.agg c24.toArray) w23 fun w25=>
 ldW true 7 t2 w25 fun r26=>
 K (.tuple #[r26,(.int .i64 6)]) w25) (
 ldW true 7 t4 w23 fun t91=>
 stW 7 t2 t91 w23 fun w27=>
 ldW true 7 t2 w27 fun r28=>
 K (.tuple #[r28,(.int .i64 0)]) w27)
theorem W39_ok {v0:Value} {w:World} {K:Value → World → Prop} (h:W39 v0 w K):callF Tryz.prog 39 [v0] w K:=
 tie _ 39 Tryz.f39 plan39 _ w K 1 _ rfl mixed Tryz.func39 (by kernel_rfl) (by kernel_rfl) Tryz.call39 h
def plan45:Plan:={ js:=[(29,⟨[3],[],2⟩),(23,⟨[3],[],2⟩),(8,⟨[3,8],[3,4],8⟩)],ds:=[] }
def W45 (v0:Value) (w:World) (K:Value → World → Prop):Prop:=
 boxW 84 v0 w fun t1 w1=>
 fldW 0 t1 fun t5=>
 ldW false 1 t5 w1 fun t6=>
 lenlW t6 fun t7=>
 LoopW [(.string (ofL [])),(.int .i64 0)] w1 fun s2 _ w3 L2=>
 binW .lss (s2.getD 1 undef) t7 fun t9=>
 condW t9 (
 fldW 0 t1 fun t12=>
 ldW false 1 t12 w3 fun t13=>
 ixaW none 1 t13 (s2.getD 1 undef) fun t15=>
 ldW false 1 t15 w3 fun t16=>
 binW .add (s2.getD 0 undef) t16 fun t17=>
 binW .add t17 (.string (ofL [47])) fun t18=>
 binW .add (s2.getD 1 undef) (.int .i64 1) fun t19=>
 L2 [t18,t19] w3) (
 fldW 1 t1 fun t21=>
 ldW false 1 t21 w3 fun t22=>
 binW .add (s2.getD 0 undef) t22 fun t23=>
 binW .add t23 (.string (ofL [46])) fun t24=>
 fldW 2 t1 fun t25=>
 ldW false 1 t25 w3 fun t26=>
 binW .add t24 t26 fun t27=>
 JoinW (fun J4=>
 fldW 3 t1 fun t28=>
 ldW false 1 t28 w3 fun t29=>
 binW .eql t29 (.int .i64 1) fun t30=>
 condW t30 (
 binW .add t27 (.string (ofL [91])) fun t32=>
 fldW 4 t1 fun t33=>
 ldW false 1 t33 w3 fun t34=>
 callF Tryz.prog 98 [t34] w3 fun t35 w5=>
 binW .add t32 t35 fun t36=>
 binW .add t36 (.string (ofL [93])) fun t37=>
 J4 [t37] w5) (
 J4 [t27] w3))
 fun s4 _ w6=>
 JoinW (fun J7=>
 fldW 3 t1 fun t38=>
 ldW false 1 t38 w6 fun t39=>
 binW .eql t39 (.int .i64 2) fun t40=>
 condW t40 (
 binW .add (s4.getD 0 undef) (.string (ofL [91])) fun t42=>
 fldW 5 t1 fun t43=>
 ldW false 1 t43 w6 fun t44=>
 callF Tryz.prog 99 [t44] w6 fun t45 w8=>
 binW .add t42 t45 fun t46=>
 binW .add t46 (.string (ofL [93])) fun t47=>
 J7 [t47] w8) (
 J7 [(s4.getD 0 undef)] w6))
 fun s7 _ w9=>
 fldW 6 t1 fun t48=>
 ldW false 1 t48 w9 fun t49=>
 condW t49 (
 binW .add (s7.getD 0 undef) (.string (ofL [126])) fun t51=>
 K t51 w9) (
 K (s7.getD 0 undef) w9))
theorem W45_ok {v0:Value} {w:World} {K:Value → World → Prop} (h:W45 v0 w K):callF Tryz.prog 45 [v0] w K:=
 tie _ 45 Tryz.f45 plan45 _ w K 1 _ rfl mixed Tryz.func45 (by kernel_rfl) (by kernel_rfl) Tryz.call45 h
def plan43:Plan:={ js:=[(87005,⟨[150],[],147⟩),(53,⟨[],[3],5⟩),(61002,⟨[119],[],112⟩),(61005,⟨[118],[],116⟩),(61009,⟨[115],[],112⟩),(55007,⟨[97],[],92⟩),(55012,⟨[89],[],87⟩),(45,⟨[5],[],5⟩),(47007,⟨[75],[],70⟩),(14006,⟨[26],[],22⟩),(8,⟨[5],[3],5⟩)],ds:=[] }
def W43 (v0:Value) (w:World) (K:Value → World → Prop):Prop:=
 allocW 84 [(.slice none 0 0),(.string (ofL [])),(.string (ofL [])),(.int .i64 0),(.int .i64 0),(.string (ofL [])),(.bool false)] w fun t2 w1=>
 putW [(.slice none 0 0),(.string (ofL [])),(.string (ofL [])),(.int .i64 0),(.int .i64 0),(.string (ofL [])),(.bool false)] [] fun c2=>
 allocW 84 [(.slice none 0 0),(.string (ofL [])),(.string (ofL [])),(.int .i64 0),(.int .i64 0),(.string (ofL [])),(.bool false)] w1 fun t4 w3=>
 stW 7 t4 (.agg c2.toArray) w3 fun w4=>
 LoopW [v0] w4 fun s5 _ w6 L5=>
 callF Tryz.prog 92 [(s5.getD 0 undef),(.int .u8 47),(.int .u8 91)] w6 fun t15 w7=>
 lensW t15 fun t17=>
 lensW (s5.getD 0 undef) fun t19=>
 binW .eql t17 t19 fun t20=>
 GdW (isB t20 false) [undef] w7 (fun J8=>
 lensW t15 fun t24=>
 ixsW (s5.getD 0 undef) t24 fun t25=>
 binW .eql t25 (.int .u8 91) fun t26=>
 J8 [t26] w7)
 fun s8 _ w9=>
 pickW t20 (.bool true) (s8.getD 0 undef) fun t27=>
 condW t27 (
 callF Tryz.prog 92 [(s5.getD 0 undef),(.int .u8 46),(.int .u8 46)] w9 fun t45 w10=>
 fldW 1 t4 fun t46=>
 stW 1 t46 t45 w10 fun w11=>
 fldW 1 t4 fun t48=>
 ldW false 1 t48 w11 fun t49=>
 lensW t49 fun t50=>
 slsW (s5.getD 0 undef) (some t50) none fun t51=>
 lensW t51 fun t53=>
 binW .eql t53 (.int .i64 0) fun t54=>
 condW t54 (
 putW [(.slice none 0 0),(.string (ofL [])),(.string (ofL [])),(.int .i64 0),(.int .i64 0),(.string (ofL [])),(.bool false)] [] fun c12=>
 stW 7 t2 (.agg c12.toArray) w11 fun w13=>
 ldW true 7 t2 w13 fun r14=>
 K (.tuple #[r14,(.bool false)]) w13) (
 slsW t51 (some (.int .i64 1)) none fun t57=>
 callF Tryz.prog 92 [t57,(.int .u8 91),(.int .u8 126)] w11 fun t58 w15=>
 fldW 2 t4 fun t59=>
 stW 1 t59 t58 w15 fun w16=>
 fldW 2 t4 fun t61=>
 ldW false 1 t61 w16 fun t62=>
 lensW t62 fun t63=>
 binW .add (.int .i64 1) t63 fun t64=>
 slsW t51 (some t64) none fun t65=>
 JoinW (fun J17=>
 lensW t65 fun t67=>
 binW .gtr t67 (.int .i64 0) fun t68=>
 GdW (isB t68 true) [undef] w16 (fun J18=>
 lensW t65 fun t72=>
 binW .sub t72 (.int .i64 1) fun t73=>
 ixsW t65 t73 fun t74=>
 binW .eql t74 (.int .u8 126) fun t75=>
 J18 [t75] w16)
 fun s18 _ w19=>
 pickW t68 (s18.getD 0 undef) (.bool false) fun t76=>
 condW t76 (
 fldW 6 t4 fun t77=>
 stW 1 t77 (.bool true) w19 fun w20=>
 lensW t65 fun t80=>
 binW .sub t80 (.int .i64 1) fun t81=>
 slsW t65 none (some t81) fun t82=>
 J17 [t82] w20) (
 J17 [t65] w19))
 fun s17 _ w21=>
 JoinW (fun J22=>
 lensW (s17.getD 0 undef) fun t84=>
 binW .gtr t84 (.int .i64 1) fun t85=>
 GdW (isB t85 true) [undef] w21 (fun J23=>
 ixsW (s17.getD 0 undef) (.int .i64 0) fun t88=>
 binW .eql t88 (.int .u8 91) fun t89=>
 J23 [t89] w21)
 fun s23 _ w24=>
 pickW t85 (s23.getD 0 undef) (.bool false) fun t90=>
 GdW (isB t90 true) [undef] w24 (fun J25=>
 lensW (s17.getD 0 undef) fun t94=>
 binW .sub t94 (.int .i64 1) fun t95=>
 ixsW (s17.getD 0 undef) t95 fun t96=>
 binW .eql t96 (.int .u8 93) fun t97=>
 J25 [t97] w24)
 fun s25 _ w26=>
 pickW t90 (s25.getD 0 undef) (.bool false) fun t98=>
 condW t98 (
 lensW (s17.getD 0 undef) fun t102=>
 binW .sub t102 (.int .i64 1) fun t103=>
 slsW (s17.getD 0 undef) (some (.int .i64 1)) (some t103) fun t104=>
 callF Tryz.prog 93 [t104] w26 fun t105 w27=>
 extW 0 t105 fun t106=>
 extW 1 t105 fun t107=>
 extW 2 t105 fun t108=>
 allocW 40 [(.int .i64 0),(.bool false),(.string (ofL [])),(.slice none 0 0),(.slice none 0 0)] w27 fun t7 w28=>
 stW 5 t7 t106 w28 fun w29=>
 binW .neq t107 (.int .i64 0) fun t110=>
 GdW (isB t110 false) [undef] w29 (fun J30=>
 fldW 0 t7 fun t112=>
 ldW false 1 t112 w29 fun t113=>
 binW .neq t113 (.int .i64 3) fun t114=>
 J30 [t114] w29)
 fun s30 _ w31=>
 GdW (isB (s30.getD 0 undef) true) [undef] w31 (fun J32=>
 fldW 0 t7 fun t116=>
 ldW false 1 t116 w31 fun t117=>
 binW .neq t117 (.int .i64 4) fun t118=>
 J32 [t118] w31)
 fun s32 _ w33=>
 GdW (isB t110 false) [undef] w33 (fun J34=>
 pickW (s30.getD 0 undef) (s32.getD 0 undef) (.bool false) fun t119=>
 J34 [t119] w33)
 fun s34 _ w35=>
 pickW t110 (.bool true) (s34.getD 0 undef) fun t120=>
 condW t120 (
 putW [(.slice none 0 0),(.string (ofL [])),(.string (ofL [])),(.int .i64 0),(.int .i64 0),(.string (ofL [])),(.bool false)] [] fun c36=>
 stW 7 t2 (.agg c36.toArray) w35 fun w37=>
 ldW true 7 t2 w37 fun r38=>
 K (.tuple #[r38,(.bool false)]) w37) (
 fldW 0 t7 fun t122=>
 ldW false 1 t122 w35 fun t123=>
 binW .sub t123 (.int .i64 2) fun t124=>
 fldW 3 t4 fun t125=>
 stW 1 t125 t124 w35 fun w39=>
 fldW 3 t4 fun t126=>
 ldW false 1 t126 w39 fun t127=>
 binW .eql t127 (.int .i64 1) fun t128=>
 condW t128 (
 fldW 2 t7 fun t130=>
 ldW false 1 t130 w39 fun t131=>
 callF Tryz.prog 94 [t131] w39 fun t132 w40=>
 extW 0 t132 fun t133=>
 extW 1 t132 fun t134=>
 unW .not t134 fun t136=>
 condW t136 (
 putW [(.slice none 0 0),(.string (ofL [])),(.string (ofL [])),(.int .i64 0),(.int .i64 0),(.string (ofL [])),(.bool false)] [] fun c41=>
 stW 7 t2 (.agg c41.toArray) w40 fun w42=>
 ldW true 7 t2 w42 fun r43=>
 K (.tuple #[r43,(.bool false)]) w42) (
 fldW 4 t4 fun t139=>
 stW 1 t139 t133 w40 fun w44=>
 J22 [] w44)) (
 fldW 2 t7 fun t140=>
 ldW false 1 t140 w39 fun t141=>
 fldW 5 t4 fun t142=>
 stW 1 t142 t141 w39 fun w45=>
 J22 [] w45))) (
 J22 [] w26))
 fun s22 _ w46=>
 ldW true 7 t4 w46 fun t143=>
 callF Tryz.prog 95 [t143] w46 fun t144 w47=>
 unW .not t144 fun t145=>
 GdW (isB t145 false) [undef] w47 (fun J48=>
 ldW true 7 t4 w47 fun t147=>
 callF Tryz.prog 45 [t147] w47 fun t148 w49=>
 binW .neq t148 v0 fun t150=>
 J48 [t150] w49)
 fun s48 _ w50=>
 pickW t145 (.bool true) (s48.getD 0 undef) fun t151=>
 condW t151 (
 putW [(.slice none 0 0),(.string (ofL [])),(.string (ofL [])),(.int .i64 0),(.int .i64 0),(.string (ofL [])),(.bool false)] [] fun c51=>
 stW 7 t2 (.agg c51.toArray) w50 fun w52=>
 ldW true 7 t2 w52 fun r53=>
 K (.tuple #[r53,(.bool false)]) w52) (
 ldW true 7 t4 w50 fun t153=>
 stW 7 t2 t153 w50 fun w54=>
 ldW true 7 t2 w54 fun r55=>
 K (.tuple #[r55,(.bool true)]) w54))) (
 fldW 0 t4 fun t28=>
 ldW false 1 t28 w9 fun t29=>
 bslW 9 1 [(.string (ofL []))] [(0,1,t15)] w9 fun t31 w56=>
 semE Tryz.prog (Builtin.append_ #[38,38] 38 #[t29,t31]) w56 fun t32 w57=>
 fldW 0 t4 fun t33=>
 stW 1 t33 t32 w57 fun w58=>
 lensW t15 fun t36=>
 binW .add t36 (.int .i64 1) fun t37=>
 slsW (s5.getD 0 undef) (some t37) none fun t38=>
 fldW 0 t4 fun t39=>
 ldW false 1 t39 w58 fun t40=>
 lenlW t40 fun t41=>
 binW .gtr t41 (.int .i64 4) fun t42=>
 condW t42 (
 putW [(.slice none 0 0),(.string (ofL [])),(.string (ofL [])),(.int .i64 0),(.int .i64 0),(.string (ofL [])),(.bool false)] [] fun c59=>
 stW 7 t2 (.agg c59.toArray) w58 fun w60=>
 ldW true 7 t2 w60 fun r61=>
 K (.tuple #[r61,(.bool false)]) w60) (
 L5 [t38] w58))
theorem W43_ok {v0:Value} {w:World} {K:Value → World → Prop} (h:W43 v0 w K):callF Tryz.prog 43 [v0] w K:=
 tie _ 43 Tryz.f43 plan43 _ w K 1 _ rfl mixed Tryz.func43 (by kernel_rfl) (by kernel_rfl) Tryz.call43 h
def plan41:Plan:={ js:=[],ds:=[(3,⟨[0,1,2,3,5,6,7,8,10,11,12,13,15,16,17,18,20,21,22,23,25,26,27,28,30,31,33,34,39],[[],[0],[],[2],[0,1,2,3],[],[5],[],[7],[0,1,2,3,4,5,6,7,8],[],[10],[],[12],[0,1,2,3,4,5,6,7,8,9,10,11,12,13],[],[15],[],[17],[0,1,2,3,4,5,6,7,8,9,10,11,12,13,14,15,16,17,18],[],[20],[],[22],[0,1,2,3,4,5,6,7,8,9,10,11,12,13,14,15,16,17,18,19,20,21,22,23],[],[25],[],[27],[0,1,2,3,4,5,6,7,8,9,10,11,12,13,14,15,16,17,18,19,20,21,22,23,24,25,26,27,28],[],[30],[0,1,2,3,4,5,6,7,8,9,10,11,12,13,14,15,16,17,18,19,20,21,22,23,24,25,26,27,28,29,30,31],[],[33],[0,1,2,3,4,5,6,7,8,9,10,11,12,13,14,15,16,17,18,19,20,21,22,23,24,25,26,27,28,29,30,31,32,33,34],[0,1,2,3,4,5,6,7,8,9,10,11,12,13,14,15,16,17,18,19,20,21,22,23,24,25,26,27,28,29,30,31,32,33,34,35],[0,1,2,3,4,5,6,7,8,9,10,11,12,13,14,15,16,17,18,19,20,21,22,23,24,25,26,27,28,29,30,31,32,33,34,35,36],[0,1,2,3,4,5,6,7,8,9,10,11,12,13,14,15,16,17,18,19,20,21,22,23,24,25,26,27,28,29,30,31,32,33,34,35,36,37],[0,1,2,3,4,5,6,7,8,9,10,11,12,13,14,15,16,17,18,19,20,21,22,23,24,25,26,27,28,29,30,31,32,33,34,35,36,37,38]]⟩)] }
def W41 (v0 v1:Value) (w:World) (K:Value → World → Prop):Prop:=
 boxW 76 v0 w fun t2 w1=>
 boxW 76 v1 w1 fun t3 w2=>
 fldW 0 t2 fun t5=>
 ldW false 1 t5 w2.drew fun t6=>
 fldW 0 t3 fun t7=>
 ldW false 1 t7 w2.drew fun t8=>
 fldW 1 t2 fun t10=>
 ldW false 1 t10 w2.drew fun t11=>
 fldW 1 t3 fun t12=>
 ldW false 1 t12 w2.drew fun t13=>
 fldW 2 t2 fun t15=>
 ldW false 1 t15 w2.drew fun t16=>
 fldW 2 t3 fun t17=>
 ldW false 1 t17 w2.drew fun t18=>
 fldW 3 t2 fun t20=>
 ldW false 1 t20 w2.drew fun t21=>
 fldW 3 t3 fun t22=>
 ldW false 1 t22 w2.drew fun t23=>
 fldW 4 t2 fun t25=>
 ldW false 1 t25 w2.drew fun t26=>
 fldW 4 t3 fun t27=>
 ldW false 1 t27 w2.drew fun t28=>
 fldW 5 t2 fun t30=>
 ldW false 1 t30 w2.drew fun t31=>
 fldW 5 t3 fun t32=>
 ldW false 1 t32 w2.drew fun t33=>
 fldW 6 t2 fun t35=>
 ldW false 1 t35 w2.drew fun t36=>
 fldW 6 t3 fun t38=>
 ldW false 1 t38 w2.drew fun t39=>
 callF Tryz.prog 83 [t6,t8] w2.drew fun t9 w3=>
 (ldW false 1 t38 w3 fun x=>x = t39) ∧
 (ldW false 1 t35 w3 fun x=>x = t36) ∧
 (ldW false 1 t32 w3 fun x=>x = t33) ∧
 (ldW false 1 t30 w3 fun x=>x = t31) ∧
 (ldW false 1 t27 w3 fun x=>x = t28) ∧
 (ldW false 1 t25 w3 fun x=>x = t26) ∧
 (ldW false 1 t22 w3 fun x=>x = t23) ∧
 (ldW false 1 t20 w3 fun x=>x = t21) ∧
 (ldW false 1 t17 w3 fun x=>x = t18) ∧
 (ldW false 1 t15 w3 fun x=>x = t16) ∧
 (ldW false 1 t12 w3 fun x=>x = t13) ∧
 (ldW false 1 t10 w3 fun x=>x = t11) ∧
 callF Tryz.prog 70 [t11,t13] w3 fun t14 w4=>
 (ldW false 1 t38 w4 fun x=>x = t39) ∧
 (ldW false 1 t35 w4 fun x=>x = t36) ∧
 (ldW false 1 t32 w4 fun x=>x = t33) ∧
 (ldW false 1 t30 w4 fun x=>x = t31) ∧
 (ldW false 1 t27 w4 fun x=>x = t28) ∧
 (ldW false 1 t25 w4 fun x=>x = t26) ∧
 (ldW false 1 t22 w4 fun x=>x = t23) ∧
 (ldW false 1 t20 w4 fun x=>x = t21) ∧
 (ldW false 1 t17 w4 fun x=>x = t18) ∧
 (ldW false 1 t15 w4 fun x=>x = t16) ∧
 callF Tryz.prog 70 [t16,t18] w4 fun t19 w5=>
 (ldW false 1 t38 w5 fun x=>x = t39) ∧
 (ldW false 1 t35 w5 fun x=>x = t36) ∧
 (ldW false 1 t32 w5 fun x=>x = t33) ∧
 (ldW false 1 t30 w5 fun x=>x = t31) ∧
 (ldW false 1 t27 w5 fun x=>x = t28) ∧
 (ldW false 1 t25 w5 fun x=>x = t26) ∧
 (ldW false 1 t22 w5 fun x=>x = t23) ∧
 (ldW false 1 t20 w5 fun x=>x = t21) ∧
 callF Tryz.prog 84 [t21,t23] w5 fun t24 w6=>
 (ldW false 1 t38 w6 fun x=>x = t39) ∧
 (ldW false 1 t35 w6 fun x=>x = t36) ∧
 (ldW false 1 t32 w6 fun x=>x = t33) ∧
 (ldW false 1 t30 w6 fun x=>x = t31) ∧
 (ldW false 1 t27 w6 fun x=>x = t28) ∧
 (ldW false 1 t25 w6 fun x=>x = t26) ∧
 callF Tryz.prog 84 [t26,t28] w6 fun t29 w7=>
 (ldW false 1 t38 w7 fun x=>x = t39) ∧
 (ldW false 1 t35 w7 fun x=>x = t36) ∧
 (ldW false 1 t32 w7 fun x=>x = t33) ∧
 (ldW false 1 t30 w7 fun x=>x = t31) ∧
 callF Tryz.prog 70 [t31,t33] w7 fun t34 w8=>
 (ldW false 1 t38 w8 fun x=>x = t39) ∧
 (ldW false 1 t35 w8 fun x=>x = t36) ∧
 callF Tryz.prog 85 [t36] w8 fun t37 w9=>
 (ldW false 1 t38 w9 fun x=>x = t39) ∧
 callF Tryz.prog 85 [t39] w9 fun t40 w10=>
 callF Tryz.prog 84 [t37,t40] w10 fun t41 w11=>
 bslW 3 7 [(.int .i64 0),(.int .i64 0),(.int .i64 0),(.int .i64 0),(.int .i64 0),(.int .i64 0),(.int .i64 0)] [(0,1,t9),(1,1,t14),(2,1,t19),(3,1,t24),(4,1,t29),(5,1,t34),(6,1,t41)] w11 fun t42 w12=>
 callF Tryz.prog 82 [t42] w12 fun t43 w13=>
 K t43 w13
theorem W41_ok {v0 v1:Value} {w:World} {K:Value → World → Prop} (h:W41 v0 v1 w K):callF Tryz.prog 41 [v0,v1] w K:=
 tie _ 41 Tryz.f41 plan41 _ w K 2 _ rfl mixed Tryz.func41 (by kernel_rfl) (by kernel_rfl) Tryz.call41 h
def plan44:Plan:={ js:=[(45,⟨[9],[4],9⟩),(39,⟨[8],[],0⟩),(33,⟨[],[],8⟩),(27,⟨[],[],8⟩),(9006,⟨[20],[],16⟩),(6,⟨[5],[],4⟩)],ds:=[(40,⟨[0,1,2,3,4,5,7,8,9,10,12,13,14,15,17,18,19,20,22,23,24,25,27,28,29,30,32,33,34,35,37],[[],[0],[0,1],[],[3],[3,4],[0,1,2,3,4,5],[],[7],[],[9],[0,1,2,3,4,5,6,7,8,9,10],[],[12],[],[14],[0,1,2,3,4,5,6,7,8,9,10,11,12,13,14,15],[],[17],[],[19],[0,1,2,3,4,5,6,7,8,9,10,11,12,13,14,15,16,17,18,19,20],[],[22],[],[24],[0,1,2,3,4,5,6,7,8,9,10,11,12,13,14,15,16,17,18,19,20,21,22,23,24,25],[],[27],[],[29],[0,1,2,3,4,5,6,7,8,9,10,11,12,13,14,15,16,17,18,19,20,21,22,23,24,25,26,27,28,29,30],[],[32],[],[34],[0,1,2,3,4,5,6,7,8,9,10,11,12,13,14,15,16,17,18,19,20,21,22,23,24,25,26,27,28,29,30,31,32,33,34,35],[0,1,2,3,4,5,6,7,8,9,10,11,12,13,14,15,16,17,18,19,20,21,22,23,24,25,26,27,28,29,30,31,32,33,34,35,36],[],[0,1,2,3,4,5,6,7,8,9,10,11,12,13,14,15,16,17,18,19,20,21,22,23,24,25,26,27,28,29,30,31,32,33,34,35,36,37,38]]⟩),(16,⟨[0,1,2,3,4,5,6,7,8,9,11],[[],[0],[],[0,1,2],[0,1,2,3],[],[5],[],[5,6,7],[5,6,7,8],[0,1,2,3,4,5,6,7,8,9],[0,1,2,3,4,5,6,7,8,9,10]]⟩)] }
def W44 (v0 v1:Value) (w:World) (K:Value → World → Prop):Prop:=
 boxW 84 v0 w fun t2 w1=>
 boxW 84 v1 w1 fun t3 w2=>
 LoopW [(.int .i64 0)] w2 fun s3 _ w4 L3=>
 fldW 0 t2 fun t11=>
 ldW false 1 t11 w4 fun t12=>
 lenlW t12 fun t13=>
 binW .lss (s3.getD 0 undef) t13 fun t14=>
 GdW (isB t14 true) [undef] w4 (fun J5=>
 fldW 0 t3 fun t17=>
 ldW false 1 t17 w4 fun t18=>
 lenlW t18 fun t19=>
 binW .lss (s3.getD 0 undef) t19 fun t20=>
 J5 [t20] w4)
 fun s5 _ w6=>
 pickW t14 (s5.getD 0 undef) (.bool false) fun t21=>
 condW t21 (
 fldW 0 t2 fun t24=>
 ldW false 1 t24 w6.drew fun t25=>
 ixaW none 1 t25 (s3.getD 0 undef) fun t27=>
 ldW false 1 t27 w6.drew fun t28=>
 fldW 0 t3 fun t29=>
 ldW false 1 t29 w6.drew fun t30=>
 ixaW none 1 t30 (s3.getD 0 undef) fun t32=>
 ldW false 1 t32 w6.drew fun t33=>
 callF Tryz.prog 96 [t28,t33] w6.drew fun t34 w7=>
 binW .neq t34 (.int .i64 0) fun t36=>
 condW t36 (
 K t34 w7) (
 binW .add (s3.getD 0 undef) (.int .i64 1) fun t23=>
 L3 [t23] w7)) (
 putW [(.int .i64 0),(.int .i64 0)] [] fun c8=>
 allocW 137 [(.int .i64 0),(.int .i64 0)] w6 fun t7 w9=>
 stW 2 t7 (.agg c8.toArray) w9 fun w10=>
 JoinW (fun J11=>
 fldW 6 t2 fun t39=>
 ldW false 1 t39 w10 fun t40=>
 condW t40 (
 ixaW (some 2) 1 t7 (.int .i64 0) fun t41=>
 stW 1 t41 (.int .i64 1) w10 fun w12=>
 J11 [] w12) (
 J11 [] w10))
 fun s11 _ w13=>
 JoinW (fun J14=>
 fldW 6 t3 fun t42=>
 ldW false 1 t42 w13 fun t43=>
 condW t43 (
 ixaW (some 2) 1 t7 (.int .i64 1) fun t44=>
 stW 1 t44 (.int .i64 1) w13 fun w15=>
 J14 [] w15) (
 J14 [] w13))
 fun s14 _ w16=>
 JoinW (fun J17=>
 fldW 0 t2 fun t45=>
 ldW false 1 t45 w16.drew fun t46=>
 lenlW t46 fun t47=>
 fldW 0 t3 fun t48=>
 ldW false 1 t48 w16.drew fun t49=>
 lenlW t49 fun t50=>
 fldW 1 t2 fun t52=>
 ldW false 1 t52 w16.drew fun t53=>
 fldW 1 t3 fun t54=>
 ldW false 1 t54 w16.drew fun t55=>
 fldW 2 t2 fun t57=>
 ldW false 1 t57 w16.drew fun t58=>
 fldW 2 t3 fun t59=>
 ldW false 1 t59 w16.drew fun t60=>
 fldW 3 t2 fun t62=>
 ldW false 1 t62 w16.drew fun t63=>
 fldW 3 t3 fun t64=>
 ldW false 1 t64 w16.drew fun t65=>
 fldW 4 t2 fun t67=>
 ldW false 1 t67 w16.drew fun t68=>
 fldW 4 t3 fun t69=>
 ldW false 1 t69 w16.drew fun t70=>
 fldW 5 t2 fun t72=>
 ldW false 1 t72 w16.drew fun t73=>
 fldW 5 t3 fun t74=>
 ldW false 1 t74 w16.drew fun t75=>
 ixaW (some 2) 1 t7 (.int .i64 0) fun t77=>
 ldW false 1 t77 w16.drew fun t78=>
 ixaW (some 2) 1 t7 (.int .i64 1) fun t79=>
 ldW false 1 t79 w16.drew fun t80=>
 (
 callF Tryz.prog 97 [t47,t50] w16.drew fun t51 w18=>
 (ldW false 1 t79 w18 fun x=>x = t80) ∧
 (ldW false 1 t77 w18 fun x=>x = t78) ∧
 (ldW false 1 t74 w18 fun x=>x = t75) ∧
 (ldW false 1 t72 w18 fun x=>x = t73) ∧
 (ldW false 1 t69 w18 fun x=>x = t70) ∧
 (ldW false 1 t67 w18 fun x=>x = t68) ∧
 (ldW false 1 t64 w18 fun x=>x = t65) ∧
 (ldW false 1 t62 w18 fun x=>x = t63) ∧
 (ldW false 1 t59 w18 fun x=>x = t60) ∧
 (ldW false 1 t57 w18 fun x=>x = t58) ∧
 (ldW false 1 t54 w18 fun x=>x = t55) ∧
 (ldW false 1 t52 w18 fun x=>x = t53) ∧
 (
 callF Tryz.prog 96 [t53,t55] w18 fun t56 w19=>
 (ldW false 1 t79 w19 fun x=>x = t80) ∧
 (ldW false 1 t77 w19 fun x=>x = t78) ∧
 (ldW false 1 t74 w19 fun x=>x = t75) ∧
 (ldW false 1 t72 w19 fun x=>x = t73) ∧
 (ldW false 1 t69 w19 fun x=>x = t70) ∧
 (ldW false 1 t67 w19 fun x=>x = t68) ∧
 (ldW false 1 t64 w19 fun x=>x = t65) ∧
 (ldW false 1 t62 w19 fun x=>x = t63) ∧
 (ldW false 1 t59 w19 fun x=>x = t60) ∧
 (ldW false 1 t57 w19 fun x=>x = t58) ∧
 (
 callF Tryz.prog 96 [t58,t60] w19 fun t61 w20=>
 (ldW false 1 t79 w20 fun x=>x = t80) ∧
 (ldW false 1 t77 w20 fun x=>x = t78) ∧
 (ldW false 1 t74 w20 fun x=>x = t75) ∧
 (ldW false 1 t72 w20 fun x=>x = t73) ∧
 (ldW false 1 t69 w20 fun x=>x = t70) ∧
 (ldW false 1 t67 w20 fun x=>x = t68) ∧
 (ldW false 1 t64 w20 fun x=>x = t65) ∧
 (ldW false 1 t62 w20 fun x=>x = t63) ∧
 (
 callF Tryz.prog 97 [t63,t65] w20 fun t66 w21=>
 (ldW false 1 t79 w21 fun x=>x = t80) ∧
 (ldW false 1 t77 w21 fun x=>x = t78) ∧
 (ldW false 1 t74 w21 fun x=>x = t75) ∧
 (ldW false 1 t72 w21 fun x=>x = t73) ∧
 (ldW false 1 t69 w21 fun x=>x = t70) ∧
 (ldW false 1 t67 w21 fun x=>x = t68) ∧
 (
 callF Tryz.prog 97 [t68,t70] w21 fun t71 w22=>
 (ldW false 1 t79 w22 fun x=>x = t80) ∧
 (ldW false 1 t77 w22 fun x=>x = t78) ∧
 (ldW false 1 t74 w22 fun x=>x = t75) ∧
 (ldW false 1 t72 w22 fun x=>x = t73) ∧
 (
 callF Tryz.prog 96 [t73,t75] w22 fun t76 w23=>
 (ldW false 1 t79 w23 fun x=>x = t80) ∧
 (ldW false 1 t77 w23 fun x=>x = t78) ∧
 (
 callF Tryz.prog 97 [t78,t80] w23 fun t81 w24=>
 putW [(.int .i64 0),(.int .i64 0),(.int .i64 0),(.int .i64 0),(.int .i64 0),(.int .i64 0),(.int .i64 0)] [(0,1,t51),(1,1,t56),(2,1,t61),(3,1,t66),(4,1,t71),(5,1,t76),(6,1,t81)] fun c25=>
 allocW 138 [(.int .i64 0),(.int .i64 0),(.int .i64 0),(.int .i64 0),(.int .i64 0),(.int .i64 0),(.int .i64 0)] w24 fun t8 w26=>
 stW 7 t8 (.agg c25.toArray) w26 fun w27=>
 J17 [t8] w27) ∧
 (
 allocW 138 [(.int .i64 0),(.int .i64 0),(.int .i64 0),(.int .i64 0),(.int .i64 0),(.int .i64 0),(.int .i64 0)] w23 fun t8 w28=>
 (ldW false 1 t79 w28 fun x=>x = t80) ∧
 (ldW false 1 t77 w28 fun x=>x = t78) ∧
 callF Tryz.prog 97 [t78,t80] w28 fun t81 w29=>
 putW [(.int .i64 0),(.int .i64 0),(.int .i64 0),(.int .i64 0),(.int .i64 0),(.int .i64 0),(.int .i64 0)] [(0,1,t51),(1,1,t56),(2,1,t61),(3,1,t66),(4,1,t71),(5,1,t76),(6,1,t81)] fun c30=>
 stW 7 t8 (.agg c30.toArray) w29 fun w31=>
 J17 [t8] w31)) ∧
 (
 allocW 138 [(.int .i64 0),(.int .i64 0),(.int .i64 0),(.int .i64 0),(.int .i64 0),(.int .i64 0),(.int .i64 0)] w22 fun t8 w32=>
 (ldW false 1 t79 w32 fun x=>x = t80) ∧
 (ldW false 1 t77 w32 fun x=>x = t78) ∧
 (ldW false 1 t74 w32 fun x=>x = t75) ∧
 (ldW false 1 t72 w32 fun x=>x = t73) ∧
 callF Tryz.prog 96 [t73,t75] w32 fun t76 w33=>
 (ldW false 1 t79 w33 fun x=>x = t80) ∧
 (ldW false 1 t77 w33 fun x=>x = t78) ∧
 callF Tryz.prog 97 [t78,t80] w33 fun t81 w34=>
 putW [(.int .i64 0),(.int .i64 0),(.int .i64 0),(.int .i64 0),(.int .i64 0),(.int .i64 0),(.int .i64 0)] [(0,1,t51),(1,1,t56),(2,1,t61),(3,1,t66),(4,1,t71),(5,1,t76),(6,1,t81)] fun c35=>
 stW 7 t8 (.agg c35.toArray) w34 fun w36=>
 J17 [t8] w36)) ∧
 (
 allocW 138 [(.int .i64 0),(.int .i64 0),(.int .i64 0),(.int .i64 0),(.int .i64 0),(.int .i64 0),(.int .i64 0)] w21 fun t8 w37=>
 (ldW false 1 t79 w37 fun x=>x = t80) ∧
 (ldW false 1 t77 w37 fun x=>x = t78) ∧
 (ldW false 1 t74 w37 fun x=>x = t75) ∧
 (ldW false 1 t72 w37 fun x=>x = t73) ∧
 (ldW false 1 t69 w37 fun x=>x = t70) ∧
 (ldW false 1 t67 w37 fun x=>x = t68) ∧
 callF Tryz.prog 97 [t68,t70] w37 fun t71 w38=>
 (ldW false 1 t79 w38 fun x=>x = t80) ∧
 (ldW false 1 t77 w38 fun x=>x = t78) ∧
 (ldW false 1 t74 w38 fun x=>x = t75) ∧
 (ldW false 1 t72 w38 fun x=>x = t73) ∧
 callF Tryz.prog 96 [t73,t75] w38 fun t76 w39=>
 (ldW false 1 t79 w39 fun x=>x = t80) ∧
 (ldW false 1 t77 w39 fun x=>x = t78) ∧
 callF Tryz.prog 97 [t78,t80] w39 fun t81 w40=>
 putW [(.int .i64 0),(.int .i64 0),(.int .i64 0),(.int .i64 0),(.int .i64 0),(.int .i64 0),(.int .i64 0)] [(0,1,t51),(1,1,t56),(2,1,t61),(3,1,t66),(4,1,t71),(5,1,t76),(6,1,t81)] fun c41=>
 stW 7 t8 (.agg c41.toArray) w40 fun w42=>
 J17 [t8] w42)) ∧
 (
 allocW 138 [(.int .i64 0),(.int .i64 0),(.int .i64 0),(.int .i64 0),(.int .i64 0),(.int .i64 0),(.int .i64 0)] w20 fun t8 w43=>
 (ldW false 1 t79 w43 fun x=>x = t80) ∧
 (ldW false 1 t77 w43 fun x=>x = t78) ∧
 (ldW false 1 t74 w43 fun x=>x = t75) ∧
 (ldW false 1 t72 w43 fun x=>x = t73) ∧
 (ldW false 1 t69 w43 fun x=>x = t70) ∧
 (ldW false 1 t67 w43 fun x=>x = t68) ∧
 (ldW false 1 t64 w43 fun x=>x = t65) ∧
 (ldW false 1 t62 w43 fun x=>x = t63) ∧
 callF Tryz.prog 97 [t63,t65] w43 fun t66 w44=>
 (ldW false 1 t79 w44 fun x=>x = t80) ∧
 (ldW false 1 t77 w44 fun x=>x = t78) ∧
 (ldW false 1 t74 w44 fun x=>x = t75) ∧
 (ldW false 1 t72 w44 fun x=>x = t73) ∧
 (ldW false 1 t69 w44 fun x=>x = t70) ∧
 (ldW false 1 t67 w44 fun x=>x = t68) ∧
 callF Tryz.prog 97 [t68,t70] w44 fun t71 w45=>
 (ldW false 1 t79 w45 fun x=>x = t80) ∧
 (ldW false 1 t77 w45 fun x=>x = t78) ∧
 (ldW false 1 t74 w45 fun x=>x = t75) ∧
 (ldW false 1 t72 w45 fun x=>x = t73) ∧
 callF Tryz.prog 96 [t73,t75] w45 fun t76 w46=>
 (ldW false 1 t79 w46 fun x=>x = t80) ∧
 (ldW false 1 t77 w46 fun x=>x = t78) ∧
 callF Tryz.prog 97 [t78,t80] w46 fun t81 w47=>
 putW [(.int .i64 0),(.int .i64 0),(.int .i64 0),(.int .i64 0),(.int .i64 0),(.int .i64 0),(.int .i64 0)] [(0,1,t51),(1,1,t56),(2,1,t61),(3,1,t66),(4,1,t71),(5,1,t76),(6,1,t81)] fun c48=>
 stW 7 t8 (.agg c48.toArray) w47 fun w49=>
 J17 [t8] w49)) ∧
 (
 allocW 138 [(.int .i64 0),(.int .i64 0),(.int .i64 0),(.int .i64 0),(.int .i64 0),(.int .i64 0),(.int .i64 0)] w19 fun t8 w50=>
 (ldW false 1 t79 w50 fun x=>x = t80) ∧
 (ldW false 1 t77 w50 fun x=>x = t78) ∧
 (ldW false 1 t74 w50 fun x=>x = t75) ∧
 (ldW false 1 t72 w50 fun x=>x = t73) ∧
 (ldW false 1 t69 w50 fun x=>x = t70) ∧
 (ldW false 1 t67 w50 fun x=>x = t68) ∧
 (ldW false 1 t64 w50 fun x=>x = t65) ∧
 (ldW false 1 t62 w50 fun x=>x = t63) ∧
 (ldW false 1 t59 w50 fun x=>x = t60) ∧
 (ldW false 1 t57 w50 fun x=>x = t58) ∧
 callF Tryz.prog 96 [t58,t60] w50 fun t61 w51=>
 (ldW false 1 t79 w51 fun x=>x = t80) ∧
 (ldW false 1 t77 w51 fun x=>x = t78) ∧
 (ldW false 1 t74 w51 fun x=>x = t75) ∧
 (ldW false 1 t72 w51 fun x=>x = t73) ∧
 (ldW false 1 t69 w51 fun x=>x = t70) ∧
 (ldW false 1 t67 w51 fun x=>x = t68) ∧
 (ldW false 1 t64 w51 fun x=>x = t65) ∧
 (ldW false 1 t62 w51 fun x=>x = t63) ∧
 callF Tryz.prog 97 [t63,t65] w51 fun t66 w52=>
 (ldW false 1 t79 w52 fun x=>x = t80) ∧
 (ldW false 1 t77 w52 fun x=>x = t78) ∧
 (ldW false 1 t74 w52 fun x=>x = t75) ∧
 (ldW false 1 t72 w52 fun x=>x = t73) ∧
 (ldW false 1 t69 w52 fun x=>x = t70) ∧
 (ldW false 1 t67 w52 fun x=>x = t68) ∧
 callF Tryz.prog 97 [t68,t70] w52 fun t71 w53=>
 (ldW false 1 t79 w53 fun x=>x = t80) ∧
 (ldW false 1 t77 w53 fun x=>x = t78) ∧
 (ldW false 1 t74 w53 fun x=>x = t75) ∧
 (ldW false 1 t72 w53 fun x=>x = t73) ∧
 callF Tryz.prog 96 [t73,t75] w53 fun t76 w54=>
 (ldW false 1 t79 w54 fun x=>x = t80) ∧
 (ldW false 1 t77 w54 fun x=>x = t78) ∧
 callF Tryz.prog 97 [t78,t80] w54 fun t81 w55=>
 putW [(.int .i64 0),(.int .i64 0),(.int .i64 0),(.int .i64 0),(.int .i64 0),(.int .i64 0),(.int .i64 0)] [(0,1,t51),(1,1,t56),(2,1,t61),(3,1,t66),(4,1,t71),(5,1,t76),(6,1,t81)] fun c56=>
 stW 7 t8 (.agg c56.toArray) w55 fun w57=>
 J17 [t8] w57)) ∧
 (
 allocW 138 [(.int .i64 0),(.int .i64 0),(.int .i64 0),(.int .i64 0),(.int .i64 0),(.int .i64 0),(.int .i64 0)] w18 fun t8 w58=>
 (ldW false 1 t79 w58 fun x=>x = t80) ∧
 (ldW false 1 t77 w58 fun x=>x = t78) ∧
 (ldW false 1 t74 w58 fun x=>x = t75) ∧
 (ldW false 1 t72 w58 fun x=>x = t73) ∧
 (ldW false 1 t69 w58 fun x=>x = t70) ∧
 (ldW false 1 t67 w58 fun x=>x = t68) ∧
 (ldW false 1 t64 w58 fun x=>x = t65) ∧
 (ldW false 1 t62 w58 fun x=>x = t63) ∧
 (ldW false 1 t59 w58 fun x=>x = t60) ∧
 (ldW false 1 t57 w58 fun x=>x = t58) ∧
 (ldW false 1 t54 w58 fun x=>x = t55) ∧
 (ldW false 1 t52 w58 fun x=>x = t53) ∧
 callF Tryz.prog 96 [t53,t55] w58 fun t56 w59=>
 (ldW false 1 t79 w59 fun x=>x = t80) ∧
 (ldW false 1 t77 w59 fun x=>x = t78) ∧
 (ldW false 1 t74 w59 fun x=>x = t75) ∧
 (ldW false 1 t72 w59 fun x=>x = t73) ∧
 (ldW false 1 t69 w59 fun x=>x = t70) ∧
 (ldW false 1 t67 w59 fun x=>x = t68) ∧
 (ldW false 1 t64 w59 fun x=>x = t65) ∧
 (ldW false 1 t62 w59 fun x=>x = t63) ∧
 (ldW false 1 t59 w59 fun x=>x = t60) ∧
 (ldW false 1 t57 w59 fun x=>x = t58) ∧
 callF Tryz.prog 96 [t58,t60] w59 fun t61 w60=>
 (ldW false 1 t79 w60 fun x=>x = t80) ∧
 (ldW false 1 t77 w60 fun x=>x = t78) ∧
 (ldW false 1 t74 w60 fun x=>x = t75) ∧
 (ldW false 1 t72 w60 fun x=>x = t73) ∧
 (ldW false 1 t69 w60 fun x=>x = t70) ∧
 (ldW false 1 t67 w60 fun x=>x = t68) ∧
 (ldW false 1 t64 w60 fun x=>x = t65) ∧
 (ldW false 1 t62 w60 fun x=>x = t63) ∧
 callF Tryz.prog 97 [t63,t65] w60 fun t66 w61=>
 (ldW false 1 t79 w61 fun x=>x = t80) ∧
 (ldW false 1 t77 w61 fun x=>x = t78) ∧
 (ldW false 1 t74 w61 fun x=>x = t75) ∧
 (ldW false 1 t72 w61 fun x=>x = t73) ∧
 (ldW false 1 t69 w61 fun x=>x = t70) ∧
 (ldW false 1 t67 w61 fun x=>x = t68) ∧
 callF Tryz.prog 97 [t68,t70] w61 fun t71 w62=>
 (ldW false 1 t79 w62 fun x=>x = t80) ∧
 (ldW false 1 t77 w62 fun x=>x = t78) ∧
 (ldW false 1 t74 w62 fun x=>x = t75) ∧
 (ldW false 1 t72 w62 fun x=>x = t73) ∧
 callF Tryz.prog 96 [t73,t75] w62 fun t76 w63=>
 (ldW false 1 t79 w63 fun x=>x = t80) ∧
 (ldW false 1 t77 w63 fun x=>x = t78) ∧
 callF Tryz.prog 97 [t78,t80] w63 fun t81 w64=>
 putW [(.int .i64 0),(.int .i64 0),(.int .i64 0),(.int .i64 0),(.int .i64 0),(.int .i64 0),(.int .i64 0)] [(0,1,t51),(1,1,t56),(2,1,t61),(3,1,t66),(4,1,t71),(5,1,t76),(6,1,t81)] fun c65=>
 stW 7 t8 (.agg c65.toArray) w64 fun w66=>
 J17 [t8] w66)) ∧
 (
 allocW 138 [(.int .i64 0),(.int .i64 0),(.int .i64 0),(.int .i64 0),(.int .i64 0),(.int .i64 0),(.int .i64 0)] w16.drew fun t8 w67=>
 (ldW false 1 t79 w67 fun x=>x = t80) ∧
 (ldW false 1 t77 w67 fun x=>x = t78) ∧
 (ldW false 1 t74 w67 fun x=>x = t75) ∧
 (ldW false 1 t72 w67 fun x=>x = t73) ∧
 (ldW false 1 t69 w67 fun x=>x = t70) ∧
 (ldW false 1 t67 w67 fun x=>x = t68) ∧
 (ldW false 1 t64 w67 fun x=>x = t65) ∧
 (ldW false 1 t62 w67 fun x=>x = t63) ∧
 (ldW false 1 t59 w67 fun x=>x = t60) ∧
 (ldW false 1 t57 w67 fun x=>x = t58) ∧
 (ldW false 1 t54 w67 fun x=>x = t55) ∧
 (ldW false 1 t52 w67 fun x=>x = t53) ∧
 (ldW false 1 t48 w67 fun x=>x = t49) ∧
 (ldW false 1 t45 w67 fun x=>x = t46) ∧
 callF Tryz.prog 97 [t47,t50] w67 fun t51 w68=>
 (ldW false 1 t79 w68 fun x=>x = t80) ∧
 (ldW false 1 t77 w68 fun x=>x = t78) ∧
 (ldW false 1 t74 w68 fun x=>x = t75) ∧
 (ldW false 1 t72 w68 fun x=>x = t73) ∧
 (ldW false 1 t69 w68 fun x=>x = t70) ∧
 (ldW false 1 t67 w68 fun x=>x = t68) ∧
 (ldW false 1 t64 w68 fun x=>x = t65) ∧
 (ldW false 1 t62 w68 fun x=>x = t63) ∧
 (ldW false 1 t59 w68 fun x=>x = t60) ∧
 (ldW false 1 t57 w68 fun x=>x = t58) ∧
 (ldW false 1 t54 w68 fun x=>x = t55) ∧
 (ldW false 1 t52 w68 fun x=>x = t53) ∧
 callF Tryz.prog 96 [t53,t55] w68 fun t56 w69=>
 (ldW false 1 t79 w69 fun x=>x = t80) ∧
 (ldW false 1 t77 w69 fun x=>x = t78) ∧
 (ldW false 1 t74 w69 fun x=>x = t75) ∧
 (ldW false 1 t72 w69 fun x=>x = t73) ∧
 (ldW false 1 t69 w69 fun x=>x = t70) ∧
 (ldW false 1 t67 w69 fun x=>x = t68) ∧
 (ldW false 1 t64 w69 fun x=>x = t65) ∧
 (ldW false 1 t62 w69 fun x=>x = t63) ∧
 (ldW false 1 t59 w69 fun x=>x = t60) ∧
 (ldW false 1 t57 w69 fun x=>x = t58) ∧
 callF Tryz.prog 96 [t58,t60] w69 fun t61 w70=>
 (ldW false 1 t79 w70 fun x=>x = t80) ∧
 (ldW false 1 t77 w70 fun x=>x = t78) ∧
 (ldW false 1 t74 w70 fun x=>x = t75) ∧
 (ldW false 1 t72 w70 fun x=>x = t73) ∧
 (ldW false 1 t69 w70 fun x=>x = t70) ∧
 (ldW false 1 t67 w70 fun x=>x = t68) ∧
 (ldW false 1 t64 w70 fun x=>x = t65) ∧
 (ldW false 1 t62 w70 fun x=>x = t63) ∧
 callF Tryz.prog 97 [t63,t65] w70 fun t66 w71=>
 (ldW false 1 t79 w71 fun x=>x = t80) ∧
 (ldW false 1 t77 w71 fun x=>x = t78) ∧
 (ldW false 1 t74 w71 fun x=>x = t75) ∧
 (ldW false 1 t72 w71 fun x=>x = t73) ∧
 (ldW false 1 t69 w71 fun x=>x = t70) ∧
 (ldW false 1 t67 w71 fun x=>x = t68) ∧
 callF Tryz.prog 97 [t68,t70] w71 fun t71 w72=>
 (ldW false 1 t79 w72 fun x=>x = t80) ∧
 (ldW false 1 t77 w72 fun x=>x = t78) ∧
 (ldW false 1 t74 w72 fun x=>x = t75) ∧
 (ldW false 1 t72 w72 fun x=>x = t73) ∧
 callF Tryz.prog 96 [t73,t75] w72 fun t76 w73=>
 (ldW false 1 t79 w73 fun x=>x = t80) ∧
 (ldW false 1 t77 w73 fun x=>x = t78) ∧
 callF Tryz.prog 97 [t78,t80] w73 fun t81 w74=>
 putW [(.int .i64 0),(.int .i64 0),(.int .i64 0),(.int .i64 0),(.int .i64 0),(.int .i64 0),(.int .i64 0)] [(0,1,t51),(1,1,t56),(2,1,t61),(3,1,t66),(4,1,t71),(5,1,t76),(6,1,t81)] fun c75=>
 stW 7 t8 (.agg c75.toArray) w74 fun w76=>
 J17 [t8] w76))
 fun s17 _ w77=>
 LoopW [(.int .i64 0)] w77 fun s78 _ w79 L78=>
 binW .lss (s78.getD 0 undef) (.int .i64 7) fun t84=>
 condW t84 (
 ixaW (some 7) 1 (s17.getD 0 undef) (s78.getD 0 undef) fun t88=>
 ldW false 1 t88 w79 fun t89=>
 binW .neq t89 (.int .i64 0) fun t90=>
 condW t90 (
 ixaW (some 7) 1 (s17.getD 0 undef) (s78.getD 0 undef) fun t92=>
 ldW false 1 t92 w79 fun t93=>
 K t93 w79) (
 binW .add (s78.getD 0 undef) (.int .i64 1) fun t86=>
 L78 [t86] w79)) (
 K (.int .i64 0) w79))
theorem W44_ok {v0 v1:Value} {w:World} {K:Value → World → Prop} (h:W44 v0 v1 w K):callF Tryz.prog 44 [v0,v1] w K:=
 tie _ 44 Tryz.f44 plan44 _ w K 2 _ rfl mixed Tryz.func44 (by kernel_rfl) (by kernel_rfl) Tryz.call44 h
def plan19:Plan:={ js:=[(39,⟨[9,37],[9,11,12,13],37⟩),(8,⟨[4,16],[2,3,4,6,7,8],16⟩)],ds:=[] }
def W19 (v0:Value) (w:World) (K:Value → World → Prop):Prop:=
 lenlW v0 fun t15=>
 LoopW [(.slice none 0 0),(.int .i64 0)] w fun s1 _ w2 L1=>
 binW .lss (s1.getD 1 undef) t15 fun t17=>
 condW t17 (
 ixaW none 1 v0 (s1.getD 1 undef) fun t18=>
 ldW false 1 t18 w2 fun t19=>
 callF Tryz.prog 39 [t19] w2 fun t22 w3=>
 extW 0 t22 fun t23=>
 extW 1 t22 fun t24=>
 allocW 76 [(.slice none 0 0),(.string (ofL [])),(.string (ofL [])),(.int .i64 0),(.int .i64 0),(.string (ofL [])),(.bool false)] w3 fun t7 w4=>
 stW 7 t7 t23 w4 fun w5=>
 binW .neq t24 (.int .i64 0) fun t26=>
 condW t26 (
 K (.tuple #[(.slice none 0 0),t24]) w5) (
 ldW true 7 t7 w5 fun t29=>
 bslW 76 1 [(.slice none 0 0),(.string (ofL [])),(.string (ofL [])),(.int .i64 0),(.int .i64 0),(.string (ofL [])),(.bool false)] [(0,7,t29)] w5 fun t30 w6=>
 semE Tryz.prog (Builtin.append_ #[79,79] 79 #[(s1.getD 0 undef),t30]) w6 fun t31 w7=>
 binW .add (s1.getD 1 undef) (.int .i64 1) fun t32=>
 L1 [t31,t32] w7)) (
 callF Tryz.prog 40 [(s1.getD 0 undef),(.func (.func 41) #[] #[])] w2 fun t34 w8=>
 lenlW (s1.getD 0 undef) fun t36=>
 LoopW [(.slice none 0 0),(.int .i64 0)] w8 fun s9 _ w10 L9=>
 binW .lss (s9.getD 1 undef) t36 fun t38=>
 condW t38 (
 ixaW none 7 (s1.getD 0 undef) (s9.getD 1 undef) fun t39=>
 ldW true 7 t39 w10 fun t40=>
 allocW 76 [(.slice none 0 0),(.string (ofL [])),(.string (ofL [])),(.int .i64 0),(.int .i64 0),(.string (ofL [])),(.bool false)] w10 fun t11 w11=>
 stW 7 t11 t40 w11 fun w12=>
 ldW true 7 t11 w12 fun t42=>
 callF Tryz.prog 42 [t42] w12 fun t43 w13=>
 extW 0 t43 fun t44=>
 extW 1 t43 fun t45=>
 bslW 9 1 [(.string (ofL []))] [(0,1,t44)] w13 fun t48 w14=>
 semE Tryz.prog (Builtin.append_ #[38,38] 38 #[(s9.getD 0 undef),t48]) w14 fun t49 w15=>
 binW .add (s9.getD 1 undef) (.int .i64 1) fun t50=>
 L9 [t49,t50] w15) (
 K (.tuple #[(s9.getD 0 undef),(.int .i64 0)]) w10))
theorem W19_ok {v0:Value} {w:World} {K:Value → World → Prop} (h:W19 v0 w K):callF Tryz.prog 19 [v0] w K:=
 tie _ 19 Tryz.f19 plan19 _ w K 1 _ rfl mixed Tryz.func19 (by kernel_rfl) (by kernel_rfl) Tryz.call19 h
def plan86:Plan:={ js:=[(37005,⟨[46],[],44⟩),(30003,⟨[39],[],30⟩),(30004,⟨[38],[],33⟩),(30006,⟨[37],[],36⟩),(30009,⟨[35],[],33⟩),(30012,⟨[32],[],30⟩),(17,⟨[11],[],7⟩),(23004,⟨[22],[],21⟩),(19004,⟨[16],[],15⟩),(6,⟨[],[2,3,4],7⟩)],ds:=[] }
def W86 (v0:Value) (w:World) (K:Value → World → Prop):Prop:=
 semE Tryz.prog (Instr.range 9 v0) w fun t6 w1=>
 LoopW [] w1 fun s2 _ w3 L2=>
 semE Tryz.prog (Instr.next t6 true 0) w3 fun t7 w4=>
 extW 0 t7 fun t8=>
 condW t8 (
 extW 1 t7 fun t9=>
 extW 2 t7 fun t10=>
 JoinW (fun J5=>
 binW .geq t10 (.int .i32 97) fun t13=>
 GdW (isB t13 true) [undef] w4 (fun J6=>
 binW .leq t10 (.int .i32 122) fun t16=>
 J6 [t16] w4)
 fun s6 _ w7=>
 pickW t13 (s6.getD 0 undef) (.bool false) fun t17=>
 condW t17 (
 J5 [t17] w7) (
 binW .geq t10 (.int .i32 65) fun t19=>
 GdW (isB t19 true) [undef] w7 (fun J8=>
 binW .leq t10 (.int .i32 90) fun t22=>
 J8 [t22] w7)
 fun s8 _ w9=>
 pickW t19 (s8.getD 0 undef) (.bool false) fun t23=>
 condW t23 (
 J5 [t23] w9) (
 binW .eql t10 (.int .i32 95) fun t25=>
 J5 [t25] w9)))
 fun s5 _ w10=>
 condW (s5.getD 0 undef) (
 L2 [] w10) (
 binW .gtr t9 (.int .i64 0) fun t28=>
 GdW (isB t28 true) [undef] w10 (fun J11=>
 binW .eql t10 (.int .i32 45) fun t31=>
 J11 [t31] w10)
 fun s11 _ w12=>
 GdW (isB (s11.getD 0 undef) false) [undef] w12 (fun J13=>
 binW .geq t10 (.int .i32 48) fun t34=>
 J13 [t34] w12)
 fun s13 _ w14=>
 GdW (isB (s13.getD 0 undef) true) [undef] w14 (fun J15=>
 binW .leq t10 (.int .i32 57) fun t37=>
 J15 [t37] w14)
 fun s15 _ w16=>
 GdW (isB (s11.getD 0 undef) false) [undef] w16 (fun J17=>
 pickW (s13.getD 0 undef) (s15.getD 0 undef) (.bool false) fun t38=>
 J17 [t38] w16)
 fun s17 _ w18=>
 GdW (isB t28 true) [undef] w18 (fun J19=>
 pickW (s11.getD 0 undef) (.bool true) (s17.getD 0 undef) fun t39=>
 J19 [t39] w18)
 fun s19 _ w20=>
 pickW t28 (s19.getD 0 undef) (.bool false) fun t40=>
 condW t40 (
 L2 [] w20) (
 K (.bool false) w20))) (
 binW .neq v0 (.string (ofL [])) fun t42=>
 GdW (isB t42 true) [undef] w4 (fun J21=>
 lensW v0 fun t45=>
 binW .leq t45 (.int .i64 32) fun t46=>
 J21 [t46] w4)
 fun s21 _ w22=>
 pickW t42 (s21.getD 0 undef) (.bool false) fun t47=>
 K t47 w22)
theorem W86_ok {v0:Value} {w:World} {K:Value → World → Prop} (h:W86 v0 w K):callF Tryz.prog 86 [v0] w K:=
 tie _ 86 Tryz.f86 plan86 _ w K 1 _ rfl mixed Tryz.func86 (by kernel_rfl) (by kernel_rfl) Tryz.call86 h
def plan88:Plan:={ js:=[],ds:=[] }
def W88 (v0:Value) (w:World) (K:Value → World → Prop):Prop:=
 callF Tryz.prog 86 [v0] w fun t4 w1=>
 unW .not t4 fun t5=>
 K t5 w1
theorem W88_ok {v0:Value} {w:World} {K:Value → World → Prop} (h:W88 v0 w K):callF Tryz.prog 88 [v0] w K:=
 tie _ 88 Tryz.f88 plan88 _ w K 1 _ rfl mixed Tryz.func88 (by kernel_rfl) (by kernel_rfl) Tryz.call88 h
def plan156:Plan:={ js:=[(24005,⟨[40],[],37⟩),(24012,⟨[34],[],30⟩),(14,⟨[3],[],1⟩),(4005,⟨[16],[],13⟩),(4010,⟨[10],[],8⟩)],ds:=[] }
def W156 (v0:Value) (w:World) (K:Value → World → Prop):Prop:=
 lensW v0 fun t5=>
 binW .eql t5 (.int .i64 0) fun t6=>
 GdW (isB t6 false) [undef] w (fun J1=>
 lensW v0 fun t9=>
 binW .gtr t9 (.int .i64 32) fun t10=>
 J1 [t10] w)
 fun s1 _ w2=>
 pickW t6 (.bool true) (s1.getD 0 undef) fun t11=>
 GdW (isB t11 false) [undef] w2 (fun J3=>
 ixsW v0 (.int .i64 0) fun t14=>
 callF Tryz.prog 207 [t14] w2 fun t15 w4=>
 unW .not t15 fun t16=>
 J3 [t16] w4)
 fun s3 _ w5=>
 pickW t11 (.bool true) (s3.getD 0 undef) fun t17=>
 condW t17 (
 K (.bool false) w5) (
 LoopW [(.int .i64 0)] w5 fun s6 _ w7 L6=>
 lensW v0 fun t20=>
 binW .lss (s6.getD 0 undef) t20 fun t21=>
 condW t21 (
 ixsW v0 (s6.getD 0 undef) fun t26=>
 callF Tryz.prog 207 [t26] w7 fun t27 w8=>
 unW .not t27 fun t28=>
 GdW (isB t28 true) [undef] w8 (fun J9=>
 ixsW v0 (s6.getD 0 undef) fun t32=>
 callF Tryz.prog 208 [t32] w8 fun t33 w10=>
 unW .not t33 fun t34=>
 J9 [t34] w10)
 fun s9 _ w11=>
 pickW t28 (s9.getD 0 undef) (.bool false) fun t35=>
 GdW (isB t35 true) [undef] w11 (fun J12=>
 ixsW v0 (s6.getD 0 undef) fun t39=>
 binW .neq t39 (.int .u8 45) fun t40=>
 J12 [t40] w11)
 fun s12 _ w13=>
 pickW t35 (s12.getD 0 undef) (.bool false) fun t41=>
 condW t41 (
 K (.bool false) w13) (
 binW .add (s6.getD 0 undef) (.int .i64 1) fun t23=>
 L6 [t23] w13)) (
 K (.bool true) w7))
theorem W156_ok {v0:Value} {w:World} {K:Value → World → Prop} (h:W156 v0 w K):callF Tryz.prog 156 [v0] w K:=
 tie _ 156 Tryz.f156 plan156 _ w K 1 _ rfl mixed Tryz.func156 (by kernel_rfl) (by kernel_rfl) Tryz.call156 h
def plan77:Plan:={ js:=[],ds:=[(30,⟨[0,1,2,4],[[],[0],[],[2],[0,1,2,3],[0,1,2,3,4]]⟩),(24,⟨[0,1,2,4],[[],[],[1],[0],[0,1,2,3]]⟩)] }
def W77 (v0 v1:Value) (w:World) (K:Value → World → Prop):Prop:=
 boxW 76 v0 w fun t2 w1=>
 allocW 76 [(.slice none 0 0),(.string (ofL [])),(.string (ofL [])),(.int .i64 0),(.int .i64 0),(.string (ofL [])),(.bool false)] w1 fun t4 w2=>
 callF Tryz.prog 27 [v1] w2 fun t12 w3=>
 extW 0 t12 fun t13=>
 extW 1 t12 fun t14=>
 allocW 40 [(.int .i64 0),(.bool false),(.string (ofL [])),(.slice none 0 0),(.slice none 0 0)] w3 fun t6 w4=>
 stW 5 t6 t13 w4 fun w5=>
 eqW .ptr true t14 (.pointer none) fun t16=>
 condW t16 (
 ldW true 7 t2 w5 fun t17=>
 stW 7 t4 t17 w5 fun w6=>
 ldW true 7 t4 w6 fun r7=>
 K (.tuple #[r7,(.bool false)]) w6) (
 fldW 0 t6 fun t18=>
 ldW false 1 t18 w5 fun t19=>
 binW .eql t19 (.int .i64 3) fun t21=>
 condW t21 (
 fldW 2 t6 fun t23=>
 ldW false 1 t23 w5 fun t24=>
 callF Tryz.prog 61 [t24] w5 fun t25 w8=>
 extW 0 t25 fun t26=>
 extW 1 t25 fun t27=>
 fldW 3 t2 fun t29=>
 stW 1 t29 (.int .i64 1) w8 fun w9=>
 fldW 4 t2 fun t30=>
 stW 1 t30 t26 w9 fun w10=>
 ldW true 7 t2 w10.drew fun t31=>
 eqQ Tryz.prog .eql 103 false true t27 .nilIface w10.drew fun t33=>
 stW 7 t4 t31 w10.drew fun w11=>
 (eqQ Tryz.prog .eql 103 false true t27 .nilIface w11 fun x=>x = t33) ∧
 ldW true 7 t4 w11 fun r12=>
 K (.tuple #[r12,t33]) w11) (
 binW .eql t19 (.int .i64 4) fun t35=>
 condW t35 (
 fldW 2 t6 fun t36=>
 ldW false 1 t36 w5.drew fun t37=>
 fldW 3 t2 fun t38=>
 stW 1 t38 (.int .i64 2) w5.drew fun w13=>
 (ldW false 1 t36 w13 fun x=>x = t37) ∧
 fldW 5 t2 fun t39=>
 stW 1 t39 t37 w13 fun w14=>
 ldW true 7 t2 w14 fun t40=>
 stW 7 t4 t40 w14 fun w15=>
 ldW true 7 t4 w15 fun r16=>
 K (.tuple #[r16,(.bool true)]) w15) (
 ldW true 7 t2 w5 fun t41=>
 stW 7 t4 t41 w5 fun w17=>
 ldW true 7 t4 w17 fun r18=>
 K (.tuple #[r18,(.bool false)]) w17)))
theorem W77_ok {v0 v1:Value} {w:World} {K:Value → World → Prop} (h:W77 v0 v1 w K):callF Tryz.prog 77 [v0,v1] w K:=
 tie _ 77 Tryz.f77 plan77 _ w K 2 _ rfl mixed Tryz.func77 (by kernel_rfl) (by kernel_rfl) Tryz.call77 h
def plan92:Plan:={ js:=[(16006,⟨[24],[],20⟩),(6,⟨[7],[],3⟩)],ds:=[] }
def W92 (v0 v1 v2:Value) (w:World) (K:Value → World → Prop):Prop:=
 LoopW [(.int .i64 0)] w fun s1 _ w2 L1=>
 lensW v0 fun t10=>
 binW .lss (s1.getD 0 undef) t10 fun t11=>
 condW t11 (
 ixsW v0 (s1.getD 0 undef) fun t16=>
 binW .eql t16 v1 fun t18=>
 GdW (isB t18 false) [undef] w2 (fun J3=>
 ixsW v0 (s1.getD 0 undef) fun t22=>
 binW .eql t22 v2 fun t24=>
 J3 [t24] w2)
 fun s3 _ w4=>
 pickW t18 (.bool true) (s3.getD 0 undef) fun t25=>
 condW t25 (
 slsW v0 none (some (s1.getD 0 undef)) fun t28=>
 K t28 w4) (
 binW .add (s1.getD 0 undef) (.int .i64 1) fun t13=>
 L1 [t13] w4)) (
 K v0 w2)
theorem W92_ok {v0 v1 v2:Value} {w:World} {K:Value → World → Prop} (h:W92 v0 v1 v2 w K):callF Tryz.prog 92 [v0,v1,v2] w K:=
 tie _ 92 Tryz.f92 plan92 _ w K 3 _ rfl mixed Tryz.func92 (by kernel_rfl) (by kernel_rfl) Tryz.call92 h
def plan94:Plan:={ js:=[(23,⟨[4],[4],6⟩),(33,⟨[6],[],6⟩),(16,⟨[4,5],[],1⟩),(4004,⟨[18],[],16⟩),(4009,⟨[13],[],11⟩)],ds:=[] }
def W94 (v0:Value) (w:World) (K:Value → World → Prop):Prop:=
 callF Tryz.prog 153 [v0] w fun t8 w1=>
 unW .not t8 fun t9=>
 GdW (isB t9 false) [undef] w1 (fun J2=>
 callF Tryz.prog 154 [v0,(.string (ofL [57,50,50,51,51,55,50,48,51,54,56,53,52,55,55,53,56,48,55]))] w1 fun t12 w3=>
 binW .gtr t12 (.int .i64 0) fun t13=>
 J2 [t13] w3)
 fun s2 _ w4=>
 pickW t9 (.bool true) (s2.getD 0 undef) fun t14=>
 GdW (isB t14 false) [undef] w4 (fun J5=>
 callF Tryz.prog 154 [v0,(.string (ofL [45,57,50,50,51,51,55,50,48,51,54,56,53,52,55,55,53,56,48,56]))] w4 fun t17 w6=>
 binW .lss t17 (.int .i64 0) fun t18=>
 J5 [t18] w6)
 fun s5 _ w7=>
 pickW t14 (.bool true) (s5.getD 0 undef) fun t19=>
 condW t19 (
 K (.tuple #[(.int .i64 0),(.bool false)]) w7) (
 LoopW [(.int .i64 0),(.int .i64 0)] w7 fun s8 _ w9 L8=>
 lensW v0 fun t22=>
 binW .lss (s8.getD 1 undef) t22 fun t23=>
 condW t23 (
 JoinW (fun J10=>
 ixsW v0 (s8.getD 1 undef) fun t28=>
 binW .eql t28 (.int .u8 45) fun t29=>
 condW t29 (
 J10 [(s8.getD 0 undef)] w9) (
 ixsW v0 (s8.getD 1 undef) fun t32=>
 binW .sub t32 (.int .u8 48) fun t33=>
 cvtW .i64 t33 fun t34=>
 JoinW (fun J11=>
 callF Tryz.prog 155 [v0] w9 fun t36 w12=>
 condW t36 (
 unW .neg t34 fun t38=>
 J11 [t38] w12) (
 J11 [t34] w12))
 fun s11 _ w13=>
 binW .mul (.int .i64 10) (s8.getD 0 undef) fun t40=>
 binW .add t40 (s11.getD 0 undef) fun t42=>
 J10 [t42] w13))
 fun s10 _ w14=>
 binW .add (s8.getD 1 undef) (.int .i64 1) fun t25=>
 L8 [(s10.getD 0 undef),t25] w14) (
 K (.tuple #[(s8.getD 0 undef),(.bool true)]) w9))
theorem W94_ok {v0:Value} {w:World} {K:Value → World → Prop} (h:W94 v0 w K):callF Tryz.prog 94 [v0] w K:=
 tie _ 94 Tryz.f94 plan94 _ w K 1 _ rfl mixed Tryz.func94 (by kernel_rfl) (by kernel_rfl) Tryz.call94 h
def plan85:Plan:={ js:=[],ds:=[] }
def W85 (v0:Value) (w:World) (K:Value → World → Prop):Prop:=
 condW v0 (
 K (.int .i64 1) w) (
 K (.int .i64 0) w)
theorem W85_ok {v0:Value} {w:World} {K:Value → World → Prop} (h:W85 v0 w K):callF Tryz.prog 85 [v0] w K:=
 tie _ 85 Tryz.f85 plan85 _ w K 1 _ rfl mixed Tryz.func85 (by kernel_rfl) (by kernel_rfl) Tryz.call85 h
def plan96:Plan:={ js:=[],ds:=[] }
def W96 (v0 v1:Value) (w:World) (K:Value → World → Prop):Prop:=
 binW .lss v0 v1 fun t7=>
 condW t7 (
 K (.int .i64 (-1)) w) (
 binW .gtr v0 v1 fun t10=>
 condW t10 (
 K (.int .i64 1) w) (
 K (.int .i64 0) w))
theorem W96_ok {v0 v1:Value} {w:World} {K:Value → World → Prop} (h:W96 v0 v1 w K):callF Tryz.prog 96 [v0,v1] w K:=
 tie _ 96 Tryz.f96 plan96 _ w K 2 _ rfl mixed Tryz.func96 (by kernel_rfl) (by kernel_rfl) Tryz.call96 h
def plan97:Plan:={ js:=[],ds:=[] }
def W97 (v0 v1:Value) (w:World) (K:Value → World → Prop):Prop:=
 binW .lss v0 v1 fun t7=>
 condW t7 (
 K (.int .i64 (-1)) w) (
 binW .gtr v0 v1 fun t10=>
 condW t10 (
 K (.int .i64 1) w) (
 K (.int .i64 0) w))
theorem W97_ok {v0 v1:Value} {w:World} {K:Value → World → Prop} (h:W97 v0 v1 w K):callF Tryz.prog 97 [v0,v1] w K:=
 tie _ 97 Tryz.f97 plan97 _ w K 2 _ rfl mixed Tryz.func97 (by kernel_rfl) (by kernel_rfl) Tryz.call97 h
def plan207:Plan:={ js:=[(3004,⟨[19],[],18⟩),(3007,⟨[15],[],10⟩),(3009,⟨[14],[],13⟩),(3012,⟨[12],[],10⟩),(3016,⟨[7],[],6⟩)],ds:=[] }
def W207 (v0:Value) (w:World) (K:Value → World → Prop):Prop:=
 binW .geq v0 (.int .u8 97) fun t4=>
 GdW (isB t4 true) [undef] w (fun J1=>
 binW .leq v0 (.int .u8 122) fun t7=>
 J1 [t7] w)
 fun s1 _ w2=>
 pickW t4 (s1.getD 0 undef) (.bool false) fun t8=>
 GdW (isB t8 false) [undef] w2 (fun J3=>
 binW .geq v0 (.int .u8 65) fun t11=>
 J3 [t11] w2)
 fun s3 _ w4=>
 GdW (isB (s3.getD 0 undef) true) [undef] w4 (fun J5=>
 binW .leq v0 (.int .u8 90) fun t14=>
 J5 [t14] w4)
 fun s5 _ w6=>
 GdW (isB t8 false) [undef] w6 (fun J7=>
 pickW (s3.getD 0 undef) (s5.getD 0 undef) (.bool false) fun t15=>
 J7 [t15] w6)
 fun s7 _ w8=>
 pickW t8 (.bool true) (s7.getD 0 undef) fun t16=>
 GdW (isB t16 false) [undef] w8 (fun J9=>
 binW .eql v0 (.int .u8 95) fun t19=>
 J9 [t19] w8)
 fun s9 _ w10=>
 pickW t16 (.bool true) (s9.getD 0 undef) fun t20=>
 K t20 w10
theorem W207_ok {v0:Value} {w:World} {K:Value → World → Prop} (h:W207 v0 w K):callF Tryz.prog 207 [v0] w K:=
 tie _ 207 Tryz.f207 plan207 _ w K 1 _ rfl mixed Tryz.func207 (by kernel_rfl) (by kernel_rfl) Tryz.call207 h
def plan208:Plan:={ js:=[(3004,⟨[7],[],6⟩)],ds:=[] }
def W208 (v0:Value) (w:World) (K:Value → World → Prop):Prop:=
 binW .geq v0 (.int .u8 48) fun t4=>
 GdW (isB t4 true) [undef] w (fun J1=>
 binW .leq v0 (.int .u8 57) fun t7=>
 J1 [t7] w)
 fun s1 _ w2=>
 pickW t4 (s1.getD 0 undef) (.bool false) fun t8=>
 K t8 w2
theorem W208_ok {v0:Value} {w:World} {K:Value → World → Prop} (h:W208 v0 w K):callF Tryz.prog 208 [v0] w K:=
 tie _ 208 Tryz.f208 plan208 _ w K 1 _ rfl mixed Tryz.func208 (by kernel_rfl) (by kernel_rfl) Tryz.call208 h
def plan154:Plan:={ js:=[],ds:=[] }
def W154 (v0 v1:Value) (w:World) (K:Value → World → Prop):Prop:=
 callF Tryz.prog 206 [v1] w fun t8 w1=>
 callF Tryz.prog 205 [v0,t8] w1 fun t9 w2=>
 binW .eql t9 (.string (ofL [48])) fun t11=>
 condW t11 (
 K (.int .i64 0) w2) (
 callF Tryz.prog 155 [t9] w2 fun t13 w3=>
 condW t13 (
 K (.int .i64 (-1)) w3) (
 K (.int .i64 1) w3))
theorem W154_ok {v0 v1:Value} {w:World} {K:Value → World → Prop} (h:W154 v0 v1 w K):callF Tryz.prog 154 [v0,v1] w K:=
 tie _ 154 Tryz.f154 plan154 _ w K 2 _ rfl mixed Tryz.func154 (by kernel_rfl) (by kernel_rfl) Tryz.call154 h
def plan155:Plan:={ js:=[],ds:=[] }
def W155 (v0:Value) (w:World) (K:Value → World → Prop):Prop:=
 ixsW v0 (.int .i64 0) fun t4=>
 binW .eql t4 (.int .u8 45) fun t5=>
 K t5 w
theorem W155_ok {v0:Value} {w:World} {K:Value → World → Prop} (h:W155 v0 w K):callF Tryz.prog 155 [v0] w K:=
 tie _ 155 Tryz.f155 plan155 _ w K 1 _ rfl mixed Tryz.func155 (by kernel_rfl) (by kernel_rfl) Tryz.call155 h
end Go.Proofs.YtnoepcndjljolaaGreatDoor
namespace Go.Proofs.YtnoepcndjljolaaGreatDoor
open Go Go.Eng
set_option maxRecDepth 100000
variable [HX]
def plan78:Plan:={ js:=[],ds:=[] }
def W78 (v0 v1:Value) (w:World) (K:Value → World → Prop):Prop:=
 callF Tryz.prog 134 [v0,v1,(.int .i64 0),(.int .i64 (-1))] w fun t7 w1=>
 K t7 w1
theorem W78_ok {v0 v1:Value} {w:World} {K:Value → World → Prop} (h:W78 v0 v1 w K):callF Tryz.prog 78 [v0,v1] w K:=
 tie _ 78 Tryz.f78 plan78 _ w K 2 _ rfl mixed Tryz.func78 (by kernel_rfl) (by kernel_rfl) Tryz.call78 h
def plan134:Plan:={ js:=[(32,⟨[0,10],[0],10⟩),(34,⟨[0,10],[0],10⟩),(18,⟨[3],[],3⟩)],ds:=[] }
def W134 (v0 v1 v2 v3:Value) (w:World) (K:Value → World → Prop):Prop:=
 binW .eql v3 (.int .i64 0) fun t13=>
 condW t13 (
 K (.slice none 0 0) w) (
 binW .eql v1 (.string (ofL [])) fun t15=>
 condW t15 (
 callF Tryz.prog 186 [v0,v3] w fun t18 w1=>
 K t18 w1) (
 JoinW (fun J2=>
 binW .lss v3 (.int .i64 0) fun t20=>
 condW t20 (
 callF Tryz.prog 187 [v0,v1] w fun t23 w3=>
 binW .add t23 (.int .i64 1) fun t24=>
 J2 [t24] w3) (
 J2 [v3] w))
 fun s2 _ w4=>
 lensW v0 fun t27=>
 binW .add t27 (.int .i64 1) fun t28=>
 minW (s2.getD 0 undef) t28 fun t29=>
 semE Tryz.prog (Instr.makeSlice 38 t29 t29) w4 fun t31 w5=>
 binW .sub t29 (.int .i64 1) fun t33=>
 JoinW (fun J6=>
 LoopW [v0,(.int .i64 0)] w5 fun s7 _ w8 L7=>
 binW .lss (s7.getD 1 undef) t33 fun t36=>
 condW t36 (
 callF Tryz.prog 188 [(s7.getD 0 undef),v1] w8 fun t39 w9=>
 binW .lss t39 (.int .i64 0) fun t41=>
 condW t41 (
 J6 [(s7.getD 0 undef),(s7.getD 1 undef)] w9) (
 binW .add t39 v2 fun t47=>
 slsW (s7.getD 0 undef) none (some t47) fun t48=>
 ixaW none 1 t31 (s7.getD 1 undef) fun t49=>
 stW 1 t49 t48 w9 fun w10=>
 lensW v1 fun t53=>
 binW .add t39 t53 fun t54=>
 slsW (s7.getD 0 undef) (some t54) none fun t55=>
 binW .add (s7.getD 1 undef) (.int .i64 1) fun t57=>
 L7 [t55,t57] w10)) (
 J6 [(s7.getD 0 undef),(s7.getD 1 undef)] w8))
 fun s6 _ w11=>
 ixaW none 1 t31 (s6.getD 1 undef) fun t61=>
 stW 1 t61 (s6.getD 0 undef) w11 fun w12=>
 binW .add (s6.getD 1 undef) (.int .i64 1) fun t64=>
 sllW 1 t31 none (some t64) none fun t65=>
 K t65 w12))
theorem W134_ok {v0 v1 v2 v3:Value} {w:World} {K:Value → World → Prop} (h:W134 v0 v1 v2 v3 w K):callF Tryz.prog 134 [v0,v1,v2,v3] w K:=
 tie _ 134 Tryz.f134 plan134 _ w K 4 _ rfl mixed Tryz.func134 (by kernel_rfl) (by kernel_rfl) Tryz.call134 h
def plan61:Plan:={ js:=[],ds:=[] }
def W61 (v0:Value) (w:World) (K:Value → World → Prop):Prop:=
 callF Tryz.prog 120 [v0] w fun t8 w1=>
 extW 0 t8 fun t9=>
 extW 1 t8 fun t10=>
 eqQ Tryz.prog .neq 103 false true t10 .nilIface w1 fun t12=>
 condW t12 (
 callF Tryz.prog 121 [(.string (ofL [65,116,111,105])),v0,(.int .i64 0),(.int .i64 0),t10] w1 fun t16 w2=>
 K (.tuple #[t9,t16]) w2) (
 K (.tuple #[t9,.nilIface]) w1)
theorem W61_ok {v0:Value} {w:World} {K:Value → World → Prop} (h:W61 v0 w K):callF Tryz.prog 61 [v0] w K:=
 tie _ 61 Tryz.f61 plan61 _ w K 1 _ rfl mixed Tryz.func61 (by kernel_rfl) (by kernel_rfl) Tryz.call61 h
def plan120:Plan:={ js:=[(30,⟨[6,49],[2,3,6,8],49⟩),(10,⟨[0],[0,2,3],6⟩),(12004,⟨[38],[],36⟩),(6002,⟨[29],[],22⟩),(6003,⟨[28],[],23⟩),(6005,⟨[27],[],26⟩),(6008,⟨[25],[],23⟩),(6009,⟨[22],[],22⟩),(6012,⟨[19],[],14⟩),(6014,⟨[18],[],17⟩),(6017,⟨[16],[],14⟩)],ds:=[] }
def W120 (v0:Value) (w:World) (K:Value → World → Prop):Prop:=
 lensW v0 fun t12=>
 GdW (isB (.bool false) true) [undef] w (fun J1=>
 binW .lss (.int .i64 0) t12 fun t15=>
 J1 [t15] w)
 fun s1 _ w2=>
 GdW (isB (s1.getD 0 undef) true) [undef] w2 (fun J3=>
 binW .lss t12 (.int .i64 10) fun t18=>
 J3 [t18] w2)
 fun s3 _ w4=>
 GdW (isB (.bool false) true) [undef] w4 (fun J5=>
 pickW (s1.getD 0 undef) (s3.getD 0 undef) (.bool false) fun t19=>
 J5 [t19] w4)
 fun s5 _ w6=>
 pickW (.bool false) (s5.getD 0 undef) (.bool false) fun t20=>
 GdW (isB t20 false) [undef] w6 (fun J7=>
 J7 [(.bool true)] w6)
 fun s7 _ w8=>
 GdW (isB (s7.getD 0 undef) true) [undef] w8 (fun J9=>
 binW .lss (.int .i64 0) t12 fun t24=>
 J9 [t24] w8)
 fun s9 _ w10=>
 GdW (isB (s9.getD 0 undef) true) [undef] w10 (fun J11=>
 binW .lss t12 (.int .i64 19) fun t27=>
 J11 [t27] w10)
 fun s11 _ w12=>
 GdW (isB (s7.getD 0 undef) true) [undef] w12 (fun J13=>
 pickW (s9.getD 0 undef) (s11.getD 0 undef) (.bool false) fun t28=>
 J13 [t28] w12)
 fun s13 _ w14=>
 GdW (isB t20 false) [undef] w14 (fun J15=>
 pickW (s7.getD 0 undef) (s13.getD 0 undef) (.bool false) fun t29=>
 J15 [t29] w14)
 fun s15 _ w16=>
 pickW t20 (.bool true) (s15.getD 0 undef) fun t30=>
 condW t30 (
 JoinW (fun J17=>
 ixsW v0 (.int .i64 0) fun t33=>
 binW .eql t33 (.int .u8 45) fun t34=>
 GdW (isB t34 false) [undef] w16 (fun J18=>
 ixsW v0 (.int .i64 0) fun t37=>
 binW .eql t37 (.int .u8 43) fun t38=>
 J18 [t38] w16)
 fun s18 _ w19=>
 pickW t34 (.bool true) (s18.getD 0 undef) fun t39=>
 condW t39 (
 slsW v0 (some (.int .i64 1)) none fun t41=>
 lensW t41 fun t43=>
 binW .lss t43 (.int .i64 1) fun t44=>
 condW t44 (
 K (.tuple #[(.int .i64 0),(.iface 201 (.int .i64 2))]) w19) (
 J17 [t41] w19)) (
 J17 [v0] w19))
 fun s17 _ w20=>
 semE Tryz.prog (convert 9 27 (s17.getD 0 undef)) w20 fun t47 w21=>
 lenlW t47 fun t48=>
 LoopW [(.int .i64 0),(.int .i64 0)] w21 fun s22 _ w23 L22=>
 binW .lss (s22.getD 1 undef) t48 fun t50=>
 condW t50 (
 ixaW none 1 t47 (s22.getD 1 undef) fun t51=>
 ldW false 1 t51 w23 fun t52=>
 binW .sub t52 (.int .u8 48) fun t54=>
 binW .gtr t54 (.int .u8 9) fun t56=>
 condW t56 (
 K (.tuple #[(.int .i64 0),(.iface 201 (.int .i64 2))]) w23) (
 binW .mul (s22.getD 0 undef) (.int .i64 10) fun t59=>
 cvtW .i64 t54 fun t61=>
 binW .add t59 t61 fun t62=>
 binW .add (s22.getD 1 undef) (.int .i64 1) fun t63=>
 L22 [t62,t63] w23)) (
 ixsW v0 (.int .i64 0) fun t65=>
 binW .eql t65 (.int .u8 45) fun t66=>
 condW t66 (
 unW .neg (s22.getD 0 undef) fun t68=>
 K (.tuple #[t68,.nilIface]) w23) (
 K (.tuple #[(s22.getD 0 undef),.nilIface]) w23))) (
 callF Tryz.prog 175 [v0,(.int .i64 10),(.int .i64 0)] w16 fun t72 w24=>
 extW 0 t72 fun t73=>
 extW 1 t72 fun t74=>
 K (.tuple #[t73,t74]) w24)
theorem W120_ok {v0:Value} {w:World} {K:Value → World → Prop} (h:W120 v0 w K):callF Tryz.prog 120 [v0] w K:=
 tie _ 120 Tryz.f120 plan120 _ w K 1 _ rfl mixed Tryz.func120 (by kernel_rfl) (by kernel_rfl) Tryz.call120 h
def plan75:Plan:={ js:=[],ds:=[] }
def W75 (v0 v1:Value) (w:World) (K:Value → World → Prop):Prop:=
 callF Tryz.prog 132 [v0,v1] w fun t8 w1=>
 extW 0 t8 fun t9=>
 extW 1 t8 fun t10=>
 K (.tuple #[t9,t10]) w1
theorem W75_ok {v0 v1:Value} {w:World} {K:Value → World → Prop} (h:W75 v0 v1 w K):callF Tryz.prog 75 [v0,v1] w K:=
 tie _ 75 Tryz.f75 plan75 _ w K 2 _ rfl mixed Tryz.func75 (by kernel_rfl) (by kernel_rfl) Tryz.call75 h
def plan132:Plan:={ js:=[],ds:=[] }
def W132 (v0 v1:Value) (w:World) (K:Value → World → Prop):Prop:=
 callF Tryz.prog 184 [v0,v1] w fun t8 w1=>
 unW .not t8 fun t9=>
 condW t9 (
 K (.tuple #[v0,(.bool false)]) w1) (
 lensW v0 fun t13=>
 lensW v1 fun t15=>
 binW .sub t13 t15 fun t16=>
 slsW v0 none (some t16) fun t17=>
 K (.tuple #[t17,(.bool true)]) w1)
theorem W132_ok {v0 v1:Value} {w:World} {K:Value → World → Prop} (h:W132 v0 v1 w K):callF Tryz.prog 132 [v0,v1] w K:=
 tie _ 132 Tryz.f132 plan132 _ w K 2 _ rfl mixed Tryz.func132 (by kernel_rfl) (by kernel_rfl) Tryz.call132 h
def plan184:Plan:={ js:=[(3011,⟨[19],[],11⟩)],ds:=[] }
def W184 (v0 v1:Value) (w:World) (K:Value → World → Prop):Prop:=
 lensW v0 fun t6=>
 lensW v1 fun t8=>
 binW .geq t6 t8 fun t9=>
 GdW (isB t9 true) [undef] w (fun J1=>
 lensW v0 fun t13=>
 lensW v1 fun t15=>
 binW .sub t13 t15 fun t16=>
 slsW v0 (some t16) none fun t17=>
 binW .eql t17 v1 fun t19=>
 J1 [t19] w)
 fun s1 _ w2=>
 pickW t9 (s1.getD 0 undef) (.bool false) fun t20=>
 K t20 w2
theorem W184_ok {v0 v1:Value} {w:World} {K:Value → World → Prop} (h:W184 v0 v1 w K):callF Tryz.prog 184 [v0,v1] w K:=
 tie _ 184 Tryz.f184 plan184 _ w K 2 _ rfl mixed Tryz.func184 (by kernel_rfl) (by kernel_rfl) Tryz.call184 h
def plan40:Plan:={ js:=[],ds:=[] }
def W40 (v0 v1:Value) (w:World) (K:Value → World → Prop):Prop:=
 lenlW v0 fun t6=>
 cvtW .u64 t6 fun t10=>
 callF Tryz.prog 81 [t10] w fun t11 w1=>
 callF Tryz.prog 80 [v0,(.int .i64 0),t6,t11,v1] w1 fun t13 w2=>
 K (.tuple #[]) w2
theorem W40_ok {v0 v1:Value} {w:World} {K:Value → World → Prop} (h:W40 v0 v1 w K):callF Tryz.prog 40 [v0,v1] w K:=
 tie _ 40 Tryz.f40 plan40 _ w K 2 _ rfl mixed Tryz.func40 (by kernel_rfl) (by kernel_rfl) Tryz.call40 h
def plan80:Plan:={ js:=[(45,⟨[],[],14⟩),(47003,⟨[74],[],73⟩),(47006,⟨[70],[],70⟩),(35,⟨[13,14],[],13⟩),(25,⟨[3],[3],13⟩),(5,⟨[1,2,3,10,11],[1,2,3],5⟩)],ds:=[(57,⟨[0,1,2,3,4,5,6,7,8,9,10,11,12,14,15,16],[[],[0],[0,1],[0,1,2],[0,1,2],[0,1,2],[0,1,2,5],[0,1,2,4,5,6],[0,1,2,4,5,6,7],[0,1,2],[0,1,2],[0,1,2,9,10],[0,1,2,9,10,11],[0,1,2,3,4,5,6,7,8,9,10,11,12],[0,1,2,3,4,5,6,7,8,9,10,11,12,13],[0,1,2,3,4,5,6,7,8,9,10,11,12,13,14],[0,1,2,3,4,5,6,7,8,9,10,11,12,13,14,15]]⟩)] }
def W80 (v0 v1 v2 v3 v4:Value) (w:World) (K:Value → World → Prop):Prop:=
 LoopW [v1,v2,v3,(.bool true),(.bool true)] w fun s1 _ w2 L1=>
 binW .sub (s1.getD 1 undef) (s1.getD 0 undef) fun t23=>
 binW .leq t23 (.int .i64 12) fun t25=>
 condW t25 (
 callF Tryz.prog 136 [v0,(s1.getD 0 undef),(s1.getD 1 undef),v4] w2 fun t30 w3=>
 K (.tuple #[]) w3) (
 binW .eql (s1.getD 2 undef) (.int .i64 0) fun t32=>
 condW t32 (
 callF Tryz.prog 137 [v0,(s1.getD 0 undef),(s1.getD 1 undef),v4] w2 fun t37 w4=>
 K (.tuple #[]) w4) (
 JoinW (fun J5=>
 unW .not (s1.getD 3 undef) fun t39=>
 condW t39 (
 callF Tryz.prog 138 [v0,(s1.getD 0 undef),(s1.getD 1 undef),v4] w2 fun t44 w6=>
 binW .sub (s1.getD 2 undef) (.int .i64 1) fun t46=>
 J5 [t46] w6) (
 J5 [(s1.getD 2 undef)] w2))
 fun s5 _ w7=>
 callF Tryz.prog 139 [v0,(s1.getD 0 undef),(s1.getD 1 undef),v4] w7 fun t52 w8=>
 extW 0 t52 fun t53=>
 extW 1 t52 fun t54=>
 JoinW (fun J9=>
 binW .eql t54 (.int .i64 2) fun t56=>
 condW t56 (
 callF Tryz.prog 140 [v0,(s1.getD 0 undef),(s1.getD 1 undef),v4] w8 fun t61 w10=>
 binW .sub (s1.getD 1 undef) (.int .i64 1) fun t63=>
 binW .sub t53 (s1.getD 0 undef) fun t66=>
 binW .sub t63 t66 fun t67=>
 J9 [t67,(.int .i64 1)] w10) (
 J9 [t53,t54] w8))
 fun s9 _ w11=>
 JoinW (fun J12=>
 GdW (isB (s1.getD 3 undef) true) [undef] w11 (fun J13=>
 J13 [(s1.getD 4 undef)] w11)
 fun s13 _ w14=>
 pickW (s1.getD 3 undef) (s13.getD 0 undef) (.bool false) fun t71=>
 GdW (isB t71 true) [undef] w14 (fun J15=>
 binW .eql (s9.getD 1 undef) (.int .i64 1) fun t74=>
 J15 [t74] w14)
 fun s15 _ w16=>
 pickW t71 (s15.getD 0 undef) (.bool false) fun t75=>
 condW t75 (
 callF Tryz.prog 141 [v0,(s1.getD 0 undef),(s1.getD 1 undef),v4] w16 fun t80 w17=>
 condW t80 (
 K (.tuple #[]) w17) (
 J12 [] w17)) (
 J12 [] w16))
 fun s12 _ w18=>
 binW .gtr (s1.getD 0 undef) (.int .i64 0) fun t82=>
 GqW (isB t82 true) (fun k19=>k19 v4) fun t84=>
 GqW (isB t82 true) (fun k20=>k20 v0) fun t85=>
 GqW (isB t82 true) (fun k21=>k21 (s1.getD 0 undef)) fun t86=>
 GqW (isB t82 true) (fun k22=>binW .sub t86 (.int .i64 1) k22) fun t87=>
 GqW (isB t82 true) (fun k23=>ixaW none 7 t85 t87 k23) fun t88=>
 GqW (isB t82 true) (fun k24=>ldW true 7 t88 w18.drew k24) fun t89=>
 GqW (isB t82 true) (fun k25=>k25 v0) fun t90=>
 GqW (isB t82 true) (fun k26=>k26 (s9.getD 0 undef)) fun t91=>
 GqW (isB t82 true) (fun k27=>ixaW none 7 t90 t91 k27) fun t92=>
 GqW (isB t82 true) (fun k28=>ldW true 7 t92 w18.drew k28) fun t93=>
 GeW (isB t82 true) w18.drew (fun k29=>callV Tryz.prog t84 [t89,t93] w18.drew k29) fun t94 w30=>
 GqW (isB t82 true) (fun k31=>binW .lss t94 (.int .i64 0) k31) fun t95=>
 GqW (isB t82 true) (fun k32=>unW .not t95 k32) fun t96=>
 pickW t82 t96 (.bool false) fun t97=>
 condW t97 (
 callF Tryz.prog 142 [v0,(s1.getD 0 undef),(s1.getD 1 undef),(s9.getD 0 undef),v4] w30 fun t103 w33=>
 L1 [t103,(s1.getD 1 undef),(s5.getD 0 undef),(s1.getD 3 undef),(s1.getD 4 undef)] w33) (
 callF Tryz.prog 143 [v0,(s1.getD 0 undef),(s1.getD 1 undef),(s9.getD 0 undef),v4] w30 fun t111 w34=>
 extW 0 t111 fun t112=>
 extW 1 t111 fun t113=>
 binW .sub t112 (s1.getD 0 undef) fun t117=>
 binW .sub (s1.getD 1 undef) t112 fun t120=>
 binW .quo t23 (.int .i64 8) fun t122=>
 binW .lss t117 t120 fun t125=>
 condW t125 (
 binW .geq t117 t122 fun t128=>
 callF Tryz.prog 80 [v0,(s1.getD 0 undef),t112,(s5.getD 0 undef),v4] w34 fun t134 w35=>
 binW .add t112 (.int .i64 1) fun t136=>
 L1 [t136,(s1.getD 1 undef),(s5.getD 0 undef),t128,t113] w35) (
 binW .geq t120 t122 fun t139=>
 binW .add t112 (.int .i64 1) fun t142=>
 callF Tryz.prog 80 [v0,t142,(s1.getD 1 undef),(s5.getD 0 undef),v4] w34 fun t146 w36=>
 L1 [(s1.getD 0 undef),t112,(s5.getD 0 undef),t139,t113] w36))))
theorem W80_ok {v0 v1 v2 v3 v4:Value} {w:World} {K:Value → World → Prop} (h:W80 v0 v1 v2 v3 v4 w K):callF Tryz.prog 80 [v0,v1,v2,v3,v4] w K:=
 tie _ 80 Tryz.f80 plan80 _ w K 5 _ rfl mixed Tryz.func80 (by kernel_rfl) (by kernel_rfl) Tryz.call80 h
def plan136:Plan:={ js:=[(15,⟨[9],[],9⟩),(3,⟨[8],[],4⟩)],ds:=[(24,⟨[0,1,2,3,4,5,6,7,8,9,10,11,12,13,14,16],[[],[],[],[],[3],[],[],[6],[5,6,7],[5,6,7,8],[],[],[10,11],[10,11,12],[0,1,5,6,7,8,9,10,11,12,13],[0,1,5,6,7,8,9,10,11,12,13,14],[0,1,2,3,4,5,6,7,8,9,10,11,12,13,14,15],[0,1,2,3,4,5,6,7,8,9,10,11,12,13,14,15,16]]⟩),(18,⟨[0,1,2,3,4,5,6,7,8,9,10,11,12,13,15,16],[[],[],[0,1],[0,1,2],[0,1,2,3],[0,1,2,3],[0,1,2,3],[0,1,2,3,5,6],[0,1,2,3,5,6,7],[0,1,2,3],[0,1,2,3],[0,1,2,3,10],[0,1,2,3,9,10,11],[0,1,2,3,9,10,11,12],[0,1,2,3,4,5,6,7,8,9,10,11,12,13],[0,1,2,3,4,5,6,7,8,9,10,11,12,13,14],[0,1,2,3,4,5,6,7,8,9,10,11,12,13,14,15]]⟩)] }
def W136 (v0 v1 v2 v3:Value) (w:World) (K:Value → World → Prop):Prop:=
 binW .add v1 (.int .i64 1) fun t11=>
 LoopW [t11] w fun s1 _ w2 L1=>
 binW .lss (s1.getD 0 undef) v2 fun t14=>
 condW t14 (
 LoopW [(s1.getD 0 undef)] w2 fun s3 _ w4 L3=>
 binW .gtr (s3.getD 0 undef) v1 fun t20=>
 GqW (isB t20 true) (fun k5=>k5 v3) fun t22=>
 GqW (isB t20 true) (fun k6=>k6 v0) fun t23=>
 GqW (isB t20 true) (fun k7=>k7 (s3.getD 0 undef)) fun t24=>
 GqW (isB t20 true) (fun k8=>ixaW none 7 t23 t24 k8) fun t25=>
 GqW (isB t20 true) (fun k9=>ldW true 7 t25 w4.drew k9) fun t26=>
 GqW (isB t20 true) (fun k10=>k10 v0) fun t27=>
 GqW (isB t20 true) (fun k11=>k11 (s3.getD 0 undef)) fun t28=>
 GqW (isB t20 true) (fun k12=>binW .sub t28 (.int .i64 1) k12) fun t29=>
 GqW (isB t20 true) (fun k13=>ixaW none 7 t27 t29 k13) fun t30=>
 GqW (isB t20 true) (fun k14=>ldW true 7 t30 w4.drew k14) fun t31=>
 GeW (isB t20 true) w4.drew (fun k15=>callV Tryz.prog t22 [t26,t31] w4.drew k15) fun t32 w16=>
 GqW (isB t20 true) (fun k17=>binW .lss t32 (.int .i64 0) k17) fun t33=>
 pickW t20 t33 (.bool false) fun t34=>
 condW t34 (
 binW .sub (s3.getD 0 undef) (.int .i64 1) fun t41=>
 binW .sub (s3.getD 0 undef) (.int .i64 1) fun t44=>
 ixaW none 7 v0 t44 fun t45=>
 ldW true 7 t45 w16.drew fun t46=>
 ixaW none 7 v0 (s3.getD 0 undef) fun t49=>
 ldW true 7 t49 w16.drew fun t50=>
 ixaW none 7 v0 (s3.getD 0 undef) fun t51=>
 stW 7 t51 t46 w16.drew fun w18=>
 ixaW none 7 v0 t41 fun t52=>
 stW 7 t52 t50 w18 fun w19=>
 binW .sub (s3.getD 0 undef) (.int .i64 1) fun t36=>
 L3 [t36] w19) (
 binW .add (s1.getD 0 undef) (.int .i64 1) fun t16=>
 L1 [t16] w16)) (
 K (.tuple #[]) w2)
theorem W136_ok {v0 v1 v2 v3:Value} {w:World} {K:Value → World → Prop} (h:W136 v0 v1 v2 v3 w K):callF Tryz.prog 136 [v0,v1,v2,v3] w K:=
 tie _ 136 Tryz.f136 plan136 _ w K 4 _ rfl mixed Tryz.func136 (by kernel_rfl) (by kernel_rfl) Tryz.call136 h
def plan234:Plan:={ js:=[(13003,⟨[21],[],20⟩),(13009,⟨[17],[],14⟩),(10,⟨[5,6,7],[],2⟩)],ds:=[] }
def W234 (v0 v1:Value) (w:World) (K:Value → World → Prop):Prop:=
 LoopW [(.string (ofL [])),(.int .i64 0),(.int .i64 0)] w fun s1 _ w2 L1=>
 lensW v0 fun t11=>
 binW .lss (s1.getD 2 undef) t11 fun t12=>
 GdW (isB t12 false) [undef] w2 (fun J3=>
 lensW v1 fun t16=>
 binW .lss (s1.getD 2 undef) t16 fun t17=>
 J3 [t17] w2)
 fun s3 _ w4=>
 pickW t12 (.bool true) (s3.getD 0 undef) fun t18=>
 GdW (isB t18 false) [undef] w4 (fun J5=>
 binW .gtr (s1.getD 1 undef) (.int .i64 0) fun t21=>
 J5 [t21] w4)
 fun s5 _ w6=>
 pickW t18 (.bool true) (s5.getD 0 undef) fun t22=>
 condW t22 (
 callF Tryz.prog 253 [v0,(s1.getD 2 undef)] w6 fun t27 w7=>
 callF Tryz.prog 253 [v1,(s1.getD 2 undef)] w7 fun t30 w8=>
 binW .add t27 t30 fun t31=>
 binW .add t31 (s1.getD 1 undef) fun t33=>
 binW .rem t33 (.int .i64 10) fun t35=>
 binW .add (.int .i64 48) t35 fun t36=>
 cvtW .u8 t36 fun t37=>
 bslW 5 1 [(.int .u8 0)] [(0,1,t37)] w8 fun t38 w9=>
 semQ Tryz.prog (convert 27 9 t38) w9 fun t39=>
 binW .add t39 (s1.getD 0 undef) fun t41=>
 binW .quo t33 (.int .i64 10) fun t43=>
 binW .add (s1.getD 2 undef) (.int .i64 1) fun t24=>
 L1 [t41,t43,t24] w9) (
 callF Tryz.prog 254 [(s1.getD 0 undef)] w6 fun t45 w10=>
 K t45 w10)
theorem W234_ok {v0 v1:Value} {w:World} {K:Value → World → Prop} (h:W234 v0 v1 w K):callF Tryz.prog 234 [v0,v1] w K:=
 tie _ 234 Tryz.f234 plan234 _ w K 2 _ rfl mixed Tryz.func234 (by kernel_rfl) (by kernel_rfl) Tryz.call234 h
def plan235:Plan:={ js:=[],ds:=[] }
def W235 (v0:Value) (w:World) (K:Value → World → Prop):Prop:=
 callF Tryz.prog 155 [v0] w fun t4 w1=>
 condW t4 (
 slsW v0 (some (.int .i64 1)) none fun t6=>
 K t6 w1) (
 K v0 w1)
theorem W235_ok {v0:Value} {w:World} {K:Value → World → Prop} (h:W235 v0 w K):callF Tryz.prog 235 [v0] w K:=
 tie _ 235 Tryz.f235 plan235 _ w K 1 _ rfl mixed Tryz.func235 (by kernel_rfl) (by kernel_rfl) Tryz.call235 h
def plan236:Plan:={ js:=[],ds:=[] }
def W236 (v0 v1:Value) (w:World) (K:Value → World → Prop):Prop:=
 lensW v0 fun t6=>
 lensW v1 fun t8=>
 binW .neq t6 t8 fun t9=>
 condW t9 (
 lensW v0 fun t11=>
 lensW v1 fun t13=>
 binW .lss t11 t13 fun t14=>
 K t14 w) (
 binW .lss v0 v1 fun t17=>
 K t17 w)
theorem W236_ok {v0 v1:Value} {w:World} {K:Value → World → Prop} (h:W236 v0 v1 w K):callF Tryz.prog 236 [v0,v1] w K:=
 tie _ 236 Tryz.f236 plan236 _ w K 2 _ rfl mixed Tryz.func236 (by kernel_rfl) (by kernel_rfl) Tryz.call236 h
def plan237:Plan:={ js:=[(23,⟨[6,8],[6],8⟩),(10,⟨[5,6,7],[],2⟩)],ds:=[] }
def W237 (v0 v1:Value) (w:World) (K:Value → World → Prop):Prop:=
 LoopW [(.string (ofL [])),(.int .i64 0),(.int .i64 0)] w fun s1 _ w2 L1=>
 lensW v0 fun t11=>
 binW .lss (s1.getD 2 undef) t11 fun t12=>
 condW t12 (
 callF Tryz.prog 253 [v0,(s1.getD 2 undef)] w2 fun t17 w3=>
 callF Tryz.prog 253 [v1,(s1.getD 2 undef)] w3 fun t20 w4=>
 binW .sub t17 t20 fun t21=>
 binW .sub t21 (s1.getD 1 undef) fun t23=>
 JoinW (fun J5=>
 binW .lss t23 (.int .i64 0) fun t25=>
 condW t25 (
 binW .add t23 (.int .i64 10) fun t27=>
 J5 [(.int .i64 1),t27] w4) (
 J5 [(.int .i64 0),t23] w4))
 fun s5 _ w6=>
 binW .add (.int .i64 48) (s5.getD 1 undef) fun t29=>
 cvtW .u8 t29 fun t30=>
 bslW 5 1 [(.int .u8 0)] [(0,1,t30)] w6 fun t31 w7=>
 semQ Tryz.prog (convert 27 9 t31) w7 fun t32=>
 binW .add t32 (s1.getD 0 undef) fun t34=>
 binW .add (s1.getD 2 undef) (.int .i64 1) fun t14=>
 L1 [t34,(s5.getD 0 undef),t14] w7) (
 callF Tryz.prog 254 [(s1.getD 0 undef)] w2 fun t36 w8=>
 K t36 w8)
theorem W237_ok {v0 v1:Value} {w:World} {K:Value → World → Prop} (h:W237 v0 v1 w K):callF Tryz.prog 237 [v0,v1] w K:=
 tie _ 237 Tryz.f237 plan237 _ w K 2 _ rfl mixed Tryz.func237 (by kernel_rfl) (by kernel_rfl) Tryz.call237 h
def plan253:Plan:={ js:=[],ds:=[] }
def W253 (v0 v1:Value) (w:World) (K:Value → World → Prop):Prop:=
 lensW v0 fun t7=>
 binW .geq v1 t7 fun t8=>
 condW t8 (
 K (.int .i64 0) w) (
 lensW v0 fun t11=>
 binW .sub t11 (.int .i64 1) fun t12=>
 binW .sub t12 v1 fun t14=>
 ixsW v0 t14 fun t15=>
 binW .sub t15 (.int .u8 48) fun t16=>
 cvtW .i64 t16 fun t17=>
 K t17 w)
theorem W253_ok {v0 v1:Value} {w:World} {K:Value → World → Prop} (h:W253 v0 v1 w K):callF Tryz.prog 253 [v0,v1] w K:=
 tie _ 253 Tryz.f253 plan253 _ w K 2 _ rfl mixed Tryz.func253 (by kernel_rfl) (by kernel_rfl) Tryz.call253 h
def plan254:Plan:={ js:=[(7004,⟨[9],[],7⟩),(4,⟨[0],[],0⟩)],ds:=[] }
def W254 (v0:Value) (w:World) (K:Value → World → Prop):Prop:=
 LoopW [v0] w fun s1 _ w2 L1=>
 lensW (s1.getD 0 undef) fun t4=>
 binW .gtr t4 (.int .i64 1) fun t5=>
 GdW (isB t5 true) [undef] w2 (fun J3=>
 ixsW (s1.getD 0 undef) (.int .i64 0) fun t8=>
 binW .eql t8 (.int .u8 48) fun t9=>
 J3 [t9] w2)
 fun s3 _ w4=>
 pickW t5 (s3.getD 0 undef) (.bool false) fun t10=>
 condW t10 (
 slsW (s1.getD 0 undef) (some (.int .i64 1)) none fun t12=>
 L1 [t12] w4) (
 K (s1.getD 0 undef) w4)
theorem W254_ok {v0:Value} {w:World} {K:Value → World → Prop} (h:W254 v0 w K):callF Tryz.prog 254 [v0] w K:=
 tie _ 254 Tryz.f254 plan254 _ w K 1 _ rfl mixed Tryz.func254 (by kernel_rfl) (by kernel_rfl) Tryz.call254 h
def plan205:Plan:={ js:=[],ds:=[] }
def W205 (v0 v1:Value) (w:World) (K:Value → World → Prop):Prop:=
 callF Tryz.prog 155 [v0] w fun t6 w1=>
 callF Tryz.prog 155 [v1] w1 fun t8 w2=>
 eqW .bool false t6 t8 fun t9=>
 condW t9 (
 callF Tryz.prog 155 [v0] w2 fun t11 w3=>
 callF Tryz.prog 235 [v0] w3 fun t13 w4=>
 callF Tryz.prog 235 [v1] w4 fun t15 w5=>
 callF Tryz.prog 234 [t13,t15] w5 fun t16 w6=>
 callF Tryz.prog 157 [t11,t16] w6 fun t17 w7=>
 K t17 w7) (
 callF Tryz.prog 235 [v0] w2 fun t19 w8=>
 callF Tryz.prog 235 [v1] w8 fun t21 w9=>
 callF Tryz.prog 236 [t19,t21] w9 fun t22 w10=>
 condW t22 (
 callF Tryz.prog 155 [v1] w10 fun t24 w11=>
 callF Tryz.prog 235 [v1] w11 fun t26 w12=>
 callF Tryz.prog 235 [v0] w12 fun t28 w13=>
 callF Tryz.prog 237 [t26,t28] w13 fun t29 w14=>
 callF Tryz.prog 157 [t24,t29] w14 fun t30 w15=>
 K t30 w15) (
 callF Tryz.prog 155 [v0] w10 fun t32 w16=>
 callF Tryz.prog 235 [v0] w16 fun t34 w17=>
 callF Tryz.prog 235 [v1] w17 fun t36 w18=>
 callF Tryz.prog 237 [t34,t36] w18 fun t37 w19=>
 callF Tryz.prog 157 [t32,t37] w19 fun t38 w20=>
 K t38 w20))
theorem W205_ok {v0 v1:Value} {w:World} {K:Value → World → Prop} (h:W205 v0 v1 w K):callF Tryz.prog 205 [v0,v1] w K:=
 tie _ 205 Tryz.f205 plan205 _ w K 2 _ rfl mixed Tryz.func205 (by kernel_rfl) (by kernel_rfl) Tryz.call205 h
def plan206:Plan:={ js:=[],ds:=[] }
def W206 (v0:Value) (w:World) (K:Value → World → Prop):Prop:=
 callF Tryz.prog 155 [v0] w fun t4 w1=>
 unW .not t4 fun t5=>
 callF Tryz.prog 235 [v0] w1 fun t7 w2=>
 callF Tryz.prog 157 [t5,t7] w2 fun t8 w3=>
 K t8 w3
theorem W206_ok {v0:Value} {w:World} {K:Value → World → Prop} (h:W206 v0 w K):callF Tryz.prog 206 [v0] w K:=
 tie _ 206 Tryz.f206 plan206 _ w K 1 _ rfl mixed Tryz.func206 (by kernel_rfl) (by kernel_rfl) Tryz.call206 h
end Go.Proofs.YtnoepcndjljolaaGreatDoor
namespace Go.Proofs.YtnoepcndjljolaaGreatDoor
open Go Go.Eng Go.RowKit
set_option maxRecDepth 100000
theorem let_nm {c:UInt8} (h:letB c = true):nmB c = true:=by unfold nmB; rw [h]; rfl
theorem name_yes {s:Str} (h1:s ≠ []) (h2:s.length ≤ 32) (h3:∀ c ∈ s,nmB c = true) (h4:∀ c,s[0]? = some c → letB c = true):nameM s = true:=by
 cases s with
 | nil=>exact absurd rfl h1
 | cons c r=>
   simp only [nameM,Bool.and_eq_true,List.all_eq_true,decide_eq_true_eq]
   exact ⟨⟨h4 c rfl,fun x hx=>h3 x (by simp [hx])⟩,by rw [List.length_cons] at h2; omega⟩
theorem name_no {s:Str} {i:Nat} {c:UInt8} (hi:s[i]? = some c) (h:(nmB c = false) ∨ (i = 0 ∧ letB c = false)):nameM s = false:=by
 cases hn:nameM s with
 | false=>rfl
 | true=>
   cases s with
   | nil=>cases hn
   | cons d r=>
     rcases h with h | ⟨rfl,h⟩
     · rw [(name_out hn).2.2 c (List.mem_of_getElem? hi)] at h; cases h
     · simp only [List.getElem?_cons_zero,Option.some.injEq] at hi
       subst hi
       simp only [nameM,Bool.and_eq_true] at hn
       rw [hn.1.1] at h; cases h
theorem dec_at {s:Str} {p:Nat} (h:p < s.length):(bt s p < 128 → Utf8.decode (ofL s) p = (bt s p,1)) ∧ (128 ≤ bt s p → 128 ≤ (Utf8.decode (ofL s) p).1):=by
 have hbj:=byteM_in h
 by_cases h0:runeM s p = 0
 · have hd:=rune_bad h h0
   rw [hd]
   refine ⟨fun hb=>?_,fun _=>by decide⟩
   exfalso
   have:runeM s p = 1:=by
     unfold runeM
     rw [hbj]
     simp only
     rw [if_neg (by omega),if_pos (by omega)]
   omega
 · obtain ⟨r,hr⟩:=rune_good h h0
   have hd:=hr.dec
   rw [hd]
   rcases Nat.lt_or_ge (runeM s p) 2 with h1 | h1
   · have:=hr.low (by omega)
     have e1:runeM s p = 1:=by omega
     exact ⟨fun _=>by rw [e1]; congr 1; omega,fun hb=>by show 128 ≤ r; omega⟩
   · have:=hr.high h1
     exact ⟨fun hb=>by omega,fun _=>by show 128 ≤ r; omega⟩
theorem chain4 {a b c d:Bool} {w:World} {B:Value → World → Prop} (hB:B (.bool (a && (b || (c && d)))) w) :
   GdW (isB (.bool a) true) [undef] w (fun J=>J [.bool b] w) fun s11 _ w12=>GdW (isB (s11.getD 0 undef) false) [undef] w12 (fun J=>J [.bool c] w12) fun s13 _ w14=>GdW (isB (s13.getD 0 undef) true) [undef] w14 (fun J=>J [.bool d] w14) fun s15 _ w16=>
   GdW (isB (s11.getD 0 undef) false) [undef] w16 (fun J=>pickW (s13.getD 0 undef) (s15.getD 0 undef) (.bool false) fun t=>J [t] w16) fun s17 _ w18=>
   GdW (isB (.bool a) true) [undef] w18 (fun J=>pickW (s11.getD 0 undef) (.bool true) (s17.getD 0 undef) fun t=>J [t] w18) fun s19 _ w20=>pickW (.bool a) (s19.getD 0 undef) (.bool false) fun t=>B t w20:=by
 cases a <;> cases b <;> cases c <;> cases d <;>
   (simp only [isB_t,isB_f,GdW_pure,GdW_f,cond_true,cond_false,List.getD_cons_zero,pick_t,pick_f,isB_u,Bool.not_true,Bool.not_false]; intros; exact hB)
section
variable [HX]
theorem name_p {s:Str} {w:World} {K:Value → World → Prop} (hK:∀ w',Ext w w' → K (.bool (nameM s)) w'):callF Tryz.prog 86 [str s] w K:=by
 refine W86_ok ?_
 unfold W86
 refine range_str ?_
 refine LoopW.go (fun st w'=>st = [] ∧ ∃ p,p ≤ s.length ∧ Ext w w' ∧ w'.heap[w.heap.size]? = some (.stringIter (ofL s) p) ∧ (∀ i c,i < p → s[i]? = some c → nmB c = true ∧ (i = 0 → letB c = true)))
   (fun _ w'=>match w'.heap[w.heap.size]? with | some (.stringIter _ p)=>s.length - p | _=>0) ⟨rfl,0,Nat.zero_le _,Chg.alloc (Chg.refl _ _) _,heap_anew _ _ _ rfl,fun i c hi=>by omega⟩ ?_
 rintro st g w3 ⟨rfl,p,hp,hx,hit,hall⟩
 refine next_str hit (fun hpe=>?_) (fun hpl w5 hit5 hc5 hz5=>?_)
 · obtain rfl:p = s.length:=by omega
   rw [ext_tuple]
   refine ⟨_,rfl,?_⟩
   rw [condW_false,bin_sne]
   simp only [isB_t,lens_str,bin_leq,GdW_pure,List.getD_cons_zero,pick_gd_and]
   intro _
   have e:(decide (s ≠ []) && decide ((s.length:Int) ≤ 32)) = nameM s:=by
     by_cases h1:s = []
     · subst h1; rfl
     rw [decide_eq_true h1,Bool.true_and]
     by_cases h2:s.length ≤ 32
     · rw [decide_eq_true (by omega)]
       refine (name_yes h1 h2 (fun c hc=>?_) fun c hc=>?_).symm
       · obtain ⟨i,hi,he⟩:=List.getElem_of_mem hc
         exact (hall i c hi (by rw [List.getElem?_eq_getElem hi,he])).1
       · have:0 < s.length:=List.length_pos_iff.2 h1
         exact (hall 0 c this hc).2 rfl
     · rw [decide_eq_false (by omega)]
       cases hn:nameM s with
       | false=>rfl
       | true=>have:=(name_out hn).2.1; omega
   have:=hK w3 hx
   rw [← e] at this
   simpa using this
 · have hx5:Ext w w5:=hx.then hc5 fun k hk e=>by omega
   obtain ⟨d1,d2⟩:=dec_at hpl
   obtain ⟨b1,b2⟩:=get_bt' hpl
   generalize hdd:Utf8.decode (ofL s) p = dd at *
   obtain ⟨r,n⟩:=dd
   simp only at d1 d2 hit5 ⊢
   simp only [ext_tuple]
   refine ⟨_,rfl,?_⟩
   rw [condW_true]
   refine ⟨_,rfl,_,rfl,?_⟩
   have hlt256:=bt_lt s p
   -- the letters
   have elet:(decide ((97:Int) ≤ (r:Int)) && decide ((r:Int) ≤ 122) || (decide ((65:Int) ≤ (r:Int)) && decide ((r:Int) ≤ 90)) || decide ((r:Int) = 95)) = letB s[p]:=by
     unfold letB
     rw [b2]
     rcases Nat.lt_or_ge (bt s p) 128 with h | h
     · have e:=d1 h
       simp only [Prod.mk.injEq] at e
       obtain ⟨rfl,_⟩:=e
       congr 1
       · congr 1 <;> congr 1 <;> exact decide_eq_decide.2 (by omega)
       · exact decide_eq_decide.2 (by omega)
     · have:=d2 h
       rw [decide_eq_false (by omega:¬ ((r:Int) ≤ 122)),decide_eq_false (by omega:¬ ((r:Int) ≤ 90)),decide_eq_false (by omega:¬ ((r:Int) = 95)),decide_eq_false (by omega:¬ bt s p ≤ 122),decide_eq_false (by omega:¬ bt s p ≤ 90),decide_eq_false (by omega:¬ bt s p = 95)]
       simp
   have emore:(decide ((r:Int) = 45) || (decide ((48:Int) ≤ (r:Int)) && decide ((r:Int) ≤ 57))) = (decide (s[p].toNat = 45) || (decide (48 ≤ s[p].toNat) && decide (s[p].toNat ≤ 57))):=by
     rw [b2]
     rcases Nat.lt_or_ge (bt s p) 128 with h | h
     · have e:=d1 h
       simp only [Prod.mk.injEq] at e
       obtain ⟨rfl,_⟩:=e
       congr 1
       · exact decide_eq_decide.2 (by omega)
       · congr 1 <;> exact decide_eq_decide.2 (by omega)
     · have:=d2 h
       rw [decide_eq_false (by omega:¬ ((r:Int) = 45)),decide_eq_false (by omega:¬ ((r:Int) ≤ 57)),decide_eq_false (by omega:¬ bt s p = 45),decide_eq_false (by omega:¬ bt s p ≤ 57)]
       simp
   have lnm:nmB s[p] = (letB s[p] || (decide (s[p].toNat = 45) || (decide (48 ≤ s[p].toNat) && decide (s[p].toNat ≤ 57)))):=by
     unfold nmB
     rw [Bool.or_assoc,Bool.or_comm (_ && _) (decide _)]
   have low:nmB s[p] = true → n = 1:=fun h=>by
     rcases Nat.lt_or_ge (bt s p) 128 with h1 | h1
     · have e:=d1 h1
       simp only [Prod.mk.injEq] at e
       exact e.2
     · exfalso
       have:∀ c:UInt8,nmB c = true → c.toNat < 128:=fun c hc=>by
         unfold nmB letB at hc
         simp only [Bool.or_eq_true,Bool.and_eq_true,decide_eq_true_eq] at hc
         omega
       have:=this _ h
       omega
   have next:nmB s[p] = true → (p = 0 → letB s[p] = true) → (∃ q,q ≤ s.length ∧ Ext w w5 ∧ w5.heap[w.heap.size]? = some (.stringIter (ofL s) q) ∧ (∀ i c,i < q → s[i]? = some c → nmB c = true ∧ (i = 0 → letB c = true))) ∧ (match w5.heap[w.heap.size]? with | some (.stringIter _ p)=>s.length - p | _=>0) < (match w3.heap[w.heap.size]? with | some (.stringIter _ p)=>s.length - p | _=>0):=fun h1 h2=>by
     obtain rfl:=low h1
     refine ⟨⟨p + 1,by omega,hx5,hit5,fun i c hi hc=>?_⟩,?_⟩
     · rcases Nat.lt_or_ge i p with h | h
       · exact hall i c h hc
       · obtain rfl:i = p:=by omega
         rw [b1] at hc
         cases hc
         exact ⟨h1,h2⟩
     · rw [hit5,hit]
       show s.length - (p + 1) < s.length - p
       omega
   refine JoinW.cut (fun st w'=>st = [.bool (letB s[p])] ∧ w' = w5) ?_ ?_
   · simp only [bin_geq,isB_t,bin_leq,GdW_pure,List.getD_cons_zero,pick_gd_and]
     intro _
     rw [condW_b]
     refine ⟨fun e=>⟨by rw [e,← elet,e]; simp,trivial⟩,fun e=>?_⟩
     intro _
     rw [condW_b]
     refine ⟨fun e2=>⟨by rw [e2,← elet,e,e2]; simp,trivial⟩,fun e2=>?_⟩
     rw [bin_eql]
     exact ⟨by rw [← elet,e,e2]; simp,trivial⟩
   rintro st g2 w6 ⟨rfl,rfl⟩
   simp only [List.getD_cons_zero]
   rw [condW_b]
   refine ⟨fun e=>?_,fun e=>?_⟩
   · obtain ⟨h1,h2⟩:=next (let_nm e) fun _=>e
     exact ⟨⟨trivial,h1⟩,h2⟩
   rw [bin_gtr]
   simp only [bin_eql,bin_geq,bin_leq]
   refine chain4 ?_
   rw [condW_b]
   rw [emore]
   refine ⟨fun e2=>?_,fun e2=>?_⟩
   · rw [Bool.and_eq_true,decide_eq_true_iff] at e2
     obtain ⟨h1,h2⟩:=next (by rw [lnm,e,e2.2]; rfl) fun h0=>by omega
     exact ⟨⟨trivial,h1⟩,h2⟩
   · have hno:nameM s = false:=by
       refine name_no b1 ?_
       by_cases h0:p = 0
       · exact .inr ⟨h0,e⟩
       · left
         rw [decide_eq_true (by omega:(0:Int) < (p:Int)),Bool.true_and] at e2
         rw [lnm,e,e2]; rfl
     have:=hK w6 hx5
     rw [hno] at this
     exact this
end
end Go.Proofs.YtnoepcndjljolaaGreatDoor
namespace Go.Proofs.YtnoepcndjljolaaGreatDoor
open Go Go.Eng Go.RowKit
set_option maxRecDepth 100000
section
variable [HX]
theorem letter_ref {c:UInt8} {w:World} {K:Value → World → Prop} (hK:K (.bool (letB c)) w):callF Tryz.prog 207 [.int .u8 (c.toNat:Nat)] w K:=by
 refine W207_ok ?_
 unfold W207
 rw [bin_geq]
 simp only [isB_f,isB_t,isB_gd_t,bin_geq,bin_leq,bin_eql,GdW_pure,GdW_nest_and,List.getD_cons_zero,pick_gd_or,pick_gd_and]
 intros
 have e:(decide ((97:Int) ≤ ((c.toNat:Nat):Int)) && decide (((c.toNat:Nat):Int) ≤ 122) || (decide ((65:Int) ≤ ((c.toNat:Nat):Int)) && decide (((c.toNat:Nat):Int) ≤ 90)) || decide (((c.toNat:Nat):Int) = 95)) = letB c:=by
   unfold letB
   congr 1
   · congr 1 <;> congr 1 <;> exact decide_eq_decide.2 (by omega)
   · exact decide_eq_decide.2 (by omega)
 rw [e]
 exact hK
theorem digit8_ref {c:UInt8} {w:World} {K:Value → World → Prop} (hK:K (.bool (decide (48 ≤ c.toNat) && decide (c.toNat ≤ 57))) w):callF Tryz.prog 208 [.int .u8 (c.toNat:Nat)] w K:=by
 refine W208_ok ?_
 unfold W208
 rw [bin_geq]
 simp only [isB_f,isB_t,bin_leq,GdW_pure,List.getD_cons_zero,pick_gd_and]
 intros
 have e:(decide ((48:Int) ≤ ((c.toNat:Nat):Int)) && decide (((c.toNat:Nat):Int) ≤ 57)) = (decide (48 ≤ c.toNat) && decide (c.toNat ≤ 57)):=by
   congr 1 <;> exact decide_eq_decide.2 (by omega)
 rw [e]
 exact hK
theorem name_ref {s:Str} {w:World} {K:Value → World → Prop} (hl:s.length ≤ 9223372036854775807) (hK:K (.bool (nameM s)) w):callF Tryz.prog 156 [str s] w K:=by
 refine W156_ok ?_
 unfold W156
 rw [lens_str,bin_eql]
 simp only [isB_f,lens_str,bin_gtr,GdW_pure,List.getD_cons_zero,pick_gd_or]
 intro _
 have at_b:∀ {i:Nat} {c:UInt8} {K:Value → Prop},s[i]? = some c → K (.int .u8 (c.toNat:Nat)) → ixsW (str s) (i64 (i:Nat)) K:=fun {i c K} h hk=>by
   rw [ixs_str]
   exact ⟨by omega,c,by simpa using h,hk⟩
 refine GdW.look (match s[0]? with | some c=>!letB c | none=>false) (fun hc J hJ=>?_) fun g=>?_
 · simp only [Bool.not_eq_true',Bool.or_eq_false_iff,decide_eq_false_iff_not] at hc
   have h0:0 < s.length:=by omega
   have e0:=List.getElem?_eq_getElem h0
   refine at_b (i:=0) e0 ?_
   refine letter_ref ?_
   rw [un_not]
   rw [e0] at hJ
   exact hJ
 simp only [List.getD_cons_zero]
 rw [pick_gd_or,condW_b]
 refine ⟨fun e=>?_,fun e=>?_⟩
 · have:nameM s = false:=by
     cases hn:nameM s with
     | false=>rfl
     | true=>
       obtain ⟨a1,a2,a3⟩:=name_out hn
       have h0:0 < s.length:=List.length_pos_iff.2 a1
       rw [decide_eq_false (by omega:¬ (s.length:Int) = 0),decide_eq_false (by omega:¬ (32:Int) < (s.length:Int)),List.getElem?_eq_getElem h0] at e
       simp only [Bool.or_self,Bool.false_or,Bool.not_eq_true'] at e
       have:=name_no (i:=0) (List.getElem?_eq_getElem h0) (.inr ⟨rfl,e⟩)
       rw [hn] at this
       exact this
   rw [this] at hK
   exact hK
 simp only [Bool.or_eq_false_iff,decide_eq_false_iff_not] at e
 obtain ⟨⟨n0,n32⟩,nl⟩:=e
 refine loop_up s.length (fun i w'=>w' = w ∧ ∀ j c,j < i → s[j]? = some c → nmB c = true) ⟨rfl,fun j c hj=>by omega⟩ ?_ ?_
 · rintro i w2 g2 L hi ⟨rfl,hall⟩ hL
   obtain ⟨c,hc⟩:∃ c,s[i]? = some c:=⟨_,List.getElem?_eq_getElem hi⟩
   have hlt:((i:Int) < (s.length:Int)):=by omega
   simp only [List.getD_cons_zero]
   rw [bin_lss,decide_eq_true hlt,condW_true]
   refine at_b hc ?_
   refine letter_ref ?_
   rw [un_not]
   refine GdW.look (!(decide (48 ≤ c.toNat) && decide (c.toNat ≤ 57))) (fun _ J hJ=>?_) fun g=>?_
   · refine at_b hc ?_
     refine digit8_ref ?_
     rw [un_not]
     exact hJ
   simp only [List.getD_cons_zero,isB_t]
   rw [pick_gd_and]
   simp only [isB_t]
   refine GdW.look (!decide (c.toNat = 45)) (fun _ J hJ=>?_) fun g=>?_
   · refine at_b hc ?_
     rw [bin_neq]
     have e:decide (((c.toNat:Nat):Int) ≠ 45) = !decide (c.toNat = 45):=by
       rw [← decide_not]; exact decide_eq_decide.2 (by omega)
     rw [e]
     exact hJ
   simp only [List.getD_cons_zero]
   rw [pick_gd_and,condW_b]
   have enm:(!letB c && !(decide (48 ≤ c.toNat) && decide (c.toNat ≤ 57)) && !decide (c.toNat = 45)) = !nmB c:=by
     unfold nmB
     rw [Bool.not_or,Bool.not_or]
   rw [enm]
   refine ⟨fun e=>?_,fun e=>?_⟩
   · rw [name_no hc (.inl (by simpa using e))] at hK
     exact hK
   · rw [bin_add,up1 (by omega)]
     refine hL w2 ⟨rfl,fun j d hj hd=>?_⟩
     rcases Nat.lt_or_ge j i with h | h
     · exact hall j d h hd
     · obtain rfl:j = i:=by omega
       rw [hc] at hd
       cases hd
       simpa using e
 · rintro w2 g2 L ⟨rfl,hall⟩
   simp only [List.getD_cons_zero]
   rw [bin_lss,decide_eq_false (by omega),condW_false]
   have:nameM s = true:=name_yes (fun e=>n0 (by rw [e]; rfl)) (by omega) (fun c hc=>by
     obtain ⟨i,hi,he⟩:=List.getElem_of_mem hc
     exact hall i c hi (by rw [List.getElem?_eq_getElem hi,he])) fun c hc=>by
       rw [hc] at nl
       simpa using nl
   rw [this] at hK
   exact hK
theorem cutsuf_p {s:Str} {c:UInt8} {w:World} {K:Value → World → Prop} (hl:s.length ≤ 9223372036854775807) (h1:∀ l,s = l ++ [c] → K (.tuple #[str l,.bool true]) w) (h2:(∀ l,s ≠ l ++ [c]) → K (.tuple #[str s,.bool false]) w) :
   callF Tryz.prog 75 [str s,str [c]] w K:=by
 refine W75_ok ?_
 unfold W75
 refine W132_ok ?_
 unfold W132
 refine W184_ok ?_
 unfold W184
 rw [lens_str,lens_str,bin_geq]
 have e1:(([c]:Str).length:Int) = 1:=rfl
 rw [e1]
 refine GdW.look (decide (s.drop (s.length - 1) = [c])) (fun hc J hJ=>?_) fun g=>?_
 · simp only [isB_t,decide_eq_true_eq] at hc
   rw [lens_str,lens_str,e1,bin_sub,wrap_id (by omega) (by omega),show (s.length:Int) - 1 = ((s.length - 1:Nat):Int) by omega,sls_str,bd_none,bd_some]
   refine ⟨by omega,by omega,?_⟩
   rw [Int.toNat_natCast,List.take_length,bin_seq]
   exact hJ
 simp only [List.getD_cons_zero,isB_t]
 rw [pick_gd_and,un_not,condW_b]
 refine ⟨fun e=>?_,fun e=>?_⟩
 · simp only [ext_tuple]
   refine ⟨_,rfl,_,rfl,h2 fun l hs=>?_⟩
   subst hs
   rw [decide_eq_true (by rw [List.length_append,List.length_singleton]; omega),decide_eq_true (by rw [List.length_append,List.length_singleton,Nat.add_sub_cancel,List.drop_left])] at e
   cases e
 · simp only [Bool.not_eq_false',Bool.and_eq_true,decide_eq_true_eq] at e
   rw [lens_str,lens_str,e1,bin_sub,wrap_id (by omega) (by omega),show (s.length:Int) - 1 = ((s.length - 1:Nat):Int) by omega,sls_str,bd_some]
   refine ⟨by omega,by omega,?_⟩
   rw [bd_none,Int.toNat_natCast,List.drop_zero]
   simp only [ext_tuple]
   refine ⟨_,rfl,_,rfl,h1 _ ?_⟩
   rw [← e.2,List.take_append_drop]
theorem idx_parts (t:Str) (c:UInt8):(Lib.indexByte t c = -1 ∧ c ∉ t) ∨ (∃ l r,t = l ++ c :: r ∧ c ∉ l ∧ Lib.indexByte t c = (l.length:Nat)):=by
 induction t with
 | nil=>exact .inl ⟨rfl,by simp⟩
 | cons d t ih=>
   unfold Lib.indexByte
   by_cases h:d = c
   · subst h
     right
     exact ⟨[],t,rfl,by simp,by simp⟩
   · have hb:(d == c) = false:=by simp [h]
     simp only [hb,Bool.false_eq_true,if_false]
     rcases ih with ⟨h1,h2⟩ | ⟨l,r,h1,h2,h3⟩
     · left
       rw [h1]
       exact ⟨by rfl,by simp [h2,Ne.symm h]⟩
     · right
       refine ⟨d :: l,r,by rw [h1]; rfl,by simp [h2,Ne.symm h],?_⟩
       rw [h3,if_neg (by
         intro e
         have:((l.length:Nat):Int) = -1:=by simpa using e
         omega),List.length_cons]
       omega
theorem idxb_p {s:Str} {c:UInt8} {w:World} {K:Value → World → Prop} (h1:∀ l r,s = l ++ c :: r → c ∉ l → K (i64 (l.length:Nat)) w) (h2:c ∉ s → K (i64 (-1)) w):callF Tryz.prog 76 [str s,.int .u8 (c.toNat:Nat)] w K:=by
 refine index_b (UInt8.toNat_lt c) ?_
 rw [show UInt8.ofNat c.toNat = c from UInt8.ofNat_toNat]
 rcases idx_parts s c with ⟨h3,h4⟩ | ⟨l,r,h3,h4,h5⟩
 · rw [h3]; exact h2 h4
 · rw [h5]; exact h1 l r h3 h4
theorem idx1_p {t:Str} {c:UInt8} {w:World} {K:Value → World → Prop} (hK:K (i64 (Lib.indexByte t c)) w):callF Tryz.prog 189 [str t,str [c]] w K:=by
 refine W189_ok ?_
 unfold W189
 rw [lens_str,bin_eql]
 simp only [List.length_cons,List.length_nil]
 rw [show decide (((0 + 1:Nat):Int) = 0) = false from rfl]
 refine GdW.look (decide (([c]:Str) = t)) (fun _ J hJ=>?_) fun g=>?_
 · rw [bin_seq]; exact hJ
 simp only [wsv,wsg,wsh,wsl,cond_true,cond_false,exists_eq_left',wsu,Nat.reduceAdd,Nat.reduceLT,Nat.lt_add_one,Nat.zero_lt_succ,decide_true,decide_false,ne_eq,reduceCtorEq]
 rw [condW_b]
 refine ⟨fun h=>?_,fun h=>?_⟩
 · have:t = [c]:=(of_decide_eq_true h).symm
   subst this
   have e:Lib.indexByte [c] c = 0:=by unfold Lib.indexByte; simp
   rw [e] at hK
   exact hK
 · refine ⟨fun _=>⟨by omega,c,rfl,?_⟩,fun h=>absurd h (by simp)⟩
   refine of_calls (args:=#[str t,.int .u8 (c.toNat:Nat)]) Tryz.call133 ((Tryz.stringslite_IndexByte (ofL t) (c.toNat:Nat) w).mono ?_)
   rintro e w' ⟨rfl,rfl⟩
   rw [ofL_data]
   refine ⟨_,rfl,?_⟩
   have e:((c.toNat:Nat):Int).toNat.toUInt8 = c:=by rw [Int.toNat_natCast]; exact UInt8.ofNat_toNat
   rw [e]
   exact hK
theorem cut1_p {t:Str} {c:UInt8} {w:World} {K:Value → World → Prop} (hl:t.length ≤ 1000000) (h1:∀ l r w',t = l ++ c :: r → c ∉ l → Ext w w' → K (.tuple #[str l,str r,.bool true]) w') (h2:c ∉ t → K (.tuple #[str t,str [],.bool false]) w) :
   callF Tryz.prog 79 [str t,str [c]] w K:=by
 refine W79_ok ?_
 unfold W79
 refine W135_ok ?_
 unfold W135
 refine idx1_p ?_
 rw [bin_geq]
 rcases idx_parts t c with ⟨h3,h4⟩ | ⟨l,r,h3,h4,h5⟩
 · rw [h3,show decide ((0:Int) ≤ -1) = false from rfl,condW_false]
   simp only [ext_tuple]
   exact ⟨_,rfl,_,rfl,_,rfl,h2 h4⟩
 · have hll:t.length = l.length + (r.length + 1):=by rw [h3]; simp
   rw [h5,decide_eq_true (by omega),condW_true,sls_str,bd_some]
   refine ⟨by omega,by omega,?_⟩
   rw [bd_none,Int.toNat_natCast,List.drop_zero,lens_str,bin_add,sls_str,bd_none,bd_some]
   have e:IntKind.i64.wrap ((l.length:Int) + (([c]:Str).length:Nat)) = ((l.length + 1:Nat):Int):=by rw [wrap_id (by simp; omega) (by simp; omega)]; simp
   rw [e]
   refine ⟨by omega,by omega,?_⟩
   dsimp only
   simp only [ext_tuple]
   have e1:t.take l.length = l:=by rw [h3,List.take_left]
   have e2:t.drop (l.length + 1) = r:=by rw [h3,← List.drop_drop,List.drop_left]; rfl
   refine ⟨_,rfl,_,rfl,_,rfl,?_⟩
   rw [e1,List.take_length,Int.toNat_natCast,e2]
   exact h1 l r _ h3 h4 (Chg.drew (Chg.refl _ _))
end
end Go.Proofs.YtnoepcndjljolaaGreatDoor
namespace Go.Proofs.YtnoepcndjljolaaGreatDoor
open Go Go.Eng
set_option maxRecDepth 100000
variable [HX]
def plan188:Plan:={ js:=[],ds:=[] }
def W188 (v0 v1:Value) (w:World) (K:Value → World → Prop):Prop:=
 callF Tryz.prog 189 [v0,v1] w fun t7 w1=>
 K t7 w1
theorem W188_ok {v0 v1:Value} {w:World} {K:Value → World → Prop} (h:W188 v0 v1 w K):callF Tryz.prog 188 [v0,v1] w K:=
 tie _ 188 Tryz.f188 plan188 _ w K 2 _ rfl mixed Tryz.func188 (by kernel_rfl) (by kernel_rfl) Tryz.call188 h
end Go.Proofs.YtnoepcndjljolaaGreatDoor
namespace Go.Proofs.YtnoepcndjljolaaGreatDoor
open Go Go.Eng Go.RowKit
set_option maxRecDepth 100000
section
variable [HX]
theorem index1_p {t:Str} {c:UInt8} {w:World} {K:Value → World → Prop} (hK:K (i64 (Lib.indexByte t c)) w):callF Tryz.prog 188 [str t,str [c]] w K:=by
 refine W188_ok ?_
 unfold W188
 exact idx1_p hK
theorem make_s {n:Nat} {w:World} {K:Value → World → Prop} (hm:n ≤ 1000000) (hK:∀ a w',a = w.heap.size → w'.heap[a]? = some (.cells (List.replicate n (str [])).toArray ST (0,0)) → Ext w w' → K (.slice (some ⟨a,0,none⟩) n n) w') :
   semE Tryz.prog (Instr.makeSlice 38 (i64 (n:Nat)) (i64 (n:Nat))) w K:=by
 have hinf:((Tryz.prog.info? ST).bind (·.zero)) = some (str []):=by kernel_rfl
 obtain ⟨i,z,hi,hz,hsz,hbytes,hzs⟩:=elem_s.get
 have hz0:z = str []:=by
   rw [hi] at hinf
   simp only [Option.bind_some] at hinf
   rw [hz] at hinf
   exact Option.some.inj hinf
 subst hz0
 unfold semE
 have hr:=run_makeSlice (P:=Tryz.prog) (w:=w) 38 ST i _ (by kernel_rfl) hi hz .i64 .i64 n n (by omega) (by omega) (by rw [hsz]; omega) (by rw [hbytes]; omega) (by omega)
 rw [hr,hsz]
 simp only [Int.toNat_natCast,Nat.mul_one]
 have hc:madeCells (Value.cells (str [])) n = (List.replicate n (str [])).toArray:=by
   apply Array.ext_getElem?
   intro j
   simp only [madeCells,Array.getElem?_map,List.getElem?_toArray]
   by_cases hj:j < n
   · rw [Array.getElem?_eq_getElem (by simpa using hj)]
     simp [Value.cells,hj,Nat.mod_one]
   · rw [Array.getElem?_eq_none (by simp; omega)]
     simp [hj]
 rw [hc]
 exact hK _ _ rfl (heap_anew _ _ _ rfl) (by repeat (first | assumption | exact Chg.refl _ _ | refine Chg.drew ?_ | refine Chg.alloc ?_ _ | refine Chg.set ?_ (by first | exact .inl rfl | exact .inr (by omega) | exact .inr (by simp only [size_set,size_alloc,size_drew]; omega) | (left; simp; done)) _ | exact Chg.of_ext (by assumption)))
theorem count1_p {t:Str} {c:UInt8} {w:World} {K:Value → World → Prop} (hK:K (i64 ((t.count c:Nat):Int)) w):callF Tryz.prog 187 [str t,str [c]] w K:=by
 refine of_calls (args:=#[str t,str [c]]) Tryz.call187 ((Tryz.strings_Count_one (ofL t) c w).mono ?_)
 rintro e w' ⟨rfl,rfl⟩
 rw [ofL_data]
 exact ⟨_,rfl,hK⟩
theorem split_p {s:Str} {c:UInt8} {w:World} {K:Value → World → Prop} (hl:s.length ≤ 500000) (hK:∀ a w',Ext w w' → w.heap.size ≤ a → w'.heap[a]? = some (.cells ((splitM c s).map str).toArray ST (0,0)) → K (.slice (some ⟨a,0,none⟩) (splitM c s).length (splitM c s).length) w') :
   callF Tryz.prog 78 [str s,str [c]] w K:=by
 refine W78_ok ?_
 unfold W78
 refine W134_ok ?_
 unfold W134
 have hcnt:=split_count c s
 have hcl:s.count c ≤ s.length:=List.count_le_length
 rw [bin_eql,decide_eq_false (by decide),condW_false,bin_seq,decide_eq_false (by simp),condW_false]
 refine JoinW.cut (fun st w'=>st = [i64 ((splitM c s).length:Nat)] ∧ w' = w) ?_ ?_
 · rw [bin_lss,decide_eq_true (by decide),condW_true]
   refine count1_p ?_
   rw [bin_add,up1 (by omega),hcnt]
   exact ⟨rfl,rfl⟩
 rintro st g w1 ⟨rfl,rfl⟩
 simp only [List.getD_cons_zero]
 rw [lens_str,bin_add,up1 (by omega),min_int]
 rw [if_neg (by omega)]
 generalize hn:(splitM c s).length = n at *
 refine make_s (by omega) fun a w2 ha hb2 hx2=>?_
 rw [bin_sub,wrap_id (by omega) (by omega)]
 refine JoinW.cut (fun st w'=>∃ (D:List Str) (r:Str),st = [str r,i64 (D.length:Nat)] ∧ Ext w1 w' ∧ w'.heap[a]? = some (.cells (D.map str ++ List.replicate (n - D.length) (str [])).toArray ST (0,0)) ∧ splitM c s = D ++ [r] ∧ D.length + 1 = n) ?_ ?_
 · refine LoopW.go (fun st w'=>∃ (D:List Str) (r:Str),st = [str r,i64 (D.length:Nat)] ∧ Ext w1 w' ∧ w'.heap[a]? = some (.cells (D.map str ++ List.replicate (n - D.length) (str [])).toArray ST (0,0)) ∧ splitM c s = D ++ splitM c r ∧ D.length + 1 ≤ n ∧ r.length ≤ s.length) (fun st _=>match st with | [_,.int _ i]=>n - i.toNat | _=>0)
     ⟨[],s,rfl,hx2,by simpa using hb2,by simp,by simp; omega,Nat.le_refl _⟩ ?_
   rintro st g w3 ⟨D,r,rfl,hx3,hb3,hsp,hDn,hrl⟩
   have hlen:=congrArg List.length hsp
   rw [List.length_append,hn,split_count] at hlen
   simp only [List.getD_cons_zero,List.getD_cons_succ]
   rw [bin_lss,condW_dec]
   refine ⟨fun hlt=>?_,fun hge=>?_⟩
   · refine index1_p ?_
     rcases idx_parts r c with ⟨h3,h4⟩ | ⟨l,q,h3,h4,h5⟩
     · have:r.count c = 0:=List.count_eq_zero.2 h4
       omega
     · have hrl2:r.length = l.length + (q.length + 1):=by rw [h3]; simp
       rw [h5,bin_lss,decide_eq_false (by omega),condW_false,bin_add,wrap_id (by omega) (by omega),Int.add_zero,sls_str,bd_some]
       refine ⟨by omega,by omega,?_⟩
       rw [bd_none,Int.toNat_natCast,List.drop_zero,ixa_slice]
       refine ⟨by omega,by omega,?_⟩
       rw [add_mk,Nat.zero_add,Int.toNat_natCast,Nat.mul_one]
       refine st_at hb3 rfl (by simp; omega) fun w4 hz4 hb4 hc4=>?_
       rw [lens_str,bin_add,show (([c]:Str).length:Int) = 1 from rfl,up1 (by omega),sls_str,bd_none,bd_some]
       refine ⟨by omega,by omega,?_⟩
       rw [bin_add,up1 (by omega)]
       have e1:r.take l.length = l:=by rw [h3,List.take_left]
       have e2:r.drop (l.length + 1) = q:=by rw [h3,← List.drop_drop,List.drop_left]; rfl
       rw [List.take_length,Int.toNat_natCast,e2]
       rw [e1] at hb4
       refine ⟨⟨D ++ [l],q,by simp,hx3.new hc4 (by omega),?_,?_,by rw [List.length_append,List.length_singleton]; omega,by omega⟩,?_⟩
       · rw [hb4]
         have e3:(D.map str ++ List.replicate (n - D.length) (str [])).set D.length (str l) = (D ++ [l]).map str ++ List.replicate (n - (D ++ [l]).length) (str []):=by
           obtain ⟨k,hk⟩:∃ k,n - D.length = k + 1:=⟨n - D.length - 1,by omega⟩
           have hk2:n - (D ++ [l]).length = k:=by rw [List.length_append,List.length_singleton]; omega
           rw [hk,hk2,List.set_append_right _ _ (by simp)]
           simp [List.replicate_succ]
         rw [← e3]
         simp
       · rw [hsp,h3,split_app (fun x hx e=>h4 (by rw [← e]; exact hx))]
         simp
       · simp only [Int.toNat_natCast,List.length_append,List.length_singleton]; omega
   · have h0:r.count c = 0:=by omega
     refine ⟨D,r,rfl,hx3,hb3,?_,by omega⟩
     rw [hsp,split_none (fun x hx e=>List.count_eq_zero.1 h0 (by rw [← e]; exact hx))]
 rintro st g w3 ⟨D,r,rfl,hx3,hb3,hsp,hDn⟩
 simp only [List.getD_cons_zero,List.getD_cons_succ]
 rw [ixa_slice]
 refine ⟨by omega,by omega,?_⟩
 rw [add_mk,Nat.zero_add,Int.toNat_natCast,Nat.mul_one]
 refine st_at hb3 rfl (by simp; omega) fun w4 hz4 hb4 hc4=>?_
 rw [bin_add,up1 (by omega),hDn,sll_hi (Nat.le_refl _) (by omega)]
 refine hK a w4 (hx3.new hc4 (by omega)) (by omega) ?_
 rw [hb4]
 have e3:(D.map str ++ List.replicate (n - D.length) (str [])).set D.length (str r) = (splitM c s).map str:=by
   rw [show n - D.length = 1 by omega,List.set_append_right _ _ (by simp),hsp]
   simp
 rw [← e3]
 simp
end
end Go.Proofs.YtnoepcndjljolaaGreatDoor
namespace Go.Proofs.YtnoepcndjljolaaGreatDoor
open Go Go.Eng Go.RowKit
set_option maxRecDepth 100000
abbrev AdT:TypeId:=76
abbrev RaT:TypeId:=84
structure AFits (a:AV):Prop where
 mods:a.mods.length ≤ 9223372036854775807
 typ:a.typ.length ≤ 9223372036854775807
 nm:a.nm.length ≤ 9223372036854775807
 key:a.key.length ≤ 9223372036854775807
 kind:-9223372036854775808 ≤ a.kind ∧ a.kind ≤ 9223372036854775807
 num:-9223372036854775808 ≤ a.num ∧ a.num ≤ 9223372036854775807
 each:∀ m ∈ a.mods,m.length ≤ 9223372036854775807
abbrev acs (a:AV) (sv:Value):List Value:=[sv,str a.typ,str a.nm,i64 a.kind,i64 a.num,str a.key,.bool a.aside]
def ARep (w:World) (a:AV) (cs:List Value):Prop:=∃ sv T,cs = acs a sv ∧ SlAt w T sv a.mods.length (a.mods.map str) ∧ AFits a
theorem ARep.ext {w w':World} {a:AV} {cs:List Value} (h:ARep w a cs) (hx:Ext w w'):ARep w' a cs:=by
 obtain ⟨sv,T,e,h1,h2⟩:=h
 exact ⟨sv,T,e,h1.ext hx,h2⟩
theorem ARep.len {w:World} {a:AV} {cs:List Value} (h:ARep w a cs):cs.length = 7:=by obtain ⟨sv,T,rfl,_⟩:=h; rfl
theorem ARep.one {w:World} {a:AV} {cs:List Value} (h:ARep w a cs):cs.all one1 = true:=by
 obtain ⟨sv,T,rfl,h1,_⟩:=h
 obtain ⟨p,c,rfl,_⟩:=h1.shape
 rfl
structure AcB (T0:TypeId) (w:World) (p:Nat) (a:AV) (sv:Value):Prop where
 hb:w.heap[p]? = some (.cells (acs a sv).toArray T0 (0,0))
 sl:∃ T,SlAt w T sv a.mods.length (a.mods.map str)
 fits:AFits a
theorem AcB.ext {T0:TypeId} {w w':World} {p:Nat} {a:AV} {sv:Value} (h:AcB T0 w p a sv) (hx:Ext w w'):AcB T0 w' p a sv:=⟨hx.at h.hb id,let ⟨T,h1⟩:=h.sl; ⟨T,h1.ext hx⟩,h.fits⟩
theorem AcB.drew {T0:TypeId} {w:World} {p:Nat} {a:AV} {sv:Value} (h:AcB T0 w p a sv):AcB T0 w.drew p a sv:=h.ext (Chg.drew (Chg.refl (fun _=>False) w))
theorem AcB.rep {T0:TypeId} {w:World} {p:Nat} {a:AV} {sv:Value} (h:AcB T0 w p a sv):ARep w a (acs a sv):=let ⟨T,h1⟩:=h.sl; ⟨sv,T,rfl,h1,h.fits⟩
theorem AcB.all {T0:TypeId} {w:World} {p:Nat} {a:AV} {sv:Value} {K:Value → Prop} (h:AcB T0 w p a sv) (hk:K (.agg (acs a sv).toArray)):ldW true 7 (.pointer (some ⟨p,0,none⟩)) w K:=ld_all h.hb rfl hk
theorem AcB.ld {T0:TypeId} {w:World} {p off:Nat} {a:AV} {sv v:Value} {K:Value → Prop} (h:AcB T0 w p a sv) (hv:(acs a sv)[off]? = some v) (hk:K v):fldW off (.pointer (some ⟨p,0,none⟩)) fun t=>ldW false 1 t w K:=by
 rw [fld_ptr,ld_one]
 refine ⟨v,?_,hk⟩
 rw [add_mk,cell_eq,h.hb,cellO_some,Nat.zero_add]
 simpa using hv
theorem AcB.ld1 {T0:TypeId} {w:World} {p off:Nat} {a:AV} {sv v:Value} {K:Value → Prop} (h:AcB T0 w p a sv) (hv:(acs a sv)[off]? = some v) (hk:K v):ldW false 1 (.pointer (some ((⟨p,0,none⟩:Addr).add off))) w K:=by
 have:=h.ld (K:=K) hv hk
 rw [fld_ptr] at this
 exact this
theorem box_a {T0:TypeId} {w:World} {a:AV} {cs:List Value} {K:Value → World → Prop} (h:ARep w a cs) (hK:∀ p w' sv,AcB T0 w' p a sv → Ext w w' → p = w.heap.size → (∃ T,SlAt w T sv a.mods.length (a.mods.map str)) → K (.pointer (some ⟨p,0,none⟩)) w'):boxW T0 (.agg cs.toArray) w K:=by
 obtain ⟨sv,T,rfl,h1,h2⟩:=h
 exact box_new fun p w' hp hz hb hx=>hK p w' sv ⟨hb,⟨T,h1.ext hx⟩,h2⟩ hx hp ⟨T,h1⟩
theorem keep_a {T0:TypeId} {w:World} {a:AV} {cs:List Value} {K:Value → World → Prop} (h:ARep w a cs) (hK:∀ p w' sv,AcB T0 w' p a sv → Ext w w' → w.heap.size ≤ p → K (.pointer (some ⟨p,0,none⟩)) w') :
   allocW T0 [(.slice none 0 0),(.string (ofL [])),(.string (ofL [])),(.int .i64 0),(.int .i64 0),(.string (ofL [])),(.bool false)] w fun t1 w2=>stW 7 t1 (.agg cs.toArray) w2 fun w3=>K t1 w3:=by
 obtain ⟨sv,T,e,h1,h2⟩:=id h
 refine alloc_new fun p w1 hp hz hb hx=>?_
 refine st_agg_at hb h.len rfl h.one fun w2 hz2 hb2 hc2=>?_
 have hx2:Ext w w2:=hx.new hc2 (by omega)
 exact hK p w2 sv ⟨by rw [← e]; exact hb2,⟨T,h1.ext hx2⟩,h2⟩ hx2 (by omega)
theorem enc_text (k:Str):encM 1 20 31 3 (.mk 4 false k [] []) = if 16384 < k.length then ([],1) else if utfM k = false then ([],31) else if 65536 < (quoteM k).length then ([],3) else (quoteM k,0):=by
 unfold encM
 have hg:goodM (.mk 4 false k [] []) = decide (k.length ≤ 16384):=by
   simp [goodM,sizeM,sizeLM,deepM,deepL,plainM,plainL,headOk,keysOk]
 have hs:showM (.mk 4 false k [] []) = quoteM k:=by simp [showM]
 have ht:textsM (.mk 4 false k [] []) = utfM k:=by simp [textsM,textsL]
 rw [hg,hs,ht,show knownM (.mk 4 false k [] []) = true from rfl]
 by_cases h1:k.length ≤ 16384
 · rw [decide_eq_true h1,if_neg (by simp),if_neg (by simp),if_neg (by omega:¬ 16384 < k.length)]
 · rw [decide_eq_false h1,if_pos rfl,if_pos (by omega)]
section
variable [HX]
theorem imax:IntKind.i64.max = 9223372036854775807:=by decide
theorem sadd_p {l m:Str} {K:Value → Prop} (h:l.length + m.length ≤ 1000000000) (hK:K (str (l ++ m))):binW .add (str l) (str m) K:=by
 rw [bin_sadd]
 exact ⟨by rw [imax]; omega,hK⟩
theorem show_p {a:AV} {cs:List Value} {w:World} {K:Value → World → Prop} (hT:Tabs w) (h:ARep w a cs) (hK:∀ w',Ext w w' → K (if goodAd a then .tuple #[str (showA a),i64 0] else .tuple #[str [],i64 6]) w') :
   callF Tryz.prog 42 [.agg cs.toArray] w K:=by
 refine W42_ok ?_
 unfold W42
 refine box_a h fun p w1 sv hB hx1 hp hs0=>?_
 have fit:=hB.fits
 obtain ⟨Tm,hsl0⟩:=hs0
 have hsl:=hsl0.ext hx1
 refine hB.ld rfl ?_
 rw [lenl_at hsl,bin_gtr]
 refine GdW.act (!nameM a.typ) (fun w'=>Ext w1 w') (fun _=>Chg.refl _ _) (fun _ J hJ=>?_) ?_
 · refine hB.ld rfl ?_
   refine name_p fun w2 hx2=>?_
   rw [un_not]
   exact hJ w2 hx2
 intro g w2 hx2
 simp only [List.getD_cons_zero,isB_f]
 rw [pick_gd_or]
 simp only [isB_f]
 refine GdW.act (!nameM a.nm) (fun w'=>Ext w1 w') (fun _=>hx2) (fun _ J hJ=>?_) ?_
 · refine (hB.ext hx2).ld rfl ?_
   refine name_p fun w3 hx3=>?_
   rw [un_not]
   exact hJ w3 (hx2.trans hx3)
 intro g w3 hx3
 simp only [List.getD_cons_zero,isB_f]
 rw [pick_gd_or]
 simp only [isB_f]
 refine GdW.act (a.mods.any fun m=>!nameM m) (fun w'=>Ext w1 w') (fun _=>hx3) (fun _ J hJ=>?_) ?_
 · refine (hB.ext hx3).ld rfl ?_
   refine contains_sx (p:=fun m=>!nameM m) (hsl.ext hx3) fit.mods (fun x hx {w4 K} hx4 hK=>?_) fun w5 hx5=>hJ w5 (hx3.trans hx5)
   refine callV_fn ?_
   refine W88_ok ?_
   unfold W88
   refine name_p fun w6 hx6=>?_
   rw [un_not]
   exact hK w6 hx6
 intro g w4 hx4
 simp only [List.getD_cons_zero]
 rw [pick_gd_or,condW_b]
 have hx04:=hx1.trans hx4
 have eall:(a.mods.any fun m=>!nameM m) = !a.mods.all nameM:=by rw [List.not_all_eq_any_not]
 rw [eall]
 refine ⟨fun e=>?_,fun e=>?_⟩
 · have hg:goodAd a = false:=by
     cases hh:goodAd a with
     | false=>rfl
     | true=>
       obtain ⟨a1,a2,a3,a4,_⟩:=good_out hh
       rw [decide_eq_false (by omega),a2,a3,List.all_eq_true.2 a4] at e
       cases e
   have:=hK w4 hx04
   rw [hg] at this
   exact this
 simp only [Bool.or_eq_false_iff,decide_eq_false_iff_not,Bool.not_eq_false'] at e
 obtain ⟨⟨⟨n4,ntyp⟩,nnm⟩,nmods⟩:=e
 rw [List.all_eq_true] at nmods
 have ltyp:=(name_out ntyp).2.1
 have lnm:=(name_out nnm).2.1
 have hgood:goodAd a = (if a.kind = 0 then decide (a.num = 0) && decide (a.key = []) else if a.kind = 1 then decide (0 ≤ a.num) && decide (a.num ≤ 1000000000) && decide (a.key = [])
     else decide (a.kind = 2) && decide (a.num = 0) && utfM a.key && decide (a.key.length ≤ 16384) && decide ((quoteM a.key).length ≤ 65536)):=by
   unfold goodAd
   rw [decide_eq_true (by omega:a.mods.length ≤ 4),ntyp,nnm,List.all_eq_true.2 nmods]
   rfl
 have hB4:=hB.ext hx4
 refine bnew (B:=w4.heap.size) (Nat.le_refl _) fun b w5 hb hBd hx5=>?_
 have hBe:∃ B,B = w4.heap.size:=⟨_,rfl⟩
 obtain ⟨B,hBB⟩:=hBe
 rw [← hBB] at hBd hb
 have hpB:p < B:=by have:=at_lt hB4.hb; omega
 have hwB:w.heap.size ≤ B:=by have:=hx04.size; omega
 have hB5:=hB4.ext hx5
 obtain ⟨Tm5,hsl5⟩:=hB5.sl
 -- what stays while the builder is written
 have keep:∀ {w' w'':World},AcB AdT w' p a sv → Ext w w' → B ≤ w'.heap.size → Chg (BCh w' B b) w' w'' → AcB AdT w'' p a sv ∧ Ext w w'' ∧ B ≤ w''.heap.size:=fun {w' w''} h1 h2 h3 hc=>by
   have hno:∀ k,k < B → ¬ BCh w' B b k:=fun k hk e=>by
     rcases e with rfl | ⟨e,_⟩ <;> omega
   have hx:Ext w w'':=h2.then hc fun k hk e=>hno k (by omega) e
   exact ⟨⟨hc.at h1.hb (hno p hpB),⟨Tm,hsl0.ext hx⟩,h1.fits⟩,hx,by have:=hc.size; omega⟩
 refine hB5.ld rfl ?_
 have hx05:=hx04.trans hx5
 rw [lenl_at (hsl0.ext hx05)]
 have flen:∀ l:List Str,(∀ m ∈ l,nameM m = true) → (l.flatMap (fun m=>m ++ [47])).length ≤ 33 * l.length:=fun l=>by
   induction l with
   | nil=>intro _; simp
   | cons m l ih=>
     intro hm
     have h1:=(name_out (hm m (by simp))).2.1
     have h2:=ih fun x hx=>hm x (by simp [hx])
     rw [List.flatMap_cons,List.length_append,List.length_append,List.length_singleton,List.length_cons]
     omega
 refine loop_up a.mods.length (fun i w'=>AcB AdT w' p a sv ∧ Ext w w' ∧ B ≤ w'.heap.size ∧ Bld w' B b ((a.mods.take i).flatMap (fun m=>m ++ [47]))) ⟨hB5,hx05,by have:=hx5.size; omega,by simpa using hBd⟩ ?_ ?_
 · rintro i w6 g L hi ⟨hB6,hx6,hz6,hBd6⟩ hL
   obtain ⟨m,hm⟩:∃ m,a.mods[i]? = some m:=⟨_,List.getElem?_eq_getElem hi⟩
   have hmm:=nmods m (List.mem_of_getElem? hm)
   have hml:=(name_out hmm).2.1
   have hfl:=flen (a.mods.take i) fun x hx=>nmods x (List.mem_of_mem_take hx)
   have htl:(a.mods.take i).length ≤ 4:=by rw [List.length_take]; omega
   simp only [List.getD_cons_zero]
   rw [bin_lss,decide_eq_true (by omega),condW_true]
   refine text_ld (hsl0.ext hx6) hm ?_
   refine sadd_p (by simp; omega) ?_
   refine wstr_p hBd6 hz6 (by rw [List.length_append,List.length_singleton]; omega) fun _ w7 hBd7 hc7=>?_
   obtain ⟨q1,q2,q3⟩:=keep hB6 hx6 hz6 hc7
   rw [bin_add,up1 (by omega)]
   refine hL w7 ⟨q1,q2,q3,?_⟩
   rw [List.take_add_one,hm]
   simpa using hBd7
 rintro w6 g L ⟨hB6,hx6,hz6,hBd6⟩
 rw [List.take_length] at hBd6
 have hfl:=flen a.mods nmods
 simp only [List.getD_cons_zero]
 rw [bin_lss,decide_eq_false (by omega),condW_false]
 refine hB6.ld rfl ?_
 refine sadd_p (by simp; omega) ?_
 refine hB6.ld rfl ?_
 refine sadd_p (by simp; omega) ?_
 refine wstr_p hBd6 hz6 (by simp only [List.length_append,List.length_singleton]; omega) fun _ w7 hBd7 hc7=>?_
 obtain ⟨hB7,hx7,hz7⟩:=keep hB6 hx6 hz6 hc7
 have ehead:a.mods.flatMap (fun m=>m ++ [47]) ++ (a.typ ++ [46] ++ a.nm) = headA a:=by unfold headA; simp
 rw [ehead] at hBd7
 have hhl:(headA a).length ≤ 300:=by rw [← ehead,List.length_append,List.length_append,List.length_append,List.length_singleton]; omega
 -- the bracket
 have bad:∀ {w':World},goodAd a = false → Ext w w' → K (.tuple #[str [],i64 6]) w':=fun hg hx=>by
   have:=hK _ hx
   rw [hg] at this
   exact this
 refine JoinW.cut (fun st w'=>st = [] ∧ goodAd a = true ∧ AcB AdT w' p a sv ∧ Ext w w' ∧ B ≤ w'.heap.size ∧ Bld w' B b (headA a ++ brA a)) ?_ ?_
 · refine hB7.ld rfl ?_
   rw [bin_eql]
   refine GdW.look (decide (a.num = 0)) (fun _ J hJ=>?_) fun g=>?_
   · refine hB7.ld rfl ?_
     rw [bin_eql]
     exact hJ
   simp only [List.getD_cons_zero,isB_t]
   rw [pick_gd_and]
   simp only [isB_t]
   refine GdW.look (decide (a.key = [])) (fun _ J hJ=>?_) fun g=>?_
   · refine hB7.ld rfl ?_
     rw [bin_seq]
     exact hJ
   simp only [List.getD_cons_zero]
   rw [pick_gd_and,condW_b]
   refine ⟨fun e0=>?_,fun e0=>?_⟩
   · simp only [Bool.and_eq_true,decide_eq_true_eq] at e0
     obtain ⟨⟨k0,n0⟩,key0⟩:=e0
     refine ⟨by first | rfl | trivial,?_,hB7,hx7,hz7,?_⟩
     · rw [hgood,if_pos k0,decide_eq_true n0,decide_eq_true key0]; rfl
     · have:brA a = []:=by unfold brA; rw [if_neg (by omega),if_neg (by omega)]
       rw [this,List.append_nil]
       exact hBd7
   refine hB7.ld rfl ?_
   rw [bin_eql]
   refine GdW.look (decide (0 ≤ a.num)) (fun _ J hJ=>?_) fun g=>?_
   · refine hB7.ld rfl ?_
     rw [bin_geq]
     exact hJ
   simp only [List.getD_cons_zero,isB_t]
   rw [pick_gd_and]
   simp only [isB_t]
   refine GdW.look (decide (a.num ≤ 1000000000)) (fun _ J hJ=>?_) fun g=>?_
   · refine hB7.ld rfl ?_
     rw [bin_leq]
     exact hJ
   simp only [List.getD_cons_zero,isB_t]
   rw [pick_gd_and]
   simp only [isB_t]
   refine GdW.look (decide (a.key = [])) (fun _ J hJ=>?_) fun g=>?_
   · refine hB7.ld rfl ?_
     rw [bin_seq]
     exact hJ
   simp only [List.getD_cons_zero]
   rw [pick_gd_and,condW_b]
   refine ⟨fun e1=>?_,fun e1=>?_⟩
   · simp only [Bool.and_eq_true,decide_eq_true_eq] at e1
     obtain ⟨⟨⟨k1,n0⟩,n1⟩,key0⟩:=e1
     have hil:=(itoa_good n0 n1).2.1
     refine hB7.ld rfl ?_
     refine itoa_p (hT.ext hx7) (by omega) (by omega) fun w8 hx8=>?_
     refine sadd_p (by simp; omega) ?_
     refine sadd_p (by simp; omega) ?_
     refine wstr_p (hBd7.ext hx8) (by have:=hx8.size; omega) (by simp; omega) fun _ w9 hBd9 hc9=>?_
     obtain ⟨q1,q2,q3⟩:=keep (hB7.ext hx8) (hx7.trans hx8) (by have:=hx8.size; omega) hc9
     refine ⟨trivial,?_,q1,q2,q3,?_⟩
     · rw [hgood,if_neg (by omega),if_pos k1,decide_eq_true n0,decide_eq_true n1,decide_eq_true key0]; rfl
     · have:brA a = [91] ++ Lib.itoa a.num ++ [93]:=by unfold brA; rw [if_pos k1]
       rw [this]
       exact hBd9
   refine hB7.ld rfl ?_
   rw [bin_eql]
   refine GdW.look (decide (a.num = 0)) (fun _ J hJ=>?_) fun g=>?_
   · refine hB7.ld rfl ?_
     rw [bin_eql]
     exact hJ
   simp only [List.getD_cons_zero,isB_t]
   rw [pick_gd_and,condW_b]
   refine ⟨fun e2=>?_,fun e2=>?_⟩
   · simp only [Bool.and_eq_true,decide_eq_true_eq] at e2
     obtain ⟨k2,n0⟩:=e2
     refine hB7.ld rfl ?_
     refine text_p fit.key fun ts w8 hx8 hts=>?_
     have hT8:=hT.ext (hx7.trans hx8)
     refine encode_p hT8.utf (fmt_ok hT8.bru) (hts w8) fun w9 hx9=>?_
     rw [enc_text]
     simp only [ext_tuple]
     refine ⟨_,rfl,_,rfl,?_⟩
     rw [bin_neq,condW_dec]
     have hx79:=hx8.trans hx9
     have hgk:goodAd a = (utfM a.key && decide (a.key.length ≤ 16384) && decide ((quoteM a.key).length ≤ 65536)):=by
       rw [hgood,if_neg (by omega),if_neg (by omega),decide_eq_true k2,decide_eq_true n0]; rfl
     by_cases c1:16384 < a.key.length
     · rw [if_pos c1]
       refine ⟨fun _=>bad (by rw [hgk,decide_eq_false (by omega)]; simp) (hx7.trans hx79),fun h=>absurd h (by simp)⟩
     rw [if_neg c1]
     by_cases c2:utfM a.key = false
     · rw [if_pos c2]
       refine ⟨fun _=>bad (by rw [hgk,c2]; simp) (hx7.trans hx79),fun h=>absurd h (by simp)⟩
     rw [if_neg c2]
     by_cases c3:65536 < (quoteM a.key).length
     · rw [if_pos c3]
       refine ⟨fun _=>bad (by rw [hgk,decide_eq_false (by omega:¬ (quoteM a.key).length ≤ 65536)]; simp) (hx7.trans hx79),fun h=>absurd h (by simp)⟩
     rw [if_neg c3]
     refine ⟨fun h=>absurd rfl h,fun _=>?_⟩
     refine sadd_p (by simp; omega) ?_
     refine sadd_p (by simp; omega) ?_
     refine wstr_p (hBd7.ext hx79) (by have:=hx79.size; omega) (by simp; omega) fun _ w10 hBd10 hc10=>?_
     obtain ⟨q1,q2,q3⟩:=keep (hB7.ext hx79) (hx7.trans hx79) (by have:=hx79.size; omega) hc10
     refine ⟨trivial,?_,q1,q2,q3,?_⟩
     · rw [hgk,decide_eq_true (by omega:a.key.length ≤ 16384),decide_eq_true (by omega:(quoteM a.key).length ≤ 65536)]
       simpa using c2
     · have:brA a = [91] ++ quoteM a.key ++ [93]:=by unfold brA; rw [if_neg (by omega),if_pos k2]
       rw [this]
       exact hBd10
   · refine bad ?_ hx7
     cases hh:goodAd a with
     | false=>rfl
     | true=>
       exfalso
       rcases (good_out hh).2.2.2.2 with ⟨k0,n0,key0,_⟩ | ⟨k1,n0,n1,key0,_⟩ | ⟨k2,n0,_⟩
       · rw [decide_eq_true k0,decide_eq_true n0,decide_eq_true key0] at e0; cases e0
       · rw [decide_eq_true k1,decide_eq_true n0,decide_eq_true n1,decide_eq_true key0] at e1; cases e1
       · rw [decide_eq_true k2,decide_eq_true n0] at e2; cases e2
 rintro st g7 w8 ⟨rfl,hg,hB8,hx8,hz8,hBd8⟩
 rw [hg] at hK
 have hbl:(brA a).length ≤ 70000:=by
   rcases (good_out hg).2.2.2.2 with ⟨_,_,_,hb⟩ | ⟨_,n0,n1,_,hb⟩ | ⟨_,_,_,_,h6,hb⟩
   · rw [hb]; simp
   · have:=(itoa_good n0 n1).2.1
     rw [hb]; simp; omega
   · rw [hb]; simp; omega
 refine JoinW.cut (fun st w'=>st = [] ∧ Ext w w' ∧ B ≤ w'.heap.size ∧ Bld w' B b (showA a)) ?_ ?_
 · refine hB8.ld rfl ?_
   unfold showA
   rw [condW_b]
   refine ⟨fun e=>?_,fun e=>?_⟩
   · refine wbyte_p (n:=126) hBd8 hz8 (by rw [List.length_append]; omega) (by decide) fun w9 hBd9 hc9=>?_
     obtain ⟨q1,q2,q3⟩:=keep hB8 hx8 hz8 hc9
     rw [e]
     exact ⟨rfl,q2,q3,hBd9⟩
   · rw [e]
     exact ⟨rfl,hx8,hz8,by simpa using hBd8⟩
 rintro st g8 w9 ⟨rfl,hx9,hz9,hBd9⟩
 refine string_p hBd9 hz9 fun w10 hc10=>?_
 exact hK w10 (hx9.then hc10 fun k hk e=>by have e:B ≤ k:=e; omega)
end
end Go.Proofs.YtnoepcndjljolaaGreatDoor

namespace Go.Proofs.YtnoepcndjljolaaGreatDoor
open Go Go.Eng Go.RowKit
set_option maxRecDepth 100000
theorem AcB.st {T0:TypeId} {w:World} {p off:Nat} {a a':AV} {sv sv' v:Value} {K:World → Prop} (h:AcB T0 w p a sv) (h1:one1 v = true) (ho:off < 7) (he:(acs a sv).set off v = acs a' sv') (hf:AFits a') (hs:∃ T,∀ w',Chg (Cr p) w w' → SlAt w' T sv' a'.mods.length (a'.mods.map str)) (hK:∀ w',AcB T0 w' p a' sv' → Chg (Cr p) w w' → w'.heap.size = w.heap.size → K w') :
   fldW off (.pointer (some ⟨p,0,none⟩)) fun t=>stW 1 t v w K:=by
 rw [fld_ptr,add_mk,Nat.zero_add]
 refine st_at h.hb h1 (by simpa using ho) fun w' hz hb hc=>?_
 obtain ⟨T,hs⟩:=hs
 refine hK w' ⟨?_,⟨T,hs w' hc⟩,hf⟩ hc hz
 rw [hb,← he]; simp
section
variable [HX]
structure TabA (w:World):Prop where
 tabs:Tabs w
 err:TabE w
 rng:∃ T v,w.cell? ⟨3,0,none⟩ = some (.iface T v)
theorem TabA.ext {w w':World} (h:TabA w) (hx:Ext w w'):TabA w':=⟨h.tabs.ext hx,h.err.ext hx,let ⟨T,v,h1⟩:=h.rng; ⟨T,v,cell_ext hx h1⟩⟩
theorem TabA.j {w:World} (h:TabA w):TabJ w:=⟨h.tabs.utf,h.tabs.bru,h.err⟩
theorem decFrom_app:∀ (l m:Str) (acc n:Nat),Lib.decFrom acc l = some n → Lib.decFrom acc (l ++ m) = Lib.decFrom n m
 | [],m,acc,n,h=>by simp only [Lib.decFrom,Option.some.injEq] at h; subst h; rfl
 | b :: l,m,acc,n,h=>by
   simp only [List.cons_append,Lib.decFrom] at h ⊢
   cases hd:Lib.digitVal b with
   | none=>rw [hd] at h; cases h
   | some d=>rw [hd] at h; simp only at h ⊢; exact decFrom_app l m _ n h
theorem digV {k:Nat} (h:k < 10):Lib.digitVal (UInt8.ofNat (48 + k)) = some k:=by
 unfold Lib.digitVal
 rw [UInt8.toNat_ofNat',if_pos (by omega)]
 congr 1; omega
theorem decD_from:∀ (n u:Nat),u < n → Lib.decFrom 0 (Lib.decDigits u) = some u:=by
 intro n
 induction n with
 | zero=>intro u h; omega
 | succ n ih=>
   intro u h
   rw [Lib.decDigits]
   split
   · rename_i h10
     simp only [Lib.decFrom,digV h10]
     simp
   · rw [decFrom_app _ _ _ _ (ih (u / 10) (by omega))]
     simp only [Lib.decFrom,digV (show u % 10 < 10 by omega)]
     congr 1; omega
theorem atoi_itoa {n:Int} (h0:0 ≤ n) (h1:n ≤ 1000000000):Lib.atoi (Lib.itoa n) = some n:=by
 obtain ⟨g1,g2,g3⟩:=itoa_good h0 h1
 rw [itoa_pos h0] at *
 have hf:=decD_from _ n.toNat (Nat.lt_succ_self _)
 cases hd:Lib.decDigits n.toNat with
 | nil=>exact absurd hd (decD_all _ n.toNat (Nat.lt_succ_self _)).2.1
 | cons b r=>
   rw [hd] at hf g1 g3
   have h45:(b == 45) = false:=by simpa using g3
   have h43:(b == 43) = false:=by
     rw [beq_eq_false_iff_ne]
     rintro rfl
     have:Num.goodN (43 :: r) = false:=by
       unfold Num.goodN
       have:Num.dig (43 :: r) = 43 :: r:=by simp [Num.dig]
       rw [this,List.all_cons,show Num.isDig 43 = false by decide]
       simp
     rw [this] at g1; cases g1
   simp only [Lib.atoi,h45,h43,Bool.false_eq_true,if_false,Lib.decNat,List.isEmpty_cons,hf,Option.map_some,Option.some.injEq]
   omega
theorem ne_nil_any (T:TypeId) (v:Value) (w:World) (K:Value → Prop):eqQ Tryz.prog .neq 103 false true (.iface T v) .nilIface w K ↔ K (.bool true):=ne_nil_err T v w K
theorem eql_nil (w:World) (K:Value → Prop):eqQ Tryz.prog .eql 103 false true .nilIface .nilIface w K ↔ K (.bool true):=by
 have h:(do eqGuard .eql 103 (stand false) (stand true) .nilIface .nilIface; binOp .eql 103 .nilIface .nilIface:Sem Value).run Tryz.prog w = .ok (.bool true) w:=by kernel_rfl
 unfold eqQ semQ
 rw [h]
 exact ⟨fun ⟨v,h1,h2⟩=>by cases h1; exact h2,fun h2=>⟨_,rfl,h2⟩⟩
theorem eql_some (T:TypeId) (v:Value) (w:World) (K:Value → Prop):eqQ Tryz.prog .eql 103 false true (.iface T v) .nilIface w K ↔ K (.bool false):=by
 have h:(do eqGuard .eql 103 (stand false) (stand true) (.iface T v) .nilIface; binOp .eql 103 (.iface T v) .nilIface:Sem Value).run Tryz.prog w = .ok (.bool false) w:=by kernel_rfl
 unfold eqQ semQ
 rw [h]
 exact ⟨fun ⟨v,h1,h2⟩=>by cases h1; exact h2,fun h2=>⟨_,rfl,h2⟩⟩
theorem inner_p {s:Str} {w:World} {K:Value → World → Prop} (hl:s.length ≤ 100000)
   (hK:∀ n e w',-9223372036854775808 ≤ n → n ≤ 9223372036854775807 → Ext w w' → (e = .nilIface ∨ e = .iface 201 (.int .i64 2) ∨ e = .iface 201 (.int .i64 1)) → (∀ m:Int,0 ≤ m → m ≤ 1000000000 → s = Lib.itoa m → n = m ∧ e = .nilIface) → K (.tuple #[i64 n,e]) w') :
   callF Tryz.prog 120 [str s] w K:=by
 by_cases h18:s.length ≤ 18
 · cases ha:Lib.atoi s with
   | some n=>
     refine of_calls (args:=#[str s]) Tryz.call120 ((Tryz.internal_strconv_Atoi (ofL s) n (by rw [ofL_size]; exact h18) (by rw [ofL_data]; exact ha) w).mono ?_)
     rintro e w' ⟨rfl,t,rfl⟩
     refine ⟨_,rfl,hK n _ _ ?_ ?_ (bytes_ext _ _ _) (.inl rfl) fun m h0 h1 hs=>?_⟩
     · have:=Lib.atoi_bound ha h18; omega
     · have:=Lib.atoi_bound ha h18; omega
     · subst hs
       rw [atoi_itoa h0 h1] at ha
       cases ha
       exact ⟨rfl,rfl⟩
   | none=>
     refine of_calls (args:=#[str s]) Tryz.call120 ((Tryz.internal_strconv_Atoi_fail (ofL s) (by rw [ofL_size]; exact h18) (by rw [ofL_data]; exact ha) w).mono ?_)
     rintro e w' ⟨rfl,hw⟩
     refine ⟨_,rfl,hK 0 _ _ (by omega) (by omega) ?_ (.inr (.inl rfl)) fun m h0 h1 hs=>?_⟩
     · rcases hw with rfl | ⟨t,rfl⟩
       · exact Chg.refl _ _
       · exact bytes_ext _ _ _
     · subst hs
       rw [atoi_itoa h0 h1] at ha
       cases ha
 · refine W120_ok ?_
   unfold W120
   rw [lens_str]
   have hb1:decide ((0:Int) < (s.length:Int)) = true:=decide_eq_true (by omega)
   have hb2:decide ((s.length:Int) < 10) = false:=decide_eq_false (by omega)
   have hb3:decide ((s.length:Int) < 19) = false:=decide_eq_false (by omega)
   simp only [bin_lss,hb1,hb2,hb3,isB_t,isB_f,isB_u,GdW_pure,GdW_f,cond_true,cond_false,List.getD_cons_zero,pick_t,pick_f,Bool.not_true,Bool.not_false]
   intros
   rw [condW_false]
   refine of_calls (args:=#[str s,i64 10,i64 0]) Tryz.call175 ((Tryz.internal_strconv_ParseInt_10 (ofL s) (by rw [ofL_size]; omega) (by rw [ofL_size]; omega) w).mono ?_)
   rintro e w' ⟨rfl,hw⟩
   refine ⟨_,rfl,?_⟩
   have hx:Ext w w':=by
     rcases hw with rfl | ⟨t,rfl⟩
     · exact Chg.refl _ _
     · exact bytes_ext _ _ _
   have hno:∀ m:Int,0 ≤ m → m ≤ 1000000000 → s = Lib.itoa m → False:=fun m h0 h1 hs=>by
     have:=(itoa_good h0 h1).2.1
     rw [← hs] at this
     omega
   rw [ofL_data]
   rcases hA:Lib.atoiAll s with n | _ | _
   · simp only [Lib.intTuple,ext_tuple]
     refine ⟨_,rfl,_,rfl,hK n _ w' ?_ ?_ hx (.inl rfl) fun m h0 h1 hs=>(hno m h0 h1 hs).elim⟩
     · exact (Lib.atoiAll_bounds hA).1
     · exact (Lib.atoiAll_bounds hA).2
   · simp only [Lib.intTuple,ext_tuple]
     exact ⟨_,rfl,_,rfl,hK 0 _ w' (by omega) (by omega) hx (.inr (.inl rfl)) fun m h0 h1 hs=>(hno m h0 h1 hs).elim⟩
   · simp only [Lib.intTuple,ext_tuple]
     refine ⟨_,rfl,_,rfl,hK _ _ w' ?_ ?_ hx (.inr (.inr rfl)) fun m h0 h1 hs=>(hno m h0 h1 hs).elim⟩
     · unfold Lib.atoiSat; split <;> omega
     · unfold Lib.atoiSat; split <;> omega
theorem atoi_p {s:Str} {w:World} {K:Value → World → Prop} (hT:TabA w) (hl:s.length ≤ 100000)
   (hK:∀ n e w',-9223372036854775808 ≤ n → n ≤ 9223372036854775807 → Ext w w' → (e = .nilIface ∨ ∃ T v,e = .iface T v) → (∀ m:Int,0 ≤ m → m ≤ 1000000000 → s = Lib.itoa m → n = m ∧ e = .nilIface) → K (.tuple #[i64 n,e]) w') :
   callF Tryz.prog 61 [str s] w K:=by
 refine W61_ok ?_
 unfold W61
 refine inner_p hl fun n e w1 h1 h2 hx1 he hm=>?_
 simp only [ext_tuple]
 refine ⟨_,rfl,_,rfl,?_⟩
 have hT1:=hT.ext hx1
 rcases he with rfl | rfl | rfl
 · rw [eq_nil_err,condW_false]
   exact hK n _ w1 h1 h2 hx1 (.inl rfl) hm
 · rw [ne_nil_any,condW_true]
   obtain ⟨T,v,hv⟩:=hT1.err
   refine of_calls (args:=#[str [65,116,111,105],str s,i64 0,i64 0,.iface 201 (.int .i64 2)]) Tryz.call121 ((Tryz.strconv_toError_syntax (ofL [65,116,111,105]) (ofL s) 0 0 _ w1 (by rw [ofL_size]; omega) hv (.inr ⟨T,v,rfl⟩)).mono ?_)
   rintro e w' ⟨N,rfl,_,_,hb⟩
   refine ⟨_,rfl,hK n _ w' h1 h2 (hx1.trans (Chg.of_below hb)) (.inr ⟨_,_,rfl⟩) fun m h0 h3 hs=>?_⟩
   have:=(hm m h0 h3 hs).2
   cases this
 · rw [ne_nil_any,condW_true]
   obtain ⟨T,v,hv⟩:=hT1.rng
   refine of_calls (args:=#[str [65,116,111,105],str s,i64 0,i64 0,.iface 201 (.int .i64 1)]) Tryz.call121 ((Tryz.strconv_toError_range (ofL [65,116,111,105]) (ofL s) 0 0 _ w1 (by rw [ofL_size]; omega) hv (.inr ⟨T,v,rfl⟩)).mono ?_)
   rintro e w' ⟨N,rfl,_,_,hb⟩
   refine ⟨_,rfl,hK n _ w' h1 h2 (hx1.trans (Chg.of_below hb)) (.inr ⟨_,_,rfl⟩) fun m h0 h3 hs=>?_⟩
   have:=(hm m h0 h3 hs).2
   cases this
theorem quote_dig {n:Int} {k:Str} (h0:0 ≤ n) (h1:n ≤ 1000000000):Lib.itoa n ≠ quoteM k:=fun e=>by
 have:=dec_num (E:=En) h0 h1
 obtain ⟨j,c,hd⟩:=this
 have hg:=(itoa_good h0 h1).1
 rw [e] at hg
 unfold quoteM at hg
 have:Num.goodN (34 :: (k.flatMap escB ++ [34])) = false:=by
   unfold Num.goodN
   have:Num.dig (34 :: (k.flatMap escB ++ [34])) = 34 :: (k.flatMap escB ++ [34]):=by simp [Num.dig]
   rw [this,List.all_cons,show Num.isDig 34 = false by decide]
   simp
 simp only [List.cons_append,List.nil_append] at hg
 rw [this] at hg
 cases hg
theorem key_p {a:AV} {cs:List Value} {s:Str} {w:World} {K:Value → World → Prop} (hT:TabA w) (h:ARep w a cs) (hl:s.length ≤ 100000000)
   (hK:∀ a' ok cs' w',Ext w w' → ARep w' a' cs' → a'.mods = a.mods → a'.typ = a.typ → a'.nm = a.nm → a'.aside = a.aside →
     (∀ m:Int,0 ≤ m → m ≤ 1000000000 → s = Lib.itoa m → ok = true ∧ a'.kind = 1 ∧ a'.num = m ∧ a'.key = a.key) →
     (∀ k,utfM k = true → k.length ≤ 16384 → (quoteM k).length ≤ 65536 → s = quoteM k → ok = true ∧ a'.kind = 2 ∧ a'.num = a.num ∧ a'.key = k) → K (.tuple #[.agg cs'.toArray,.bool ok]) w') :
   callF Tryz.prog 77 [.agg cs.toArray,str s] w K:=by
 refine W77_ok ?_
 unfold W77
 refine box_a h fun p w1 sv hB hx1 hp hs0=>?_
 refine alloc_new fun b w2 hb hz2 hbb hx2=>?_
 have hx02:=hx1.trans hx2
 refine decode_r (hT.ext hx02).j (by omega) fun vs d w3 hx3 hv3 hd3=>?_
 simp only [ext_tuple]
 refine ⟨_,rfl,_,rfl,?_⟩
 refine keep_val hv3 fun q w5 xv kv hB5 hx5=>?_
 have hd5:=hd3.ext hx5
 have hx25:=hx3.trans hx5
 have hA5:=(hB.ext hx2).ext hx25
 have hbb5:=hx25.at hbb id
 have hx05:=hx02.trans hx25
 have hlt:=at_lt hB.hb
 have hsz:=hx1.size
 have fit:=hB.fits
 obtain ⟨Tm,hsl0⟩:=hs0
 have hqlt:=at_lt hB5.hb
 -- what a good bracket is read to
 have num:∀ m:Int,0 ≤ m → m ≤ 1000000000 → s = Lib.itoa m → okR (decM En s) = true ∧ valR (decM En s) = .mk 3 false (Lib.itoa m) [] []:=fun m h0 h1 e=>by
   obtain ⟨j,c,hd⟩:=dec_num (E:=En) h0 h1
   rw [e,hd]
   exact ⟨rfl,rfl⟩
 have key:∀ k,utfM k = true → k.length ≤ 16384 → (quoteM k).length ≤ 65536 → s = quoteM k → okR (decM En s) = true ∧ valR (decM En s) = .mk 4 false k [] []:=fun k h0 h1 h2 e=>by
   obtain ⟨j,c,hd⟩:=dec_key (E:=En) h0 h1 h2
   rw [e,hd]
   exact ⟨rfl,rfl⟩
 have ht3:(valR (decM En s)).k = 3 → (valR (decM En s)).t.length ≤ 100000:=by
   cases hd:decM En s with
   | bad e i=>intro _; simp [valR,JV.null,JV.t]
   | ok v j c=>
     intro hk
     obtain ⟨hi,_,hl1,hl2⟩:=dec_back hd
     have hk:v.k = 3:=hk
     have hv:showM v = v.t:=by
       cases v with
       | mk k b t xs ks=>
         have hk:k = 3:=hk
         subst hk
         simp [showM,JV.t]
     show v.t.length ≤ _
     rw [hv] at hl1
     omega
 generalize hr:decM En s = r at *
 -- handed back
 have fin:∀ {w':World} {a':AV} {ok:Bool},AcB AdT w' p a' sv → Ext w w' → w'.heap[b]? = some (.cells [.slice none 0 0,str [],str [],i64 0,i64 0,str [],.bool false].toArray AdT (0,0)) → a'.mods = a.mods → a'.typ = a.typ → a'.nm = a.nm → a'.aside = a.aside →
     (∀ m:Int,0 ≤ m → m ≤ 1000000000 → s = Lib.itoa m → ok = true ∧ a'.kind = 1 ∧ a'.num = m ∧ a'.key = a.key) →
     (∀ k,utfM k = true → k.length ≤ 16384 → (quoteM k).length ≤ 65536 → s = quoteM k → ok = true ∧ a'.kind = 2 ∧ a'.num = a.num ∧ a'.key = k) →
     ldW true 7 (.pointer (some ⟨p,0,none⟩)) w' fun t17=>stW 7 (.pointer (some ⟨b,0,none⟩)) t17 w' fun w6=>ldW true 7 (.pointer (some ⟨b,0,none⟩)) w6 fun r7=>K (.tuple #[r7,.bool ok]) w6:=fun {w' a' ok} hA hx hb' e1 e2 e3 e4 f1 f2=>by
   refine hA.all ?_
   refine ret_agg (K:=fun r w=>K (.tuple #[r,.bool ok]) w) hb' rfl rfl hA.rep.one fun w6 hc6=>?_
   have hx6:Ext w w6:=hx.new hc6 (by omega)
   exact hK a' ok _ w6 hx6 ⟨sv,Tm,rfl,by rw [e1]; exact hsl0.ext hx6,hA.fits⟩ e1 e2 e3 e4 f1 f2
 rw [hd5.eq,condW_b]
 refine ⟨fun e=>?_,fun e=>?_⟩
 · have e:okR r = false:=by simpa using e
   refine fin (ok:=false) hA5 hx05 hbb5 rfl rfl rfl rfl (fun m h0 h1 hs=>?_) (fun k h0 h1 h2 hs=>?_)
   · rw [(num m h0 h1 hs).1] at e; cases e
   · rw [(key k h0 h1 h2 hs).1] at e; cases e
 have hvf:=hB5.fits
 have ldv:∀ {off:Nat} {v:Value} {w':World} {K:Value → Prop},w'.heap[q]? = w5.heap[q]? → [i64 (valR r).k,.bool (valR r).b,str (valR r).t,xv,kv][off]? = some v → K v → fldW off (.pointer (some ⟨q,0,none⟩)) fun t=>ldW false 1 t w' K:=fun {off v w' K} hq hv hk=>by
   rw [fld_ptr,ld_one]
   refine ⟨v,?_,hk⟩
   rw [add_mk,cell_eq,hq,hB5.hb,cellO_some,Nat.zero_add]
   simpa using hv
 refine ldv rfl rfl ?_
 rw [bin_eql,condW_dec]
 refine ⟨fun e3=>?_,fun e3=>?_⟩
 · refine ldv rfl rfl ?_
   refine atoi_p (hT.ext hx05) (ht3 e3) fun n er w8 hn1 hn2 hx8 her hnum=>?_
   simp only [ext_tuple]
   refine ⟨_,rfl,_,rfl,?_⟩
   have hA8:=hA5.ext hx8
   refine hA8.st (a':={ a with kind:=1 }) (sv':=sv) rfl (by omega) rfl ⟨fit.mods,fit.typ,fit.nm,fit.key,⟨by show (-9223372036854775808:Int) ≤ _; simp,by simp⟩,fit.num,fit.each⟩ ⟨Tm,fun w' hc=>(hsl0.ext ((hx05.trans hx8).new hc (by omega)))⟩ fun w9 hA9 hc9 hz9=>?_
   refine hA9.st (a':={ a with kind:=1,num:=n }) (sv':=sv) rfl (by omega) rfl ⟨fit.mods,fit.typ,fit.nm,fit.key,⟨by show (-9223372036854775808:Int) ≤ _; simp,by simp⟩,⟨hn1,hn2⟩,fit.each⟩ ⟨Tm,fun w' hc=>(hsl0.ext (((hx05.trans hx8).new hc9 (by omega)).new hc (by omega)))⟩ fun w10 hA10 hc10 hz10=>?_
   have hc:=hc9.trans hc10
   have hx10:Ext w w10:=(hx05.trans hx8).new hc (by omega)
   have hb10:=hc.at (hx8.at hbb5 id) fun e=>by have e:b = p:=e; omega
   have h3no:∀ k,utfM k = true → k.length ≤ 16384 → (quoteM k).length ≤ 65536 → s ≠ quoteM k:=fun k h0 h1 h2 hs=>by
     rw [(key k h0 h1 h2 hs).2] at e3
     exact absurd (show (4:Int) = 3 from e3) (by decide)
   have hb10d:w10.drew.heap[b]? = some (.cells [.slice none 0 0,str [],str [],i64 0,i64 0,str [],.bool false].toArray AdT (0,0)):=hb10
   have hxd:Ext w10 w10.drew:=Chg.drew (Chg.refl (fun _=>False) w10)
   have fin3:∀ {ok:Bool} {w11:World},w11.heap[b]? = some (.cells (acs { a with kind:=1,num:=n } sv).toArray AdT (0,0)) → Chg (Cr b) w10.drew w11 → (∀ m:Int,0 ≤ m → m ≤ 1000000000 → s = Lib.itoa m → ok = true ∧ n = m) →
       ldW true 7 (.pointer (some ⟨b,0,none⟩)) w11 fun r12=>K (.tuple #[r12,.bool ok]) w11:=fun {ok w11} hb11 hc11 hok=>by
     refine ld_all hb11 rfl ?_
     have hx11:Ext w w11:=(hx10.trans hxd).new hc11 (by omega)
     exact hK { a with kind:=1,num:=n } ok _ w11 hx11 ⟨sv,Tm,rfl,hsl0.ext hx11,hA10.fits⟩ rfl rfl rfl rfl (fun m h0 h1 hs=>⟨(hok m h0 h1 hs).1,rfl,(hok m h0 h1 hs).2,rfl⟩) (fun k h0 h1 h2 hs=>(h3no k h0 h1 h2 hs).elim)
   refine hA10.drew.all ?_
   rcases her with rfl | ⟨Te,ve,rfl⟩
   · rw [eql_nil]
     refine st_agg_at hb10d rfl rfl hA10.rep.one fun w11 hz11 hb11 hc11=>?_
     rw [eql_nil]
     exact ⟨rfl,fin3 hb11 hc11 fun m h0 h1 hs=>⟨rfl,(hnum m h0 h1 (by rw [(num m h0 h1 hs).2]; rfl)).1⟩⟩
   · rw [eql_some]
     refine st_agg_at hb10d rfl rfl hA10.rep.one fun w11 hz11 hb11 hc11=>?_
     rw [eql_some]
     exact ⟨rfl,fin3 hb11 hc11 fun m h0 h1 hs=>by
       have:=(hnum m h0 h1 (by rw [(num m h0 h1 hs).2]; rfl)).2
       cases this⟩
 rw [bin_eql,condW_dec]
 refine ⟨fun e4=>?_,fun e4=>?_⟩
 · have hqd:w5.drew.heap[q]? = w5.heap[q]?:=rfl
   refine ldv hqd rfl ?_
   have hAd:=hA5.drew
   refine hAd.st (a':={ a with kind:=2 }) (sv':=sv) rfl (by omega) rfl ⟨fit.mods,fit.typ,fit.nm,fit.key,⟨by show (-9223372036854775808:Int) ≤ _; simp,by simp⟩,fit.num,fit.each⟩ ⟨Tm,fun w' hc=>(hsl0.ext ((hx05.trans (Chg.drew (Chg.refl (fun _=>False) w5))).new hc (by omega)))⟩ fun w13 hA13 hc13 hz13=>?_
   have hpq:q ≠ p:=by
     rintro rfl
     have h1:=hA5.hb
     rw [hB5.hb] at h1
     simp only [Option.some.injEq,Obj.cells.injEq] at h1
     exact absurd h1.2.1 (by decide)
   have hq13:w13.heap[q]? = w5.heap[q]?:=by
     rw [hB5.hb]
     exact hc13.at (show w5.drew.heap[q]? = _ from hB5.hb) fun e=>hpq e
   refine ⟨?_,?_⟩
   · rw [ld_one]
     refine ⟨_,?_,rfl⟩
     rw [add_mk,cell_eq,hq13,hB5.hb,cellO_some,Nat.zero_add]
     rfl
   have hxd:Ext w5 w5.drew:=Chg.drew (Chg.refl (fun _=>False) w5)
   refine hA13.st (a':={ a with kind:=2,key:=(valR r).t }) (sv':=sv) rfl (by omega) rfl ⟨fit.mods,fit.typ,fit.nm,hvf.2.2.1,⟨by show (-9223372036854775808:Int) ≤ _; simp,by simp⟩,fit.num,fit.each⟩ ⟨Tm,fun w' hc=>(hsl0.ext (((hx05.trans hxd).new hc13 (by omega)).new hc (by omega)))⟩ fun w14 hA14 hc14 hz14=>?_
   have hc:=hc13.trans hc14
   refine fin (ok:=true) hA14 ((hx05.trans hxd).new hc (by omega)) (hc.at (show w5.drew.heap[b]? = _ from hbb5) fun e=>by have e:b = p:=e; omega) rfl rfl rfl rfl (fun m h0 h1 hs=>?_) (fun k h0 h1 h2 hs=>?_)
   · rw [(num m h0 h1 hs).2] at e3; exact absurd rfl e3
   · exact ⟨rfl,rfl,rfl,by show (valR r).t = k; rw [(key k h0 h1 h2 hs).2]; rfl⟩
 · refine fin (ok:=false) hA5 hx05 hbb5 rfl rfl rfl rfl (fun m h0 h1 hs=>?_) (fun k h0 h1 h2 hs=>?_)
   · rw [(num m h0 h1 hs).2] at e3; exact absurd rfl e3
   · rw [(key k h0 h1 h2 hs).2] at e4; exact absurd rfl e4
end
end Go.Proofs.YtnoepcndjljolaaGreatDoor
namespace Go.Proofs.YtnoepcndjljolaaGreatDoor
open Go Go.Eng Go.RowKit
set_option maxRecDepth 100000
theorem first_one {c:UInt8} {l l' r r':Str} (h:l ++ c :: r = l' ++ c :: r') (h1:c ∉ l) (h2:c ∉ l'):l = l' ∧ r = r':=by
 induction l generalizing l' with
 | nil=>
   cases l' with
   | nil=>simpa using h
   | cons x l'=>
     simp only [List.nil_append,List.cons_append,List.cons.injEq] at h
     exact absurd (by rw [← h.1]; simp) h2
 | cons x l ih=>
   cases l' with
   | nil=>
     simp only [List.nil_append,List.cons_append,List.cons.injEq] at h
     exact absurd (by rw [h.1]; simp) h1
   | cons y l'=>
     simp only [List.cons_append,List.cons.injEq] at h
     obtain ⟨e1,e2⟩:=ih h.2 (fun hm=>h1 (by simp [hm])) fun hm=>h2 (by simp [hm])
     exact ⟨by rw [h.1,e1],e2⟩
theorem br_split {b:AV} {l r:Str} (hg:goodAd b = true) (h:headA b ++ brA b = l ++ 91 :: r) (hl:(91:UInt8) ∉ l) :
   l = headA b ∧ ((b.kind = 1 ∧ 0 ≤ b.num ∧ b.num ≤ 1000000000 ∧ b.key = [] ∧ r = Lib.itoa b.num ++ [93]) ∨ (b.kind = 2 ∧ b.num = 0 ∧ utfM b.key = true ∧ b.key.length ≤ 16384 ∧ (quoteM b.key).length ≤ 65536 ∧ r = quoteM b.key ++ [93])):=by
 have hh:(91:UInt8) ∉ headA b:=fun hm=>(head_mem hg hm).1 rfl
 rcases (good_out hg).2.2.2.2 with ⟨_,_,_,hb⟩ | ⟨k1,n0,n1,key0,hb⟩ | ⟨k2,n0,u,l1,l2,hb⟩
 · rw [hb,List.append_nil] at h
   exact absurd (by rw [h]; simp) hh
 · rw [hb] at h
   obtain ⟨e1,e2⟩:=first_one h hh hl
   exact ⟨e1.symm,.inl ⟨k1,n0,n1,key0,e2.symm⟩⟩
 · rw [hb] at h
   obtain ⟨e1,e2⟩:=first_one h hh hl
   exact ⟨e1.symm,.inr ⟨k2,n0,u,l1,l2,e2.symm⟩⟩
theorem split_le {c:UInt8}:∀ {s:Str},∀ x ∈ splitM c s,x.length ≤ s.length
 | [],x,hx=>by simp [splitM] at hx; subst hx; simp
 | d :: s,x,hx=>by
   rw [splitM] at hx
   split at hx
   · rcases List.mem_cons.1 hx with rfl | hx
     · simp
     · have:=split_le x hx; rw [List.length_cons]; omega
   · cases hs:splitM c s with
     | nil=>exact absurd hs (split_ne c s)
     | cons h t=>
       rw [hs] at hx
       rcases List.mem_cons.1 hx with rfl | hx
       · have:=split_le (s:=s) (c:=c) h (by rw [hs]; simp)
         rw [List.length_cons,List.length_cons]; omega
       · have:=split_le (s:=s) (c:=c) x (by rw [hs]; simp [hx])
         rw [List.length_cons]; omega
theorem slat_empty {w w':World} {T:TypeId} {v:Value} (h:SlAt w T v 0 []):SlAt w' T v 0 []:=by
 obtain ⟨p,c,rfl,h1,h2,h3⟩:=h
 exact ⟨p,c,rfl,h1,h2,fun e=>absurd rfl e⟩
abbrev za:List Value:=[.slice none 0 0,str [],str [],i64 0,i64 0,str [],.bool false]
theorem zero_fits:AFits AV.zero:=⟨by simp [AV.zero],by simp [AV.zero],by simp [AV.zero],by simp [AV.zero],by simp [AV.zero],by simp [AV.zero],by simp [AV.zero]⟩
theorem zero_rep (w:World):ARep w AV.zero za:=⟨_,0,rfl,SlAt.nil w 0,zero_fits⟩
section
variable [HX]
theorem parse_ps {s:Str} {w:World} {K:Value → World → Prop} (hT:TabA w) (hl:s.length ≤ 400000)
   (hok:∀ a,goodAd a = true → showA a = s → ∀ sv w',Ext w w' → AFits a → SlAt w' ST sv a.mods.length (a.mods.map str) → K (.tuple #[.agg (acs a sv).toArray,i64 0]) w')
   (hno:(∀ a,goodAd a = true → showA a ≠ s) → ∀ cs w',Ext w w' → ARep w' AV.zero cs → K (.tuple #[.agg cs.toArray,i64 6]) w') :
   callF Tryz.prog 39 [str s] w K:=by
 refine W39_ok ?_
 unfold W39
 refine alloc_new fun b2 w1 hb2 hz1 hbb2 hx1=>?_
 refine alloc_new fun p w2 hp hz2 hbp hx2=>?_
 have hx02:=hx1.trans hx2
 have hbb2:=hx2.at hbb2 id
 have hw2:w.heap.size ≤ b2 ∧ b2 < p:=by omega
 obtain ⟨hwb,hbp2⟩:=hw2
 have hA2:AcB AdT w2 p AV.zero (.slice none 0 0):=⟨hbp,⟨0,SlAt.nil w2 0⟩,zero_fits⟩
 -- told that it is none's
 have fail:∀ {w':World},w'.heap[b2]? = some (.cells za.toArray AdT (0,0)) → Ext w w' → (∀ a,goodAd a = true → showA a ≠ s) →
     putW [(.slice none 0 0),(.string (ofL [])),(.string (ofL [])),(.int .i64 0),(.int .i64 0),(.string (ofL [])),(.bool false)] [] fun c12=>stW 7 (.pointer (some ⟨b2,0,none⟩)) (.agg c12.toArray) w' fun w13=>ldW true 7 (.pointer (some ⟨b2,0,none⟩)) w13 fun r14=>K (.tuple #[r14,(.int .i64 6)]) w13:=fun {w'} hb hx hn=>by
   rw [put_nil]
   refine st_agg_at (l:=za) hb rfl rfl rfl fun w13 hz13 hb13 hc13=>?_
   refine ld_all hb13 rfl ?_
   exact hno hn _ w13 (hx.new hc13 (by omega)) (zero_rep w13)
 refine callF_mono (K:=fun v w'=>w' = w2 ∧ ∃ rest asd,v = .tuple #[str rest,.bool asd] ∧ rest.length ≤ s.length ∧ (∀ b,goodAd b = true → showA b = s → b.aside = asd ∧ rest = headA b ++ brA b)) (cutsuf_p (c:=126) (by omega) (fun l hs=>?_) (fun hs=>?_)) ?_
 · refine ⟨rfl,l,true,rfl,by rw [hs]; simp,fun b hg hb=>?_⟩
   rcases show_aside b with ⟨h1,h2⟩ | ⟨h1,h2⟩
   · rw [hb,hs] at h2
     exact ⟨h1,(List.append_inj' h2 rfl).1⟩
   · rw [hb,hs] at h2
     exact absurd h2.symm (last_no hg l)
 · refine ⟨rfl,s,false,rfl,Nat.le_refl _,fun b hg hb=>?_⟩
   rcases show_aside b with ⟨h1,h2⟩ | ⟨h1,h2⟩
   · rw [hb] at h2
     exact absurd h2 (hs _)
   · rw [hb] at h2
     exact ⟨h1,h2⟩
 rintro v3 w3 ⟨rfl,rest,asd,rfl,hrl,hQ1⟩
 simp only [ext_tuple]
 refine ⟨_,rfl,_,rfl,?_⟩
 refine hA2.st (a':={ AV.zero with aside:=asd }) (sv':=.slice none 0 0) rfl (by omega) rfl ⟨zero_fits.mods,zero_fits.typ,zero_fits.nm,zero_fits.key,zero_fits.kind,zero_fits.num,zero_fits.each⟩ ⟨0,fun w' _=>SlAt.nil w' 0⟩ fun w4 hA4 hc4 hz4=>?_
 have hx04:Ext w w4:=hx02.new hc4 (by omega)
 have hbb4:=hc4.at hbb2 fun e=>by have e:b2 = p:=e; omega
 refine JoinW.cut (fun st w'=>∃ r2 a2 sv',st = [str r2] ∧ AcB AdT w' p a2 sv' ∧ Ext w w' ∧ w'.heap[b2]? = some (.cells za.toArray AdT (0,0)) ∧ r2.length ≤ s.length ∧ a2.mods = [] ∧
     (∀ b,goodAd b = true → showA b = s → r2 = headA b ∧ a2.kind = b.kind ∧ a2.num = b.num ∧ a2.key = b.key ∧ a2.aside = b.aside)) ?_ ?_
 · refine idxb_p (c:=91) (fun l r hlr hl91=>?_) (fun h91=>?_)
   · rw [bin_geq,decide_eq_true (by omega),condW_true]
     have hll:rest.length = l.length + (r.length + 1):=by rw [hlr]; simp
     rw [bin_add,up1 (by omega),sls_str,bd_none,bd_some]
     refine ⟨by omega,by omega,?_⟩
     have e2:rest.drop (l.length + 1) = r:=by rw [hlr,← List.drop_drop,List.drop_left]; rfl
     rw [List.take_length,Int.toNat_natCast,e2]
     refine callF_mono (K:=fun v w'=>w' = w4 ∧ ∃ inner shut,v = .tuple #[str inner,.bool shut] ∧ inner.length ≤ r.length ∧ (∀ x,r = x ++ [93] → inner = x ∧ shut = true)) (cutsuf_p (c:=93) (by omega) (fun x hx=>?_) (fun hx=>?_)) ?_
     · refine ⟨rfl,x,true,rfl,by rw [hx]; simp,fun y hy=>?_⟩
       rw [hx] at hy
       exact ⟨(List.append_inj' hy rfl).1,rfl⟩
     · exact ⟨rfl,r,false,rfl,Nat.le_refl _,fun y hy=>absurd hy (hx y)⟩
     rintro v5 w5 ⟨rfl,inner,shut,rfl,hil,hsh⟩
     simp only [ext_tuple]
     refine ⟨_,rfl,_,rfl,?_⟩
     refine hA4.all ?_
     refine key_p (hT.ext hx04) hA4.rep (by omega) fun a' ok cs' w8 hx8 hr8 em et en ea f1 f2=>?_
     simp only [ext_tuple]
     refine ⟨_,rfl,_,rfl,?_⟩
     obtain ⟨sv',T',rfl,hsl',hf'⟩:=id hr8
     refine st_agg_at ((hx8.at hA4.hb id)) rfl rfl hr8.one fun w9 hz9 hb9 hc9=>?_
     have hem:a'.mods = []:=em
     have hA9:AcB AdT w9 p a' sv':=⟨hb9,⟨T',by rw [hem] at hsl' ⊢; exact slat_empty hsl'⟩,hf'⟩
     have hx09:Ext w w9:=(hx04.trans hx8).new hc9 (by omega)
     have hbb9:=hc9.at (hx8.at hbb4 id) fun e=>by have e:b2 = p:=e; omega
     -- a good address was read
     have hgood:∀ b,goodAd b = true → showA b = s → ok = true ∧ shut = true ∧ l = headA b ∧ a'.kind = b.kind ∧ a'.num = b.num ∧ a'.key = b.key ∧ a'.aside = b.aside:=fun b hg hb=>by
       obtain ⟨q1,q2⟩:=hQ1 b hg hb
       rw [hlr] at q2
       obtain ⟨e1,h | h⟩:=br_split hg q2.symm hl91
       · obtain ⟨k1,n0,n1,key0,hr⟩:=h
         obtain ⟨i1,i2⟩:=hsh _ hr
         obtain ⟨g1,g2,g3,g4⟩:=f1 b.num n0 n1 i1
         exact ⟨g1,i2,e1,by rw [g2,k1],g3,by rw [g4,key0]; rfl,by rw [ea,q1]⟩
       · obtain ⟨k2,n0,u,l1,l2,hr⟩:=h
         obtain ⟨i1,i2⟩:=hsh _ hr
         obtain ⟨g1,g2,g3,g4⟩:=f2 b.key u l1 l2 i1
         exact ⟨g1,i2,e1,by rw [g2,k2],by rw [g3,n0]; rfl,g4,by rw [ea,q1]⟩
     rw [un_not]
     refine GdW.look (!shut) (fun _ J hJ=>by rw [un_not]; exact hJ) fun g=>?_
     simp only [List.getD_cons_zero,isB_f]
     rw [pick_gd_or,condW_b]
     refine ⟨fun e=>?_,fun e=>?_⟩
     · refine fail hbb9 hx09 fun b hg hb=>?_
       obtain ⟨g1,g2,_⟩:=hgood b hg hb
       rw [g1,g2] at e
       cases e
     · rw [sls_str,bd_some]
       refine ⟨by omega,by omega,?_⟩
       have e1:rest.take l.length = l:=by rw [hlr,List.take_left]
       rw [bd_none,Int.toNat_natCast,List.drop_zero,e1]
       exact ⟨l,a',sv',rfl,hA9,hx09,hbb9,by omega,hem,fun b hg hb=>(hgood b hg hb).2.2⟩
   · rw [bin_geq,decide_eq_false (by omega),condW_false]
     refine ⟨rest,_,_,rfl,hA4,hx04,hbb4,hrl,rfl,fun b hg hb=>?_⟩
     obtain ⟨q1,q2⟩:=hQ1 b hg hb
     rcases (good_out hg).2.2.2.2 with ⟨k0,n0,key0,hbr⟩ | ⟨_,_,_,_,hbr⟩ | ⟨_,_,_,_,_,hbr⟩
     · rw [hbr,List.append_nil] at q2
       exact ⟨q2,by rw [k0]; rfl,by rw [n0]; rfl,by rw [key0]; rfl,q1.symm⟩
     · rw [q2,hbr] at h91; exact absurd (by simp) h91
     · rw [q2,hbr] at h91; exact absurd (by simp) h91
 rintro st g w15 ⟨r2,a2,sv2,rfl,hA15,hx15,hbb15,hr2l,hem2,hQ2⟩
 simp only [List.getD_cons_zero]
 refine split_p (c:=47) (by omega) fun sp w16 hx16 hsp hb16=>?_
 have hcnt:=split_count 47 r2
 have hcl:r2.count 47 ≤ r2.length:=List.count_le_length
 generalize hP:splitM 47 r2 = P at *
 have hA16:=hA15.ext hx16
 have hx016:=hx15.trans hx16
 have hpsp:sp ≠ p:=fun e=>by
   have:=at_lt hA15.hb
   omega
 have hn:P.length = (P.length - 1) + 1:=by omega
 have hsub:∀ K:Value → Prop,binW .sub (i64 (P.length:Nat)) (i64 1) K ↔ K (i64 ((P.length - 1:Nat):Int)):=fun K=>by
   rw [bin_sub,wrap_id (by omega) (by omega),show ((P.length:Nat):Int) - 1 = ((P.length - 1:Nat):Int) by omega]
 simp only [lenl_sl,hsub]
 rw [sll_sl,bd_some]
 refine ⟨by omega,by omega,?_⟩
 rw [bd_some]
 refine ⟨by omega,by rw [Int.toNat_natCast]; omega,?_⟩
 rw [bd_none]
 simp only [Int.toNat_natCast,Nat.sub_zero]
 have hPm:∀ x ∈ P,x.length ≤ s.length:=fun x hx=>by
   rw [← hP] at hx
   have:=split_le x hx
   omega
 obtain ⟨lst,hlst⟩:∃ x,P[P.length - 1]? = some x:=⟨_,List.getElem?_eq_getElem (by omega)⟩
 have hlm:=hPm lst (List.mem_of_getElem? hlst)
 have hPd:P = P.take (P.length - 1) ++ [lst]:=by
   have:=List.take_append_drop (P.length - 1) P
   rw [List.drop_eq_getElem_cons (by omega)] at this
   have e:=Option.some.inj ((List.getElem?_eq_getElem (by omega:P.length - 1 < P.length)).symm.trans hlst)
   rw [e,List.drop_of_length_le (by omega)] at this
   exact this.symm
 have htk:(P.take (P.length - 1)).length = P.length - 1:=by rw [List.length_take]; omega
 have hslw:∀ w':World,w'.heap[sp]? = some (.cells (P.map str).toArray ST (0,0)) → SlAt w' ST (.slice (if P.length - 1 = 0 then some ⟨sp,0,none⟩ else (some (⟨sp,0,none⟩:Addr)).map (fun x=>x.add (0 * 1))) (P.length - 1) (P.length - 1)) (P.take (P.length - 1)).length ((P.take (P.length - 1)).map str):=fun w' hbw=>by
   rw [htk]
   refine ⟨_,_,rfl,Nat.le_refl _,fun e=>?_,fun hne=>?_⟩
   · split at e <;> cases e
   · have hnz:P.length - 1 ≠ 0:=fun e0=>hne (by rw [e0]; rfl)
     rw [if_neg hnz]
     refine ⟨sp,0,_,_,rfl,hbw,fun i hi=>?_⟩
     rw [List.length_map,htk] at hi
     rw [Nat.zero_add]
     simp only [List.getElem?_toArray,List.getElem?_map,List.getElem?_take]
     rw [if_pos hi]
 have hsl16:∀ w',Chg (Cr p) w16 w' → SlAt w' ST (.slice (if P.length - 1 = 0 then some ⟨sp,0,none⟩ else (some (⟨sp,0,none⟩:Addr)).map (fun x=>x.add (0 * 1))) (P.length - 1) (P.length - 1)) (P.take (P.length - 1)).length ((P.take (P.length - 1)).map str):=fun w' hc'=>hslw w' (hc'.at hb16 fun e=>hpsp e)
 have hf2:=hA16.fits
 refine hA16.st (a':={ a2 with mods:=P.take (P.length - 1) }) rfl (by omega) rfl ⟨by rw [htk]; omega,hf2.typ,hf2.nm,hf2.key,hf2.kind,hf2.num,fun m hm=>by have:=hPm m (List.mem_of_mem_take hm); omega⟩ ⟨ST,hsl16⟩ fun w17 hA17 hc17 hz17=>?_
 rw [ixa_slice]
 refine ⟨by omega,by omega,?_⟩
 have hb17:=hc17.at hb16 fun e=>hpsp e
 rw [ld_one]
 refine ⟨str lst,?_,?_⟩
 · rw [add_mk,cell_eq,hb17,cellO_some,Int.toNat_natCast,Nat.mul_one,Nat.zero_add]
   simp [hlst]
 have hx017:Ext w w17:=hx016.new hc17 (by omega)
 have hbb17:=hc17.at (hx16.at hbb15 id) fun e=>by have e:b2 = p:=e; omega
 refine callF_mono (K:=fun v w'=>Ext w17 w' ∧ ∃ x y z,v = .tuple #[str x,str y,z] ∧ x.length ≤ lst.length ∧ y.length ≤ lst.length ∧ (∀ T N,lst = T ++ 46 :: N → (46:UInt8) ∉ T → x = T ∧ y = N)) (cut1_p (c:=46) (by omega) (fun l r w' hlr h46 hx=>?_) (fun h46=>?_)) ?_
 · refine ⟨hx,l,r,_,rfl,by rw [hlr]; simp,by rw [hlr]; simp; omega,fun T N hTN hT=>?_⟩
   rw [hlr] at hTN
   exact first_one hTN h46 hT
 · refine ⟨Chg.refl _ _,lst,[],_,rfl,Nat.le_refl _,by simp,fun T N hTN hT=>?_⟩
   rw [hTN] at h46
   exact absurd (by simp) h46
 rintro v18 w18 ⟨hx18,x,y,z,rfl,hxl,hyl,hcut⟩
 simp only [ext_tuple]
 refine ⟨_,rfl,_,rfl,_,rfl,?_⟩
 have hf17:=hA17.fits
 have hA18:=hA17.ext hx18
 obtain ⟨T17,hs17⟩:=hA17.sl
 have hslk:∀ {w':World},Chg (Cr p) w18 w' → SlAt w' ST (.slice (if P.length - 1 = 0 then some ⟨sp,0,none⟩ else (some (⟨sp,0,none⟩:Addr)).map (fun x=>x.add (0 * 1))) (P.length - 1) (P.length - 1)) (P.take (P.length - 1)).length ((P.take (P.length - 1)).map str):=fun {w'} hc=>hsl16 w' ((hc17.then hx18 fun _ _ e=>e.elim).trans hc)
 refine hA18.st (a':={ a2 with mods:=P.take (P.length - 1),typ:=x }) rfl (by omega) rfl ⟨hf17.mods,by show x.length ≤ _; omega,hf17.nm,hf17.key,hf17.kind,hf17.num,hf17.each⟩ ⟨ST,fun w' hc=>hslk hc⟩ fun w19 hA19 hc19 hz19=>?_
 refine hA19.st (a':={ a2 with mods:=P.take (P.length - 1),typ:=x,nm:=y }) rfl (by omega) rfl ⟨hf17.mods,by show x.length ≤ _; omega,by show y.length ≤ _; omega,hf17.key,hf17.kind,hf17.num,hf17.each⟩ ⟨ST,fun w' hc=>hslk (hc19.trans hc)⟩ fun w20 hA20 hc20 hz20=>?_
 have hc1820:=hc19.trans hc20
 have hx020:Ext w w20:=(hx017.trans hx18).new hc1820 (by omega)
 have hbb20:=hc1820.at (hx18.at hbb17 id) fun e=>by have e:b2 = p:=e; omega
 -- the only address whose text it may be
 have hone:∀ b,goodAd b = true → showA b = s → b = { a2 with mods:=P.take (P.length - 1),typ:=x,nm:=y }:=fun b hg hb=>by
   obtain ⟨q1,q2,q3,q4,q5⟩:=hQ2 b hg hb
   have hsb:=split_head hg
   rw [← q1,hP] at hsb
   rw [hPd] at hsb
   obtain ⟨m1,m2⟩:=List.append_inj' hsb rfl
   simp only [List.cons.injEq,and_true] at m2
   obtain ⟨c1,c2⟩:=hcut _ _ m2 (typ_not hg)
   cases b
   simp only [AV.mk.injEq] at q2 q3 q4 q5 m1 c1 c2 ⊢
   exact ⟨m1.symm,c1.symm,c2.symm,q2.symm,q3.symm,q4.symm,q5.symm⟩
 refine hA20.all ?_
 refine show_p (hT.ext hx020).tabs hA20.rep fun w21 hx21=>?_
 have hA21:=hA20.ext hx21
 have hx021:=hx020.trans hx21
 have hbb21:=hx21.at hbb20 id
 generalize hA3:({ a2 with mods:=P.take (P.length - 1),typ:=x,nm:=y }:AV) = a3 at *
 cases hga:goodAd a3 with
 | false=>
   simp only [Bool.false_eq_true,if_false,ext_tuple]
   refine ⟨_,rfl,_,rfl,?_⟩
   rw [bin_neq,show decide ((6:Int) ≠ 0) = true from rfl]
   refine GdW.f fun g=>?_
   show condW (.bool true) _ _
   rw [condW_true]
   refine fail hbb21 hx021 fun b hg hb=>?_
   rw [hone b hg hb,hga] at hg
   cases hg
 | true=>
   simp only [if_true,ext_tuple]
   refine ⟨_,rfl,_,rfl,?_⟩
   rw [bin_neq,show decide ((0:Int) ≠ 0) = false from rfl]
   refine GdW.look (decide (showA a3 ≠ s)) (fun _ J hJ=>by rw [bin_sne]; exact hJ) fun g=>?_
   simp only [List.getD_cons_zero,isB_f]
   rw [pick_gd_or,Bool.false_or,condW_dec]
   refine ⟨fun hne=>?_,fun he=>?_⟩
   · refine fail hbb21 hx021 fun b hg hb=>?_
     rw [hone b hg hb] at hb
     exact hne hb
   · have he:showA a3 = s:=Decidable.not_not.1 he
     refine hA21.all ?_
     obtain ⟨T21,hs21⟩:=hA21.sl
     refine st_agg_at hbb21 rfl rfl hA21.rep.one fun w22 hz22 hb22 hc22=>?_
     refine ld_all hb22 rfl ?_
     refine hok a3 hga he _ w22 (hx021.new hc22 (by omega)) hA21.fits ?_
     have hb21:=hx21.at (hc1820.at (hx18.at hb17 id) fun e=>hpsp e) id
     have hsb:sp ≠ b2:=fun e=>by
       have:=at_lt hbb15
       omega
     subst hA3
     exact hslw _ (hc22.at hb21 fun e=>hsb e)
theorem parse_p {s:Str} {w:World} {K:Value → World → Prop} (hT:TabA w) (hl:s.length ≤ 400000)
   (hok:∀ a,goodAd a = true → showA a = s → ∀ cs w',Ext w w' → ARep w' a cs → K (.tuple #[.agg cs.toArray,i64 0]) w')
   (hno:(∀ a,goodAd a = true → showA a ≠ s) → ∀ cs w',Ext w w' → ARep w' AV.zero cs → K (.tuple #[.agg cs.toArray,i64 6]) w') :
   callF Tryz.prog 39 [str s] w K:=
 parse_ps hT hl (fun a hg he sv w' hx hf hs=>hok a hg he _ w' hx ⟨sv,ST,rfl,hs,hf⟩) hno
end
end Go.Proofs.YtnoepcndjljolaaGreatDoor
namespace Go.Proofs.YtnoepcndjljolaaGreatDoor
open Go Go.Eng Go.RowKit
set_option maxRecDepth 100000
def orL:List Int → Int
 | []=>0
 | a :: r=>orI a (orL r)
theorem orI_z (a:Int):orI a 0 = a:=by unfold orI; split <;> omega
theorem orL_skip:∀ (l:List Int) (i:Nat),(∀ j x,j < i → l[j]? = some x → x = 0) → orL l = orL (l.drop i)
 | l,0,_=>rfl
 | [],i + 1,_=>rfl
 | a :: r,i + 1,h=>by
   have h0:a = 0:=h 0 a (by omega) rfl
   rw [List.drop_succ_cons,← orL_skip r i fun j x hj hx=>h (j + 1) x (by omega) hx]
   simp [orL,h0,orI]
section
variable [HX]
theorem or_p {l:List Int} {v:Value} {w:World} {K:Value → World → Prop} (hl:l.length ≤ 1000) (hv:SlAt w 3 v l.length (l.map i64)) (hK:∀ w',Ext w w' → K (i64 (orL l)) w'):callF Tryz.prog 82 [v] w K:=by
 refine W82_ok ?_
 unfold W82
 rw [lenl_at hv]
 refine loop_up l.length (fun i w'=>Ext w w' ∧ ∀ j x,j < i → l[j]? = some x → x = 0) ⟨Chg.refl _ _,fun j x hj=>by omega⟩ ?_ ?_
 · rintro i w2 g L hi ⟨hx2,h1⟩ hL
   obtain ⟨x,hx⟩:∃ x,l[i]? = some x:=⟨_,List.getElem?_eq_getElem hi⟩
   have hlt:((i:Int) < (l.length:Int)):=by omega
   simp only [wsv,wsg,wsh,wsl,cond_true,cond_false,exists_eq_left',wsu,Nat.reduceAdd,Nat.reduceLT,Nat.lt_add_one,Nat.zero_lt_succ,decide_true,decide_false,ne_eq,reduceCtorEq,hlt]
   refine ixa_ld (hv.ext hx2) (by simp) (show (l.map i64)[i]? = some (i64 x) by simp [hx]) ?_
   simp only [wsv,wsg,wsh,wsl,cond_true,cond_false,exists_eq_left',wsu,Nat.reduceAdd,Nat.reduceLT,Nat.lt_add_one,Nat.zero_lt_succ,decide_true,decide_false,ne_eq,reduceCtorEq,condW_dec]
   refine ⟨fun hne=>?_,fun h0=>?_⟩
   · have:=hK w2 hx2
     rw [orL_skip l i h1,List.drop_eq_getElem_cons hi] at this
     have e:=Option.some.inj ((List.getElem?_eq_getElem hi).symm.trans hx)
     rw [e] at this
     have hne:x ≠ 0:=by simpa using hne
     simp only [orL,orI,if_neg hne] at this
     exact this
   · rw [up1 (by omega)]
     refine hL w2 ⟨hx2,fun j y hj hy=>?_⟩
     rcases Nat.lt_or_ge j i with h | h
     · exact h1 j y h hy
     · obtain rfl:j = i:=by omega
       rw [hx] at hy
       cases hy
       simpa using h0
 · rintro w2 g L ⟨hx2,h1⟩
   simp only [wsv,wsg,wsh,wsl,cond_true,cond_false,exists_eq_left',wsu,Nat.reduceAdd,Nat.reduceLT,Nat.lt_add_one,Nat.zero_lt_succ,decide_true,decide_false,ne_eq,reduceCtorEq,Int.lt_irrefl]
   have:=hK w2 hx2
   rw [orL_skip l l.length h1,List.drop_length] at this
   exact this
theorem row_i7 {a b c d e f g:Int} {w:World} {K:Value → World → Prop} (hK:∀ t w',SlAt w' 3 t 7 ([a,b,c,d,e,f,g].map i64) → Ext w w' → K t w') :
   bslW 3 7 [(.int .i64 0),(.int .i64 0),(.int .i64 0),(.int .i64 0),(.int .i64 0),(.int .i64 0),(.int .i64 0)] [(0,1,i64 a),(1,1,i64 b),(2,1,i64 c),(3,1,i64 d),(4,1,i64 e),(5,1,i64 f),(6,1,i64 g)] w K:=by
 rw [bslW]
 simp only [put_int,put_nil,List.length_cons,List.length_nil,List.set_cons_zero,List.set_cons_succ]
 refine ⟨by omega,by omega,by omega,by omega,by omega,by omega,by omega,?_⟩
 refine hK _ _ ⟨_,_,rfl,Nat.le_refl _,fun e=>(by cases e),fun _=>⟨_,_,_,_,rfl,heap_anew _ _ _ rfl,fun i _=>by rw [Nat.zero_add]; simp⟩⟩ (Chg.alloc (Chg.refl _ _) _)
theorem truth2_p {b:Bool} {w:World} {K:Value → World → Prop} (hK:K (i64 (truthI b)) w):callF Tryz.prog 85 [.bool b] w K:=by
 refine W85_ok ?_
 unfold W85
 rw [condW_b]
 unfold truthI at hK
 exact ⟨fun h=>by rw [if_pos h] at hK; exact hK,fun h=>by rw [if_neg (by rw [h]; simp)] at hK; exact hK⟩
theorem acmp_p {a b:AV} {cs ds:List Value} {w:World} {K:Value → World → Prop} (h:ARep w a cs) (h':ARep w b ds) (hK:∀ w',Ext w w' → K (i64 (cmpA a b)) w') :
   callF Tryz.prog 41 [.agg cs.toArray,.agg ds.toArray] w K:=by
 refine W41_ok ?_
 unfold W41
 refine box_a h fun p w1 sv hA hx1 hp hs0=>?_
 refine box_a (h'.ext hx1) fun q w2 tv hB hx2 hq hs1=>?_
 have hxd:Ext w2 w2.drew:=Chg.drew (Chg.refl (fun _=>False) w2)
 have hA:=(hA.ext hx2).ext hxd
 have hB:=hB.ext hxd
 simp only [fld_ptr]
 refine hA.ld1 rfl ?_
 refine hB.ld1 rfl ?_
 refine hA.ld1 rfl ?_
 refine hB.ld1 rfl ?_
 refine hA.ld1 rfl ?_
 refine hB.ld1 rfl ?_
 refine hA.ld1 rfl ?_
 refine hB.ld1 rfl ?_
 refine hA.ld1 rfl ?_
 refine hB.ld1 rfl ?_
 refine hA.ld1 rfl ?_
 refine hB.ld1 rfl ?_
 refine hA.ld1 rfl ?_
 refine hB.ld1 rfl ?_
 obtain ⟨T1,hs1⟩:=hA.sl
 obtain ⟨T2,hs2⟩:=hB.sl
 refine cmpks_p hs1 hs2 hA.fits.mods fun w3 hx3=>?_
 have hA:=hA.ext hx3
 have hB:=hB.ext hx3
 refine ⟨hB.ld1 rfl rfl,hA.ld1 rfl rfl,hB.ld1 rfl rfl,hA.ld1 rfl rfl,hB.ld1 rfl rfl,hA.ld1 rfl rfl,hB.ld1 rfl rfl,hA.ld1 rfl rfl,hB.ld1 rfl rfl,hA.ld1 rfl rfl,hB.ld1 rfl rfl,hA.ld1 rfl rfl,?_⟩
 refine cmp_s ?_
 refine ⟨hB.ld1 rfl rfl,hA.ld1 rfl rfl,hB.ld1 rfl rfl,hA.ld1 rfl rfl,hB.ld1 rfl rfl,hA.ld1 rfl rfl,hB.ld1 rfl rfl,hA.ld1 rfl rfl,hB.ld1 rfl rfl,hA.ld1 rfl rfl,?_⟩
 refine cmp_s ?_
 refine ⟨hB.ld1 rfl rfl,hA.ld1 rfl rfl,hB.ld1 rfl rfl,hA.ld1 rfl rfl,hB.ld1 rfl rfl,hA.ld1 rfl rfl,hB.ld1 rfl rfl,hA.ld1 rfl rfl,?_⟩
 refine cmp_i ?_
 refine ⟨hB.ld1 rfl rfl,hA.ld1 rfl rfl,hB.ld1 rfl rfl,hA.ld1 rfl rfl,hB.ld1 rfl rfl,hA.ld1 rfl rfl,?_⟩
 refine cmp_i ?_
 refine ⟨hB.ld1 rfl rfl,hA.ld1 rfl rfl,hB.ld1 rfl rfl,hA.ld1 rfl rfl,?_⟩
 refine cmp_s ?_
 refine ⟨hB.ld1 rfl rfl,hA.ld1 rfl rfl,?_⟩
 refine truth2_p ?_
 refine ⟨hB.ld1 rfl rfl,?_⟩
 refine truth2_p ?_
 refine cmp_i ?_
 refine row_i7 fun t w4 ht hx4=>?_
 refine or_p (l:=[cmpKs a.mods b.mods,cmpB a.typ b.typ,cmpB a.nm b.nm,cmpI a.kind b.kind,cmpI a.num b.num,cmpB a.key b.key,cmpI (truthI a.aside) (truthI b.aside)]) (by simp) ht fun w5 hx5=>?_
 have:=hK w5 ((hx1.trans hx2).trans (hxd.trans (hx3.trans (hx4.trans hx5))))
 have e:orL [cmpKs a.mods b.mods,cmpB a.typ b.typ,cmpB a.nm b.nm,cmpI a.kind b.kind,cmpI a.num b.num,cmpB a.key b.key,cmpI (truthI a.aside) (truthI b.aside)] = cmpA a b:=by
   simp only [orL,orI_z]
   rfl
 rw [e]
 exact this
end
end Go.Proofs.YtnoepcndjljolaaGreatDoor
namespace Go.Proofs.YtnoepcndjljolaaGreatDoor
open Go Go.Eng Go.RowKit
set_option maxRecDepth 100000
theorem st_mid {a:Nat} {T:TypeId}:∀ (new old pre post:List Value) (o i:Nat) {w:World} {K:World → Prop},w.heap[a]? = some (.cells (pre ++ old ++ post).toArray T (0,0)) → o + i = pre.length → old.length = new.length → (∀ v ∈ new,one1 v = true) →
   (∀ w',w'.heap.size = w.heap.size → w'.heap[a]? = some (.cells (pre ++ new ++ post).toArray T (0,0)) → Chg (fun k=>k = a) w w' → K w') → stCells ⟨a,o,none⟩ new i w K
 | [],old,pre,post,o,i,w,K,hb,_,hl,_,hK=>by
   have:old = []:=List.eq_nil_of_length_eq_zero hl
   subst this
   exact hK w rfl hb (Chg.refl _ _)
 | v :: r,[],pre,post,o,i,w,K,hb,ho,hl,h1,hK=>by simp at hl
 | v :: r,u :: old,pre,post,o,i,w,K,hb,ho,hl,h1,hK=>by
   have hadd:(⟨a,o,none⟩:Addr).add i = ⟨a,pre.length,none⟩:=by rw [add_mk,ho]
   simp only [List.length_cons,Nat.add_right_cancel_iff] at hl
   simp only [stCells,hadd]
   refine ⟨h1 v List.mem_cons_self,?_,?_,?_⟩
   · rw [cell_eq,hb,cellO_some]; simp
   · rw [frozen_eq,hb,frO_zero]
   · have e:(pre ++ (u :: old) ++ post).set pre.length v = (pre ++ [v]) ++ old ++ post:=by
       rw [List.append_assoc,List.set_append_right _ _ (Nat.le_refl _)]
       simp
     have hb':(w.setCell ⟨a,pre.length,none⟩ v).heap[a]? = some (.cells ((pre ++ [v]) ++ old ++ post).toArray T (0,0)):=by
       rw [heap_set_same,hb,setO_some,← e]; simp
     refine st_mid r old (pre ++ [v]) post o (i + 1) hb' (by rw [List.length_append,List.length_singleton]; omega) hl (fun x hx=>h1 x (List.mem_cons_of_mem _ hx)) fun w' hz hb2 hc=>?_
     refine hK w' (by rw [hz]; simp) ?_ ((Chg.set (S:=fun k=>k = a) (Chg.refl _ _) (.inl rfl) _).trans hc)
     rw [hb2]
     simp
theorem st_agg_mid {a o n:Nat} {T:TypeId} {new old pre post:List Value} {w:World} {K:World → Prop} (hb:w.heap[a]? = some (.cells (pre ++ old ++ post).toArray T (0,0))) (ho:o = pre.length) (hn:new.length = n) (hl:old.length = n) (h1:new.all one1 = true)
   (hK:∀ w',w'.heap.size = w.heap.size → w'.heap[a]? = some (.cells (pre ++ new ++ post).toArray T (0,0)) → Chg (fun k=>k = a) w w' → K w'):stW n (.pointer (some ⟨a,o,none⟩)) (.agg new.toArray) w K:=by
 rw [st_agg]
 exact ⟨hn,st_mid new old pre post o 0 hb (by omega) (by omega) (fun v hv=>List.all_eq_true.1 h1 v hv) hK⟩
abbrev AE:=AV × Value
structure AE0 (x:AE):Prop where
 mods:x.1.mods = []
 fits:AFits x.1
 sl:∃ T,∀ w,SlAt w T x.2 0 []
theorem AE0.rep {x:AE} (h:AE0 x) (w:World):ARep w x.1 (acs x.1 x.2):=by
 obtain ⟨T,h1⟩:=h.sl
 refine ⟨x.2,T,rfl,?_,h.fits⟩
 rw [h.mods]
 exact h1 w
def flatA (L:List AE):List Value:=L.flatMap fun x=>acs x.1 x.2
theorem flatA_app (L M:List AE):flatA (L ++ M) = flatA L ++ flatA M:=by unfold flatA; rw [List.flatMap_append]
theorem flatA_cons (x:AE) (M:List AE):flatA (x :: M) = acs x.1 x.2 ++ flatA M:=by unfold flatA; rw [List.flatMap_cons]
theorem flatA_len (L:List AE):(flatA L).length = 7 * L.length:=by
 induction L with
 | nil=>rfl
 | cons x L ih=>rw [flatA_cons,List.length_append,ih,List.length_cons]; simp; omega
def insF:List AE → AE → List AE → List AE
 | [],x,C=>x :: C
 | y :: R,x,C=>if cmpA x.1 y.1 < 0 then insF R x (y :: C) else (y :: R).reverse ++ x :: C
def outF:Nat → List AE → Nat → List AE
 | 0,L,_=>L
 | k + 1,L,i=>match L.drop i with
   | x :: C=>outF k (insF (L.take i).reverse x C) (i + 1)
   | []=>L
theorem insF_mem {x z:AE}:∀ (R C:List AE),z ∈ insF R x C ↔ z ∈ R ∨ z = x ∨ z ∈ C
 | [],C=>by simp [insF]
 | y :: R,C=>by
   rw [insF]
   split
   · rw [insF_mem R (y :: C)]
     simp only [List.mem_cons]
     constructor
     · rintro (h | h | h | h) <;> simp [h]
     · rintro ((h | h) | h | h) <;> simp [h]
   · simp only [List.mem_append,List.mem_reverse,List.mem_cons,or_assoc]
theorem insF_len {x:AE}:∀ (R C:List AE),(insF R x C).length = R.length + 1 + C.length
 | [],C=>by simp [insF]; omega
 | y :: R,C=>by
   rw [insF]
   split
   · rw [insF_len R (y :: C)]; simp; omega
   · simp; omega
section
variable [HX]
theorem row_ld {A D:List AE} {e:AE} {X:List Value} {blk k:Nat} {T:TypeId} {w:World} {K:Value → Prop} (hb:w.heap[blk]? = some (.cells (flatA (A ++ e :: D) ++ X).toArray T (0,0))) (hk:k = A.length) (hK:K (.agg (acs e.1 e.2).toArray)):ldW true 7 (.pointer (some ((⟨blk,0,none⟩:Addr).add (k * 7)))) w K:=by
 rw [add_mk,Nat.zero_add]
 refine ld_cells hb rfl (fun j hj=>?_) hK
 rw [List.getElem?_toArray,flatA_app,flatA_cons,List.append_assoc,List.append_assoc,List.getElem?_append_right (by rw [flatA_len]; omega),flatA_len,List.getElem?_append_left (by show _ < 7; omega)]
 congr 1; omega
theorem row_st {A D:List AE} {e e':AE} {X:List Value} {blk k:Nat} {T:TypeId} {w:World} {K:World → Prop} (hb:w.heap[blk]? = some (.cells (flatA (A ++ e :: D) ++ X).toArray T (0,0))) (hk:k = A.length) (h1:(acs e'.1 e'.2).all one1 = true)
   (hK:∀ w',w'.heap.size = w.heap.size → w'.heap[blk]? = some (.cells (flatA (A ++ e' :: D) ++ X).toArray T (0,0)) → Chg (Cr blk) w w' → K w'):stW 7 (.pointer (some ((⟨blk,0,none⟩:Addr).add (k * 7)))) (.agg (acs e'.1 e'.2).toArray) w K:=by
 rw [add_mk,Nat.zero_add]
 have e1:flatA (A ++ e :: D) ++ X = flatA A ++ acs e.1 e.2 ++ (flatA D ++ X):=by rw [flatA_app,flatA_cons]; simp only [List.append_assoc]
 have e2:flatA (A ++ e' :: D) ++ X = flatA A ++ acs e'.1 e'.2 ++ (flatA D ++ X):=by rw [flatA_app,flatA_cons]; simp only [List.append_assoc]
 rw [e1] at hb
 refine st_agg_mid hb (by rw [flatA_len]; omega) rfl rfl h1 fun w' hz hb' hc=>hK w' hz (by rw [e2]; exact hb') hc
theorem ins_p {L:List AE} {X:List Value} {blk cap:Nat} {w:World} {K:Value → World → Prop} (hL:∀ x ∈ L,AE0 x) (hn:L.length ≤ 1000000) (hb:w.heap[blk]? = some (.cells (flatA L ++ X).toArray AdT (0,0)))
   (hK:∀ w',w'.heap[blk]? = some (.cells (flatA (outF (L.length - 1) L 1) ++ X).toArray AdT (0,0)) → Chg (Cr blk) w w' → K (.tuple #[]) w') :
   callF Tryz.prog 136 [.slice (some ⟨blk,0,none⟩) L.length cap,i64 0,i64 (L.length:Nat),.func (.func 41) #[] #[]] w K:=by
 refine W136_ok ?_
 unfold W136
 rw [bin_add,wrap_id (by omega) (by omega)]
 refine LoopW.go (fun st w'=>∃ i M,st = [i64 ((i + 1:Nat):Int)] ∧ M.length = L.length ∧ (∀ x ∈ M,AE0 x) ∧ w'.heap[blk]? = some (.cells (flatA M ++ X).toArray AdT (0,0)) ∧ Chg (Cr blk) w w' ∧ (i + 1 ≤ L.length ∨ i = 0) ∧ outF (L.length - 1 - i) M (i + 1) = outF (L.length - 1) L 1) (fun st _=>match st with | [.int _ i]=>L.length - i.toNat | _=>0)
   ⟨0,L,rfl,rfl,hL,hb,Chg.refl _ _,.inr rfl,rfl⟩ ?_
 rintro st g w2 ⟨i,M,rfl,hM,hM0,hb2,hc2,hi,ho⟩
 simp only [List.getD_cons_zero]
 rw [bin_lss,condW_dec]
 refine ⟨fun hlt=>?_,fun hge=>?_⟩
 case refine_2=>
   have:L.length - 1 - i = 0:=by omega
   rw [this,outF] at ho
   rw [ho] at hb2
   exact hK w2 hb2 hc2
 have hlt:i + 1 < L.length:=by omega
 obtain ⟨x,hx⟩:∃ x,M[i + 1]? = some x:=⟨_,List.getElem?_eq_getElem (by omega)⟩
 have hdrop:M.drop (i + 1) = x :: M.drop (i + 2):=by
   rw [List.drop_eq_getElem_cons (by omega)]
   congr 1
   exact Option.some.inj ((List.getElem?_eq_getElem (by omega)).symm.trans hx)
 rw [show L.length - 1 - i = (L.length - 1 - (i + 1)) + 1 by omega,outF,hdrop] at ho
 simp only at ho
 have hsplit:M = (M.take (i + 1)).reverse.reverse ++ x :: M.drop (i + 2):=by rw [List.reverse_reverse,← hdrop,List.take_append_drop]
 generalize hR0:(M.take (i + 1)).reverse = R0 at *
 generalize hC0:M.drop (i + 2) = C0 at *
 have hR0l:R0.length = i + 1:=by rw [← hR0,List.length_reverse,List.length_take]; omega
 have hx0:AE0 x:=hM0 x (List.mem_of_getElem? hx)
 have hR00:∀ z ∈ R0,AE0 z:=fun z hz=>hM0 z (by rw [hsplit]; simp [hz])
 have hC00:∀ z ∈ C0,AE0 z:=fun z hz=>hM0 z (by rw [hsplit]; simp [hz])
 have htot:R0.length + 1 + C0.length = L.length:=by
   have:=congrArg List.length hsplit
   simp at this
   omega
 refine LoopW.go (fun st w'=>∃ R C,st = [i64 (R.length:Nat)] ∧ R.length + 1 + C.length = L.length ∧ (∀ z ∈ R,AE0 z) ∧ (∀ z ∈ C,AE0 z) ∧ w'.heap[blk]? = some (.cells (flatA (R.reverse ++ x :: C) ++ X).toArray AdT (0,0)) ∧ Chg (Cr blk) w w' ∧ insF R x C = insF R0 x C0) (fun st _=>match st with | [.int _ i]=>i.toNat | _=>0)
   ⟨R0,C0,by rw [hR0l],htot,hR00,hC00,by rw [← hsplit]; exact hb2,hc2,rfl⟩ ?_
 rintro st g w4 ⟨R,C,rfl,hRC,hR,hC,hb4,hc4,hins⟩
 simp only [List.getD_cons_zero]
 -- done with this one
 have next:∀ {w':World},Chg (Cr blk) w w' → w'.heap[blk]? = some (.cells (flatA (insF R0 x C0) ++ X).toArray AdT (0,0)) →
     (∃ i' M,[i64 ((i + 1 + 1:Nat):Int)] = [i64 ((i' + 1:Nat):Int)] ∧ M.length = L.length ∧ (∀ x ∈ M,AE0 x) ∧ w'.heap[blk]? = some (.cells (flatA M ++ X).toArray AdT (0,0)) ∧ Chg (Cr blk) w w' ∧ (i' + 1 ≤ L.length ∨ i' = 0) ∧ outF (L.length - 1 - i') M (i' + 1) = outF (L.length - 1) L 1) ∧ L.length - (((i + 1 + 1:Nat):Int)).toNat < L.length - (((i + 1:Nat):Int)).toNat:=fun {w'} hc hb=>by
   refine ⟨⟨i + 1,insF R0 x C0,rfl,by rw [insF_len]; omega,fun z hz=>?_,hb,hc,.inl (by omega),ho⟩,?_⟩
   · rcases (insF_mem R0 C0).1 hz with h | rfl | h
     · exact hR00 z h
     · exact hx0
     · exact hC00 z h
   · simp only [Int.toNat_natCast]; omega
 have hxd:∀ w:World,Ext w w.drew:=fun w=>Chg.drew (Chg.refl (fun _=>False) w)
 cases R with
 | nil=>
   rw [insF] at hins
   rw [bin_gtr]
   simp only [List.length_nil]
   rw [show decide ((0:Int) < ((0:Nat):Int)) = false from rfl]
   simp only [isB_t,GqW_f,GeW_f]
   rw [pick_f,condW_false]
   rw [bin_add,up1 (by omega)]
   exact next (hc4.then (hxd _) fun _ _ e=>e.elim) (by rw [← hins]; exact hb4)
 | cons y R=>
   have hy:=hR y (by simp)
   have hrev:(y :: R).reverse ++ x :: C = R.reverse ++ y :: x :: C:=by simp
   rw [hrev] at hb4
   have hb4x:w4.heap[blk]? = some (.cells (flatA ((R.reverse ++ [y]) ++ x :: C) ++ X).toArray AdT (0,0)):=by rw [hb4]; simp
   simp only [List.length_cons] at hRC ⊢
   rw [bin_gtr,decide_eq_true (by omega:(0:Int) < ((R.length + 1:Nat):Int))]
   simp only [isB_t,GqW_t]
   have hsub:∀ K:Value → Prop,binW .sub (i64 ((R.length + 1:Nat):Int)) (.int .i64 1) K ↔ K (i64 (R.length:Nat)):=fun K=>by
     rw [bin_sub,wrap_id (by omega) (by omega),show ((R.length + 1:Nat):Int) - 1 = ((R.length:Nat):Int) by omega]
   have hix:∀ (k:Nat) (K:Value → Prop),k < L.length → K (.pointer (some ((⟨blk,0,none⟩:Addr).add (k * 7)))) → ixaW none 7 (.slice (some ⟨blk,0,none⟩) L.length cap) (i64 (k:Nat)) K:=fun k K hk h=>by
     rw [ixa_slice]
     exact ⟨by omega,by omega,by rw [Int.toNat_natCast]; exact h⟩
   refine ⟨_,rfl,_,rfl,_,rfl,_,hix (R.length + 1) _ (by omega) rfl,_,row_ld (w:=w4.drew) (A:=R.reverse ++ [y]) (e:=x) (D:=C) hb4x (by simp) rfl,_,rfl,_,rfl,_,(hsub _).2 rfl,_,hix R.length _ (by omega) rfl,_,row_ld (w:=w4.drew) (A:=R.reverse) (e:=y) (D:=x :: C) hb4 (by simp) rfl,?_⟩
   refine ⟨fun _=>?_,fun e=>by cases e⟩
   refine callV_fn (acmp_p (hx0.rep _) (hy.rep _) fun w5 hx5=>?_)
   have hx45:=(hxd w4).trans hx5
   refine ⟨.bool (decide (cmpA x.1 y.1 < 0)),by rw [bin_lss],?_⟩
   rw [pick_t,condW_dec]
   rw [insF] at hins
   have hb5:=hx45.at hb4 id
   have hc5:Chg (Cr blk) w w5:=hc4.then hx45 fun _ _ e=>e.elim
   refine ⟨fun hlt=>?_,fun hge=>?_⟩
   · rw [if_pos hlt] at hins
     simp only [hsub]
     refine hix R.length _ (by omega) ?_
     refine row_ld (w:=w5.drew) (A:=R.reverse) (e:=y) (D:=x :: C) hb5 (by simp) ?_
     refine hix (R.length + 1) _ (by omega) ?_
     have hb5x:w5.drew.heap[blk]? = some (.cells (flatA ((R.reverse ++ [y]) ++ x :: C) ++ X).toArray AdT (0,0)):=by
       show w5.heap[blk]? = _
       rw [hb5]; simp
     refine row_ld (A:=R.reverse ++ [y]) (e:=x) (D:=C) hb5x (by simp) ?_
     refine hix (R.length + 1) _ (by omega) ?_
     refine row_st (A:=R.reverse ++ [y]) (e:=x) (e':=y) (D:=C) hb5x (by simp) (hy.rep w5).one fun w6 hz6 hb6 hc6=>?_
     refine hix R.length _ (by omega) ?_
     have hb6y:w6.heap[blk]? = some (.cells (flatA (R.reverse ++ y :: y :: C) ++ X).toArray AdT (0,0)):=by rw [hb6]; simp
     refine row_st (A:=R.reverse) (e:=y) (e':=x) (D:=y :: C) hb6y (by simp) (hx0.rep w6).one fun w7 hz7 hb7 hc7=>?_
     refine ⟨⟨R,y :: C,rfl,by rw [List.length_cons]; omega,fun z hz=>hR z (by simp [hz]),fun z hz=>?_,hb7,((hc5.then (hxd w5) fun _ _ e=>e.elim).trans hc6).trans hc7,hins⟩,?_⟩
     · rcases List.mem_cons.1 hz with rfl | hz
       · exact hy
       · exact hC z hz
     · simp only [Int.toNat_natCast]; omega
   · rw [if_neg hge] at hins
     rw [bin_add,up1 (by omega)]
     exact next hc5 (by rw [← hins,hrev]; exact hb5)
end
end Go.Proofs.YtnoepcndjljolaaGreatDoor
namespace Go.Proofs.YtnoepcndjljolaaGreatDoor
open Go Go.Eng Go.RowKit
set_option maxRecDepth 100000
section
variable [HX]
theorem itoa_inj {n m:Int} (h0:0 ≤ n) (h1:n ≤ 1000000000) (h2:0 ≤ m) (h3:m ≤ 1000000000) (h:Lib.itoa n = Lib.itoa m):n = m:=by
 have a:=atoi_itoa h0 h1
 rw [h,atoi_itoa h2 h3] at a
 exact (Option.some.inj a).symm
theorem quote_inj {k m:Str} (h0:utfM k = true) (h1:k.length ≤ 16384) (h2:(quoteM k).length ≤ 65536) (h3:utfM m = true) (h4:m.length ≤ 16384) (h5:(quoteM m).length ≤ 65536) (h:quoteM k = quoteM m):k = m:=by
 obtain ⟨j,c,a⟩:=dec_key (E:=En) h0 h1 h2
 obtain ⟨j',c',b⟩:=dec_key (E:=En) h3 h4 h5
 rw [h,b] at a
 cases a
 rfl
theorem show_inj {a b:AV} (ha:goodAd a = true) (hb:goodAd b = true) (h:showA a = showA b):a = b:=by
 have hs:a.aside = b.aside ∧ headA a ++ brA a = headA b ++ brA b:=by
   rcases show_aside a with ⟨a1,a2⟩ | ⟨a1,a2⟩ <;> rcases show_aside b with ⟨b1,b2⟩ | ⟨b1,b2⟩
   · rw [a2,b2] at h
     exact ⟨by rw [a1,b1],(List.append_inj' h rfl).1⟩
   · rw [a2,b2] at h
     exact absurd h.symm (last_no hb _)
   · rw [a2,b2] at h
     exact absurd h (last_no ha _)
   · rw [a2,b2] at h
     exact ⟨by rw [a1,b1],h⟩
 obtain ⟨e1,e2⟩:=hs
 have h91:(91:UInt8) ∉ headA a:=fun hm=>(head_mem ha hm).1 rfl
 have h91b:(91:UInt8) ∉ headA b:=fun hm=>(head_mem hb hm).1 rfl
 have hx:headA a = headA b ∧ a.kind = b.kind ∧ a.num = b.num ∧ a.key = b.key:=by
   rcases (good_out ha).2.2.2.2 with ⟨k0,n0,y0,br⟩ | ⟨k1,n0,n1,y0,br⟩ | ⟨k2,n0,u,l1,l2,br⟩
   · rw [br,List.append_nil] at e2
     rcases (good_out hb).2.2.2.2 with ⟨k0',n0',y0',br'⟩ | ⟨_,_,_,_,br'⟩ | ⟨_,_,_,_,_,br'⟩
     · rw [br',List.append_nil] at e2
       exact ⟨e2,by rw [k0,k0'],by rw [n0,n0'],by rw [y0,y0']⟩
     · rw [e2,br'] at h91; exact absurd (by simp) h91
     · rw [e2,br'] at h91; exact absurd (by simp) h91
   · rw [br] at e2
     obtain ⟨q1,⟨k1',m0,m1,y0',r⟩ | ⟨k2',m0,u',_,_,r⟩⟩:=br_split hb e2.symm h91
     · have:=itoa_inj n0 n1 m0 m1 (List.append_inj' r rfl).1
       exact ⟨q1,by rw [k1,k1'],this,by rw [y0,y0']⟩
     · exact absurd (List.append_inj' r rfl).1 (quote_dig n0 n1)
   · rw [br] at e2
     obtain ⟨q1,⟨k1',m0,m1,y0',r⟩ | ⟨k2',m0,u',l1',l2',r⟩⟩:=br_split hb e2.symm h91
     · exact absurd (List.append_inj' r rfl).1.symm (quote_dig m0 m1)
     · exact ⟨q1,by rw [k2,k2'],by rw [n0,m0],quote_inj u l1 l2 u' l1' l2' (List.append_inj' r rfl).1⟩
 obtain ⟨q1,q2,q3,q4⟩:=hx
 have s1:=split_head ha
 rw [q1,split_head hb] at s1
 obtain ⟨m1,m2⟩:=List.append_inj' s1 rfl
 simp only [List.cons.injEq,and_true] at m2
 obtain ⟨t1,t2⟩:=first_one m2 (typ_not hb) (typ_not ha)
 cases a; cases b
 simp only [AV.mk.injEq] at *
 exact ⟨m1.symm,t1.symm,t2.symm,q2,q3,q4,e1⟩
theorem showA_len {a:AV} (h:goodAd a = true):(showA a).length ≤ 100000:=by
 obtain ⟨a1,a2,a3,a4,a5⟩:=good_out h
 have flen:∀ l:List Str,(∀ m ∈ l,nameM m = true) → (l.flatMap (fun m=>m ++ [47])).length ≤ 33 * l.length:=fun l=>by
   induction l with
   | nil=>intro _; simp
   | cons m l ih=>
     intro hm
     have h1:=(name_out (hm m (by simp))).2.1
     have h2:=ih fun x hx=>hm x (by simp [hx])
     rw [List.flatMap_cons,List.length_append,List.length_append,List.length_singleton,List.length_cons]
     omega
 have f:=flen a.mods a4
 have ltyp:=(name_out a2).2.1
 have lnm:=(name_out a3).2.1
 have hb:(brA a).length ≤ 70000:=by
   rcases a5 with ⟨_,_,_,br⟩ | ⟨_,n0,n1,_,br⟩ | ⟨_,_,_,_,l2,br⟩
   · rw [br]; simp
   · have:=(itoa_good n0 n1).2.1
     rw [br]; simp; omega
   · rw [br]; simp; omega
 have hh:(headA a).length ≤ 300:=by
   unfold headA
   rw [List.length_append,List.length_append,List.length_append,List.length_singleton]
   omega
 unfold showA
 rw [List.length_append,List.length_append]
 have:(if a.aside = true then ([126]:Str) else []).length ≤ 1:=by split <;> simp
 omega
theorem parse_good {a:AV} {w:World} {K:Value → World → Prop} (hT:TabA w) (hg:goodAd a = true) (hK:∀ cs w',Ext w w' → ARep w' a cs → K (.tuple #[.agg cs.toArray,i64 0]) w'):callF Tryz.prog 39 [str (showA a)] w K:=by
 have:=showA_len hg
 refine parse_p hT (by omega) (fun b hb he cs w' hx hr=>?_) (fun hn=>absurd rfl (hn a hg))
 rw [show_inj hb hg he] at hr
 exact hK cs w' hx hr
theorem elem_a:ElemT Tryz.prog 79 AdT 7 96:=⟨by kernel_rfl,by kernel_rfl,by decide⟩
theorem row_a {w:World} {cs:List Value} {K:Value → World → Prop} (hc:cs.length = 7) (hK:∀ t w',SlAt w' AdT t 1 cs → Ext w w' → K t w'):bslW AdT 1 [(.slice none 0 0),(.string (ofL [])),(.string (ofL [])),(.int .i64 0),(.int .i64 0),(.string (ofL [])),(.bool false)] [(0,7,.agg cs.toArray)] w K:=by
 unfold bslW
 have hp:∀ K:List Value → Prop,K cs → putW za [(0,7,.agg cs.toArray)] K:=by
   intro K hK
   refine ⟨by simp [Value.cells,hc],by simp,?_⟩
   have:List.take 0 za ++ ((Value.agg cs.toArray).cells.toList ++ List.drop (0 + 7) za) = cs:=by simp [Value.cells]
   rw [this]
   exact hK
 refine hp _ ?_
 exact hK _ _ (own_new (w:=w) (base:=w.heap.size) (e:=AdT) (size:=7) (n:=1) (cs:=cs) (Nat.le_refl _) (by omega) (by omega)).sl (by repeat (first | assumption | exact Chg.refl _ _ | refine Chg.drew ?_ | refine Chg.alloc ?_ _ | refine Chg.set ?_ (by first | exact .inl rfl | exact .inr (by omega) | exact .inr (by simp only [size_set,size_alloc,size_drew]; omega) | (left; simp; done)) _ | exact Chg.of_ext (by assumption)))
theorem pdq_p {L:List AE} {X:List Value} {blk cap:Nat} {lim:Int} {w:World} {K:Value → World → Prop} (hL:∀ x ∈ L,AE0 x) (hn:L.length ≤ 12) (hb:w.heap[blk]? = some (.cells (flatA L ++ X).toArray AdT (0,0)))
   (hK:∀ w',w'.heap[blk]? = some (.cells (flatA (outF (L.length - 1) L 1) ++ X).toArray AdT (0,0)) → Chg (Cr blk) w w' → K (.tuple #[]) w') :
   callF Tryz.prog 80 [.slice (some ⟨blk,0,none⟩) L.length cap,i64 0,i64 (L.length:Nat),i64 lim,.func (.func 41) #[] #[]] w K:=by
 refine W80_ok ?_
 unfold W80
 refine LoopW.go (fun st w'=>st = [i64 0,i64 (L.length:Nat),i64 lim,.bool true,.bool true] ∧ w' = w) (fun _ _=>0) ⟨rfl,rfl⟩ ?_
 rintro st g w2 ⟨rfl,rfl⟩
 simp only [List.getD_cons_zero,List.getD_cons_succ]
 rw [bin_sub,wrap_id (by omega) (by omega),bin_leq,decide_eq_true (by omega),condW_true]
 exact ins_p hL (by omega) hb hK
theorem sortf_p {L:List AE} {X:List Value} {blk cap:Nat} {w:World} {K:Value → World → Prop} (hL:∀ x ∈ L,AE0 x) (hn:L.length ≤ 12) (hb:w.heap[blk]? = some (.cells (flatA L ++ X).toArray AdT (0,0)))
   (hK:∀ w',w'.heap[blk]? = some (.cells (flatA (outF (L.length - 1) L 1) ++ X).toArray AdT (0,0)) → Chg (Cr blk) w w' → K (.tuple #[]) w') :
   callF Tryz.prog 40 [.slice (some ⟨blk,0,none⟩) L.length cap,.func (.func 41) #[] #[]] w K:=by
 refine W40_ok ?_
 unfold W40
 rw [lenl_sl,cvt_int]
 have e:IntKind.u64.wrap ((L.length:Nat):Int) = ((L.length:Nat):Int):=by rw [IntKind.wrap_u64]; omega
 rw [e]
 refine of_calls (args:=#[.int .u64 (L.length:Nat)]) Tryz.call81 ((Tryz.bits_Len (L.length:Nat) w (by omega) (by omega)).mono ?_)
 rintro e w' ⟨rfl,rfl⟩
 refine ⟨_,rfl,?_⟩
 exact pdq_p hL hn hb hK
theorem outF_mem:∀ (k:Nat) (L:List AE) (i:Nat),(∀ z ∈ outF k L i,z ∈ L) ∧ (outF k L i).length = L.length
 | 0,L,i=>⟨fun z hz=>hz,rfl⟩
 | k + 1,L,i=>by
   rw [outF]
   cases hd:L.drop i with
   | nil=>exact ⟨fun z hz=>hz,rfl⟩
   | cons x C=>
     simp only
     obtain ⟨h1,h2⟩:=outF_mem k (insF (L.take i).reverse x C) (i + 1)
     have hL:L = L.take i ++ x :: C:=by rw [← hd,List.take_append_drop]
     refine ⟨fun z hz=>?_,?_⟩
     · have hm:=(insF_mem _ _).1 (h1 z hz)
       rw [hL]
       rcases hm with hm | rfl | hm
       · exact List.mem_append.2 (.inl (List.mem_reverse.1 hm))
       · simp
       · simp [hm]
     · rw [h2,insF_len,List.length_reverse]
       have:=congrArg List.length hL
       rw [List.length_append,List.length_cons] at this
       omega
end
end Go.Proofs.YtnoepcndjljolaaGreatDoor
namespace Go.Eng
open Go
def insA (a:AV):List AV → List AV
 | []=>[a]
 | b :: r=>if cmpA a b < 0 then a :: b :: r else b :: insA a r
def sortA (l:List AV):List AV:=l.foldl (fun o a=>insA a o) []
theorem insA_perm (a:AV):∀ l:List AV,(insA a l).Perm (a :: l)
 | []=>List.Perm.refl _
 | b :: r=>by
   rw [insA]
   split
   · exact List.Perm.refl _
   · exact ((insA_perm a r).cons b).trans (List.Perm.swap a b r)
theorem sortA_go (l:List AV):∀ o:List AV,(l.foldl (fun o a=>insA a o) o).Perm (o ++ l):=by
 induction l with
 | nil=>intro o; rw [List.append_nil]; exact List.Perm.refl _
 | cons a l ih=>
   intro o
   rw [List.foldl_cons]
   refine (ih _).trans ?_
   have h1:(insA a o ++ l).Perm ((a :: o) ++ l):=(insA_perm a o).append_right l
   exact h1.trans (List.perm_middle (l₁:=o) (a:=a) (l₂:=l)).symm
theorem sortA_perm (l:List AV):(sortA l).Perm l:=sortA_go l []
abbrev RiseA (l:List AV):Prop:=l.Pairwise (fun x y=>cmpA x y ≤ 0)
theorem insA_rise (a:AV):∀ l:List AV,RiseA l → RiseA (insA a l)
 | [],_=>List.pairwise_singleton _ _
 | b :: r,h=>by
   rw [insA]
   have hb:=List.pairwise_cons.1 h
   split
   · rename_i hlt
     refine List.pairwise_cons.2 ⟨fun x hx=>?_,h⟩
     rcases List.mem_cons.1 hx with rfl | hx
     · omega
     · exact lin_addr.trans a b x (by omega) (hb.1 x hx)
   · rename_i hge
     refine List.pairwise_cons.2 ⟨fun x hx=>?_,insA_rise a r hb.2⟩
     rcases List.mem_cons.1 ((insA_perm a r).mem_iff.1 hx) with rfl | hx
     · have:=lin_addr.anti x b
       omega
     · exact hb.1 x hx
theorem sortA_rise_go (l:List AV):∀ o:List AV,RiseA o → RiseA (l.foldl (fun o a=>insA a o) o):=by
 induction l with
 | nil=>intro o h; exact h
 | cons a l ih=>intro o h; exact ih _ (insA_rise a o h)
theorem sortA_rise (l:List AV):RiseA (sortA l):=sortA_rise_go l [] List.Pairwise.nil
theorem rise_unique:∀ {l m:List AV},l.Perm m → RiseA l → RiseA m → l = m
 | [],m,h,_,_=>h.nil_eq
 | x :: l,[],h,_,_=>absurd h.symm.nil_eq (by simp)
 | x :: l,y :: m,h,hl,hm=>by
   have h1:=List.pairwise_cons.1 hl
   have h2:=List.pairwise_cons.1 hm
   have e:x = y:=by
     have hx:x ∈ y :: m:=h.mem_iff.1 (by simp)
     have hy:y ∈ x :: l:=h.mem_iff.2 (by simp)
     rcases List.mem_cons.1 hx with e | hx
     · exact e
     · rcases List.mem_cons.1 hy with e | hy
       · exact e.symm
       · have a1:=h1.1 y hy
         have a2:=h2.1 x hx
         have a3:=lin_addr.anti x y
         exact (lin_addr.zero x y).1 (by omega)
   subst e
   rw [rise_unique h.cons_inv h1.2 h2.2]
theorem insA_done {a:AV}:∀ {l:List AV},(∃ b ∈ l,cmpA a b < 0) → ∀ r,insA a (l ++ r) = insA a l ++ r
 | [],h,_=>by obtain ⟨b,hb,_⟩:=h; cases hb
 | x :: l,h,r=>by
   rw [List.cons_append,insA,insA]
   split
   · rfl
   · rename_i hx
     have h':∃ b ∈ l,cmpA a b < 0:=by
       obtain ⟨b,hb,hlt⟩:=h
       rcases List.mem_cons.1 hb with rfl | hb
       · exact absurd hlt hx
       · exact ⟨b,hb,hlt⟩
     rw [insA_done h' r]
     rfl
theorem insA_not {a:AV}:∀ {l:List AV},(∀ b ∈ l,¬ cmpA a b < 0) → insA a l = l ++ [a]
 | [],_=>rfl
 | x :: l,h=>by rw [insA,if_neg (h x (by simp)),insA_not fun b hb=>h b (by simp [hb])]; rfl
theorem insA_hit {a b:AV} (hb:cmpA a b < 0):∀ {l:List AV},(∀ x ∈ l,¬ cmpA a x < 0) → insA a (l ++ [b]) = l ++ [a,b]
 | [],_=>by rw [List.nil_append,insA,if_pos hb]; rfl
 | x :: l,h=>by rw [List.cons_append,insA,if_neg (h x (by simp)),insA_hit hb fun y hy=>h y (by simp [hy])]; rfl
theorem sortA_of {l m:List AV} (h:m.Perm l) (hm:RiseA m):m = sortA l:=rise_unique (h.trans (sortA_perm l).symm) hm (sortA_rise l)
end Go.Eng
namespace Go.Proofs.YtnoepcndjljolaaGreatDoor
open Go Go.Eng Go.RowKit
set_option maxRecDepth 100000
def ExtG (w w':World):Prop:=∃ q os,w' = Sort.grow (w.drewN q) os
theorem ExtG.refl (w:World):ExtG w w:=⟨0,#[],by show w = { w with heap:=w.heap ++ #[] }; simp⟩
theorem ExtG.trans {w w1 w2:World} (h1:ExtG w w1) (h2:ExtG w1 w2):ExtG w w2:=by
 obtain ⟨q,os,rfl⟩:=h1
 obtain ⟨q',os',rfl⟩:=h2
 refine ⟨q + q',os ++ os',?_⟩
 show ({ w with heap:=(w.heap ++ os) ++ os',drawn:=(w.drawn + q) + q' }:World) = { w with heap:=w.heap ++ (os ++ os'),drawn:=w.drawn + (q + q') }
 rw [Array.append_assoc,Nat.add_assoc]
theorem ExtG.drew (w:World):ExtG w w.drew:=⟨1,#[],by show ({ w with drawn:=w.drawn + 1 }:World) = { w with heap:=w.heap ++ #[],drawn:=w.drawn + 1 }; simp⟩
theorem ExtG.alloc (w:World) (o:Obj):ExtG w (w.alloc o):=⟨0,#[o],by rw [Sort.alloc_eq_grow]; rfl⟩
theorem ExtG.ext {w w':World} (h:ExtG w w'):Ext w w':=by
 obtain ⟨q,os,rfl⟩:=h
 exact ⟨rfl,rfl,rfl,by show w.heap.size ≤ (w.heap ++ os).size; simp,fun j hj _=>by show (w.heap ++ os)[j]? = _; rw [Array.getElem?_append_left hj]⟩
theorem box_g {T0:TypeId} {w:World} {a:AV} {cs:List Value} {K:Value → World → Prop} (h:ARep w a cs) (hK:∀ p w' sv,AcB T0 w' p a sv → ExtG w w' → p = w.heap.size → (∃ T,SlAt w T sv a.mods.length (a.mods.map str)) → K (.pointer (some ⟨p,0,none⟩)) w'):boxW T0 (.agg cs.toArray) w K:=by
 obtain ⟨sv,T,rfl,h1,h2⟩:=h
 rw [box_agg]
 exact hK _ _ sv ⟨heap_anew _ _ _ rfl,⟨T,h1.ext (ExtG.alloc _ _).ext⟩,h2⟩ (ExtG.alloc _ _) rfl ⟨T,h1⟩
section
variable [HX]
theorem cmpks_g {a b:List Str} {x y:Value} {T1 T2:TypeId} {w:World} {K:Value → World → Prop} (h1:SlAt w T1 x a.length (a.map str)) (h2:SlAt w T2 y b.length (b.map str)) (ha:a.length ≤ 9223372036854775807)
   (hK:∀ w',ExtG w w' → K (i64 (cmpKs a b)) w'):callF Tryz.prog 83 [x,y] w K:=by
 refine W83_ok ?_
 unfold W83
 rw [lenl_at h1]
 refine loop_up a.length (fun i w'=>ExtG w w' ∧ i ≤ b.length ∧ cmpKs (a.drop i) (b.drop i) = cmpKs a b) ⟨ExtG.refl _,by omega,rfl⟩ ?_ ?_
 · rintro i w2 g L hi ⟨hx2,hib,he⟩ hL
   obtain ⟨u,hu⟩:∃ u,a[i]? = some u:=⟨_,List.getElem?_eq_getElem hi⟩
   have hlt:((i:Int) < (a.length:Int)):=by omega
   have hda:a.drop i = u :: a.drop (i + 1):=by
     rw [List.drop_eq_getElem_cons hi]; congr 1
     exact Option.some.inj ((List.getElem?_eq_getElem hi).symm.trans hu)
   simp only [wsv,wsg,wsh,wsl,cond_true,cond_false,exists_eq_left',wsu,Nat.reduceAdd,Nat.reduceLT,Nat.lt_add_one,Nat.zero_lt_succ,decide_true,decide_false,ne_eq,reduceCtorEq,hlt]
   refine text_ld (h1.ext hx2.ext) hu ?_
   rw [lenl_at h2]
   simp only [wsv,wsg,wsh,wsl,cond_true,cond_false,exists_eq_left',wsu,Nat.reduceAdd,Nat.reduceLT,Nat.lt_add_one,Nat.zero_lt_succ,decide_true,decide_false,ne_eq,reduceCtorEq,condW_dec]
   refine ⟨fun hge=>?_,fun hltb=>?_⟩
   · have hdb:b.drop i = []:=List.drop_eq_nil_iff.2 (by omega)
     rw [hda,hdb] at he
     have:=hK w2 hx2
     rw [← he] at this
     exact this
   · have hib2:i < b.length:=by omega
     obtain ⟨v,hv⟩:∃ v,b[i]? = some v:=⟨_,List.getElem?_eq_getElem hib2⟩
     have hdb:b.drop i = v :: b.drop (i + 1):=by
       rw [List.drop_eq_getElem_cons hib2]; congr 1
       exact Option.some.inj ((List.getElem?_eq_getElem hib2).symm.trans hv)
     rw [hda,hdb] at he
     simp only [cmpKs,orI] at he
     refine text_ld (h2.ext hx2.ext) hv ?_
     refine cmp_s ?_
     simp only [wsv,wsg,wsh,wsl,cond_true,cond_false,exists_eq_left',wsu,Nat.reduceAdd,Nat.reduceLT,Nat.lt_add_one,Nat.zero_lt_succ,decide_true,decide_false,ne_eq,reduceCtorEq,condW_dec]
     refine ⟨fun hne=>?_,fun h0=>?_⟩
     · rw [if_neg hne] at he
       have:=hK w2 hx2
       rw [← he] at this
       exact this
     · rw [if_pos (Decidable.not_not.1 h0)] at he
       rw [up1 (by omega)]
       exact hL w2 ⟨hx2,hib2,he⟩
 · rintro w2 g L ⟨hx2,hib,he⟩
   simp only [wsv,wsg,wsh,wsl,cond_true,cond_false,exists_eq_left',wsu,Nat.reduceAdd,Nat.reduceLT,Nat.lt_add_one,Nat.zero_lt_succ,decide_true,decide_false,ne_eq,reduceCtorEq,Int.lt_irrefl]
   rw [lenl_at h1,lenl_at h2]
   rw [List.drop_length] at he
   simp only [wsv,wsg,wsh,wsl,cond_true,cond_false,exists_eq_left',wsu,Nat.reduceAdd,Nat.reduceLT,Nat.lt_add_one,Nat.zero_lt_succ,decide_true,decide_false,ne_eq,reduceCtorEq,condW_dec]
   have:=hK w2 hx2
   rw [← he] at this
   refine ⟨fun hlt=>?_,fun hge=>?_⟩
   · obtain ⟨v,r,e⟩:∃ v r,b.drop a.length = v :: r:=by
       cases hd:b.drop a.length with
       | nil=>have:=List.drop_eq_nil_iff.1 hd; omega
       | cons v r=>exact ⟨v,r,rfl⟩
     rw [e] at this
     exact this
   · rw [List.drop_eq_nil_iff.2 (show b.length ≤ a.length by omega)] at this
     exact this
theorem or_g {l:List Int} {v:Value} {w:World} {K:Value → World → Prop} (hl:l.length ≤ 1000) (hv:SlAt w 3 v l.length (l.map i64)) (hK:∀ w',ExtG w w' → K (i64 (orL l)) w'):callF Tryz.prog 82 [v] w K:=by
 refine W82_ok ?_
 unfold W82
 rw [lenl_at hv]
 refine loop_up l.length (fun i w'=>ExtG w w' ∧ ∀ j x,j < i → l[j]? = some x → x = 0) ⟨ExtG.refl _,fun j x hj=>by omega⟩ ?_ ?_
 · rintro i w2 g L hi ⟨hx2,h1⟩ hL
   obtain ⟨x,hx⟩:∃ x,l[i]? = some x:=⟨_,List.getElem?_eq_getElem hi⟩
   have hlt:((i:Int) < (l.length:Int)):=by omega
   simp only [wsv,wsg,wsh,wsl,cond_true,cond_false,exists_eq_left',wsu,Nat.reduceAdd,Nat.reduceLT,Nat.lt_add_one,Nat.zero_lt_succ,decide_true,decide_false,ne_eq,reduceCtorEq,hlt]
   refine ixa_ld (hv.ext hx2.ext) (by simp) (show (l.map i64)[i]? = some (i64 x) by simp [hx]) ?_
   simp only [wsv,wsg,wsh,wsl,cond_true,cond_false,exists_eq_left',wsu,Nat.reduceAdd,Nat.reduceLT,Nat.lt_add_one,Nat.zero_lt_succ,decide_true,decide_false,ne_eq,reduceCtorEq,condW_dec]
   refine ⟨fun hne=>?_,fun h0=>?_⟩
   · have:=hK w2 hx2
     rw [orL_skip l i h1,List.drop_eq_getElem_cons hi] at this
     have e:=Option.some.inj ((List.getElem?_eq_getElem hi).symm.trans hx)
     rw [e] at this
     have hne:x ≠ 0:=by simpa using hne
     simp only [orL,orI,if_neg hne] at this
     exact this
   · rw [up1 (by omega)]
     refine hL w2 ⟨hx2,fun j y hj hy=>?_⟩
     rcases Nat.lt_or_ge j i with h | h
     · exact h1 j y h hy
     · obtain rfl:j = i:=by omega
       rw [hx] at hy
       cases hy
       simpa using h0
 · rintro w2 g L ⟨hx2,h1⟩
   simp only [wsv,wsg,wsh,wsl,cond_true,cond_false,exists_eq_left',wsu,Nat.reduceAdd,Nat.reduceLT,Nat.lt_add_one,Nat.zero_lt_succ,decide_true,decide_false,ne_eq,reduceCtorEq,Int.lt_irrefl]
   have:=hK w2 hx2
   rw [orL_skip l l.length h1,List.drop_length] at this
   exact this
theorem row_g7 {a b c d e f g:Int} {w:World} {K:Value → World → Prop} (hK:∀ t w',SlAt w' 3 t 7 ([a,b,c,d,e,f,g].map i64) → ExtG w w' → K t w') :
   bslW 3 7 [(.int .i64 0),(.int .i64 0),(.int .i64 0),(.int .i64 0),(.int .i64 0),(.int .i64 0),(.int .i64 0)] [(0,1,i64 a),(1,1,i64 b),(2,1,i64 c),(3,1,i64 d),(4,1,i64 e),(5,1,i64 f),(6,1,i64 g)] w K:=by
 rw [bslW]
 simp only [put_int,put_nil,List.length_cons,List.length_nil,List.set_cons_zero,List.set_cons_succ]
 refine ⟨by omega,by omega,by omega,by omega,by omega,by omega,by omega,?_⟩
 refine hK _ _ ⟨_,_,rfl,Nat.le_refl _,fun e=>(by cases e),fun _=>⟨_,_,_,_,rfl,heap_anew _ _ _ rfl,fun i _=>by rw [Nat.zero_add]; simp⟩⟩ (ExtG.alloc _ _)
theorem acmp_g {a b:AV} {cs ds:List Value} {w:World} {K:Value → World → Prop} (h:ARep w a cs) (h':ARep w b ds) (hK:∀ w',ExtG w w' → K (i64 (cmpA a b)) w') :
   callF Tryz.prog 41 [.agg cs.toArray,.agg ds.toArray] w K:=by
 refine W41_ok ?_
 unfold W41
 refine box_g h fun p w1 sv hA hx1 hp hs0=>?_
 refine box_g (h'.ext hx1.ext) fun q w2 tv hB hx2 hq hs1=>?_
 have hxd:ExtG w2 w2.drew:=ExtG.drew w2
 have hA:=(hA.ext hx2.ext).ext hxd.ext
 have hB:=hB.ext hxd.ext
 simp only [fld_ptr]
 refine hA.ld1 rfl ?_
 refine hB.ld1 rfl ?_
 refine hA.ld1 rfl ?_
 refine hB.ld1 rfl ?_
 refine hA.ld1 rfl ?_
 refine hB.ld1 rfl ?_
 refine hA.ld1 rfl ?_
 refine hB.ld1 rfl ?_
 refine hA.ld1 rfl ?_
 refine hB.ld1 rfl ?_
 refine hA.ld1 rfl ?_
 refine hB.ld1 rfl ?_
 refine hA.ld1 rfl ?_
 refine hB.ld1 rfl ?_
 obtain ⟨T1,hs1⟩:=hA.sl
 obtain ⟨T2,hs2⟩:=hB.sl
 refine cmpks_g hs1 hs2 hA.fits.mods fun w3 hx3=>?_
 have hA:=hA.ext hx3.ext
 have hB:=hB.ext hx3.ext
 refine ⟨hB.ld1 rfl rfl,hA.ld1 rfl rfl,hB.ld1 rfl rfl,hA.ld1 rfl rfl,hB.ld1 rfl rfl,hA.ld1 rfl rfl,hB.ld1 rfl rfl,hA.ld1 rfl rfl,hB.ld1 rfl rfl,hA.ld1 rfl rfl,hB.ld1 rfl rfl,hA.ld1 rfl rfl,?_⟩
 refine cmp_s ?_
 refine ⟨hB.ld1 rfl rfl,hA.ld1 rfl rfl,hB.ld1 rfl rfl,hA.ld1 rfl rfl,hB.ld1 rfl rfl,hA.ld1 rfl rfl,hB.ld1 rfl rfl,hA.ld1 rfl rfl,hB.ld1 rfl rfl,hA.ld1 rfl rfl,?_⟩
 refine cmp_s ?_
 refine ⟨hB.ld1 rfl rfl,hA.ld1 rfl rfl,hB.ld1 rfl rfl,hA.ld1 rfl rfl,hB.ld1 rfl rfl,hA.ld1 rfl rfl,hB.ld1 rfl rfl,hA.ld1 rfl rfl,?_⟩
 refine cmp_i ?_
 refine ⟨hB.ld1 rfl rfl,hA.ld1 rfl rfl,hB.ld1 rfl rfl,hA.ld1 rfl rfl,hB.ld1 rfl rfl,hA.ld1 rfl rfl,?_⟩
 refine cmp_i ?_
 refine ⟨hB.ld1 rfl rfl,hA.ld1 rfl rfl,hB.ld1 rfl rfl,hA.ld1 rfl rfl,?_⟩
 refine cmp_s ?_
 refine ⟨hB.ld1 rfl rfl,hA.ld1 rfl rfl,?_⟩
 refine truth2_p ?_
 refine ⟨hB.ld1 rfl rfl,?_⟩
 refine truth2_p ?_
 refine cmp_i ?_
 refine row_g7 fun t w4 ht hx4=>?_
 refine or_g (l:=[cmpKs a.mods b.mods,cmpB a.typ b.typ,cmpB a.nm b.nm,cmpI a.kind b.kind,cmpI a.num b.num,cmpB a.key b.key,cmpI (truthI a.aside) (truthI b.aside)]) (by simp) ht fun w5 hx5=>?_
 have:=hK w5 ((hx1.trans hx2).trans (hxd.trans (hx3.trans (hx4.trans hx5))))
 have e:orL [cmpKs a.mods b.mods,cmpB a.typ b.typ,cmpB a.nm b.nm,cmpI a.kind b.kind,cmpI a.num b.num,cmpB a.key b.key,cmpI (truthI a.aside) (truthI b.aside)] = cmpA a b:=by
   simp only [orL,orI_z]
   rfl
 rw [e]
 exact this
end
end Go.Proofs.YtnoepcndjljolaaGreatDoor
namespace Go.Proofs
open Go.Shelf
def Tryz.laysSF_ren:Go.Shelf.Ren:=⟨fun | 6=>40 | 15=>81 | 14=>80 | 28=>144 | 29=>145 | 20=>136 | 21=>137 | 22=>138 | 23=>139 | 24=>140 | 25=>141 | 26=>142 | 27=>143 | 46=>190 | 47=>191 | 48=>192 | 49=>193 | 50=>194 | 57=>226 | n=>n,fun | 22=>79 | 24=>76 | 25=>81 | 3=>3 | 39=>31 | 0=>0 | 53=>171 | 55=>173 | 4=>4 | 46=>165 | 45=>164 | 50=>65 | 5=>5 | 9=>9 | 66=>210 | 70=>141 | 76=>235 | 77=>236 | n=>n,fun | n=>n⟩
theorem Tryz.laysSF:Go.Proofs.SlLaysF0.n6 Tryz.prog Tryz.laysSF_ren:={
 mixed:=by kernel_rfl
 f6:=⟨Tryz.f40.name,by decide,Tryz.func40.trans (congrArg some (by kernel_rfl))⟩
 f14:=⟨Tryz.f80.name,by decide,Tryz.func80.trans (congrArg some (by kernel_rfl))⟩
 f15:=Tryz.func81.trans (congrArg some (by kernel_rfl))
 f20:=⟨Tryz.f136.name,by decide,Tryz.func136.trans (congrArg some (by kernel_rfl))⟩
 f21:=⟨Tryz.f137.name,by decide,Tryz.func137.trans (congrArg some (by kernel_rfl))⟩
 f22:=⟨Tryz.f138.name,by decide,Tryz.func138.trans (congrArg some (by kernel_rfl))⟩
 f23:=⟨Tryz.f139.name,by decide,Tryz.func139.trans (congrArg some (by kernel_rfl))⟩
 f24:=⟨Tryz.f140.name,by decide,Tryz.func140.trans (congrArg some (by kernel_rfl))⟩
 f25:=⟨Tryz.f141.name,by decide,Tryz.func141.trans (congrArg some (by kernel_rfl))⟩
 f26:=⟨Tryz.f142.name,by decide,Tryz.func142.trans (congrArg some (by kernel_rfl))⟩
 f27:=⟨Tryz.f143.name,by decide,Tryz.func143.trans (congrArg some (by kernel_rfl))⟩
 f28:=Tryz.func144.trans (congrArg some (by kernel_rfl))
 f29:=Tryz.func145.trans (congrArg some (by kernel_rfl))
 f46:=⟨Tryz.f190.name,by decide,Tryz.func190.trans (congrArg some (by kernel_rfl))⟩
 f47:=Tryz.func191.trans (congrArg some (by kernel_rfl))
 f48:=Tryz.func192.trans (congrArg some (by kernel_rfl))
 f49:=⟨Tryz.f193.name,by decide,Tryz.func193.trans (congrArg some (by kernel_rfl))⟩
 f50:=⟨Tryz.f194.name,by decide,Tryz.func194.trans (congrArg some (by kernel_rfl))⟩
 f57:=⟨Tryz.f226.name,by decide,Tryz.func226.trans (congrArg some (by kernel_rfl))⟩
 t0:=Tryz.underlying0
 a0:=Tryz.isAgg0
 z0:=Tryz.sizeOf0
 v0:=Tryz.zeroValue0
 t3:=Tryz.underlying3
 a3:=Tryz.isAgg3
 z3:=Tryz.sizeOf3
 v3:=Tryz.zeroValue3
 t4:=Tryz.underlying4
 a4:=Tryz.isAgg4
 z4:=Tryz.sizeOf4
 v4:=Tryz.zeroValue4
 t5:=Tryz.underlying5
 a5:=Tryz.isAgg5
 z5:=Tryz.sizeOf5
 v5:=Tryz.zeroValue5
 t9:=Tryz.underlying9
 a9:=Tryz.isAgg9
 z9:=Tryz.sizeOf9
 v9:=Tryz.zeroValue9
 t22:=Tryz.underlying79
 a22:=Tryz.isAgg79
 z22:=Tryz.sizeOf79
 v22:=Tryz.zeroValue79
 t25:=Tryz.underlying81
 a25:=Tryz.isAgg81
 z25:=Tryz.sizeOf81
 v25:=Tryz.zeroValue81
 t39:=Tryz.underlying31
 a39:=Tryz.isAgg31
 z39:=Tryz.sizeOf31
 v39:=Tryz.zeroValue31
 t45:=Tryz.underlying164
 a45:=Tryz.isAgg164
 z45:=Tryz.sizeOf164
 v45:=Tryz.zeroValue164
 t46:=Tryz.underlying165
 a46:=Tryz.isAgg165
 z46:=Tryz.sizeOf165
 v46:=Tryz.zeroValue165
 t50:=Tryz.underlying65
 a50:=Tryz.isAgg65
 z50:=Tryz.sizeOf65
 v50:=Tryz.zeroValue65
 t53:=Tryz.underlying171
 a53:=Tryz.isAgg171
 z53:=Tryz.sizeOf171
 v53:=Tryz.zeroValue171
 t55:=Tryz.underlying173
 a55:=Tryz.isAgg173
 z55:=Tryz.sizeOf173
 v55:=Tryz.zeroValue173
 t66:=Tryz.underlying210
 a66:=Tryz.isAgg210
 z66:=Tryz.sizeOf210
 v66:=Tryz.zeroValue210
 t70:=Tryz.underlying141
 a70:=Tryz.isAgg141
 z70:=Tryz.sizeOf141
 v70:=Tryz.zeroValue141
 t76:=Tryz.underlying235
 a76:=Tryz.isAgg235
 z76:=Tryz.sizeOf235
 v76:=Tryz.zeroValue235
 t77:=Tryz.underlying236
 a77:=Tryz.isAgg236
 z77:=Tryz.sizeOf236
 v77:=Tryz.zeroValue236 }
end Go.Proofs
namespace Go.Proofs.YtnoepcndjljolaaGreatDoor
open Go Go.Eng Go.RowKit
set_option maxRecDepth 100000
theorem flat_get {α:Type} [Inhabited α] (enc:α → List Value) {k:Nat} (hk:∀ x,(enc x).length = k):∀ (L:List α) (t:Nat),t < L.length * k → (L.flatMap enc)[t]? = (enc L[t / k]!)[t % k]?
 | [],t,h=>by simp at h
 | x :: L,t,h=>by
   have h0:0 < k:=by
     rcases Nat.eq_zero_or_pos k with rfl | h0
     · simp at h
     · exact h0
   rw [List.flatMap_cons]
   rcases Nat.lt_or_ge t k with ht | ht
   · rw [List.getElem?_append_left (by rw [hk]; exact ht),Nat.div_eq_of_lt ht,Nat.mod_eq_of_lt ht]
     rfl
   · rw [List.getElem?_append_right (by rw [hk]; exact ht),hk,flat_get enc hk L (t - k) (by rw [List.length_cons,Nat.succ_mul] at h; omega)]
     have e1:t / k = (t - k) / k + 1:=by
       rw [Nat.div_eq_sub_div h0 ht]
     have e2:(t - k) % k = t % k:=(Nat.mod_eq_sub_mod ht).symm
     rw [e1,e2]
     rfl
theorem flatN_len {α:Type} (enc:α → List Value) {k:Nat} (hk:∀ x,(enc x).length = k) (L:List α):(L.flatMap enc).length = L.length * k:=by
 induction L with
 | nil=>simp
 | cons x L ih=>rw [List.flatMap_cons,List.length_append,ih,hk,List.length_cons,Nat.succ_mul,Nat.add_comm]
theorem flatK_list {α:Type} [Inhabited α] (enc:α → List Value) {k:Nat} (hk:∀ x,(enc x).length = k) (d:Array α):(Sort.flatK enc k d).toList = d.toList.flatMap enc:=by
 refine List.ext_getElem? fun t=>?_
 by_cases ht:t < d.size * k
 · have hkpos:0 < k:=by
     rcases Nat.eq_zero_or_pos k with rfl | h0
     · simp at ht
     · exact h0
   rw [flat_get enc hk _ t (by simpa using ht)]
   have h1:(Sort.flatK enc k d).toList[t]? = some (Sort.flatK enc k d)[t]!:=by
     rw [Array.getElem?_toList,getElem!_pos _ t (by simpa using ht),Array.getElem?_eq_getElem]
   rw [h1,Sort.get_flatK enc k d t ht]
   have hm:t % k < (enc d[t / k]!).length:=by rw [hk]; exact Nat.mod_lt _ hkpos
   have hq:t / k < d.size:=(Nat.div_lt_iff_lt_mul hkpos).2 ht
   have e:d.toList[t / k]! = d[t / k]!:=by rw [getElem!_pos d.toList (t / k) (by simpa using hq),getElem!_pos d (t / k) hq]; simp
   rw [e,List.getElem?_eq_getElem hm,getElem!_pos (enc d[t / k]!) (t % k) hm]
 · rw [List.getElem?_eq_none (by simp; omega),List.getElem?_eq_none (by rw [flatN_len enc hk]; simp; omega)]
theorem putCells_app {F old X:List Value} (h:F.length = old.length):Sort.putCells id 0 F.toArray (old ++ X).toArray = (F ++ X).toArray:=by
 refine Array.ext_getElem? fun i=>?_
 unfold Sort.putCells
 rw [Array.getElem?_mapIdx]
 simp only [List.getElem?_toArray,List.size_toArray,Nat.zero_le,true_and,Nat.zero_add,Nat.sub_zero,id_eq]
 by_cases hi:i < F.length
 · rw [List.getElem?_append_left (by omega),List.getElem?_append_left hi,List.getElem?_eq_getElem (by omega:i < old.length),List.getElem?_eq_getElem hi]
   simp [hi]
 · rw [List.getElem?_append_right (by omega),List.getElem?_append_right (by omega),h]
   cases hx:X[i - old.length]? with
   | none=>rfl
   | some v=>
     simp only [Option.map_some]
     rw [if_neg (by omega)]
theorem sw_heap {α:Type} [Inhabited α] {enc:α → List Value} {k blk m:Nat} {w:World} {d:Array α} {os:Array Obj} {c:Array Value} {T:TypeId} (hb:w.heap[blk]? = some (.cells c T (0,0))) :
   (sortWorldK enc k w blk 0 m d os).heap[blk]? = some (.cells (Sort.putCells id 0 (Sort.flatK enc k d) c) T (0,0)):=by
 have hlt:=at_lt hb
 show ((w.heap.modify blk (Sort.onCells (Sort.putCells id 0 (Sort.flatK enc k d)))) ++ os)[blk]? = _
 rw [Array.getElem?_append_left (by simpa using hlt),Array.getElem?_modify,if_pos rfl,hb]
 rfl
theorem sw_chg {α:Type} [Inhabited α] (enc:α → List Value) (k blk m:Nat) (w:World) (d:Array α) (os:Array Obj):Chg (Cr blk) w (sortWorldK enc k w blk 0 m d os):=by
 refine ⟨rfl,rfl,rfl,?_,fun j hj hne=>?_⟩
 · show w.heap.size ≤ ((w.heap.modify blk (Sort.onCells (Sort.putCells id 0 (Sort.flatK enc k d)))) ++ os).size
   simp
 · show ((w.heap.modify blk (Sort.onCells (Sort.putCells id 0 (Sort.flatK enc k d)))) ++ os)[j]? = w.heap[j]?
   rw [Array.getElem?_append_left (by simpa using hj),Array.getElem?_modify,if_neg (fun e=>hne e.symm)]
def AEG (w:World) (x:AE):Prop:=AFits x.1 ∧ ∃ T,T ≠ AdT ∧ SlAt w T x.2 x.1.mods.length (x.1.mods.map str)
theorem AEG.rep {w:World} {x:AE} (h:AEG w x):ARep w x.1 (acs x.1 x.2):=let ⟨h1,T,_,h2⟩:=h; ⟨x.2,T,rfl,h2,h1⟩
theorem AEG.ext {w w':World} {x:AE} (h:AEG w x) (hx:Ext w w'):AEG w' x:=let ⟨h1,T,h3,h2⟩:=h; ⟨h1,T,h3,h2.ext hx⟩
theorem AEG.chg {w w':World} {blk:Nat} {c:Array Value} {fr:Nat × Nat} {x:AE} (h:AEG w x) (hb:w.heap[blk]? = some (.cells c AdT fr)) (hc:Chg (Cr blk) w w'):AEG w' x:=by
 obtain ⟨h1,T,h3,h2⟩:=h
 refine ⟨h1,T,h3,h2.chg hc fun k c' fr' hk e=>?_⟩
 have hk:k = blk:=hk
 subst hk
 rw [hb] at e
 simp only [Option.some.injEq,Obj.cells.injEq] at e
 exact h3 e.2.1.symm
theorem AEG.one {w:World} {x:AE} (h:AEG w x):(acs x.1 x.2).all one1 = true:=h.rep.one
instance aeInh (w:World):Inhabited {x:AE // AEG w x}:=⟨⟨(AV.zero,.slice none 0 0),zero_fits,9,by decide,SlAt.nil w _⟩⟩
theorem cmp_lays {w:World} {blk:Nat} {c:Array Value} {fr:Nat × Nat} (hb:w.heap[blk]? = some (.cells c AdT fr)) (size:Nat) :
   CmpLays Tryz.prog 41 #[] (fun x:{x:AE // AEG w x}=>acs x.1.1 x.1.2) 7 (fun x y=>cmpA x.1.1 y.1.1) blk 0 size w:=fun m os dk _ x y=>by
 letI:=noX
 have hc:=sw_chg (fun x:{x:AE // AEG w x}=>acs x.1.1 x.1.2) 7 blk m w dk os
 exact (callF_calls (args:=[.agg (acs x.1.1 x.1.2).toArray,.agg (acs y.1.1 y.1.2).toArray]) (Tryz.call41 _ _) (acmp_g (K:=fun v w'=>v = i64 (cmpA x.1.1 y.1.1) ∧ ExtG (sortWorldK (fun x:{x:AE // AEG w x}=>acs x.1.1 x.1.2) 7 w blk 0 m dk os) w') (x.2.chg hb hc).rep (y.2.chg hb hc).rep fun w' hx=>⟨rfl,hx⟩)).mono fun e w' h=>by
   cases e with
   | returned v=>obtain ⟨rfl,q,os',hw⟩:=h; exact ⟨rfl,q,os',hw⟩
   | panicked l=>exact h.elim
   | outgrown=>exact h.elim
theorem swo_addr {α:Type} (f:α → AV):Sort.SWO (ltOf fun x y:α=>cmpA (f x) (f y)) where
 irrefl x:=by
   show decide (cmpA (f x) (f x) < 0) = false
   rw [(lin_addr.zero (f x) (f x)).2 rfl]
   rfl
 trans x y z h1 h2:=by
   unfold ltOf at *
   simp only [decide_eq_true_eq] at *
   have h3:=lin_addr.trans (f x) (f y) (f z) (by omega) (by omega)
   rcases Int.lt_or_eq_of_le h3 with h | h
   · exact h
   · have e:=(lin_addr.zero _ _).1 h
     rw [e] at h1
     have:=lin_addr.anti (f z) (f y)
     omega
 ntrans x y z h1 h2:=by
   unfold ltOf at *
   simp only [decide_eq_false_iff_not] at *
   have a1:=lin_addr.anti (f x) (f y)
   have a2:=lin_addr.anti (f y) (f z)
   have a3:=lin_addr.anti (f x) (f z)
   have:=lin_addr.trans (f z) (f y) (f x) (by omega) (by omega)
   omega
theorem rise_of {α:Type} [Inhabited α] (f:α → AV) {d:Array α} (h:Sort.SortedIn (ltOf fun x y:α=>cmpA (f x) (f y)) 0 d.size d):RiseA (d.toList.map f):=by
 rw [RiseA,List.pairwise_iff_getElem]
 intro i j hi hj hij
 simp only [List.length_map,Array.length_toList] at hi hj
 have:=h i j (Nat.zero_le _) hij hj
 rw [getElem!_pos d i hi,getElem!_pos d j hj] at this
 unfold ltOf at this
 simp only [decide_eq_false_iff_not] at this
 simp only [List.getElem_map,Array.getElem_toList]
 have a:=lin_addr.anti (f d[i]) (f d[j])
 omega
section
variable [HX]
theorem sortg_p {L:List AE} {X:List Value} {blk cap:Nat} {w:World} {K:Value → World → Prop} (hL:∀ x ∈ L,AEG w x) (hn:L.length ≤ 1000) (hb:w.heap[blk]? = some (.cells (flatA L ++ X).toArray AdT (0,0)))
   (hK:∀ (M:List AE) w',M.Perm L → RiseA (M.map (·.1)) → w'.heap[blk]? = some (.cells (flatA M ++ X).toArray AdT (0,0)) → Chg (Cr blk) w w' → K (.tuple #[]) w') :
   callF Tryz.prog 40 [.slice (some ⟨blk,0,none⟩) L.length cap,.func (.func 41) #[] #[]] w K:=by
 let α:={x:AE // AEG w x}
 let enc:α → List Value:=fun x=>acs x.1.1 x.1.2
 have hk:∀ x:α,(enc x).length = 7:=fun x=>rfl
 obtain ⟨L',hL'⟩:∃ L':List α,L'.map (·.1) = L:=⟨L.attach.map fun x=>⟨x.1,hL x.1 x.2⟩,by rw [List.map_map]; exact List.attach_map_subtype_val L⟩
 have hlen:L'.length = L.length:=by rw [← hL',List.length_map]
 have hflat:∀ M:List α,flatA (M.map (·.1)) = M.flatMap enc:=fun M=>by unfold flatA; rw [List.flatMap_map]
 have hH:Sort.HoldsK enc 7 w blk 0 L'.toArray:=by
   intro j hj
   have hj':j < L'.toArray.size * 7:=by simpa using hj
   have hg:(Sort.flatK enc 7 L'.toArray)[j]! = (L'.flatMap enc)[j]'(by rw [flatN_len enc hk]; simpa using hj'):=by
     have e:=flatK_list enc hk L'.toArray
     have h1:(Sort.flatK enc 7 L'.toArray).toList[j]? = some (Sort.flatK enc 7 L'.toArray)[j]!:=by
       rw [Array.getElem?_toList,getElem!_pos _ j (by simpa using hj'),Array.getElem?_eq_getElem]
     rw [e] at h1
     have h2:=List.getElem?_eq_getElem (l:=L'.flatMap enc) (i:=j) (by rw [flatN_len enc hk]; simpa using hj')
     exact Option.some.inj (h1.symm.trans h2)
   refine ⟨?_,?_⟩
   · rw [cell_eq,hb,cellO_some,Nat.zero_add,← hL',hflat,List.getElem?_toArray,List.getElem?_append_left (by rw [flatN_len enc hk]; simpa using hj'),List.getElem?_eq_getElem (by rw [flatN_len enc hk]; simpa using hj')]
     show some _ = some (id _)
     rw [hg]
     rfl
   · rw [frozen_eq,hb,frO_zero]
 have hsz:L'.toArray.size = L.length:=by simpa using hlen
 have hcall:=AnyQ.slices_SortFunc Tryz.laysSF 7 (fun w=>by kernel_rfl) (fun w=>by kernel_rfl) enc hk (fun x v hv=>one1_oneCell' (List.all_eq_true.1 x.2.one v hv)) (fun x y=>cmpA x.1.1 y.1.1) (swo_addr fun x:α=>x.1.1) 41 #[] blk 0 cap L'.toArray w
   (fun args w=>Tryz.call41 args w) (cmp_lays hb _) hH (at_lt hb) (by rw [hsz]; omega)
 rw [hsz] at hcall
 refine of_calls (args:=#[.slice (some ⟨blk,0,none⟩) L.length cap,.func (.func 41) #[] #[]]) Tryz.call40 (hcall.mono ?_)
 rintro e w' ⟨rfl,d',n,os,hp,hs,rfl⟩
 refine ⟨_,rfl,?_⟩
 obtain ⟨p1,p2,p3⟩:=hp
 rw [hsz] at p1
 have hd:(d'.extract 0 L.length).toList = d'.toList:=by rw [← p1]; simp
 have hl0:(L'.toArray.extract 0 L.length).toList = L':=by rw [← hlen]; simp
 rw [hd,hl0] at p3
 refine hK (d'.toList.map (·.1)) _ ?_ ?_ ?_ (sw_chg enc 7 blk n w d' os)
 · rw [← hL']; exact p3.map _
 · rw [List.map_map]
   rw [← p1] at hs
   exact rise_of (fun x:α=>x.1.1) hs
 · have h1:=sw_heap (enc:=enc) (k:=7) (m:=n) (d:=d') (os:=os) hb
   have h2:Sort.flatK enc 7 d' = (d'.toList.flatMap enc).toArray:=by rw [← flatK_list enc hk d']
   rw [h2,← hL',hflat,putCells_app (by rw [flatN_len enc hk,flatN_len enc hk,Array.length_toList,p1,hlen])] at h1
   rw [hflat]
   exact h1
end
end Go.Proofs.YtnoepcndjljolaaGreatDoor
namespace Go.Proofs.YtnoepcndjljolaaGreatDoor
open Go Go.Eng Go.RowKit
set_option maxRecDepth 100000
section
variable [HX]
theorem own_cells {w:World} {B:Nat} {e:TypeId} {size n:Nat} {v:Value} {xs:List Value} (h:Own w B e size v n xs) (hn:n ≠ 0):∃ g cap X,v = .slice (some ⟨g,0,none⟩) n cap ∧ B ≤ g ∧ w.heap[g]? = some (.cells (xs ++ X).toArray e (0,0)):=by
 obtain ⟨hl,⟨rfl,rfl⟩ | ⟨g,cap,cur,rfl,h1,h2,h3,h4,h5,h6⟩⟩:=h
 · exact absurd rfl hn
 · refine ⟨g,cap,cur.toList.drop (n * size),rfl,h1,?_⟩
   have:xs ++ cur.toList.drop (n * size) = cur.toList:=by rw [← h6]; exact List.take_append_drop _ _
   rw [this]
   exact h2
theorem asort_p {az:List AV} {sv:Value} {T:TypeId} {w:World} {K:Value → World → Prop} (hT:TabA w) (hg:∀ a ∈ az,goodAd a = true ∧ a.mods = []) (hn:az.length ≤ 12) (h0:az ≠ []) (hs:SlAt w T sv az.length (az.map fun a=>str (showA a)))
   (hK:∀ (L:List AE) v w',L.map (·.1) = az → Ext w w' → SlAt w' ST v (outF (L.length - 1) L 1).length ((outF (L.length - 1) L 1).map fun x=>str (showA x.1)) → K (.tuple #[v,i64 0]) w') :
   callF Tryz.prog 19 [sv] w K:=by
 refine W19_ok ?_
 unfold W19
 rw [lenl_at hs]
 refine LoopW.go (fun st w'=>∃ (L:List AE) (v:Value),st = [v,i64 (L.length:Nat)] ∧ L.length ≤ az.length ∧ L.map (·.1) = az.take L.length ∧ (∀ x ∈ L,AE0 x) ∧ Own w' w.heap.size AdT 7 v L.length (flatA L) ∧ Ext w w') (fun st _=>match st with | [_,.int _ i]=>az.length - i.toNat | _=>0)
   ⟨[],_,rfl,Nat.zero_le _,rfl,(fun x hx=>by cases hx),⟨rfl,.inl ⟨rfl,rfl⟩⟩,Chg.refl _ _⟩ ?_
 rintro st g w2 ⟨L,v,rfl,hLn,hLm,hL0,hO,hx2⟩
 simp only [List.getD_cons_zero,List.getD_cons_succ]
 rw [bin_lss,condW_dec]
 refine ⟨fun hlt=>?_,fun hge=>?_⟩
 · have hlt:L.length < az.length:=by omega
   obtain ⟨a,ha⟩:∃ a,az[L.length]? = some a:=⟨_,List.getElem?_eq_getElem hlt⟩
   obtain ⟨hga,hma⟩:=hg a (List.mem_of_getElem? ha)
   refine ixa_ld (hs.ext hx2) (by simp) (x:=str (showA a)) (by simp [ha]) ?_
   refine parse_good (hT.ext hx2) hga fun cs w3 hx3 hr3=>?_
   simp only [ext_tuple]
   refine ⟨_,rfl,_,rfl,?_⟩
   refine keep_a hr3 fun p w5 sv5 hA5 hx5 hp5=>?_
   rw [bin_neq,show decide ((0:Int) ≠ 0) = false from rfl,condW_false]
   refine hA5.all ?_
   refine row_a rfl fun t w6 ht hx6=>?_
   have hx26:=hx3.trans (hx5.trans hx6)
   have hO6:=hO.ext hx26
   have s0:=hx2.size
   have s26:=hx26.size
   refine append_own3 elem_a hO6 ht (m:=1) rfl (fun u hu=>List.all_eq_true.1 hA5.rep.one u hu) (by omega) (by omega) (by omega) fun v' w7 hO7 hc7 _=>?_
   rw [bin_add,up1 (by omega)]
   obtain ⟨T5,hs5⟩:=hA5.sl
   have hx0:AE0 (a,sv5):=⟨hma,hA5.fits,T5,fun w'=>slat_empty (by rw [hma] at hs5; exact hs5)⟩
   refine ⟨⟨L ++ [(a,sv5)],v',by simp,by simp; omega,?_,fun x hx=>?_,?_,(hx2.trans hx26).then hc7 fun k hk e=>by have:=(own_in hO6 e).1; omega⟩,?_⟩
   · rw [List.map_append,hLm,List.length_append,List.length_singleton,List.take_add_one,ha]; rfl
   · rcases List.mem_append.1 hx with hx | hx
     · exact hL0 x hx
     · rw [List.mem_singleton.1 hx]; exact hx0
   · rw [flatA_app,List.length_append,List.length_singleton]
     have e:flatA [(a,sv5)] = acs a sv5:=by simp [flatA]
     rw [e]
     exact hO7
   · simp only [Int.toNat_natCast]; omega
 have hLl:L.length = az.length:=by omega
 rw [hLl,List.take_length] at hLm
 have hne:L.length ≠ 0:=by
   rw [hLl]
   exact fun e=>h0 (List.eq_nil_of_length_eq_zero e)
 obtain ⟨blk,cap,X,rfl,hblk,hb⟩:=own_cells hO hne
 refine sortf_p hL0 (by omega) hb fun w8 hb8 hc8=>?_
 obtain ⟨om,ol⟩:=outF_mem (L.length - 1) L 1
 generalize hM:outF (L.length - 1) L 1 = M at *
 have hx8:Ext w w8:=hx2.new hc8 hblk
 rw [lenl_sl]
 refine LoopW.go (fun st w'=>∃ (i:Nat) (v:Value),st = [v,i64 (i:Nat)] ∧ i ≤ L.length ∧ Own w' w8.heap.size ST 1 v i ((M.take i).map fun x=>str (showA x.1)) ∧ Ext w8 w') (fun st _=>match st with | [_,.int _ i]=>L.length - i.toNat | _=>0)
   ⟨0,_,rfl,Nat.zero_le _,⟨rfl,.inl ⟨rfl,rfl⟩⟩,Chg.refl _ _⟩ ?_
 rintro st g w9 ⟨i,v,rfl,hi,hO9,hx9⟩
 simp only [List.getD_cons_zero,List.getD_cons_succ]
 rw [bin_lss,condW_dec]
 refine ⟨fun hlt=>?_,fun hge=>?_⟩
 · have hlt:i < M.length:=by omega
   obtain ⟨x,hx⟩:∃ x,M[i]? = some x:=⟨_,List.getElem?_eq_getElem hlt⟩
   have hsp:M = M.take i ++ x :: M.drop (i + 1):=by
     have e:=Option.some.inj ((List.getElem?_eq_getElem hlt).symm.trans hx)
     rw [← e,← List.drop_eq_getElem_cons hlt,List.take_append_drop]
   have hx0:=hL0 x (om x (List.mem_of_getElem? hx))
   have hgx:goodAd x.1 = true:=by
     have:x.1 ∈ L.map (·.1):=List.mem_map.2 ⟨x,om x (List.mem_of_getElem? hx),rfl⟩
     rw [hLm] at this
     exact (hg x.1 this).1
   rw [ixa_slice]
   refine ⟨by omega,by omega,?_⟩
   rw [Int.toNat_natCast]
   have hb9:=hx9.at hb8 id
   rw [hsp] at hb9
   refine row_ld hb9 (by rw [List.length_take]; omega) ?_
   refine keep_a (hx0.rep w9) fun p w12 sv12 hA12 hx12 hp12=>?_
   refine hA12.all ?_
   refine show_p (hT.ext ((hx8.trans hx9).trans hx12)).tabs hA12.rep fun w13 hx13=>?_
   rw [hgx]
   simp only [if_true,ext_tuple]
   refine ⟨_,rfl,_,rfl,?_⟩
   refine row_s fun t w14 ht hx14=>?_
   have hx914:=hx12.trans (hx13.trans hx14)
   have hO14:=hO9.ext hx914
   have s9:=hx9.size
   have s14:=hx914.size
   refine append_own3 elem_s hO14 ht (m:=1) rfl (fun u hu=>by simp only [List.mem_singleton] at hu; subst hu; rfl) (by omega) (by omega) (by omega) fun v' w15 hO15 hc15 _=>?_
   rw [bin_add,up1 (by omega)]
   refine ⟨⟨i + 1,v',rfl,by omega,?_,(hx9.trans hx914).then hc15 fun k hk e=>by have:=(own_in hO14 e).1; omega⟩,?_⟩
   · rw [List.take_add_one,hx]
     simpa using hO15
   · simp only [Int.toNat_natCast]; omega
 · have hie:i = L.length:=by omega
   subst hie
   rw [← ol,List.take_length] at hO9
   refine hK L v w9 hLm (hx8.trans hx9) ?_
   rw [hM]
   exact hO9.sl
end
end Go.Proofs.YtnoepcndjljolaaGreatDoor
namespace Go.Proofs.YtnoepcndjljolaaGreatDoor
open Go Go.Eng Go.RowKit
set_option maxRecDepth 100000
theorem AEG.own {w w':World} {B n:Nat} {v:Value} {xs:List Value} {x:AE} (h:AEG w x) (hO:Own w B AdT 7 v n xs) (hc:Chg (fun k=>v.ownBlock = some k) w w'):AEG w' x:=by
 obtain ⟨h1,T,h3,h2⟩:=h
 refine ⟨h1,T,h3,h2.chg hc fun k c' fr' hk e=>?_⟩
 obtain ⟨_,_,c,hb⟩:=own_in hO hk
 rw [hb] at e
 simp only [Option.some.injEq,Obj.cells.injEq] at e
 exact h3 e.2.1.symm
section
variable [HX]
theorem sort0_p {w:World} {K:Value → World → Prop} (hK:K (.tuple #[]) w):callF Tryz.prog 40 [.slice none 0 0,.func (.func 41) #[] #[]] w K:=by
 refine W40_ok ?_
 unfold W40
 rw [lenl_sl,cvt_int]
 have e:IntKind.u64.wrap ((0:Nat):Int) = ((0:Nat):Int):=by rw [IntKind.wrap_u64]; omega
 rw [e]
 refine of_calls (args:=#[.int .u64 (0:Nat)]) Tryz.call81 ((Tryz.bits_Len (0:Nat) w (by omega) (by omega)).mono ?_)
 rintro e w' ⟨rfl,rfl⟩
 refine ⟨_,rfl,?_⟩
 refine W80_ok ?_
 unfold W80
 refine LoopW.go (fun st w2=>(∃ lim,st = [i64 0,i64 (0:Nat),i64 lim,.bool true,.bool true]) ∧ w2 = w') (fun _ _=>0) ⟨⟨_,rfl⟩,rfl⟩ ?_
 rintro st g w2 ⟨⟨lim,rfl⟩,rfl⟩
 simp only [List.getD_cons_zero,List.getD_cons_succ]
 rw [bin_sub,wrap_id (by omega) (by omega),bin_leq,decide_eq_true (by omega),condW_true]
 refine W136_ok ?_
 unfold W136
 rw [bin_add,wrap_id (by omega) (by omega)]
 refine LoopW.go (fun st w3=>st = [i64 1] ∧ w3 = w2) (fun _ _=>0) ⟨rfl,rfl⟩ ?_
 rintro st g w3 ⟨rfl,rfl⟩
 simp only [List.getD_cons_zero]
 rw [bin_lss,decide_eq_false (by omega),condW_false]
 exact hK
theorem asort_all {l:List Str} {sv:Value} {T:TypeId} {w:World} {K:Value → World → Prop} (hT:TabA w) (hn:l.length ≤ 1000) (hl:∀ s ∈ l,s.length ≤ 400000) (hs:SlAt w T sv l.length (l.map str))
   (hok:∀ az:List AV,(∀ a ∈ az,goodAd a = true) → az.map showA = l → ∀ v w',Ext w w' → SlAt w' ST v az.length ((sortA az).map fun a=>str (showA a)) → K (.tuple #[v,i64 0]) w')
   (hno:(∃ s ∈ l,∀ a,goodAd a = true → showA a ≠ s) → ∀ w',Ext w w' → K (.tuple #[.slice none 0 0,i64 6]) w') :
   callF Tryz.prog 19 [sv] w K:=by
 refine W19_ok ?_
 unfold W19
 rw [lenl_at hs]
 refine LoopW.go (fun st w'=>∃ (L:List AE) (v:Value),st = [v,i64 (L.length:Nat)] ∧ L.length ≤ l.length ∧ L.map (fun x=>showA x.1) = l.take L.length ∧ (∀ x ∈ L,goodAd x.1 = true ∧ AEG w' x) ∧ Own w' w.heap.size AdT 7 v L.length (flatA L) ∧ Ext w w' ∧ (L = [] → v = .slice none 0 0)) (fun st _=>match st with | [_,.int _ i]=>l.length - i.toNat | _=>0)
   ⟨[],_,rfl,Nat.zero_le _,rfl,(fun x hx=>by cases hx),⟨rfl,.inl ⟨rfl,rfl⟩⟩,Chg.refl _ _,fun _=>rfl⟩ ?_
 rintro st g w2 ⟨L,v,rfl,hLn,hLm,hL0,hO,hx2,hnil⟩
 simp only [List.getD_cons_zero,List.getD_cons_succ]
 rw [bin_lss,condW_dec]
 refine ⟨fun hlt=>?_,fun hge=>?_⟩
 · have hlt:L.length < l.length:=by omega
   obtain ⟨s,hsi⟩:∃ s,l[L.length]? = some s:=⟨_,List.getElem?_eq_getElem hlt⟩
   have hsm:=List.mem_of_getElem? hsi
   refine ixa_ld (hs.ext hx2) (by simp) (x:=str s) (by simp [hsi]) ?_
   refine parse_ps (hT.ext hx2) (hl s hsm) (fun a hga ha sv5 w3 hx3 hf3 hs3=>?_) (fun hn cs w3 hx3 hr3=>?_)
   · simp only [ext_tuple]
     refine ⟨_,rfl,_,rfl,?_⟩
     refine alloc_new fun p w4 hp hz4 hbp hx4=>?_
     refine st_agg_at hbp rfl rfl (show (acs a sv5).all one1 = true by obtain ⟨q,c,rfl,_⟩:=hs3.shape; rfl) fun w5 hz5 hb5 hc5=>?_
     have hx5:Ext w3 w5:=hx4.new hc5 (by omega)
     rw [bin_neq,show decide ((0:Int) ≠ 0) = false from rfl,condW_false]
     refine ld_all hb5 rfl ?_
     refine row_a rfl fun t w6 ht hx6=>?_
     have hx26:=hx3.trans (hx5.trans hx6)
     have hO6:=hO.ext hx26
     have s0:=hx2.size
     have s26:=hx26.size
     refine append_own3 elem_a hO6 ht (m:=1) rfl (fun u hu=>List.all_eq_true.1 (show (acs a sv5).all one1 = true by obtain ⟨q,c,rfl,_⟩:=hs3.shape; rfl) u hu) (by omega) (by omega) (by omega) fun v' w7 hO7 hc7 _=>?_
     rw [bin_add,up1 (by omega)]
     have hg6:AEG w6 (a,sv5):=⟨hf3,ST,by decide,hs3.ext (hx5.trans hx6)⟩
     refine ⟨⟨L ++ [(a,sv5)],v',by simp,by simp; omega,?_,fun x hx=>?_,?_,(hx2.trans hx26).then hc7 fun k hk e=>by have:=(own_in hO6 e).1; omega,fun e=>by simp at e⟩,?_⟩
     · rw [List.map_append,hLm,List.length_append,List.length_singleton,List.take_add_one,hsi,← ha]; rfl
     · rcases List.mem_append.1 hx with hx | hx
       · exact ⟨(hL0 x hx).1,((hL0 x hx).2.ext hx26).own hO6 hc7⟩
       · rw [List.mem_singleton.1 hx]; exact ⟨hga,hg6.own hO6 hc7⟩
     · rw [flatA_app,List.length_append,List.length_singleton]
       have e:flatA [(a,sv5)] = acs a sv5:=by simp [flatA]
       rw [e]
       exact hO7
     · simp only [Int.toNat_natCast]; omega
   · simp only [ext_tuple]
     refine ⟨_,rfl,_,rfl,?_⟩
     refine keep_a hr3 fun p w5 sv5 hA5 hx5 hp5=>?_
     rw [bin_neq,show decide ((6:Int) ≠ 0) = true from rfl,condW_true]
     exact hno ⟨s,hsm,hn⟩ w5 (hx2.trans (hx3.trans hx5))
 have hLl:L.length = l.length:=by omega
 rw [hLl,List.take_length] at hLm
 -- what is read out of the row that is put in order
 have out:∀ (M:List AE) (w8:World),Ext w w8 → M.Perm L → RiseA (M.map (·.1)) → (∀ x ∈ M,goodAd x.1 = true ∧ AEG w8 x) → (M = [] ∨ ∃ blk cap X,v = .slice (some ⟨blk,0,none⟩) L.length cap ∧ w8.heap[blk]? = some (.cells (flatA M ++ X).toArray AdT (0,0))) →
     lenlW v fun t36=>LoopW [(.slice none 0 0),(.int .i64 0)] w8 fun s9 _ w10 L9=>binW .lss (s9.getD 1 undef) t36 fun t38=>condW t38 (
         ixaW none 7 v (s9.getD 1 undef) fun t39=>ldW true 7 t39 w10 fun t40=>allocW AdT [(.slice none 0 0),(.string (ofL [])),(.string (ofL [])),(.int .i64 0),(.int .i64 0),(.string (ofL [])),(.bool false)] w10 fun t11 w11=>
         stW 7 t11 t40 w11 fun w12=>ldW true 7 t11 w12 fun t42=>callF Tryz.prog 42 [t42] w12 fun t43 w13=>extW 0 t43 fun t44=>extW 1 t43 fun t45=>
         bslW ST 1 [(.string (ofL []))] [(0,1,t44)] w13 fun t48 w14=>semE Tryz.prog (Builtin.append_ #[38,38] 38 #[(s9.getD 0 undef),t48]) w14 fun t49 w15=>binW .add (s9.getD 1 undef) (.int .i64 1) fun t50=>L9 [t49,t50] w15) (
         K (.tuple #[(s9.getD 0 undef),(.int .i64 0)]) w10):=fun M w8 hx8 hp hr hM hblk=>by
   have hMl:M.length = L.length:=hp.length_eq
   have hvl:∃ q c,v = .slice q L.length c:=by
     obtain ⟨q,c,e,_⟩:=hO.sl.shape
     exact ⟨q,c,e⟩
   obtain ⟨q,c,hv⟩:=hvl
   rw [hv,lenl_sl]
   refine LoopW.go (fun st w'=>∃ (i:Nat) (u:Value),st = [u,i64 (i:Nat)] ∧ i ≤ L.length ∧ Own w' w8.heap.size ST 1 u i ((M.take i).map fun x=>str (showA x.1)) ∧ Ext w8 w') (fun st _=>match st with | [_,.int _ i]=>L.length - i.toNat | _=>0)
     ⟨0,_,rfl,Nat.zero_le _,⟨rfl,.inl ⟨rfl,rfl⟩⟩,Chg.refl _ _⟩ ?_
   rintro st g w9 ⟨i,u,rfl,hi,hO9,hx9⟩
   simp only [List.getD_cons_zero,List.getD_cons_succ]
   rw [bin_lss,condW_dec]
   refine ⟨fun hlt=>?_,fun hge=>?_⟩
   · have hlt:i < M.length:=by omega
     obtain ⟨x,hx⟩:∃ x,M[i]? = some x:=⟨_,List.getElem?_eq_getElem hlt⟩
     have hsp:M = M.take i ++ x :: M.drop (i + 1):=by
       have e:=Option.some.inj ((List.getElem?_eq_getElem hlt).symm.trans hx)
       rw [← e,← List.drop_eq_getElem_cons hlt,List.take_append_drop]
     obtain ⟨hgx,hx0⟩:=hM x (List.mem_of_getElem? hx)
     rcases hblk with rfl | ⟨blk,cap,X,hv2,hb8⟩
     · simp at hlt
     rw [hv] at hv2
     cases hv2
     rw [ixa_slice]
     refine ⟨by omega,by omega,?_⟩
     rw [Int.toNat_natCast]
     have hb9:=hx9.at hb8 id
     rw [hsp] at hb9
     refine row_ld hb9 (by rw [List.length_take]; omega) ?_
     refine keep_a (hx0.ext hx9).rep fun p w12 sv12 hA12 hx12 hp12=>?_
     refine hA12.all ?_
     refine show_p (hT.ext ((hx8.trans hx9).trans hx12)).tabs hA12.rep fun w13 hx13=>?_
     rw [hgx]
     simp only [if_true,ext_tuple]
     refine ⟨_,rfl,_,rfl,?_⟩
     refine row_s fun t w14 ht hx14=>?_
     have hx914:=hx12.trans (hx13.trans hx14)
     have hO14:=hO9.ext hx914
     have s9:=hx9.size
     have s14:=hx914.size
     refine append_own3 elem_s hO14 ht (m:=1) rfl (fun u hu=>by simp only [List.mem_singleton] at hu; subst hu; rfl) (by omega) (by omega) (by omega) fun v' w15 hO15 hc15 _=>?_
     rw [bin_add,up1 (by omega)]
     refine ⟨⟨i + 1,v',rfl,by omega,?_,(hx9.trans hx914).then hc15 fun k hk e=>by have:=(own_in hO14 e).1; omega⟩,?_⟩
     · rw [List.take_add_one,hx]
       simpa using hO15
     · simp only [Int.toNat_natCast]; omega
   · have hie:i = L.length:=by omega
     subst hie
     rw [← hMl,List.take_length] at hO9
     have hsort:M.map (·.1) = sortA (L.map (·.1)):=sortA_of (hp.map _) hr
     refine hok (L.map (·.1)) (fun a ha=>?_) (by rw [List.map_map]; exact hLm) u w9 (hx8.trans hx9) ?_
     · obtain ⟨x,hx,rfl⟩:=List.mem_map.1 ha
       exact (hL0 x hx).1
     · rw [← hsort,List.map_map,List.length_map,← hMl]
       exact hO9.sl
 by_cases hne:L = []
 · have hv:=hnil hne
   have h:=out [] w2 hx2 (by rw [hne]) List.Pairwise.nil (fun x hx=>by cases hx) (.inl rfl)
   rw [hv] at h ⊢
   exact sort0_p h
 · have hne':L.length ≠ 0:=fun e=>hne (List.eq_nil_of_length_eq_zero e)
   obtain ⟨blk,cap,X,hv,hblk,hb⟩:=own_cells hO hne'
   have h:=fun M w8=>out M w8
   rw [hv] at h ⊢
   refine sortg_p (fun x hx=>(hL0 x hx).2) (by omega) hb fun M w8 hp hr hb8 hc8=>?_
   exact h M w8 (hx2.new hc8 hblk) hp hr (fun x hx=>⟨(hL0 x (hp.mem_iff.1 hx)).1,(hL0 x (hp.mem_iff.1 hx)).2.chg hb hc8⟩) (.inr ⟨blk,cap,X,rfl,hb8⟩)
end
end Go.Proofs.YtnoepcndjljolaaGreatDoor
namespace Go.Proofs.YtnoepcndjljolaaGreatDoor
open Go Go.Eng Go.RowKit
set_option maxRecDepth 100000
abbrev wA1:AV:=⟨[[109],[110]],[116],[97],2,0,[107,10],true⟩
abbrev wA2:AV:=⟨[],[116],[97],1,10,[],false⟩
abbrev wA3:AV:=⟨[],[116],[97],1,9,[],false⟩
abbrev wA4:AV:=⟨[],[116],[97],0,0,[],false⟩
theorem it10:Lib.itoa 10 = [49,48]:=by
 rw [itoa_pos (by decide),Lib.decDigits,dif_neg (by decide),Lib.decDigits,dif_pos (by decide)]; rfl
theorem it9:Lib.itoa 9 = [57]:=by
 rw [itoa_pos (by decide),Lib.decDigits,dif_pos (by decide)]; rfl
theorem wS1:showA wA1 = [109,47,110,47,116,46,97,91,34,107,92,110,34,93,126]:=by kernel_rfl
theorem wS2:showA wA2 = [116,46,97,91,49,48,93]:=by
 have:brA wA2 = [91,49,48,93]:=by unfold brA; rw [if_pos rfl,it10]; rfl
 unfold showA; rw [this]; rfl
theorem wS3:showA wA3 = [116,46,97,91,57,93]:=by
 have:brA wA3 = [91,57,93]:=by unfold brA; rw [if_pos rfl,it9]; rfl
 unfold showA; rw [this]; rfl
theorem wS4:showA wA4 = [116,46,97]:=by kernel_rfl
theorem wG1:goodAd wA1 = true:=by kernel_rfl
theorem wG2:goodAd wA2 = true:=by decide
theorem wG3:goodAd wA3 = true:=by decide
theorem wG4:goodAd wA4 = true:=by decide
theorem w01 (a:AV) (hg:goodAd a = true):showA a ≠ [116,46,97,91,48,49,93]:=fun h=>by
 have hr:headA a ++ brA a = [116,46,97,91,48,49,93]:=by
   rcases show_aside a with ⟨_,h2⟩ | ⟨_,h2⟩
   · rw [h] at h2
     have:=congrArg List.getLast? h2
     simp at this
   · rw [h] at h2
     exact h2.symm
 obtain ⟨_,⟨_,n0,n1,_,r⟩ | ⟨_,_,_,_,_,r⟩⟩:=br_split (l:=[116,46,97]) (r:=[48,49,93]) hg hr (by decide)
 · have e:=(List.append_inj' (s₁:=[48,49]) (t₁:=[93]) r rfl).1
   have:=(itoa_good n0 n1).1
   rw [← e] at this
   exact absurd this (by decide)
 · have e:=(List.append_inj' (s₁:=[48,49]) (t₁:=[93]) r rfl).1
   unfold quoteM at e
   simp only [List.cons_append,List.nil_append,List.cons.injEq] at e
   exact absurd e.1 (by decide)
theorem wOut (L:List AE) (h:L.map (·.1) = [wA2,wA3,wA4]):(outF (L.length - 1) L 1).map (fun x=>showA x.1) = [[116,46,97],[116,46,97,91,57,93],[116,46,97,91,49,48,93]]:=by
 match L,h with
 | [x,y,z],h=>
   simp only [List.map_cons,List.map_nil,List.cons.injEq,and_true] at h
   obtain ⟨h1,h2,h3⟩:=h
   have c1:cmpA y.1 x.1 < 0:=by rw [h1,h2]; decide +kernel
   have c2:cmpA z.1 x.1 < 0:=by rw [h1,h3]; decide +kernel
   have c3:cmpA z.1 y.1 < 0:=by rw [h2,h3]; decide +kernel
   have e:outF ([x,y,z].length - 1) [x,y,z] 1 = [z,y,x]:=by
     simp [outF,insF,c1,c2,c3]
   rw [e]
   simp only [List.map_cons,List.map_nil,h1,h2,h3,wS2,wS3,wS4]
 | [],h=>simp at h
 | [_],h=>simp at h
 | [_,_],h=>simp at h
 | _ :: _ :: _ :: _ :: _,h=>simp at h
section
variable [HX]
theorem row_s3 {a b c:Str} {w:World} {K:Value → World → Prop} (hK:∀ t w',SlAt w' ST t 3 [str a,str b,str c] → Ext w w' → K t w'):bslW ST 3 [.string (ofL []),.string (ofL []),.string (ofL [])] [(0,1,str a),(1,1,str b),(2,1,str c)] w K:=by
 rw [bslW]
 simp only [put_str,put_nil,List.length_cons,List.length_nil,List.set_cons_zero,List.set_cons_succ]
 refine ⟨by omega,by omega,by omega,?_⟩
 refine hK _ _ ⟨_,_,rfl,Nat.le_refl _,fun e=>(by cases e),fun _=>⟨_,_,_,_,rfl,heap_anew _ _ _ rfl,fun i _=>by rw [Nat.zero_add]; simp⟩⟩ (Chg.alloc (Chg.refl _ _) _)
theorem awake_a {w:World} {K:Value → World → Prop} (hT:TabA w) (hK:∀ w',Ext w w' → K (.bool true) w'):callF Tryz.prog 18 [] w K:=by
 refine W18_ok ?_
 unfold W18
 rw [← wS1]
 refine parse_good hT wG1 fun cs w1 hx1 hr1=>?_
 simp only [ext_tuple]
 refine ⟨_,rfl,_,rfl,?_⟩
 refine keep_a hr1 fun p w3 sv hA3 hx3 hp3=>?_
 have hx03:=hx1.trans hx3
 refine parse_p (s:=[116,46,97,91,48,49,93]) (hT.ext hx03) (by decide) (fun a hg he=>absurd he (w01 a hg)) fun _ cs2 w4 hx4 hr4=>?_
 simp only [ext_tuple]
 refine ⟨_,rfl,_,rfl,?_⟩
 refine keep_a hr4 fun q w6 tv hB6 hx6 hq6=>?_
 refine row_s3 fun t w7 ht hx7=>?_
 have hx37:=hx4.trans (hx6.trans hx7)
 have hrow:([wA2,wA3,wA4].map fun a=>str (showA a)) = [str [116,46,97,91,49,48,93],str [116,46,97,91,57,93],str [116,46,97]]:=by
   simp only [List.map_cons,List.map_nil,wS2,wS3,wS4]
 refine asort_p (az:=[wA2,wA3,wA4]) (hT.ext (hx03.trans hx37)) (fun a ha=>?_) (by decide) (by simp) (by rw [hrow]; exact ht) fun L v w8 hL hx8 hv=>?_
 · simp only [List.mem_cons,List.not_mem_nil,or_false] at ha
   rcases ha with rfl | rfl | rfl
   · exact ⟨wG2,rfl⟩
   · exact ⟨wG3,rfl⟩
   · exact ⟨wG4,rfl⟩
 have hout:=wOut L hL
 have hv3:SlAt w8 ST v ([[116,46,97],[116,46,97,91,57,93],[116,46,97,91,49,48,93]]:List Str).length (([[116,46,97],[116,46,97,91,57,93],[116,46,97,91,49,48,93]]:List Str).map str):=by
   rw [← hout,List.length_map,List.map_map]
   exact hv
 have hA8:=hA3.ext (hx37.trans hx8)
 obtain ⟨T8,hs8⟩:=hA8.sl
 simp only [ext_tuple]
 refine ⟨_,rfl,_,rfl,?_⟩
 rw [bin_eql,show decide ((0:Int) = 0) = true from rfl]
 refine GdW.look true (fun _ J hJ=>?_) fun g=>?_
 · refine hA8.ld rfl ?_
   rw [lenl_at hs8,bin_eql]
   exact hJ
 simp only [isB_t,cond_true,List.getD_cons_zero,pick_t]
 refine GdW.look true (fun _ J hJ=>?_) fun g=>?_
 · refine hA8.ld rfl ?_
   rw [bin_seq]
   exact hJ
 simp only [isB_t,cond_true,List.getD_cons_zero,pick_t]
 refine GdW.look true (fun _ J hJ=>?_) fun g=>?_
 · refine hA8.ld rfl ?_
   exact hJ
 simp only [isB_t,cond_true,List.getD_cons_zero,pick_t]
 refine GdW.look true (fun _ J hJ=>?_) fun g=>?_
 · rw [bin_eql]
   exact hJ
 simp only [isB_t,cond_true,List.getD_cons_zero,pick_t]
 refine GdW.look true (fun _ J hJ=>?_) fun g=>?_
 · rw [bin_eql]
   exact hJ
 simp only [isB_t,cond_true,List.getD_cons_zero,pick_t]
 refine GdW.act true (fun w'=>Ext w8 w') (fun e=>by cases e) (fun _ J hJ=>?_) ?_
 · refine row_s3 fun t2 w20 ht2 hx20=>?_
   refine texts_ref (b:=[[116,46,97],[116,46,97,91,57,93],[116,46,97,91,49,48,93]]) (hv3.ext hx20) ht2 (by decide) fun w21 hx21=>?_
   rw [decide_eq_true rfl]
   exact hJ w21 (hx20.trans hx21)
 intro g w22 hx22
 simp only [cond_true,List.getD_cons_zero,pick_t]
 exact hK w22 ((hx03.trans hx37).trans (hx8.trans hx22))
end
end Go.Proofs.YtnoepcndjljolaaGreatDoor
namespace Go.Proofs.YtnoepcndjljolaaGreatDoor
open Go Go.Eng Go.RowKit
set_option maxRecDepth 100000
section
variable [HX]
theorem row_0 {w:World} {K:Value → World → Prop} (hK:∀ v w',Own w' w.heap.size ST 1 v 0 (([]:List Str).map str) → Ext w w' → K v w'):bslW ST 0 [] [] w K:=by
 rw [bslW]
 simp only [put_nil]
 refine hK _ _ ?_ (Chg.alloc (Chg.refl _ _) _)
 have:=own_new (w:=w) (base:=w.heap.size) (e:=ST) (size:=1) (n:=0) (cs:=[]) (Nat.le_refl _) rfl (by omega)
 exact this
theorem app_ss {w0 w:World} {B:Nat} {v x:Value} {T:TypeId} {l m:List Str} {K:Value → World → Prop} (hO:Own w B ST 1 v l.length (l.map str)) (hx:SlAt w T x m.length (m.map str)) (hB:B ≤ w.heap.size) (hw:w0.heap.size ≤ B) (h0:Ext w0 w) (hl:l.length + m.length ≤ 1000000)
   (hK:∀ v' w',Own w' B ST 1 v' (l ++ m).length ((l ++ m).map str) → Ext w0 w' → Chg (fun k=>v.ownBlock = some k) w w' → K v' w'):semE Tryz.prog (Builtin.append_ #[38,38] 38 #[v,x]) w K:=by
 refine append_own3 elem_s hO hx (m:=m.length) (by simp) (strs_one m) (by omega) (by omega) hB fun v' w' hO' hc _=>?_
 have hc':Chg (fun k=>B ≤ k) w w':=hc.mono fun k _ e=>(own_in hO e).1
 refine hK v' w' (by rw [List.length_append,List.map_append]; exact hO') (h0.then hc' fun k hk e=>by omega) hc
end
end Go.Proofs.YtnoepcndjljolaaGreatDoor
namespace Go.Proofs.YtnoepcndjljolaaGreatDoor
open Go Go.Eng Go.RowKit
set_option maxRecDepth 100000
section
variable [HX]
theorem texts22_ref {a b:Str} {w:World} {K:Value → World → Prop} (hK:K (i64 (cmpB a b)) w):callF Tryz.prog 96 [str a,str b] w K:=by
 refine W96_ok ?_
 unfold W96
 simp only [wsv,wsg,wsh,wsl,cond_true,cond_false,exists_eq_left',wsu,Nat.reduceAdd,Nat.reduceLT,Nat.lt_add_one,Nat.zero_lt_succ,decide_true,decide_false,ne_eq,reduceCtorEq]
 simp only [condW_b]
 unfold cmpB at hK
 refine ⟨fun h=>?_,fun h=>⟨fun h2=>?_,fun h2=>?_⟩⟩
 · rw [if_pos h] at hK; exact hK
 · have hne:a ≠ b:=by rintro rfl; simp [less_irr] at h2
   rw [if_neg (by rw [h]; simp),if_neg hne] at hK; exact hK
 · have he:a = b:=less_total h h2
   rw [if_neg (by rw [h]; simp),if_pos he] at hK; exact hK
theorem ints22_ref {a b:Int} {w:World} {K:Value → World → Prop} (hK:K (i64 (cmpI a b)) w):callF Tryz.prog 97 [i64 a,i64 b] w K:=by
 refine W97_ok ?_
 unfold W97
 simp only [wsv,wsg,wsh,wsl,cond_true,cond_false,exists_eq_left',wsu,Nat.reduceAdd,Nat.reduceLT,Nat.lt_add_one,Nat.zero_lt_succ,decide_true,decide_false,ne_eq,reduceCtorEq,condW_dec]
 exact cmpI_K hK
theorem cmpKs_end:∀ (a b:List Str),a = [] ∨ b = [] → cmpKs a b = cmpI (a.length:Nat) (b.length:Nat)
 | [],[],_=>rfl
 | [],y :: b,_=>by rw [cmpKs,cmpI,if_pos (by simp)]
 | x :: a,[],_=>by rw [cmpKs,cmpI,if_neg (by simp; omega),if_pos (by simp)]
 | x :: a,y :: b,h=>by simp at h
theorem acmp_ref {a b:AV} {cs ds:List Value} {w:World} {K:Value → World → Prop} (h:ARep w a cs) (h':ARep w b ds) (hK:∀ w',Ext w w' → K (i64 (cmpA a b)) w') :
   callF Tryz.prog 44 [.agg cs.toArray,.agg ds.toArray] w K:=by
 refine W44_ok ?_
 unfold W44
 refine box_a h fun p w1 sv hA hx1 hp hs0=>?_
 refine box_a (h'.ext hx1) fun q w2 tv hB hx2 hq hs1=>?_
 have hA:=hA.ext hx2
 simp only [fld_ptr]
 obtain ⟨T1,hs1⟩:=hA.sl
 obtain ⟨T2,hs2⟩:=hB.sl
 have fa:=hA.fits
 have fb:=hB.fits
 refine LoopW.go (fun st w'=>∃ i:Nat,i ≤ a.mods.length ∧ i ≤ b.mods.length ∧ st = [i64 (i:Nat)] ∧ Ext w2 w' ∧ cmpKs (a.mods.drop i) (b.mods.drop i) = cmpKs a.mods b.mods) (fun st _=>match st with | [.int _ i]=>a.mods.length - i.toNat | _=>0) ⟨0,by omega,by omega,rfl,Chg.refl _ _,rfl⟩ ?_
 rintro st g w4 ⟨i,hia,hib,rfl,hx4,hc⟩
 simp only [List.getD_cons_zero]
 have hA4:=hA.ext hx4
 have hB4:=hB.ext hx4
 refine hA4.ld1 rfl ?_
 rw [lenl_at (hs1.ext hx4),bin_lss]
 refine GdW.look (decide (i < b.mods.length)) (fun _ J hJ=>?_) fun g=>?_
 · refine hB4.ld1 rfl ?_
   rw [lenl_at (hs2.ext hx4),bin_lss,show decide ((i:Int) < (b.mods.length:Int)) = decide (i < b.mods.length) from decide_eq_decide.2 (by omega)]
   exact hJ
 simp only [List.getD_cons_zero,isB_t]
 rw [pick_gd_and,condW_b]
 have hxd:∀ w:World,Ext w w.drew:=fun w=>Chg.drew (Chg.refl (fun _=>False) w)
 refine ⟨fun e=>?_,fun e=>?_⟩
 · simp only [Bool.and_eq_true,decide_eq_true_eq] at e
   obtain ⟨e1,e2⟩:=e
   obtain ⟨u,hu⟩:∃ u,a.mods[i]? = some u:=⟨_,List.getElem?_eq_getElem (by omega)⟩
   obtain ⟨v,hv⟩:∃ v,b.mods[i]? = some v:=⟨_,List.getElem?_eq_getElem e2⟩
   have da:a.mods.drop i = u :: a.mods.drop (i + 1):=by
     rw [List.drop_eq_getElem_cons (by omega)]; congr 1
     exact Option.some.inj ((List.getElem?_eq_getElem (by omega)).symm.trans hu)
   have db:b.mods.drop i = v :: b.mods.drop (i + 1):=by
     rw [List.drop_eq_getElem_cons (by omega)]; congr 1
     exact Option.some.inj ((List.getElem?_eq_getElem (by omega)).symm.trans hv)
   rw [da,db,cmpKs] at hc
   refine hA4.drew.ld1 rfl ?_
   refine text_ld ((hs1.ext hx4).ext (hxd w4)) hu ?_
   refine hB4.drew.ld1 rfl ?_
   refine text_ld ((hs2.ext hx4).ext (hxd w4)) hv ?_
   refine texts22_ref ?_
   rw [bin_neq,condW_dec]
   refine ⟨fun hne=>?_,fun h0=>?_⟩
   · have:=hK w4.drew ((hx1.trans hx2).trans (hx4.trans (hxd w4)))
     have e5:cmpA a b = cmpB u v:=by
       unfold cmpA
       rw [← hc]
       unfold orI
       rw [if_neg hne,if_neg hne]
     rw [e5] at this
     exact this
   · have h0:cmpB u v = 0:=Decidable.not_not.1 h0
     rw [h0] at hc
     rw [bin_add,up1 (by have:=fa.mods; omega)]
     exact ⟨⟨i + 1,by omega,by omega,rfl,hx4.trans (hxd w4),by rw [← hc]; simp [orI]⟩,by simp only [Int.toNat_natCast]; omega⟩
 have hmods:cmpKs a.mods b.mods = cmpI (a.mods.length:Nat) (b.mods.length:Nat):=by
   rw [← hc,cmpKs_end]
   · rw [List.length_drop,List.length_drop]
     unfold cmpI
     congr 1
     · exact propext (by omega)
     · congr 1
       exact propext (by omega)
   · rw [List.drop_eq_nil_iff,List.drop_eq_nil_iff]
     by_cases h1:i < a.mods.length
     · rw [decide_eq_true (by omega:(i:Int) < (a.mods.length:Int)),Bool.true_and,decide_eq_false_iff_not] at e
       omega
     · omega
 rw [put_nil]
 refine alloc_new fun c w9 hc9 hz9 hbc hx9=>?_
 refine st_agg_at (l:=[i64 0,i64 0]) hbc rfl rfl rfl fun w10 hz10 hbc10 hc10=>?_
 have hx10:Ext w4 w10:=hx9.new hc10 (by omega)
 have hA10:=hA4.ext hx10
 have hB10:=hB4.ext hx10
 refine JoinW.cut (fun st w'=>st = [] ∧ Ext w4 w' ∧ w'.heap[c]? = some (.cells [i64 (truthI a.aside),i64 0].toArray 137 (0,0))) ?_ ?_
 · refine hA10.ld1 rfl ?_
   rw [condW_b]
   refine ⟨fun e=>?_,fun e=>?_⟩
   · rw [ixa_arr]
     refine ⟨by omega,by omega,?_⟩
     rw [add_mk]
     refine st_at hbc10 rfl (by simp) fun w12 hz12 hb12 hc12=>?_
     refine ⟨rfl,hx10.new hc12 (by omega),?_⟩
     rw [hb12,e]; rfl
   · rw [e]
     exact ⟨rfl,hx10,hbc10⟩
 rintro st g w13 ⟨rfl,hx13,hbc13⟩
 have hA13:=hA4.ext hx13
 have hB13:=hB4.ext hx13
 refine JoinW.cut (fun st w'=>st = [] ∧ Ext w4 w' ∧ w'.heap[c]? = some (.cells [i64 (truthI a.aside),i64 (truthI b.aside)].toArray 137 (0,0))) ?_ ?_
 · refine hB13.ld1 rfl ?_
   rw [condW_b]
   refine ⟨fun e=>?_,fun e=>?_⟩
   · rw [ixa_arr]
     refine ⟨by omega,by omega,?_⟩
     rw [add_mk]
     refine st_at hbc13 rfl (by simp) fun w15 hz15 hb15 hc15=>?_
     refine ⟨rfl,hx13.new hc15 (by omega),?_⟩
     rw [hb15,e]; rfl
   · rw [e]
     exact ⟨rfl,hx13,hbc13⟩
 rintro st g w16 ⟨rfl,hx16,hbc16⟩
 let row:List Int:=[cmpI (a.mods.length:Nat) (b.mods.length:Nat),cmpB a.typ b.typ,cmpB a.nm b.nm,cmpI a.kind b.kind,cmpI a.num b.num,cmpB a.key b.key,cmpI (truthI a.aside) (truthI b.aside)]
 have hA16:=(hA4.ext hx16).drew
 have hB16:=(hB4.ext hx16).drew
 have hs1d:=((hs1.ext hx4).ext hx16).ext (hxd w16)
 have hs2d:=((hs2.ext hx4).ext hx16).ext (hxd w16)
 have hbcd:w16.drew.heap[c]? = some (.cells [i64 (truthI a.aside),i64 (truthI b.aside)].toArray 137 (0,0)):=hbc16
 have hx2d:Ext w2 w16.drew:=hx4.trans (hx16.trans (hxd w16))
 have c0:∀ {w':World} {K:Value → Prop},Ext w16.drew w' → K (i64 (truthI a.aside)) → ldW false 1 (.pointer (some ((⟨c,0,none⟩:Addr).add (Int.toNat 0 * 1)))) w' K:=fun {w' K} hx hk=>by
   rw [ld_one]
   exact ⟨_,by rw [add_mk,cell_eq,hx.at hbcd id]; rfl,hk⟩
 have c1:∀ {w':World} {K:Value → Prop},Ext w16.drew w' → K (i64 (truthI b.aside)) → ldW false 1 (.pointer (some ((⟨c,0,none⟩:Addr).add (Int.toNat 1 * 1)))) w' K:=fun {w' K} hx hk=>by
   rw [ld_one]
   exact ⟨_,by rw [add_mk,cell_eq,hx.at hbcd id]; rfl,hk⟩
 refine JoinW.cut (fun st w'=>∃ d,st = [.pointer (some ⟨d,0,none⟩)] ∧ Ext w2 w' ∧ w'.heap[d]? = some (.cells (row.map i64).toArray 138 (0,0))) ?_ ?_
 · refine hA16.ld1 rfl ?_
   rw [lenl_at hs1d]
   refine hB16.ld1 rfl ?_
   rw [lenl_at hs2d]
   refine hA16.ld1 rfl ?_
   refine hB16.ld1 rfl ?_
   refine hA16.ld1 rfl ?_
   refine hB16.ld1 rfl ?_
   refine hA16.ld1 rfl ?_
   refine hB16.ld1 rfl ?_
   refine hA16.ld1 rfl ?_
   refine hB16.ld1 rfl ?_
   refine hA16.ld1 rfl ?_
   refine hB16.ld1 rfl ?_
   rw [ixa_arr]
   refine ⟨by omega,by omega,?_⟩
   refine c0 (Chg.refl _ _) ?_
   rw [ixa_arr]
   refine ⟨by omega,by omega,?_⟩
   refine c1 (Chg.refl _ _) ?_
   have r0:Ext w16.drew w16.drew:=Chg.refl _ _
   have fin:∀ {w':World} {d:Nat} {z:List Value},Ext w16.drew w' → w'.heap[d]? = some (.cells z.toArray 138 (0,0)) → z.length = 7 → w16.drew.heap.size ≤ d →
       stW 7 (.pointer (some ⟨d,0,none⟩)) (.agg [i64 (cmpI (a.mods.length:Nat) (b.mods.length:Nat)),i64 (cmpB a.typ b.typ),i64 (cmpB a.nm b.nm),i64 (cmpI a.kind b.kind),i64 (cmpI a.num b.num),i64 (cmpB a.key b.key),i64 (cmpI (truthI a.aside) (truthI b.aside))].toArray) w' fun w27=>∃ d':Nat,[Value.pointer (some ⟨d,0,none⟩)] = [Value.pointer (some ⟨d',0,none⟩)] ∧ Ext w2 w27 ∧ w27.heap[d']? = some (Obj.cells (row.map i64).toArray 138 (0,0)):=fun {w' d z} hx hb hz hd=>by
     refine st_agg_at hb rfl hz rfl fun w27 hz27 hb27 hc27=>?_
     exact ⟨d,rfl,hx2d.trans (hx.new hc27 hd),hb27⟩
   refine ⟨?_,?_⟩
   · skip
     refine ints22_ref ?_
     refine ⟨c1 r0 rfl,c0 r0 rfl,hB16.ld1 rfl rfl,hA16.ld1 rfl rfl,hB16.ld1 rfl rfl,hA16.ld1 rfl rfl,hB16.ld1 rfl rfl,hA16.ld1 rfl rfl,hB16.ld1 rfl rfl,hA16.ld1 rfl rfl,hB16.ld1 rfl rfl,hA16.ld1 rfl rfl,?_⟩
     refine ⟨?_,?_⟩
     · skip
       refine texts22_ref ?_
       refine ⟨c1 r0 rfl,c0 r0 rfl,hB16.ld1 rfl rfl,hA16.ld1 rfl rfl,hB16.ld1 rfl rfl,hA16.ld1 rfl rfl,hB16.ld1 rfl rfl,hA16.ld1 rfl rfl,hB16.ld1 rfl rfl,hA16.ld1 rfl rfl,?_⟩
       refine ⟨?_,?_⟩
       · skip
         refine texts22_ref ?_
         refine ⟨c1 r0 rfl,c0 r0 rfl,hB16.ld1 rfl rfl,hA16.ld1 rfl rfl,hB16.ld1 rfl rfl,hA16.ld1 rfl rfl,hB16.ld1 rfl rfl,hA16.ld1 rfl rfl,?_⟩
         refine ⟨?_,?_⟩
         · skip
           refine ints22_ref ?_
           refine ⟨c1 r0 rfl,c0 r0 rfl,hB16.ld1 rfl rfl,hA16.ld1 rfl rfl,hB16.ld1 rfl rfl,hA16.ld1 rfl rfl,?_⟩
           refine ⟨?_,?_⟩
           · skip
             refine ints22_ref ?_
             refine ⟨c1 r0 rfl,c0 r0 rfl,hB16.ld1 rfl rfl,hA16.ld1 rfl rfl,?_⟩
             refine ⟨?_,?_⟩
             · skip
               refine texts22_ref ?_
               refine ⟨c1 r0 rfl,c0 r0 rfl,?_⟩
               refine ⟨?_,?_⟩
               · skip
                 refine ints22_ref ?_
                 simp only [put_int,put_nil,List.length_cons,List.length_nil,List.set_cons_zero,List.set_cons_succ]
                 refine ⟨by omega,by omega,by omega,by omega,by omega,by omega,by omega,?_⟩
                 refine alloc_new fun d w8 hd hz8 hb8 hx8=>?_
                 have hA8:=hA16.ext hx8
                 have hB8:=hB16.ext hx8
                 exact fin hx8 hb8 rfl (by omega)
               · skip
                 refine alloc_new fun d w8 hd hz8 hb8 hx8=>?_
                 have hA8:=hA16.ext hx8
                 have hB8:=hB16.ext hx8
                 refine ⟨c1 hx8 rfl,c0 hx8 rfl,?_⟩
                 refine ints22_ref ?_
                 simp only [put_int,put_nil,List.length_cons,List.length_nil,List.set_cons_zero,List.set_cons_succ]
                 refine ⟨by omega,by omega,by omega,by omega,by omega,by omega,by omega,?_⟩
                 exact fin hx8 hb8 rfl (by omega)
             · skip
               refine alloc_new fun d w8 hd hz8 hb8 hx8=>?_
               have hA8:=hA16.ext hx8
               have hB8:=hB16.ext hx8
               refine ⟨c1 hx8 rfl,c0 hx8 rfl,hB8.ld1 rfl rfl,hA8.ld1 rfl rfl,?_⟩
               refine texts22_ref ?_
               refine ⟨c1 hx8 rfl,c0 hx8 rfl,?_⟩
               refine ints22_ref ?_
               simp only [put_int,put_nil,List.length_cons,List.length_nil,List.set_cons_zero,List.set_cons_succ]
               refine ⟨by omega,by omega,by omega,by omega,by omega,by omega,by omega,?_⟩
               exact fin hx8 hb8 rfl (by omega)
           · skip
             refine alloc_new fun d w8 hd hz8 hb8 hx8=>?_
             have hA8:=hA16.ext hx8
             have hB8:=hB16.ext hx8
             refine ⟨c1 hx8 rfl,c0 hx8 rfl,hB8.ld1 rfl rfl,hA8.ld1 rfl rfl,hB8.ld1 rfl rfl,hA8.ld1 rfl rfl,?_⟩
             refine ints22_ref ?_
             refine ⟨c1 hx8 rfl,c0 hx8 rfl,hB8.ld1 rfl rfl,hA8.ld1 rfl rfl,?_⟩
             refine texts22_ref ?_
             refine ⟨c1 hx8 rfl,c0 hx8 rfl,?_⟩
             refine ints22_ref ?_
             simp only [put_int,put_nil,List.length_cons,List.length_nil,List.set_cons_zero,List.set_cons_succ]
             refine ⟨by omega,by omega,by omega,by omega,by omega,by omega,by omega,?_⟩
             exact fin hx8 hb8 rfl (by omega)
         · skip
           refine alloc_new fun d w8 hd hz8 hb8 hx8=>?_
           have hA8:=hA16.ext hx8
           have hB8:=hB16.ext hx8
           refine ⟨c1 hx8 rfl,c0 hx8 rfl,hB8.ld1 rfl rfl,hA8.ld1 rfl rfl,hB8.ld1 rfl rfl,hA8.ld1 rfl rfl,hB8.ld1 rfl rfl,hA8.ld1 rfl rfl,?_⟩
           refine ints22_ref ?_
           refine ⟨c1 hx8 rfl,c0 hx8 rfl,hB8.ld1 rfl rfl,hA8.ld1 rfl rfl,hB8.ld1 rfl rfl,hA8.ld1 rfl rfl,?_⟩
           refine ints22_ref ?_
           refine ⟨c1 hx8 rfl,c0 hx8 rfl,hB8.ld1 rfl rfl,hA8.ld1 rfl rfl,?_⟩
           refine texts22_ref ?_
           refine ⟨c1 hx8 rfl,c0 hx8 rfl,?_⟩
           refine ints22_ref ?_
           simp only [put_int,put_nil,List.length_cons,List.length_nil,List.set_cons_zero,List.set_cons_succ]
           refine ⟨by omega,by omega,by omega,by omega,by omega,by omega,by omega,?_⟩
           exact fin hx8 hb8 rfl (by omega)
       · skip
         refine alloc_new fun d w8 hd hz8 hb8 hx8=>?_
         have hA8:=hA16.ext hx8
         have hB8:=hB16.ext hx8
         refine ⟨c1 hx8 rfl,c0 hx8 rfl,hB8.ld1 rfl rfl,hA8.ld1 rfl rfl,hB8.ld1 rfl rfl,hA8.ld1 rfl rfl,hB8.ld1 rfl rfl,hA8.ld1 rfl rfl,hB8.ld1 rfl rfl,hA8.ld1 rfl rfl,?_⟩
         refine texts22_ref ?_
         refine ⟨c1 hx8 rfl,c0 hx8 rfl,hB8.ld1 rfl rfl,hA8.ld1 rfl rfl,hB8.ld1 rfl rfl,hA8.ld1 rfl rfl,hB8.ld1 rfl rfl,hA8.ld1 rfl rfl,?_⟩
         refine ints22_ref ?_
         refine ⟨c1 hx8 rfl,c0 hx8 rfl,hB8.ld1 rfl rfl,hA8.ld1 rfl rfl,hB8.ld1 rfl rfl,hA8.ld1 rfl rfl,?_⟩
         refine ints22_ref ?_
         refine ⟨c1 hx8 rfl,c0 hx8 rfl,hB8.ld1 rfl rfl,hA8.ld1 rfl rfl,?_⟩
         refine texts22_ref ?_
         refine ⟨c1 hx8 rfl,c0 hx8 rfl,?_⟩
         refine ints22_ref ?_
         simp only [put_int,put_nil,List.length_cons,List.length_nil,List.set_cons_zero,List.set_cons_succ]
         refine ⟨by omega,by omega,by omega,by omega,by omega,by omega,by omega,?_⟩
         exact fin hx8 hb8 rfl (by omega)
     · skip
       refine alloc_new fun d w8 hd hz8 hb8 hx8=>?_
       have hA8:=hA16.ext hx8
       have hB8:=hB16.ext hx8
       refine ⟨c1 hx8 rfl,c0 hx8 rfl,hB8.ld1 rfl rfl,hA8.ld1 rfl rfl,hB8.ld1 rfl rfl,hA8.ld1 rfl rfl,hB8.ld1 rfl rfl,hA8.ld1 rfl rfl,hB8.ld1 rfl rfl,hA8.ld1 rfl rfl,hB8.ld1 rfl rfl,hA8.ld1 rfl rfl,?_⟩
       refine texts22_ref ?_
       refine ⟨c1 hx8 rfl,c0 hx8 rfl,hB8.ld1 rfl rfl,hA8.ld1 rfl rfl,hB8.ld1 rfl rfl,hA8.ld1 rfl rfl,hB8.ld1 rfl rfl,hA8.ld1 rfl rfl,hB8.ld1 rfl rfl,hA8.ld1 rfl rfl,?_⟩
       refine texts22_ref ?_
       refine ⟨c1 hx8 rfl,c0 hx8 rfl,hB8.ld1 rfl rfl,hA8.ld1 rfl rfl,hB8.ld1 rfl rfl,hA8.ld1 rfl rfl,hB8.ld1 rfl rfl,hA8.ld1 rfl rfl,?_⟩
       refine ints22_ref ?_
       refine ⟨c1 hx8 rfl,c0 hx8 rfl,hB8.ld1 rfl rfl,hA8.ld1 rfl rfl,hB8.ld1 rfl rfl,hA8.ld1 rfl rfl,?_⟩
       refine ints22_ref ?_
       refine ⟨c1 hx8 rfl,c0 hx8 rfl,hB8.ld1 rfl rfl,hA8.ld1 rfl rfl,?_⟩
       refine texts22_ref ?_
       refine ⟨c1 hx8 rfl,c0 hx8 rfl,?_⟩
       refine ints22_ref ?_
       simp only [put_int,put_nil,List.length_cons,List.length_nil,List.set_cons_zero,List.set_cons_succ]
       refine ⟨by omega,by omega,by omega,by omega,by omega,by omega,by omega,?_⟩
       exact fin hx8 hb8 rfl (by omega)
   · skip
     refine alloc_new fun d w8 hd hz8 hb8 hx8=>?_
     have hA8:=hA16.ext hx8
     have hB8:=hB16.ext hx8
     refine ⟨c1 hx8 rfl,c0 hx8 rfl,hB8.ld1 rfl rfl,hA8.ld1 rfl rfl,hB8.ld1 rfl rfl,hA8.ld1 rfl rfl,hB8.ld1 rfl rfl,hA8.ld1 rfl rfl,hB8.ld1 rfl rfl,hA8.ld1 rfl rfl,hB8.ld1 rfl rfl,hA8.ld1 rfl rfl,hB8.ld1 rfl rfl,hA8.ld1 rfl rfl,?_⟩
     refine ints22_ref ?_
     refine ⟨c1 hx8 rfl,c0 hx8 rfl,hB8.ld1 rfl rfl,hA8.ld1 rfl rfl,hB8.ld1 rfl rfl,hA8.ld1 rfl rfl,hB8.ld1 rfl rfl,hA8.ld1 rfl rfl,hB8.ld1 rfl rfl,hA8.ld1 rfl rfl,hB8.ld1 rfl rfl,hA8.ld1 rfl rfl,?_⟩
     refine texts22_ref ?_
     refine ⟨c1 hx8 rfl,c0 hx8 rfl,hB8.ld1 rfl rfl,hA8.ld1 rfl rfl,hB8.ld1 rfl rfl,hA8.ld1 rfl rfl,hB8.ld1 rfl rfl,hA8.ld1 rfl rfl,hB8.ld1 rfl rfl,hA8.ld1 rfl rfl,?_⟩
     refine texts22_ref ?_
     refine ⟨c1 hx8 rfl,c0 hx8 rfl,hB8.ld1 rfl rfl,hA8.ld1 rfl rfl,hB8.ld1 rfl rfl,hA8.ld1 rfl rfl,hB8.ld1 rfl rfl,hA8.ld1 rfl rfl,?_⟩
     refine ints22_ref ?_
     refine ⟨c1 hx8 rfl,c0 hx8 rfl,hB8.ld1 rfl rfl,hA8.ld1 rfl rfl,hB8.ld1 rfl rfl,hA8.ld1 rfl rfl,?_⟩
     refine ints22_ref ?_
     refine ⟨c1 hx8 rfl,c0 hx8 rfl,hB8.ld1 rfl rfl,hA8.ld1 rfl rfl,?_⟩
     refine texts22_ref ?_
     refine ⟨c1 hx8 rfl,c0 hx8 rfl,?_⟩
     refine ints22_ref ?_
     simp only [put_int,put_nil,List.length_cons,List.length_nil,List.set_cons_zero,List.set_cons_succ]
     refine ⟨by omega,by omega,by omega,by omega,by omega,by omega,by omega,?_⟩
     exact fin hx8 hb8 rfl (by omega)
 rintro st g w17 ⟨d,rfl,hx17,hbd⟩
 simp only [List.getD_cons_zero]
 have hcmp:orL row = cmpA a b:=by
   show orL [_,_,_,_,_,_,_] = _
   simp only [orL,orI_z]
   unfold cmpA
   rw [hmods]
 refine loop_up 7 (fun i w'=>w' = w17 ∧ ∀ j x,j < i → row[j]? = some x → x = 0) ⟨rfl,fun j x hj=>by omega⟩ ?_ ?_
 · rintro i w18 g L hi ⟨rfl,h1⟩ hL
   obtain ⟨x,hx⟩:∃ x,row[i]? = some x:=⟨_,List.getElem?_eq_getElem (show i < row.length from hi)⟩
   simp only [List.getD_cons_zero]
   rw [bin_lss,decide_eq_true (by omega),condW_true]
   have ldx:∀ K:Value → Prop,K (i64 x) → ixaW (some 7) 1 (.pointer (some ⟨d,0,none⟩)) (i64 (i:Nat)) fun t=>ldW false 1 t w18 K:=fun K hk=>by
     rw [ixa_arr]
     refine ⟨by omega,by omega,?_⟩
     rw [ld_one]
     refine ⟨_,?_,hk⟩
     rw [add_mk,cell_eq,hbd,cellO_some,Int.toNat_natCast,Nat.mul_one,Nat.zero_add]
     simp [hx]
   refine ldx _ ?_
   rw [bin_neq,condW_dec]
   refine ⟨fun hne=>?_,fun h0=>?_⟩
   · refine ldx _ ?_
     have:=hK w18 ((hx1.trans hx2).trans hx17)
     have hil:i < row.length:=hi
     rw [← hcmp,orL_skip row i h1,List.drop_eq_getElem_cons hil] at this
     have e:=Option.some.inj ((List.getElem?_eq_getElem hil).symm.trans hx)
     rw [e] at this
     simp only [orL,orI,if_neg hne] at this
     exact this
   · have h0:x = 0:=Decidable.not_not.1 h0
     rw [bin_add,up1 (by omega)]
     refine hL w18 ⟨rfl,fun j y hj hy=>?_⟩
     rcases Nat.lt_or_ge j i with h | h
     · exact h1 j y h hy
     · obtain rfl:j = i:=by omega
       rw [hx] at hy
       cases hy
       exact h0
 · rintro w18 g L ⟨rfl,h1⟩
   simp only [List.getD_cons_zero]
   rw [bin_lss,decide_eq_false (by omega),condW_false]
   have:=hK w18 ((hx1.trans hx2).trans hx17)
   rw [← hcmp,orL_skip row 7 h1] at this
   exact this
end
end Go.Proofs.YtnoepcndjljolaaGreatDoor

namespace Go.Proofs.YtnoepcndjljolaaGreatDoor
open Go Go.Eng Go.RowKit
set_option maxRecDepth 100000
section
variable [HX]
theorem good22_ref {a:AV} {cs:List Value} {w:World} {K:Value → World → Prop} (h:ARep w a cs) (hk:a.key.length ≤ 4611686018427387904) (hK:∀ w',Ext w w' → K (.bool (goodAd a)) w') :
   callF Tryz.prog 95 [.agg cs.toArray] w K:=by
 refine W95_ok ?_
 unfold W95
 refine box_a h fun p w1 sv hA hx1 hp hs0=>?_
 have fit:=hA.fits
 obtain ⟨T,hs⟩:=hA.sl
 simp only [fld_ptr]
 refine hA.ld1 rfl ?_
 rw [lenl_at hs]
 refine loop_up a.mods.length (fun i w'=>w' = w1 ∧ (a.mods.take i).all nameM = true) ⟨rfl,by simp⟩ ?_ ?_
 · rintro i w3 g L hi ⟨rfl,h1⟩ hL
   simp only [List.getD_cons_zero]
   rw [bin_lss,decide_eq_true (by omega),condW_true]
   refine hA.ld1 rfl ?_
   obtain ⟨m,hm⟩:∃ m,a.mods[i]? = some m:=⟨_,List.getElem?_eq_getElem hi⟩
   refine text_ld hs hm ?_
   refine name_ref (fit.each m (List.mem_of_getElem? hm)) ?_
   rw [un_not,condW_b]
   refine ⟨fun e=>?_,fun e=>?_⟩
   · have:goodAd a = false:=by
       have hn:a.mods.all nameM = false:=by
         rw [Bool.not_eq_true'] at e
         rw [List.all_eq_false]
         exact ⟨m,List.mem_of_getElem? hm,by rw [e]; simp⟩
       unfold goodAd
       rw [hn]
       simp
     rw [← this]
     exact hK w3 hx1
   · rw [bin_add,up1 (by have:=fit.mods; omega)]
     refine hL w3 ⟨rfl,?_⟩
     rw [List.take_add_one,hm]
     simp only [Option.toList_some,List.all_append,List.all_cons,List.all_nil,Bool.and_true,h1,Bool.true_and]
     simpa using e
 rintro w3 g L ⟨rfl,h1⟩
 rw [List.take_length] at h1
 simp only [List.getD_cons_zero]
 rw [bin_lss,decide_eq_false (by omega),condW_false]
 refine hA.ld1 rfl ?_
 rw [lenl_at hs,bin_gtr]
 simp only [isB_f]
 refine GdW.look (!nameM a.typ) (fun _ J hJ=>?_) fun g=>?_
 · refine hA.ld1 rfl ?_
   refine name_ref fit.typ ?_
   rw [un_not]
   exact hJ
 simp only [List.getD_cons_zero]
 rw [pick_gd_or]
 simp only [isB_f]
 refine GdW.look (!nameM a.nm) (fun _ J hJ=>?_) fun g=>?_
 · refine hA.ld1 rfl ?_
   refine name_ref fit.nm ?_
   rw [un_not]
   exact hJ
 simp only [List.getD_cons_zero]
 rw [pick_gd_or,condW_b]
 have hg0:goodAd a = (decide (a.mods.length ≤ 4) && nameM a.typ && nameM a.nm && (if a.kind = 0 then decide (a.num = 0) && decide (a.key = []) else if a.kind = 1 then decide (0 ≤ a.num) && decide (a.num ≤ 1000000000) && decide (a.key = [])
  else decide (a.kind = 2) && decide (a.num = 0) && utfM a.key && decide (a.key.length ≤ 16384) && decide ((quoteM a.key).length ≤ 65536))):=by
   unfold goodAd
   rw [h1,Bool.and_true]
 refine ⟨fun e=>?_,fun e=>?_⟩
 · have:goodAd a = false:=by
     rw [hg0]
     simp only [Bool.or_eq_true,decide_eq_true_eq,Bool.not_eq_true'] at e
     rcases e with (e | e) | e
     · rw [decide_eq_false (by omega)]; rfl
     · rw [e]; simp
     · rw [e]; simp
   rw [← this]
   exact hK w3 hx1
 simp only [Bool.or_eq_false_iff,decide_eq_false_iff_not,Bool.not_eq_false'] at e
 obtain ⟨⟨g1,g2⟩,g3⟩:=e
 rw [g2,g3,decide_eq_true (by omega:a.mods.length ≤ 4)] at hg0
 simp only [Bool.true_and] at hg0
 rw [hg0] at hK
 clear hg0
 refine hA.ld1 rfl ?_
 rw [bin_eql,condW_dec]
 refine ⟨fun k0=>?_,fun k0=>?_⟩
 · rw [if_pos k0] at hK
   refine hA.ld1 rfl ?_
   rw [bin_eql]
   simp only [isB_t]
   refine GdW.look (decide (a.key = [])) (fun _ J hJ=>by refine hA.ld1 rfl ?_; rw [bin_seq]; exact hJ) fun g=>?_
   simp only [List.getD_cons_zero]
   rw [pick_gd_and]
   exact hK w3 hx1
 rw [if_neg k0] at hK
 refine hA.ld1 rfl ?_
 rw [bin_eql,condW_dec]
 refine ⟨fun k1=>?_,fun k1=>?_⟩
 · rw [if_pos k1] at hK
   refine hA.ld1 rfl ?_
   rw [bin_geq]
   simp only [isB_t]
   refine GdW.look (decide (a.num ≤ 1000000000)) (fun _ J hJ=>by refine hA.ld1 rfl ?_; rw [bin_leq]; exact hJ) fun g=>?_
   simp only [List.getD_cons_zero]
   rw [pick_gd_and]
   simp only [isB_t]
   refine GdW.look (decide (a.key = [])) (fun _ J hJ=>by refine hA.ld1 rfl ?_; rw [bin_seq]; exact hJ) fun g=>?_
   simp only [List.getD_cons_zero]
   rw [pick_gd_and]
   exact hK w3 hx1
 rw [if_neg k1] at hK
 refine hA.ld1 rfl ?_
 rw [bin_neq]
 simp only [isB_f]
 refine GdW.look (decide (a.num ≠ 0)) (fun _ J hJ=>by refine hA.ld1 rfl ?_; rw [bin_neq]; exact hJ) fun g=>?_
 simp only [List.getD_cons_zero]
 rw [pick_gd_or]
 simp only [isB_f]
 refine GdW.look (!utfM a.key) (fun _ J hJ=>?_) fun g=>?_
 · refine hA.ld1 rfl ?_
   refine bad_ref hk fun r hr=>?_
   rw [bin_geq,hr]
   exact hJ
 simp only [List.getD_cons_zero]
 rw [pick_gd_or,condW_b]
 refine ⟨fun e=>?_,fun e=>?_⟩
 · have:(decide (a.kind = 2) && decide (a.num = 0) && utfM a.key && decide (a.key.length ≤ 16384) && decide ((quoteM a.key).length ≤ 65536)) = false:=by
     simp only [Bool.or_eq_true,decide_eq_true_eq,Bool.not_eq_true'] at e
     rcases e with (e | e) | e
     · rw [decide_eq_false e]; rfl
     · rw [decide_eq_false e]; simp
     · rw [e]; simp
   rw [← this]
   exact hK w3 hx1
 simp only [Bool.or_eq_false_iff,decide_eq_false_iff_not,Bool.not_eq_false',Decidable.not_not] at e
 obtain ⟨⟨g4,g5⟩,g6⟩:=e
 rw [g6,decide_eq_true g4,decide_eq_true g5] at hK
 simp only [Bool.true_and] at hK
 refine hA.ld1 rfl ?_
 rw [lens_str,bin_leq]
 simp only [isB_t]
 refine GdW.act (decide ((quoteM a.key).length ≤ 65536)) (fun w'=>Ext w3 w') (fun _=>Chg.refl _ _) (fun e J hJ=>?_) ?_
 · rw [decide_eq_true_iff] at e
   refine hA.ld1 rfl ?_
   refine quote_ref (by omega) fun w4 hx4=>?_
   rw [lens_str,bin_leq,decide_eq_decide.2 (show ((quoteM a.key).length:Int) ≤ 65536 ↔ (quoteM a.key).length ≤ 65536 by omega)]
   exact hJ w4 hx4
 intro g w5 hx5
 simp only [List.getD_cons_zero]
 rw [pick_gd_and,show decide ((a.key.length:Int) ≤ 16384) = decide (a.key.length ≤ 16384) from decide_eq_decide.2 (by omega)]
 exact hK w5 (hx1.trans hx5)
theorem show22_ref {a:AV} {cs:List Value} {w:World} {K:Value → World → Prop} (hg:goodAd a = true) (h:ARep w a cs) (hK:∀ w',Ext w w' → K (str (showA a)) w') :
   callF Tryz.prog 45 [.agg cs.toArray] w K:=by
 have hg':=hg
 unfold goodAd at hg'
 simp only [Bool.and_eq_true,decide_eq_true_eq] at hg'
 obtain ⟨⟨⟨⟨g1,g2⟩,g3⟩,g4⟩,g5⟩:=hg'
 have nl:∀ s:Str,nameM s = true → s.length ≤ 32:=fun s hs=>by
   cases s with
   | nil=>simp
   | cons c r=>
     simp only [nameM,Bool.and_eq_true,decide_eq_true_eq] at hs
     simp only [List.length_cons]
     omega
 have fl:∀ i,i ≤ a.mods.length → ((a.mods.take i).flatMap (fun m=>m ++ [47])).length ≤ 33 * i:=fun i=>by
   induction i with
   | zero=>simp
   | succ i ih=>
     intro hi
     have:=ih (by omega)
     obtain ⟨m,hm⟩:∃ m,a.mods[i]? = some m:=⟨_,List.getElem?_eq_getElem (by omega)⟩
     have h1:=nl m (List.all_eq_true.1 g4 m (List.mem_of_getElem? hm))
     rw [List.take_add_one,hm]
     simp only [Option.toList_some,List.flatMap_append,List.flatMap_cons,List.flatMap_nil,List.append_nil,List.length_append,List.length_cons,List.length_nil]
     omega
 have n2:=nl _ g2
 have n3:=nl _ g3
 refine W45_ok ?_
 unfold W45
 refine box_a h fun p w1 sv hA hx1 hp hs0=>?_
 have fit:=hA.fits
 obtain ⟨T,hs⟩:=hA.sl
 simp only [fld_ptr]
 refine hA.ld1 rfl ?_
 rw [lenl_at hs]
 have emax:IntKind.i64.max = 9223372036854775807:=by decide
 refine LoopW.go (fun st w'=>∃ i:Nat,i ≤ a.mods.length ∧ st = [str ((a.mods.take i).flatMap (fun m=>m ++ [47])),i64 (i:Nat)] ∧ w' = w1) (fun st _=>match st with | [_,.int _ i]=>a.mods.length - i.toNat | _=>0) ⟨0,by omega,rfl,rfl⟩ ?_
 rintro st g w3 ⟨i,hi,rfl,rfl⟩
 have f1:=fl i hi
 simp only [List.getD_cons_zero,List.getD_cons_succ]
 rw [bin_lss,condW_dec]
 refine ⟨fun hlt=>?_,fun hge=>?_⟩
 · have hlt:i < a.mods.length:=by omega
   refine hA.ld1 rfl ?_
   obtain ⟨m,hm⟩:∃ m,a.mods[i]? = some m:=⟨_,List.getElem?_eq_getElem hlt⟩
   have h1:=nl m (List.all_eq_true.1 g4 m (List.mem_of_getElem? hm))
   refine text_ld hs hm ?_
   rw [bin_sadd]
   refine ⟨by omega,?_⟩
   rw [bin_sadd]
   refine ⟨by simp only [List.length_append,List.length_cons,List.length_nil]; omega,?_⟩
   rw [bin_add,up1 (by omega)]
   refine ⟨⟨i + 1,by omega,?_,by trivial⟩,by simp only [Int.toNat_natCast]; omega⟩
   rw [List.take_add_one,hm]
   simp
 obtain rfl:i = a.mods.length:=by omega
 rw [List.take_length] at f1 ⊢
 refine hA.ld1 rfl ?_
 rw [bin_sadd]
 refine ⟨by omega,?_⟩
 rw [bin_sadd]
 refine ⟨by simp only [List.length_append,List.length_cons,List.length_nil]; omega,?_⟩
 refine hA.ld1 rfl ?_
 rw [bin_sadd]
 refine ⟨by simp only [List.length_append,List.length_cons,List.length_nil]; omega,?_⟩
 have hh:a.mods.flatMap (fun m=>m ++ [47]) ++ a.typ ++ [46] ++ a.nm = headA a:=rfl
 rw [hh]
 have hhl:(headA a).length ≤ 300:=by
   rw [← hh]
   simp only [List.length_append,List.length_cons,List.length_nil]
   omega
 refine JoinW.cut (fun st w'=>st = [str (headA a ++ (if a.kind = 1 then [91] ++ Lib.itoa a.num ++ [93] else []))] ∧ Ext w3 w') ?_ ?_
 · refine hA.ld1 rfl ?_
   rw [bin_eql,condW_dec]
   refine ⟨fun k1=>?_,fun k1=>?_⟩
   · rw [bin_sadd]
     refine ⟨by simp only [List.length_cons,List.length_nil]; omega,?_⟩
     refine hA.ld1 rfl ?_
     refine digits_ref fit.num.1 fit.num.2 fun w5 hx5=>?_
     have il:(Lib.itoa a.num).length ≤ 30:=by
       have:=itoa_len fit.num.1 fit.num.2
       omega
     rw [bin_sadd]
     refine ⟨by simp only [List.length_append,List.length_cons,List.length_nil]; omega,?_⟩
     rw [bin_sadd]
     refine ⟨by simp only [List.length_append,List.length_cons,List.length_nil]; omega,?_⟩
     rw [if_pos k1]
     exact ⟨by simp,hx5⟩
   · rw [if_neg k1]
     exact ⟨by simp,Chg.refl _ _⟩
 rintro st g w6 ⟨rfl,hx6⟩
 simp only [List.getD_cons_zero]
 have hA6:=hA.ext hx6
 refine JoinW.cut (fun st w'=>st = [str (headA a ++ brA a)] ∧ Ext w3 w') ?_ ?_
 · refine hA6.ld1 rfl ?_
   rw [bin_eql,condW_dec]
   refine ⟨fun k2=>?_,fun k2=>?_⟩
   · have k1:¬ a.kind = 1:=by omega
     have k0:¬ a.kind = 0:=by omega
     rw [if_neg k0,if_neg k1] at g5
     simp only [Bool.and_eq_true,decide_eq_true_eq] at g5
     obtain ⟨⟨⟨⟨_,_⟩,_⟩,g8⟩,g9⟩:=g5
     rw [if_neg k1,List.append_nil,bin_sadd]
     refine ⟨by simp only [List.length_cons,List.length_nil]; omega,?_⟩
     refine hA6.ld1 rfl ?_
     refine quote_ref (by omega) fun w8 hx8=>?_
     rw [bin_sadd]
     refine ⟨by simp only [List.length_append,List.length_cons,List.length_nil]; omega,?_⟩
     rw [bin_sadd]
     refine ⟨by simp only [List.length_append,List.length_cons,List.length_nil]; omega,?_⟩
     refine ⟨?_,hx6.trans hx8⟩
     unfold brA
     rw [if_neg k1,if_pos k2]
     simp
   · refine ⟨?_,hx6⟩
     unfold brA
     by_cases k1:a.kind = 1
     · rw [if_pos k1,if_pos k1]
     · rw [if_neg k1,if_neg k1,if_neg k2]
 rintro st g w9 ⟨rfl,hx9⟩
 simp only [List.getD_cons_zero]
 have hA9:=hA.ext hx9
 have hsl:=showA_len hg
 have hshow:showA a = headA a ++ brA a ++ (if a.aside then [126] else []):=rfl
 refine hA9.ld1 rfl ?_
 rw [condW_b]
 refine ⟨fun e=>?_,fun e=>?_⟩
 · rw [hshow,if_pos e] at hsl hK
   rw [bin_sadd]
   refine ⟨by simp only [List.length_append] at hsl ⊢; omega,?_⟩
   exact hK w9 (hx1.trans hx9)
 · rw [hshow,if_neg (by rw [e]; simp),List.append_nil] at hK
   exact hK w9 (hx1.trans hx9)
end
end Go.Proofs.YtnoepcndjljolaaGreatDoor

