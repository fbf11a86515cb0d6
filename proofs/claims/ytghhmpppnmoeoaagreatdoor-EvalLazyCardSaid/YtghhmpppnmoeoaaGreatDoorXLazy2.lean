/- One plain sentence: weakest preconditions, contracts and plain laws that the claim rests on, text behind text. Conditions: those that each states. -/
import Derived.Test.YtghhmpppnmoeoaaGreatDoorXLazy1
import Derived.Shelf.Strings.BuilderF
import Derived.Shelf.Strings.BuilderK
import Derived.Shelf.Strconv.Atoi
import Derived.Shelf.Strconv.AtoiInnerAll
import Derived.Shelf.Strconv.AtoiFail
import Derived.Shelf.Strconv.ParseInt10
import Derived.Shelf.Strconv.ParseUint10
import Derived.Shelf.Strconv.Itoa2
import Derived.Shelf.Strconv.Itoa1
import Derived.Shelf.Slices.ReverseS
import Derived.Shelf.Strconv.Itoa3
import Derived.Shelf.Pu.ParseUintPublic10
import Derived.Shelf.Strconv.ToErrorRange
import Derived.Shelf.Strconv.ToError
import Derived.Shelf.Small.Strs
import Derived.Shelf.Strings.Count
import Derived.Shelf.Strings.Cut
import Derived.Shelf.Small.Wraps
import Derived.Shelf.Strings.Prefix
import Derived.Shelf.Strings.Search3
import Derived.Shelf.Strings.OnBuilder
import Derived.Shelf.Strings.Repeat
import Derived.Shelf.Strings.Split
import Derived.Shelf.Strings.SlTrimAscii
import Derived.Shelf.Strconv.Clone
import Derived.Shelf.Strings.Search1
import Derived.Shelf.Unicode.DecodeAny
import Derived.Shelf.Small.Utf8
import Derived.Shelf.Strings.BuilderX
import Derived.Shelf.Lays
import Derived.Shelf.Lays2
import Derived.Shelf.LaysC
import Derived.Shelf.LaysM
import Derived.Shelf.Pu.Lays
import Derived.Ground.MpProg
import Derived.Ground.Names2Prog
import Derived.Test.YtghhmpppnmoeoaaGreatDoorProg
import Derived.Lib.ConvBytes
import Derived.Lib.ParseIntBCases
set_option linter.all false
set_option linter.unusedSimpArgs false
set_option linter.unusedVariables false
set_option linter.unusedSectionVars false
set_option maxRecDepth 100000
namespace Go.Proofs.YtghhmpppnmoeoaaGreatDoor
section
open Go Go.Eng
variable{w:World}{K:Q0}{cs:List Value}{G:Nat->Prop}{T:TypeId}{i:Nat}{n:Nat}{v:Value}{w':World}{P:Program}{c:UInt8}{S:Nat->Prop}{v0 v1 v2 v3 v4 v5:Value}
variable [HX]
def Yf:bC:={js:=[],ds:=[]}
def W61(v0:Value)(w:World)(K:Q0):=cI 26 v0 w λt1 w1=>aN 3 zL3 w1 λt3 w2=>bF 1 t3 (i64 2000) w2 λw3=>aE true 5 t1 w3 λt4=>aA P0 101 [t4,(i64 24),t3] w3 λt5 w4=>K t5 w4
theorem aAc{K:Q0}(h:W61 v0 w K):aA P0 61 [v0] w K:=
 tie _ 61 Tryz.f61 Yf _ w K 1 _ rfl mixed Tryz.func61 (by kernel_rfl) (by kernel_rfl) Tryz.call61 h
def XW:bC:={js:=[(28003,⟨[36],[],35⟩),(16,⟨[28],[2,5],28⟩),(6002,⟨[23],[],17⟩),(6004,⟨[22],[],21⟩),(6008,⟨[20],[],17⟩),(6013,⟨[14],[],12⟩)],ds:=[]}
def W75(v0:Value)(w:World)(K:Q0):=aA P0 107 [v0,(str [45])] w λt7 w1=>eQ t7 λt9=>aC .lss t9 (i64 1) λt10=>cX (eD t10 false) [undef] w1 (λJ2=>eQ t7 λt13=>aC .gtr t13 (i64 100) λt14=>J2 [t14] w1) λs2 _ w3=>bG t10 (.bool true) (s2.getD 0 undef) λt15=>cX (eD t15 false) [undef] w3 (λJ4=>lJ t7 (i64 0) λt18=>aC .eql t18 (.int .u8 48) λt19=>J4 [t19] w3) λs4 _ w5=>cX (eD (s4.getD 0 undef) true) [undef] w5 (λJ6=>aC .neq v0 (str [48]) λt22=>J6 [t22] w5) λs6 _ w7=>cX (eD t15 false) [undef] w7 (λJ8=>bG (s4.getD 0 undef) (s6.getD 0 undef) (.bool false) λt23=>J8 [t23] w7) λs8 _ w9=>bG t15 (.bool true) (s8.getD 0 undef) λt24=>aD t24 (K (.bool false) w9) (bP P0 (convert 9 89 t7) w9 λt26 w10=>bK t26 λt27=>bL [(i64 0)] w10 λs11 _ w12 L11=>aC .lss (s11.getD 0 undef) t27 λt29=>aD t29 (bU none 1 t26 (s11.getD 0 undef) λt30=>aE false 1 t30 w12 λt31=>aC .lss t31 (.int .u8 48) λt33=>cX (eD t33 false) [undef] w12 (λJ13=>aC .gtr t31 (.int .u8 57) λt36=>J13 [t36] w12) λs13 _ w14=>bG t33 (.bool true) (s13.getD 0 undef) λt37=>aD t37 (K (.bool false) w14) (aC .add (s11.getD 0 undef) (i64 1) λt38=>L11 [t38] w14)) (K (.bool true) w12))
theorem ZT{K:Q0}(h:W75 v0 w K):aA P0 75 [v0] w K:=
 tie _ 75 Tryz.f75 XW _ w K 1 _ rfl mixed Tryz.func75 (by kernel_rfl) (by kernel_rfl) Tryz.call75 h
def XN:bC:={js:=[],ds:=[]}
def W85(w:World)(K:Q0):=aN 26 zL0 w λt0 w1=>bQ [(i64 0),(.bool false),(str []),sN,sN] [] λc2=>bF 5 t0 (.agg c2.toArray) w1 λw3=>aE true 5 t0 w3 λr4=>K r4 w3
theorem ZK{K:Q0}(h:W85 w K):aA P0 85 [] w K:=
 tie _ 85 Tryz.f85 XN _ w K 0 _ rfl mixed Tryz.func85 (by kernel_rfl) (by kernel_rfl) Tryz.call85 h
def XM:bC:={js:=[],ds:=[]}
def W86(v0:Value)(w:World)(K:Q0):=aN 26 zL0 w λt2 w1=>bQ [(i64 0),(.bool false),(str []),sN,sN] [(0,1,(i64 2)),(1,1,v0)] λc2=>bF 5 t2 (.agg c2.toArray) w1 λw3=>aE true 5 t2 w3 λr4=>K r4 w3
theorem ZJ{K:Q0}(h:W86 v0 w K):aA P0 86 [v0] w K:=
 tie _ 86 Tryz.f86 XM _ w K 1 _ rfl mixed Tryz.func86 (by kernel_rfl) (by kernel_rfl) Tryz.call86 h
def XL:bC:={js:=[],ds:=[]}
def W87(v0:Value)(w:World)(K:Q0):=aN 26 zL0 w λt2 w1=>bQ [(i64 0),(.bool false),(str []),sN,sN] [(0,1,(i64 4)),(2,1,v0)] λc2=>bF 5 t2 (.agg c2.toArray) w1 λw3=>aE true 5 t2 w3 λr4=>K r4 w3
theorem ZI{K:Q0}(h:W87 v0 w K):aA P0 87 [v0] w K:=
 tie _ 87 Tryz.f87 XL _ w K 1 _ rfl mixed Tryz.func87 (by kernel_rfl) (by kernel_rfl) Tryz.call87 h
def XK:bC:={js:=[],ds:=[(3,⟨[0,1,3,4,6,8],[[],[0],[0,1],[],[3],[0,1,2,3,4],[0,1,2,3,4],[0,1,2,3,4,5,6],[0,1,2,3,4,5,6,7],[0,1,2,3,4,5,6,7,8]]⟩)]}
def W88(v0:Value)(w:World)(K:Q0):=cI 26 v0 w λt1 w1=>aN 26 zL0 w1 λt2 w2=>aF 4 t1 λt3=>aE false 1 t3 w2.drew λt4=>aF 3 t1 λt6=>aE false 1 t6 w2.drew λt7=>aA P0 118 [t4] w2.drew λt5 w3=>(aE false 1 t6 w3 λx=>x=t7)/\aF 4 t1 λt9=>aA P0 119 [t7] w3 λt8 w4=>bF 1 t9 t5 w4 λw5=>aF 3 t1 λt10=>bF 1 t10 t8 w5 λw6=>aE true 5 t1 w6 λt11=>bF 5 t2 t11 w6 λw7=>aE true 5 t2 w7 λr8=>K r8 w7
theorem ZH{K:Q0}(h:W88 v0 w K):aA P0 88 [v0] w K:=
 tie _ 88 Tryz.f88 XK _ w K 1 _ rfl mixed Tryz.func88 (by kernel_rfl) (by kernel_rfl) Tryz.call88 h
def XI:bC:={js:=[(16,⟨[20],[5,7,8,9,10],20⟩)],ds:=[(37,⟨[0,1,2,3,4,5],[[],[],[],[],[2,3],[2,3,4],[2,3,4,5],[0,1,2,3,4,5,6],[0,1,2,3,4,5,6,7]]⟩)]}
def W90(v0 v1:Value)(w:World)(K:Q0):=aN 26 zL0 w λt4 w1=>bK v0 λt12=>bK v1 λt14=>aC .neq t12 t14 λt15=>aD t15 (bQ [(i64 0),(.bool false),(str []),sN,sN] [] λc2=>bF 5 t4 (.agg c2.toArray) w1 λw3=>aE true 5 t4 w3 λr4=>K (.tuple #[r4,(i64 1)]) w3) (bQ [(i64 0),(.bool false),(str []),sN,sN] [(0,1,(i64 6))] λc5=>aN 26 zL0 w1 λt6 w6=>bF 5 t6 (.agg c5.toArray) w6 λw7=>bK v0 λt19=>bL [(i64 0)] w7 λs8 _ w9 L8=>aC .lss (s8.getD 0 undef) t19 λt21=>aD t21 (bU none 1 v0 (s8.getD 0 undef) λt23=>aE false 1 t23 w9 λt24=>aE true 5 t6 w9 λt26=>aA P0 120 [t26,t24] w9 λt28 w10=>bS 0 t28 λt29=>bS 1 t28 λt30=>aN 26 zL0 w10 λt9 w11=>bF 5 t9 t29 w11 λw12=>aD t30 (bQ [(i64 0),(.bool false),(str []),sN,sN] [] λc13=>bF 5 t4 (.agg c13.toArray) w12 λw14=>aE true 5 t4 w14 λr15=>K (.tuple #[r15,(i64 2)]) w14) (aE true 5 t6 w12.drew λt33=>bU none 5 v1 (s8.getD 0 undef) λt37=>aE true 5 t37 w12.drew λt38=>aA P0 88 [t38] w12.drew λt39 w16=>(aE true 5 t6 w16 λx=>x=t33)/\aA P0 121 [t33,t24,t39] w16 λt40 w17=>bF 5 t6 t40 w17 λw18=>aC .add (s8.getD 0 undef) (i64 1) λt41=>L8 [t41] w18)) (aE true 5 t6 w9 λt42=>bF 5 t4 t42 w9 λw19=>aE true 5 t4 w19 λr20=>K (.tuple #[r20,(i64 0)]) w19))
theorem ZF{K:Q0}(h:W90 v0 v1 w K):aA P0 90 [v0,v1] w K:=
 tie _ 90 Tryz.f90 XI _ w K 2 _ rfl mixed Tryz.func90 (by kernel_rfl) (by kernel_rfl) Tryz.call90 h
def XC:bC:={js:=[(3006,⟨[10],[],7⟩)],ds:=[]}
def W96(v0:Value)(w:World)(K:Q0):=cI 26 v0 w λt1 w1=>aF 0 t1 λt3=>aE false 1 t3 w1 λt4=>aC .neq t4 (i64 1) λt5=>cX (eD t5 true) [undef] w1 (λJ2=>aF 3 t1 λt7=>aE false 1 t7 w1 λt8=>aA P0 124 [t8,(.func (.func 130) #[] #[])] w1 λt9 w3=>gU .not t9 λt10=>J2 [t10] w3) λs2 _ w4=>bG t5 (s2.getD 0 undef) (.bool false) λt11=>K t11 w4
theorem Zz{K:Q0}(h:W96 v0 w K):aA P0 96 [v0] w K:=
 tie _ 96 Tryz.f96 XC _ w K 1 _ rfl mixed Tryz.func96 (by kernel_rfl) (by kernel_rfl) Tryz.call96 h
def XB:bC:={js:=[],ds:=[]}
def W97(w:World)(K:Q0):=aN 26 zL0 w λt0 w1=>bQ [(i64 0),(.bool false),(str []),sN,sN] [(0,1,(i64 1))] λc2=>bF 5 t0 (.agg c2.toArray) w1 λw3=>aE true 5 t0 w3 λr4=>K r4 w3
theorem Zy{K:Q0}(h:W97 w K):aA P0 97 [] w K:=
 tie _ 97 Tryz.f97 XB _ w K 0 _ rfl mixed Tryz.func97 (by kernel_rfl) (by kernel_rfl) Tryz.call97 h
def XA:bC:={js:=[],ds:=[]}
def W98(v0 v1:Value)(w:World)(K:Q0):=cI 26 v0 w λt2 w1=>cI 26 v1 w1 λt3 w2=>aE true 5 t2 w2 λt5=>aE true 5 t3 w2 λt6=>aA P0 131 [t5,t6] w2 λt7 w3=>aC .eql t7 (i64 0) λt8=>K t8 w3
theorem Zx{K:Q0}(h:W98 v0 v1 w K):aA P0 98 [v0,v1] w K:=
 tie _ 98 Tryz.f98 XA _ w K 2 _ rfl mixed Tryz.func98 (by kernel_rfl) (by kernel_rfl) Tryz.call98 h
def Sq:bC:={js:=[(89007,⟨[130],[],126⟩),(12,⟨[],[],6⟩),(78002,⟨[119],[],108⟩),(78010,⟨[118],[],111⟩),(78013,⟨[110],[],108⟩),(66,⟨[99],[6,7,8],99⟩),(40010,⟨[79],[],72⟩),(34010,⟨[63],[],56⟩),(28010,⟨[48],[],41⟩),(16,⟨[33],[],33⟩),(6002,⟨[29],[],23⟩),(6005,⟨[28],[],26⟩),(6008,⟨[25],[],23⟩),(6014,⟨[20],[],17⟩)],ds:=[]}
def aC7(v0 v1 v2:Value)(w:World)(K:Q0):=cI 26 v0 w λt3 w1=>cI 3 v1 w1 λt4 w2=>cI 143 v2 w2 λt5 w3=>aE false 1 t5 w3 λt9=>bW t9 λt10=>aE false 1 t10 w3 λt11=>aC .sub t11 (i64 1) λt12=>bW t9 λt13=>bF 1 t13 t12 w3 λw4=>aE false 1 t4 w4 λt14=>aC .eql t14 (i64 0) λt15=>cX (eD t15 false) [undef] w4 (λJ5=>aE false 1 t5 w4 λt17=>bW t17 λt18=>aE false 1 t18 w4 λt19=>aC .lss t19 (i64 0) λt20=>J5 [t20] w4) λs5 _ w6=>bG t15 (.bool true) (s5.getD 0 undef) λt21=>cX (eD t21 false) [undef] w6 (λJ7=>aF 1 t3 λt23=>aE false 1 t23 w6 λt24=>J7 [t24] w6) λs7 _ w8=>cX (eD (s7.getD 0 undef) true) [undef] w8 (λJ9=>aF 0 t3 λt26=>aE false 1 t26 w8 λt27=>aC .neq t27 (i64 2) λt28=>J9 [t28] w8) λs9 _ w10=>cX (eD t21 false) [undef] w10 (λJ11=>bG (s7.getD 0 undef) (s9.getD 0 undef) (.bool false) λt29=>J11 [t29] w10) λs11 _ w12=>bG t21 (.bool true) (s11.getD 0 undef) λt30=>aD t30 (K (.bool false) w12) (aP (λJ13=>aF 0 t3 λt31=>aE false 1 t31 w12 λt32=>aP (λJ14=>aC .eql t32 (i64 0) λt34=>aD t34 (J14 [t34] w12) (aC .eql t32 (i64 1) λt35=>aD t35 (J14 [t35] w12) (aC .eql t32 (i64 2) λt36=>J14 [t36] w12))) λs14 _ w15=>aD (s14.getD 0 undef) (aF 2 t3 λt37=>aE false 1 t37 w15 λt38=>aC .eql t38 (str []) λt39=>cX (eD t39 true) [undef] w15 (λJ16=>aF 3 t3 λt41=>aE false 1 t41 w15 λt42=>bK t42 λt43=>aF 4 t3 λt44=>aE false 1 t44 w15 λt45=>bK t45 λt46=>aC .add t43 t46 λt47=>aC .eql t47 (i64 0) λt48=>J16 [t48] w15) λs16 _ w17=>bG t39 (s16.getD 0 undef) (.bool false) λt49=>K t49 w17) (aC .eql t32 (i64 3) λt51=>aD t51 (aF 2 t3 λt52=>aE false 1 t52 w15 λt53=>aA P0 75 [t53] w15 λt54 w18=>cX (eD t54 true) [undef] w18 (λJ19=>aF 3 t3 λt56=>aE false 1 t56 w18 λt57=>bK t57 λt58=>aF 4 t3 λt59=>aE false 1 t59 w18 λt60=>bK t60 λt61=>aC .add t58 t61 λt62=>aC .eql t62 (i64 0) λt63=>J19 [t63] w18) λs19 _ w20=>bG t54 (s19.getD 0 undef) (.bool false) λt64=>K t64 w20) (aC .eql t32 (i64 4) λt66=>aD t66 (aF 2 t3 λt67=>aE false 1 t67 w15 λt68=>eQ t68 λt69=>aC .leq t69 (i64 16384) λt70=>cX (eD t70 true) [undef] w15 (λJ21=>aF 3 t3 λt72=>aE false 1 t72 w15 λt73=>bK t73 λt74=>aF 4 t3 λt75=>aE false 1 t75 w15 λt76=>bK t76 λt77=>aC .add t74 t77 λt78=>aC .eql t78 (i64 0) λt79=>J21 [t79] w15) λs21 _ w22=>bG t70 (s21.getD 0 undef) (.bool false) λt80=>K t80 w22) (aC .eql t32 (i64 5) λt82=>aD t82 (aF 4 t3 λt83=>aE false 1 t83 w15 λt84=>bK t84 λt85=>aC .gtr t85 (i64 0) λt86=>aD t86 (K (.bool false) w15) (J13 [] w15)) (aC .eql t32 (i64 6) λt88=>aD t88 (aF 4 t3 λt89=>aE false 1 t89 w15 λt90=>bK t90 λt91=>aF 3 t3 λt92=>aE false 1 t92 w15 λt93=>bK t93 λt94=>aC .neq t91 t94 λt95=>aD t95 (K (.bool false) w15) (aF 4 t3 λt96=>aE false 1 t96 w15 λt97=>bK t97 λt98=>bL [(i64 0)] w15 λs23 _ w24 L23=>aC .lss (s23.getD 0 undef) t98 λt100=>aD t100 (bU none 1 t97 (s23.getD 0 undef) λt102=>aE false 1 t102 w24 λt103=>eQ t103 λt105=>aC .gtr t105 (i64 16384) λt106=>cX (eD t106 false) [undef] w24 (λJ25=>aC .gtr (s23.getD 0 undef) (i64 0) λt109=>J25 [t109] w24) λs25 _ w26=>cX (eD (s25.getD 0 undef) true) [undef] w26 (λJ27=>aF 4 t3 λt111=>aE false 1 t111 w26 λt112=>aC .sub (s23.getD 0 undef) (i64 1) λt114=>bU none 1 t112 t114 λt115=>aE false 1 t115 w26 λt116=>aC .geq t116 t103 λt118=>J27 [t118] w26) λs27 _ w28=>cX (eD t106 false) [undef] w28 (λJ29=>bG (s25.getD 0 undef) (s27.getD 0 undef) (.bool false) λt119=>J29 [t119] w28) λs29 _ w30=>bG t106 (.bool true) (s29.getD 0 undef) λt120=>aD t120 (K (.bool false) w30) (aC .add (s23.getD 0 undef) (i64 1) λt121=>L23 [t121] w30)) (J13 [] w24))) (K (.bool false) w15)))))) λs13 _ w31=>aF 2 t3 λt122=>aE false 1 t122 w31 λt123=>aC .eql t123 (str []) λt124=>cX (eD t124 true) [undef] w31 (λJ32=>aF 3 t3 λt126=>aE false 1 t126 w31 λt127=>aA P0 124 [t127,(.func (.func 136) #[] #[t4,t5])] w31 λt129 w33=>gU .not t129 λt130=>J32 [t130] w33) λs32 _ w34=>bG t124 (s32.getD 0 undef) (.bool false) λt131=>K t131 w34)
theorem VG{K:Q0}(h:aC7 v0 v1 v2 w K):aA P0 101 [v0,v1,v2] w K:=
 tie _ 101 Tryz.f101 Sq _ w K 3 _ rfl mixed Tryz.func101 (by kernel_rfl) (by kernel_rfl) Tryz.call101 h
def Sb:bC:={js:=[(8,⟨[3,8],[3,5],8⟩)],ds:=[]}
def aCW(v0:Value)(w:World)(K:Q0):=bK v0 λt7=>bL [sN,(i64 0)] w λs1 _ w2 L1=>aC .lss (s1.getD 1 undef) t7 λt9=>aD t9 (bU none 5 v0 (s1.getD 1 undef) λt10=>aE true 5 t10 w2 λt11=>aN 26 zL0 w2 λt5 w3=>bF 5 t5 t11 w3 λw4=>aE true 5 t5 w4 λt13=>aA P0 88 [t13] w4 λt14 w5=>bR 26 1 [(i64 0),(.bool false),(str []),sN,sN] [(0,5,t14)] w5 λt15 w6=>bP P0 (Builtin.append_ #[23,23] 23 #[(s1.getD 0 undef),t15]) w6 λt16 w7=>aC .add (s1.getD 1 undef) (i64 1) λt17=>L1 [t16,t17] w7) (K (s1.getD 0 undef) w2)
theorem Vu{K:Q0}(h:aCW v0 w K):aA P0 119 [v0] w K:=
 tie _ 119 Tryz.f119 Sb _ w K 1 _ rfl mixed Tryz.func119 (by kernel_rfl) (by kernel_rfl) Tryz.call119 h
def Sa:bC:={js:=[(6004,⟨[19],[],17⟩)],ds:=[]}
def aCV(v0 v1:Value)(w:World)(K:Q0):=cI 26 v0 w λt2 w1=>aN 26 zL0 w1 λt4 w2=>aF 4 t2 λt9=>aE false 1 t9 w2 λt10=>aA P0 153 [t10,v1] w2 λt12 w3=>bS 0 t12 λt13=>bS 1 t12 λt14=>cX (eD t14 true) [undef] w3 (λJ4=>aF 0 t2 λt17=>aE false 1 t17 w3 λt18=>aC .eql t18 (i64 6) λt19=>J4 [t19] w3) λs4 _ w5=>bG t14 (s4.getD 0 undef) (.bool false) λt20=>aD t20 (aF 3 t2 λt21=>aE false 1 t21 w5 λt22=>bU none 5 t22 t13 λt24=>aE true 5 t24 w5 λt25=>aA P0 88 [t25] w5 λt26 w6=>bF 5 t4 t26 w6 λw7=>aE true 5 t4 w7 λr8=>K (.tuple #[r8,(.bool true)]) w7) (bQ [(i64 0),(.bool false),(str []),sN,sN] [] λc9=>bF 5 t4 (.agg c9.toArray) w5 λw10=>aE true 5 t4 w10 λr11=>K (.tuple #[r11,(.bool false)]) w10)
theorem Vt{K:Q0}(h:aCV v0 v1 w K):aA P0 120 [v0,v1] w K:=
 tie _ 120 Tryz.f120 Sa _ w K 2 _ rfl mixed Tryz.func120 (by kernel_rfl) (by kernel_rfl) Tryz.call120 h
def RZ:bC:={js:=[(14,⟨[],[],7⟩)],ds:=[(15,⟨[0,1,2,3,6,7,8,9,12,14],[[],[0],[],[],[3],[0,1,2,3,4],[],[6],[],[],[9],[0,1,2,3,4,5,6,7,8,9,10],[0,1,2,3,4,5,6,7],[0,1,2,3,4,5,6,7,8,9,10,11,12],[0,1,2,3,4,5,6,7,8,9,10,11,12,13],[0,1,2,3,4,5,6,7,8,9,10,11,12,13,14]]⟩)]}
def aCU(v0 v1 v2:Value)(w:World)(K:Q0):=cI 26 v0 w λt3 w1=>cI 26 v2 w1 λt5 w2=>aN 26 zL0 w2 λt6 w3=>aF 4 t3 λt10=>aE false 1 t10 w3 λt11=>aA P0 153 [t11,v1] w3 λt13 w4=>bS 0 t13 λt14=>bS 1 t13 λt15=>aD t15 (aF 3 t3 λt17=>aE false 1 t17 w4 λt18=>aE true 5 t5 w4 λt20=>bU none 5 t18 t14 λt21=>bF 5 t21 t20 w4 λw5=>aE true 5 t3 w5 λt22=>bF 5 t6 t22 w5 λw6=>aE true 5 t6 w6 λr7=>K r7 w6) (aP (λJ8=>aF 4 t3 λt23=>aE false 1 t23 w4.drew λt24=>aF 3 t3 λt29=>aE false 1 t29 w4.drew λt30=>aE true 5 t5 w4.drew λt32=>(bR 9 1 [(str [])] [(0,1,v1)] w4.drew λt27 w9=>(aE true 5 t5 w9 λx=>x=t32)/\(aE false 1 t29 w9 λx=>x=t30)/\(aE false 1 t23 w9 λx=>x=t24)/\(aA P0 154 [t24,t14,t27] w9 λt28 w10=>(aE true 5 t5 w10 λx=>x=t32)/\(aE false 1 t29 w10 λx=>x=t30)/\aF 4 t3 λt35=>bR 26 1 [(i64 0),(.bool false),(str []),sN,sN] [(0,5,t32)] w10 λt33 w11=>(aE false 1 t29 w11 λx=>x=t30)/\aA P0 155 [t30,t14,t33] w11 λt34 w12=>bF 1 t35 t28 w12 λw13=>aF 3 t3 λt36=>bF 1 t36 t34 w13 λw14=>J8 [] w14)/\(bR 26 1 [(i64 0),(.bool false),(str []),sN,sN] [(0,5,t32)] w9 λt33 w15=>(aE false 1 t29 w15 λx=>x=t30)/\(aE false 1 t23 w15 λx=>x=t24)/\aA P0 154 [t24,t14,t27] w15 λt28 w16=>(aE false 1 t29 w16 λx=>x=t30)/\aF 4 t3 λt35=>aA P0 155 [t30,t14,t33] w16 λt34 w17=>bF 1 t35 t28 w17 λw18=>aF 3 t3 λt36=>bF 1 t36 t34 w18 λw19=>J8 [] w19))/\(bR 26 1 [(i64 0),(.bool false),(str []),sN,sN] [(0,5,t32)] w4.drew λt33 w20=>(aE false 1 t29 w20 λx=>x=t30)/\(aE false 1 t23 w20 λx=>x=t24)/\bR 9 1 [(str [])] [(0,1,v1)] w20 λt27 w21=>(aE false 1 t29 w21 λx=>x=t30)/\(aE false 1 t23 w21 λx=>x=t24)/\aA P0 154 [t24,t14,t27] w21 λt28 w22=>(aE false 1 t29 w22 λx=>x=t30)/\aF 4 t3 λt35=>aA P0 155 [t30,t14,t33] w22 λt34 w23=>bF 1 t35 t28 w23 λw24=>aF 3 t3 λt36=>bF 1 t36 t34 w24 λw25=>J8 [] w25)) λs8 _ w26=>aE true 5 t3 w26 λt37=>bF 5 t6 t37 w26 λw27=>aE true 5 t6 w27 λr28=>K r28 w27)
theorem Vs{K:Q0}(h:aCU v0 v1 v2 w K):aA P0 121 [v0,v1,v2] w K:=
 tie _ 121 Tryz.f121 RZ _ w K 3 _ rfl mixed Tryz.func121 (by kernel_rfl) (by kernel_rfl) Tryz.call121 h
def RX:bC:={js:=[(6004,⟨[16],[],14⟩)],ds:=[]}
def aCS(v0:Value)(w:World)(K:Q0):=aA P0 157 [v0] w λt8 w1=>bS 0 t8 λt9=>bS 1 t8 λt10=>FK P0 .neq 118 false true t10 .nilIface w1 λt12=>cX (eD t12 false) [undef] w1 (λJ2=>aA P0 75 [v0] w1 λt15 w3=>gU .not t15 λt16=>J2 [t16] w3) λs2 _ w4=>bG t12 (.bool true) (s2.getD 0 undef) λt17=>aD t17 (K (.tuple #[(i64 0),(.bool false)]) w4) (K (.tuple #[t9,(.bool true)]) w4)
theorem Vq{K:Q0}(h:aCS v0 w K):aA P0 123 [v0] w K:=
 tie _ 123 Tryz.f123 RX _ w K 1 _ rfl mixed Tryz.func123 (by kernel_rfl) (by kernel_rfl) Tryz.call123 h
def RO:bC:={js:=[(4004,⟨[12],[],10⟩)],ds:=[]}
def aCN(v0 v1:Value)(w:World)(K:Q0):=aA P0 75 [v0] w λt7 w1=>gU .not t7 λt8=>cX (eD t8 false) [undef] w1 (λJ2=>aA P0 75 [v1] w1 λt11 w3=>gU .not t11 λt12=>J2 [t12] w3) λs2 _ w4=>bG t8 (.bool true) (s2.getD 0 undef) λt13=>aD t13 (K (.tuple #[(str []),(i64 6)]) w4) (aA P0 186 [v0] w4 λt15 w5=>aA P0 186 [v1] w5 λt17 w6=>aA P0 187 [t17] w6 λt18 w7=>aA P0 185 [t15,t18] w7 λt19 w8=>aA P0 188 [t19] w8 λt20 w9=>bS 0 t20 λt21=>bS 1 t20 λt22=>K (.tuple #[t21,t22]) w9)
theorem Vk{K:Q0}(h:aCN v0 v1 w K):aA P0 129 [v0,v1] w K:=
 tie _ 129 Tryz.f129 RO _ w K 2 _ rfl mixed Tryz.func129 (by kernel_rfl) (by kernel_rfl) Tryz.call129 h
def RN:bC:={js:=[],ds:=[]}
def aCM(v0:Value)(w:World)(K:Q0):=cI 26 v0 w λt1 w1=>aE true 5 t1 w1 λt3=>aA P0 96 [t3] w1 λt4 w2=>gU .not t4 λt5=>K t5 w2
theorem Vj{K:Q0}(h:aCM v0 w K):aA P0 130 [v0] w K:=
 tie _ 130 Tryz.f130 RN _ w K 1 _ rfl mixed Tryz.func130 (by kernel_rfl) (by kernel_rfl) Tryz.call130 h
def RL:bC:={js:=[],ds:=[(36,⟨[0,1,2,3,5,6,7,8,12],[[],[0],[],[2],[0,1,2,3],[],[5],[],[7],[0,1,2,3,4,5,6,7,8],[0,1,2,3,4,5,6,7,8,9],[0,1,2,3,4,5,6,7,8,9,10],[0,1,2,3,4,5,6,7,8,9,10,11]]⟩),(20,⟨[0,1,3,4,7],[[],[0],[0,1],[],[3],[0,1,2,3,4],[0,1,2,3,4,5],[0,1,2,3,4,5,6]]⟩)]}
def aCL(v0 v1:Value)(w:World)(K:Q0):=cI 26 v0 w λt2 w1=>cI 26 v1 w1 λt3 w2=>aF 0 t2 λt6=>aE false 1 t6 w2 λt7=>aF 0 t3 λt8=>aE false 1 t8 w2 λt9=>aA P0 189 [t7,t9] w2 λt10 w3=>aC .neq t10 (i64 0) λt12=>aD t12 (K t10 w3) (aF 0 t2 λt14=>aE false 1 t14 w3 λt15=>aC .eql t15 (i64 2) λt17=>aD t17 (aF 1 t2 λt18=>aE false 1 t18 w3.drew λt19=>aF 1 t3 λt21=>aE false 1 t21 w3.drew λt22=>aA P0 191 [t19] w3.drew λt20 w4=>(aE false 1 t21 w4 λx=>x=t22)/\aA P0 191 [t22] w4 λt23 w5=>aA P0 190 [t20,t23] w5 λt24 w6=>K t24 w6) (aC .eql t15 (i64 3) λt26=>aD t26 (aF 2 t2 λt27=>aE false 1 t27 w3 λt28=>aF 2 t3 λt29=>aE false 1 t29 w3 λt30=>aA P0 132 [t28,t30] w3 λt31 w7=>K t31 w7) (aC .eql t15 (i64 4) λt33=>aD t33 (aF 2 t2 λt34=>aE false 1 t34 w3 λt35=>aF 2 t3 λt36=>aE false 1 t36 w3 λt37=>aA P0 192 [t35,t37] w3 λt38 w8=>K t38 w8) (aF 4 t2 λt39=>aE false 1 t39 w3.drew λt40=>aF 4 t3 λt41=>aE false 1 t41 w3.drew λt42=>aF 3 t2 λt44=>aE false 1 t44 w3.drew λt45=>aF 3 t3 λt46=>aE false 1 t46 w3.drew λt47=>aA P0 194 [t40,t42] w3.drew λt43 w9=>(aE false 1 t46 w9 λx=>x=t47)/\(aE false 1 t44 w9 λx=>x=t45)/\aA P0 195 [t45,t47,(.func (.func 131) #[] #[])] w9 λt48 w10=>bR 3 2 [(i64 0),(i64 0)] [(0,1,t43),(1,1,t48)] w10 λt49 w11=>aA P0 193 [t49] w11 λt50 w12=>K t50 w12))))
theorem Vi{K:Q0}(h:aCL v0 v1 w K):aA P0 131 [v0,v1] w K:=
 tie _ 131 Tryz.f131 RL _ w K 2 _ rfl mixed Tryz.func131 (by kernel_rfl) (by kernel_rfl) Tryz.call131 h
def RJ:bC:={js:=[(4004,⟨[12],[],10⟩)],ds:=[]}
def aCK(v0 v1:Value)(w:World)(K:Q0):=aA P0 75 [v0] w λt7 w1=>gU .not t7 λt8=>cX (eD t8 false) [undef] w1 (λJ2=>aA P0 75 [v1] w1 λt11 w3=>gU .not t11 λt12=>J2 [t12] w3) λs2 _ w4=>bG t8 (.bool true) (s2.getD 0 undef) λt13=>aD t13 (K (i64 0) w4) (aA P0 186 [v0] w4 λt15 w5=>aA P0 186 [v1] w5 λt17 w6=>aA P0 187 [t17] w6 λt18 w7=>aA P0 185 [t15,t18] w7 λt19 w8=>aN 198 zL2 w8 λt5 w9=>bF 2 t5 t19 w9 λw10=>aF 1 t5 λt21=>aE false 1 t21 w10 λt22=>bK t22 λt23=>aC .eql t23 (i64 0) λt24=>aD t24 (K (i64 0) w10) (aF 0 t5 λt26=>aE false 1 t26 w10 λt27=>aD t27 (K (.int .i64 (-1)) w10) (K (i64 1) w10)))
theorem Vh{K:Q0}(h:aCK v0 v1 w K):aA P0 132 [v0,v1] w K:=
 tie _ 132 Tryz.f132 RJ _ w K 2 _ rfl mixed Tryz.func132 (by kernel_rfl) (by kernel_rfl) Tryz.call132 h
def RI:bC:={js:=[(4004,⟨[12],[],10⟩)],ds:=[]}
def aCJ(v0 v1:Value)(w:World)(K:Q0):=aA P0 75 [v0] w λt7 w1=>gU .not t7 λt8=>cX (eD t8 false) [undef] w1 (λJ2=>aA P0 75 [v1] w1 λt11 w3=>gU .not t11 λt12=>J2 [t12] w3) λs2 _ w4=>bG t8 (.bool true) (s2.getD 0 undef) λt13=>aD t13 (K (.tuple #[(str []),(i64 6)]) w4) (aA P0 186 [v0] w4 λt15 w5=>aA P0 186 [v1] w5 λt17 w6=>aA P0 185 [t15,t17] w6 λt18 w7=>aA P0 188 [t18] w7 λt19 w8=>bS 0 t19 λt20=>bS 1 t19 λt21=>K (.tuple #[t20,t21]) w8)
theorem Vg{K:Q0}(h:aCJ v0 v1 w K):aA P0 133 [v0,v1] w K:=
 tie _ 133 Tryz.f133 RI _ w K 2 _ rfl mixed Tryz.func133 (by kernel_rfl) (by kernel_rfl) Tryz.call133 h
def RH:bC:={js:=[(4004,⟨[12],[],10⟩)],ds:=[]}
def aCI(v0 v1:Value)(w:World)(K:Q0):=aA P0 75 [v0] w λt7 w1=>gU .not t7 λt8=>cX (eD t8 false) [undef] w1 (λJ2=>aA P0 75 [v1] w1 λt11 w3=>gU .not t11 λt12=>J2 [t12] w3) λs2 _ w4=>bG t8 (.bool true) (s2.getD 0 undef) λt13=>aD t13 (K (.tuple #[(str []),(i64 6)]) w4) (aA P0 186 [v0] w4 λt15 w5=>aA P0 186 [v1] w5 λt17 w6=>aA P0 196 [t15,t17] w6 λt18 w7=>aA P0 188 [t18] w7 λt19 w8=>bS 0 t19 λt20=>bS 1 t19 λt21=>K (.tuple #[t20,t21]) w8)
theorem Vf{K:Q0}(h:aCI v0 v1 w K):aA P0 134 [v0,v1] w K:=
 tie _ 134 Tryz.f134 RH _ w K 2 _ rfl mixed Tryz.func134 (by kernel_rfl) (by kernel_rfl) Tryz.call134 h
def RG:bC:={js:=[(47,⟨[14],[14],42⟩),(30,⟨[11,41],[11,13,14],41⟩),(4004,⟨[26],[],24⟩)],ds:=[]}
def aCH(v0 v1:Value)(w:World)(K:Q0):=aA P0 75 [v0] w λt21 w1=>gU .not t21 λt22=>cX (eD t22 false) [undef] w1 (λJ2=>aA P0 75 [v1] w1 λt25 w3=>gU .not t25 λt26=>J2 [t26] w3) λs2 _ w4=>bG t22 (.bool true) (s2.getD 0 undef) λt27=>aD t27 (K (.tuple #[(str []),(str []),(i64 6)]) w4) (aC .eql v1 (str [48]) λt29=>aD t29 (K (.tuple #[(str []),(str []),(i64 10)]) w4) (aA P0 186 [v0] w4 λt31 w5=>aA P0 186 [v1] w5 λt33 w6=>aN 198 zL2 w6 λt7 w7=>aN 198 zL2 w7 λt8 w8=>bF 2 t7 t31 w8 λw9=>bF 2 t8 t33 w9 λw10=>aF 1 t8 λt34=>aE false 1 t34 w10 λt35=>bQ [(.bool false),sN] [(0,1,(.bool false)),(1,1,t35)] λc11=>aN 198 zL2 w10 λt9 w12=>bF 2 t9 (.agg c11.toArray) w12 λw13=>aN 198 zL2 w13 λt10 w14=>aA P0 107 [v0,(str [45])] w14 λt38 w15=>bP P0 (convert 9 89 t38) w15 λt39 w16=>bK t39 λt40=>bL [sN,(i64 0)] w16 λs17 _ w18 L17=>aC .lss (s17.getD 1 undef) t40 λt42=>aD t42 (bU none 1 t39 (s17.getD 1 undef) λt43=>aE false 1 t43 w18 λt44=>aE true 2 t10 w18 λt45=>bR 209 1 [(.int .u64 0)] [(0,1,(.int .u64 10))] w18 λt46 w19=>bQ [(.bool false),sN] [(0,1,(.bool false)),(1,1,t46)] λc20=>aA P0 196 [t45,(.agg c20.toArray)] w19 λt48 w21=>aC .sub t44 (.int .u8 48) λt50=>oO .u64 t50 λt51=>bR 209 1 [(.int .u64 0)] [(0,1,t51)] w21 λt52 w22=>bQ [(.bool false),sN] [(0,1,(.bool false)),(1,1,t52)] λc23=>aA P0 197 [(.agg c23.toArray)] w22 λt54 w24=>aA P0 185 [t48,t54] w24 λt55 w25=>bF 2 t10 t55 w25 λw26=>bL [(.int .u8 48)] w26 λs27 _ w28 L27=>aE true 2 t10 w28 λt56=>aE true 2 t9 w28 λt57=>aA P0 198 [t56,t57] w28 λt58 w29=>aC .geq t58 (i64 0) λt59=>aD t59 (aE true 2 t10 w29 λt60=>aE true 2 t9 w29 λt61=>aA P0 199 [t60,t61] w29 λt62 w30=>bQ [(.bool false),sN] [(0,1,(.bool false)),(1,1,t62)] λc31=>aA P0 197 [(.agg c31.toArray)] w30 λt64 w32=>bF 2 t10 t64 w32 λw33=>aC .add (s27.getD 0 undef) (.int .u8 1) λt66=>L27 [t66] w33) (bR 5 1 [(.int .u8 0)] [(0,1,(s27.getD 0 undef))] w29 λt69 w34=>bP P0 (Builtin.append_ #[89,89] 89 #[(s17.getD 0 undef),t69]) w34 λt70 w35=>aC .add (s17.getD 1 undef) (i64 1) λt71=>L17 [t70,t71] w35)) (jP P0 (convert 89 9 (s17.getD 0 undef)) w18 λt73=>aA P0 186 [t73] w18 λt74 w36=>aN 198 zL2 w36 λt15 w37=>bF 2 t15 t74 w37 λw38=>aF 0 t7 λt75=>aE false 1 t75 w38 λt76=>aF 0 t8 λt77=>aE false 1 t77 w38 λt78=>tR .bool true t76 t78 λt79=>aF 0 t15 λt80=>bF 1 t80 t79 w38 λw39=>aF 0 t7 λt81=>aE false 1 t81 w39 λt82=>aF 0 t10 λt83=>bF 1 t83 t82 w39 λw40=>aE true 2 t15 w40 λt85=>aA P0 197 [t85] w40 λt86 w41=>aA P0 188 [t86] w41 λt87 w42=>bS 0 t87 λt88=>bS 1 t87 λt89=>aE true 2 t10 w42 λt91=>aA P0 197 [t91] w42 λt92 w43=>aA P0 188 [t92] w43 λt93 w44=>bS 0 t93 λt94=>bS 1 t93 λt95=>K (.tuple #[t88,t94,(i64 0)]) w44)))
theorem Ve{K:Q0}(h:aCH v0 v1 w K):aA P0 135 [v0,v1] w K:=
 tie _ 135 Tryz.f135 RG _ w K 2 _ rfl mixed Tryz.func135 (by kernel_rfl) (by kernel_rfl) Tryz.call135 h
def RF:bC:={js:=[],ds:=[]}
def aCG(v0 v1 v2:Value)(w:World)(K:Q0):=cI 26 v0 w λt3 w1=>aE true 5 t3 w1 λt5=>aE false 1 v1 w1 λt6=>aC .sub t6 (i64 1) λt7=>aE false 1 v2 w1 λt8=>aA P0 101 [t5,t7,t8] w1 λt9 w2=>gU .not t9 λt10=>K t10 w2
theorem Vd{K:Q0}(h:aCG v0 v1 v2 w K):aA P0 136 [v0,v1,v2] w K:=
 tie _ 136 Tryz.f136 RF _ w K 3 _ rfl mixed Tryz.func136 (by kernel_rfl) (by kernel_rfl) Tryz.call136 h
def Rp:bC:={js:=[],ds:=[(18,⟨[0,1,2,3,5],[[],[0],[],[],[2,3],[0,1,2,3,4],[0,1,2,3,4,5],[0,1,2,3,4,5,6]]⟩),(14,⟨[0,1,2,3,5],[[],[0],[],[],[2,3],[0,1,2,3,4],[0,1,2,3,4,5],[0,1,2,3,4,5,6]]⟩),(8,⟨[0,1,2,3,5],[[],[0],[],[],[2,3],[0,1,2,3,4],[0,1,2,3,4,5],[0,1,2,3,4,5,6]]⟩)]}
def aCu(v0 v1:Value)(w:World)(K:Q0):=cI 198 v0 w λt2 w1=>cI 198 v1 w1 λt3 w2=>aN 198 zL2 w2 λt4 w3=>aF 0 t2 λt6=>aE false 1 t6 w3 λt7=>aF 0 t3 λt8=>aE false 1 t8 w3 λt9=>tR .bool false t7 t9 λt10=>aD t10 (aF 0 t2 λt11=>aE false 1 t11 w3.drew λt12=>aE true 2 t2 w3.drew λt13=>aE true 2 t3 w3.drew λt14=>aA P0 224 [t13,t14] w3.drew λt15 w4=>(aE false 1 t11 w4 λx=>x=t12)/\bQ [(.bool false),sN] [(0,1,t12),(1,1,t15)] λc5=>aA P0 197 [(.agg c5.toArray)] w4 λt17 w6=>bF 2 t4 t17 w6 λw7=>aE true 2 t4 w7 λr8=>K r8 w7) (aE true 2 t2 w3 λt19=>aE true 2 t3 w3 λt20=>aA P0 198 [t19,t20] w3 λt21 w9=>aC .geq t21 (i64 0) λt22=>aD t22 (aF 0 t2 λt23=>aE false 1 t23 w9.drew λt24=>aE true 2 t2 w9.drew λt25=>aE true 2 t3 w9.drew λt26=>aA P0 199 [t25,t26] w9.drew λt27 w10=>(aE false 1 t23 w10 λx=>x=t24)/\bQ [(.bool false),sN] [(0,1,t24),(1,1,t27)] λc11=>aA P0 197 [(.agg c11.toArray)] w10 λt29 w12=>bF 2 t4 t29 w12 λw13=>aE true 2 t4 w13 λr14=>K r14 w13) (aF 0 t3 λt30=>aE false 1 t30 w9.drew λt31=>aE true 2 t3 w9.drew λt32=>aE true 2 t2 w9.drew λt33=>aA P0 199 [t32,t33] w9.drew λt34 w15=>(aE false 1 t30 w15 λx=>x=t31)/\bQ [(.bool false),sN] [(0,1,t31),(1,1,t34)] λc16=>aA P0 197 [(.agg c16.toArray)] w15 λt36 w17=>bF 2 t4 t36 w17 λw18=>aE true 2 t4 w18 λr19=>K r19 w18))
theorem UM{K:Q0}(h:aCu v0 v1 w K):aA P0 185 [v0,v1] w K:=
 tie _ 185 Tryz.f185 Rp _ w K 2 _ rfl mixed Tryz.func185 (by kernel_rfl) (by kernel_rfl) Tryz.call185 h
def Rm:bC:={js:=[(10,⟨[6],[],6⟩)],ds:=[]}
def aCt(v0:Value)(w:World)(K:Q0):=aN 198 zL2 w λt2 w1=>aA P0 225 [v0,(str [45])] w1 λt11 w2=>bS 0 t11 λt12=>bS 1 t11 λt13=>bQ [(.bool false),sN] [(0,1,t13)] λc3=>aN 198 zL2 w2 λt5 w4=>bF 2 t5 (.agg c3.toArray) w4 λw5=>eQ t12 λt17=>bL [t17] w5 λs6 _ w7 L6=>aC .gtr (s6.getD 0 undef) (i64 0) λt19=>aD t19 (aC .sub (s6.getD 0 undef) (i64 9) λt25=>NU (i64 0) t25 λt26=>jG t12 (some t26) (some (s6.getD 0 undef)) λt28=>aA P0 226 [t28,(i64 10),(i64 64)] w7 λt29 w8=>bS 0 t29 λt30=>bS 1 t29 λt31=>aF 1 t5 λt32=>aE false 1 t32 w8 λt33=>bR 209 1 [(.int .u64 0)] [(0,1,t30)] w8 λt35 w9=>bP P0 (Builtin.append_ #[196,196] 196 #[t33,t35]) w9 λt36 w10=>aF 1 t5 λt37=>bF 1 t37 t36 w10 λw11=>aC .sub (s6.getD 0 undef) (i64 9) λt21=>L6 [t21] w11) (aE true 2 t5 w7 λt38=>aA P0 197 [t38] w7 λt39 w12=>bF 2 t2 t39 w12 λw13=>aE true 2 t2 w13 λr14=>K r14 w13)
theorem UL{K:Q0}(h:aCt v0 w K):aA P0 186 [v0] w K:=
 tie _ 186 Tryz.f186 Rm _ w K 1 _ rfl mixed Tryz.func186 (by kernel_rfl) (by kernel_rfl) Tryz.call186 h
def Rl:bC:={js:=[],ds:=[]}
def aCs(v0:Value)(w:World)(K:Q0):=cI 198 v0 w λt1 w1=>aN 198 zL2 w1 λt2 w2=>aF 0 t1 λt3=>aE false 1 t3 w2 λt4=>gU .not t4 λt5=>aF 1 t1 λt6=>aE false 1 t6 w2 λt7=>bQ [(.bool false),sN] [(0,1,t5),(1,1,t7)] λc3=>aA P0 197 [(.agg c3.toArray)] w2 λt9 w4=>bF 2 t2 t9 w4 λw5=>aE true 2 t2 w5 λr6=>K r6 w5
theorem UK{K:Q0}(h:aCs v0 w K):aA P0 187 [v0] w K:=
 tie _ 187 Tryz.f187 Rl _ w K 1 _ rfl mixed Tryz.func187 (by kernel_rfl) (by kernel_rfl) Tryz.call187 h
def Ri:bC:={js:=[],ds:=[]}
def aCp(v0:Value)(w:World)(K:Q0):=aD v0 (K (i64 1) w) (K (i64 0) w)
theorem UH{K:Q0}(h:aCp v0 w K):aA P0 191 [v0] w K:=
 tie _ 191 Tryz.f191 Ri _ w K 1 _ rfl mixed Tryz.func191 (by kernel_rfl) (by kernel_rfl) Tryz.call191 h
def Rc:bC:={js:=[(35,⟨[8],[8],23⟩),(27003,⟨[34],[],33⟩),(24,⟨[8,9],[8,9],23⟩),(8,⟨[22],[6,7,8,9],22⟩)],ds:=[]}
def aCl(v0 v1:Value)(w:World)(K:Q0):=cI 198 v0 w λt2 w1=>cI 198 v1 w1 λt3 w2=>aN 198 zL2 w2 λt4 w3=>aF 1 t2 λt10=>aE false 1 t10 w3 λt11=>bK t11 λt12=>aF 1 t3 λt13=>aE false 1 t13 w3 λt14=>bK t14 λt15=>aC .add t12 t15 λt16=>aC .add t16 (i64 1) λt17=>bP P0 (Instr.makeSlice 196 t17 t17) w3 λt18 w4=>aF 1 t2 λt19=>aE false 1 t19 w4 λt20=>bK t20 λt21=>bL [(i64 0)] w4 λs5 _ w6 L5=>aC .lss (s5.getD 0 undef) t21 λt23=>aD t23 (bU none 1 t20 (s5.getD 0 undef) λt25=>aE false 1 t25 w6 λt26=>bL [(.int .u64 0),(i64 0)] w6 λs7 _ w8 L7=>aF 1 t3 λt28=>aE false 1 t28 w8 λt29=>bK t29 λt30=>aC .lss (s7.getD 1 undef) t30 λt31=>cX (eD t31 false) [undef] w8 (λJ9=>aC .gtr (s7.getD 0 undef) (.int .u64 0) λt34=>J9 [t34] w8) λs9 _ w10=>bG t31 (.bool true) (s9.getD 0 undef) λt35=>aD t35 (aC .add (s5.getD 0 undef) (s7.getD 1 undef) λt42=>bU none 1 t18 t42 λt43=>aE false 1 t43 w10 λt44=>aC .add (s7.getD 0 undef) t44 λt45=>aP (λJ11=>aF 1 t3 λt47=>aE false 1 t47 w10 λt48=>bK t48 λt49=>aC .lss (s7.getD 1 undef) t49 λt50=>aD t50 (aF 1 t3 λt53=>aE false 1 t53 w10 λt54=>bU none 1 t54 (s7.getD 1 undef) λt56=>aE false 1 t56 w10 λt57=>aC .mul t26 t57 λt58=>aC .add t45 t58 λt59=>J11 [t59] w10) (J11 [t45] w10)) λs11 _ w12=>aC .add (s5.getD 0 undef) (s7.getD 1 undef) λt63=>aC .rem (s11.getD 0 undef) (.int .u64 1000000000) λt65=>bU none 1 t18 t63 λt66=>bF 1 t66 t65 w12 λw13=>aC .quo (s11.getD 0 undef) (.int .u64 1000000000) λt68=>aC .add (s7.getD 1 undef) (i64 1) λt37=>L7 [t68,t37] w13) (aC .add (s5.getD 0 undef) (i64 1) λt69=>L5 [t69] w10)) (aF 0 t2 λt70=>aE false 1 t70 w6 λt71=>aF 0 t3 λt72=>aE false 1 t72 w6 λt73=>tR .bool true t71 t73 λt74=>bQ [(.bool false),sN] [(0,1,t74),(1,1,t18)] λc14=>aA P0 197 [(.agg c14.toArray)] w6 λt77 w15=>bF 2 t4 t77 w15 λw16=>aE true 2 t4 w16 λr17=>K r17 w16)
theorem UD{K:Q0}(h:aCl v0 v1 w K):aA P0 196 [v0,v1] w K:=
 tie _ 196 Tryz.f196 Rc _ w K 2 _ rfl mixed Tryz.func196 (by kernel_rfl) (by kernel_rfl) Tryz.call196 h
def Rb:bC:={js:=[(14007,⟨[32],[],29⟩),(7010,⟨[16],[],8⟩),(4,⟨[],[],3⟩)],ds:=[]}
def aCk(v0:Value)(w:World)(K:Q0):=cI 198 v0 w λt1 w1=>aN 198 zL2 w1 λt2 w2=>bL [] w2 λs3 _ w4 L3=>aF 1 t1 λt3=>aE false 1 t3 w4 λt4=>bK t4 λt5=>aC .gtr t5 (i64 0) λt6=>cX (eD t6 true) [undef] w4 (λJ5=>aF 1 t1 λt8=>aE false 1 t8 w4 λt9=>aF 1 t1 λt10=>aE false 1 t10 w4 λt11=>bK t11 λt12=>aC .sub t12 (i64 1) λt13=>bU none 1 t9 t13 λt14=>aE false 1 t14 w4 λt15=>aC .eql t15 (.int .u64 0) λt16=>J5 [t16] w4) λs5 _ w6=>bG t6 (s5.getD 0 undef) (.bool false) λt17=>aD t17 (aF 1 t1 λt18=>aE false 1 t18 w6 λt19=>aF 1 t1 λt20=>aE false 1 t20 w6 λt21=>bK t21 λt22=>aC .sub t22 (i64 1) λt23=>fX 1 t19 none (some t23) none λt24=>aF 1 t1 λt25=>bF 1 t25 t24 w6 λw7=>L3 [] w7) (aF 0 t1 λt26=>aE false 1 t26 w6 λt27=>cX (eD t27 true) [undef] w6 (λJ8=>aF 1 t1 λt29=>aE false 1 t29 w6 λt30=>bK t30 λt31=>aC .gtr t31 (i64 0) λt32=>J8 [t32] w6) λs8 _ w9=>bG t27 (s8.getD 0 undef) (.bool false) λt33=>aF 0 t1 λt34=>bF 1 t34 t33 w9 λw10=>aE true 2 t1 w10 λt35=>bF 2 t2 t35 w10 λw11=>aE true 2 t2 w11 λr12=>K r12 w11)
theorem UC{K:Q0}(h:aCk v0 w K):aA P0 197 [v0] w K:=
 tie _ 197 Tryz.f197 Rb _ w K 1 _ rfl mixed Tryz.func197 (by kernel_rfl) (by kernel_rfl) Tryz.call197 h
def Ra:bC:={js:=[(16,⟨[6],[],4⟩)],ds:=[(26,⟨[0,1,2,3,4,5,6,7,8,9,11],[[],[0],[],[0,1,2],[0,1,2,3],[],[5],[],[5,6,7],[5,6,7,8],[0,1,2,3,4,5,6,7,8,9],[0,1,2,3,4,5,6,7,8,9,10]]⟩)]}
def aCj(v0 v1:Value)(w:World)(K:Q0):=cI 198 v0 w λt2 w1=>cI 198 v1 w1 λt3 w2=>aF 1 t2 λt8=>aE false 1 t8 w2 λt9=>bK t9 λt10=>aF 1 t3 λt11=>aE false 1 t11 w2 λt12=>bK t12 λt13=>aA P0 190 [t10,t13] w2 λt14 w3=>aC .neq t14 (i64 0) λt16=>aD t16 (K t14 w3) (aF 1 t2 λt18=>aE false 1 t18 w3 λt19=>bK t19 λt20=>aC .sub t20 (i64 1) λt21=>bL [t21] w3 λs4 _ w5 L4=>aC .geq (s4.getD 0 undef) (i64 0) λt23=>aD t23 (aF 1 t2 λt26=>aE false 1 t26 w5.drew λt27=>bU none 1 t27 (s4.getD 0 undef) λt29=>aE false 1 t29 w5.drew λt30=>aF 1 t3 λt31=>aE false 1 t31 w5.drew λt32=>bU none 1 t32 (s4.getD 0 undef) λt34=>aE false 1 t34 w5.drew λt35=>aA P0 233 [t30,t35] w5.drew λt36 w6=>aC .neq t36 (i64 0) λt38=>aD t38 (K t36 w6) (aC .sub (s4.getD 0 undef) (i64 1) λt25=>L4 [t25] w6)) (K (i64 0) w5))
theorem UB{K:Q0}(h:aCj v0 v1 w K):aA P0 198 [v0,v1] w K:=
 tie _ 198 Tryz.f198 Ra _ w K 2 _ rfl mixed Tryz.func198 (by kernel_rfl) (by kernel_rfl) Tryz.call198 h
def QZ:bC:={js:=[(31,⟨[6,8],[6,8],14⟩),(23,⟨[9],[9],14⟩),(10,⟨[5,6,13],[5,6,7,8,9],13⟩)],ds:=[]}
def aCi(v0 v1:Value)(w:World)(K:Q0):=cI 198 v0 w λt2 w1=>cI 198 v1 w1 λt3 w2=>aF 1 t2 λt10=>aE false 1 t10 w2 λt11=>bK t11 λt12=>bL [sN,(.int .u64 0),(i64 0)] w2 λs3 _ w4 L3=>aC .lss (s3.getD 2 undef) t12 λt14=>aD t14 (bU none 1 t11 (s3.getD 2 undef) λt16=>aE false 1 t16 w4 λt17=>aP (λJ5=>aF 1 t3 λt20=>aE false 1 t20 w4 λt21=>bK t21 λt22=>aC .lss (s3.getD 2 undef) t22 λt23=>aD t23 (aF 1 t3 λt25=>aE false 1 t25 w4 λt26=>bU none 1 t26 (s3.getD 2 undef) λt28=>aE false 1 t28 w4 λt29=>aC .add (s3.getD 1 undef) t29 λt30=>J5 [t30] w4) (J5 [(s3.getD 1 undef)] w4)) λs5 _ w6=>aP (λJ7=>aC .lss t17 (s5.getD 0 undef) λt33=>aD t33 (aC .add t17 (.int .u64 1000000000) λt35=>J7 [(.int .u64 1),t35] w6) (J7 [(.int .u64 0),t17] w6)) λs7 _ w8=>aC .sub (s7.getD 1 undef) (s5.getD 0 undef) λt39=>bR 209 1 [(.int .u64 0)] [(0,1,t39)] w8 λt40 w9=>bP P0 (Builtin.append_ #[196,196] 196 #[(s3.getD 0 undef),t40]) w9 λt41 w10=>aC .add (s3.getD 2 undef) (i64 1) λt42=>L3 [t41,(s7.getD 0 undef),t42] w10) (K (s3.getD 0 undef) w4)
theorem UA{K:Q0}(h:aCi v0 v1 w K):aA P0 199 [v0,v1] w K:=
 tie _ 199 Tryz.f199 QZ _ w K 2 _ rfl mixed Tryz.func199 (by kernel_rfl) (by kernel_rfl) Tryz.call199 h
def QU:bC:={js:=[(27,⟨[6],[6],16⟩),(21,⟨[6],[6],16⟩),(10,⟨[5,6,15],[5,6,7],15⟩)],ds:=[]}
def aCe(v0 v1:Value)(w:World)(K:Q0):=cI 198 v0 w λt2 w1=>cI 198 v1 w1 λt3 w2=>aF 1 t2 λt8=>aE false 1 t8 w2 λt9=>bK t9 λt10=>aF 1 t3 λt11=>aE false 1 t11 w2 λt12=>bK t12 λt13=>NU t10 t13 λt14=>bL [sN,(.int .u64 0),(i64 0)] w2 λs3 _ w4 L3=>aC .lss (s3.getD 2 undef) t14 λt16=>aD t16 (aP (λJ5=>aF 1 t2 λt19=>aE false 1 t19 w4 λt20=>bK t20 λt21=>aC .lss (s3.getD 2 undef) t21 λt22=>aD t22 (aF 1 t2 λt24=>aE false 1 t24 w4 λt25=>bU none 1 t25 (s3.getD 2 undef) λt27=>aE false 1 t27 w4 λt28=>aC .add (s3.getD 1 undef) t28 λt29=>J5 [t29] w4) (J5 [(s3.getD 1 undef)] w4)) λs5 _ w6=>aP (λJ7=>aF 1 t3 λt31=>aE false 1 t31 w6 λt32=>bK t32 λt33=>aC .lss (s3.getD 2 undef) t33 λt34=>aD t34 (aF 1 t3 λt36=>aE false 1 t36 w6 λt37=>bU none 1 t37 (s3.getD 2 undef) λt39=>aE false 1 t39 w6 λt40=>aC .add (s5.getD 0 undef) t40 λt41=>J7 [t41] w6) (J7 [(s5.getD 0 undef)] w6)) λs7 _ w8=>aC .rem (s7.getD 0 undef) (.int .u64 1000000000) λt44=>bR 209 1 [(.int .u64 0)] [(0,1,t44)] w8 λt45 w9=>bP P0 (Builtin.append_ #[196,196] 196 #[(s3.getD 0 undef),t45]) w9 λt46 w10=>aC .quo (s7.getD 0 undef) (.int .u64 1000000000) λt48=>aC .add (s3.getD 2 undef) (i64 1) λt49=>L3 [t46,t48,t49] w10) (bR 209 1 [(.int .u64 0)] [(0,1,(s3.getD 1 undef))] w4 λt52 w11=>bP P0 (Builtin.append_ #[196,196] 196 #[(s3.getD 0 undef),t52]) w11 λt53 w12=>K t53 w12)
theorem Uv{K:Q0}(h:aCe v0 v1 w K):aA P0 224 [v0,v1] w K:=
 tie _ 224 Tryz.f224 QU _ w K 2 _ rfl mixed Tryz.func224 (by kernel_rfl) (by kernel_rfl) Tryz.call224 h
def XE:bC:={js:=[],ds:=[]}
def W94(v0 v1:Value)(w:World)(K:Q0):=aN 26 zL0 w λt4 w1=>aA P0 124 [v1,(.func (.func 125) #[] #[])] w1 λt11 w2=>aD t11 (bQ [(i64 0),(.bool false),(str []),sN,sN] [] λc3=>bF 5 t4 (.agg c3.toArray) w2 λw4=>aE true 5 t4 w4 λr5=>K (.tuple #[r5,(i64 1)]) w4) (aA P0 126 [] w2 λt14 w6=>jP P0 (Instr.lookup 164 t14 v0 true) w6 λt16=>bS 0 t16 λt17=>bS 1 t16 λt18=>aN 162 [(str []),(i64 0),.nilFunc] w6 λt6 w7=>bF 3 t6 t17 w7 λw8=>gU .not t18 λt20=>aD t20 (bQ [(i64 0),(.bool false),(str []),sN,sN] [] λc9=>bF 5 t4 (.agg c9.toArray) w8 λw10=>aE true 5 t4 w10 λr11=>K (.tuple #[r11,(i64 70)]) w10) (aA P0 124 [v1,(.func (.func 127) #[] #[])] w8 λt23 w12=>aD t23 (aA P0 97 [] w12 λt24 w13=>bF 5 t4 t24 w13 λw14=>aE true 5 t4 w14 λr15=>K (.tuple #[r15,(i64 0)]) w14) (aE true 3 t6 w12 λt25=>aA P0 128 [t25,v1] w12 λt27 w16=>gU .not t27 λt28=>aD t28 (bQ [(i64 0),(.bool false),(str []),sN,sN] [] λc17=>bF 5 t4 (.agg c17.toArray) w16 λw18=>aE true 5 t4 w18 λr19=>K (.tuple #[r19,(i64 71)]) w18) (aF 2 t6 λt31=>aE false 1 t31 w16 λt32=>kP P0 t32 [v1] w16 λt34 w20=>bS 0 t34 λt35=>bS 1 t34 λt36=>aN 26 zL0 w20 λt8 w21=>bF 5 t8 t35 w21 λw22=>gU .not t36 λt38=>aD t38 (bQ [(i64 0),(.bool false),(str []),sN,sN] [] λc23=>bF 5 t4 (.agg c23.toArray) w22 λw24=>aE true 5 t4 w24 λr25=>K (.tuple #[r25,(i64 71)]) w24) (aE true 5 t8 w22 λt40=>aA P0 61 [t40] w22 λt41 w26=>gU .not t41 λt42=>aD t42 (bQ [(i64 0),(.bool false),(str []),sN,sN] [] λc27=>bF 5 t4 (.agg c27.toArray) w26 λw28=>aE true 5 t4 w28 λr29=>K (.tuple #[r29,(i64 3)]) w28) (aE true 5 t8 w26 λt44=>bF 5 t4 t44 w26 λw30=>aE true 5 t4 w30 λr31=>K (.tuple #[r31,(i64 0)]) w30))))))
theorem ZB{K:Q0}(h:W94 v0 v1 w K):aA P0 94 [v0,v1] w K:=
 tie _ 94 Tryz.f94 XE _ w K 2 _ rfl mixed Tryz.func94 (by kernel_rfl) (by kernel_rfl) Tryz.call94 h
def RU:bC:={js:=[],ds:=[]}
def aCR(v0:Value)(w:World)(K:Q0):=cI 26 v0 w λt1 w1=>aE true 5 t1 w1 λt3=>aA P0 61 [t3] w1 λt4 w2=>gU .not t4 λt5=>K t5 w2
theorem Vo{K:Q0}(h:aCR v0 w K):aA P0 125 [v0] w K:=
 tie _ 125 Tryz.f125 RU _ w K 1 _ rfl mixed Tryz.func125 (by kernel_rfl) (by kernel_rfl) Tryz.call125 h
def RR:bC:={js:=[],ds:=[]}
def aCQ(w:World)(K:Q0):=bP P0 (Instr.makeMap 164 none) w λt1 w1=>bQ [(str []),(i64 0),.nilFunc] [(0,1,(str [110])),(1,1,(i64 0)),(2,1,(.func (.func 159) #[] #[]))] λc2=>jV P0 (Instr.mapUpdate 164 t1 (str [97,98,115]) (.agg c2.toArray)) w1 λw3=>bQ [(str []),(i64 0),.nilFunc] [(0,1,(str [108,46])),(1,1,(i64 0)),(2,1,(.func (.func 160) #[] #[]))] λc4=>jV P0 (Instr.mapUpdate 164 t1 (str [99,111,110,99,97,116]) (.agg c4.toArray)) w3 λw5=>bQ [(str []),(i64 0),.nilFunc] [(0,1,(str [108,118])),(1,1,(i64 0)),(2,1,(.func (.func 161) #[] #[]))] λc6=>jV P0 (Instr.mapUpdate 164 t1 (str [99,111,110,116,97,105,110,115]) (.agg c6.toArray)) w5 λw7=>bQ [(str []),(i64 0),.nilFunc] [(0,1,(str [115,108])),(1,1,(i64 0)),(2,1,(.func (.func 162) #[] #[]))] λc8=>jV P0 (Instr.mapUpdate 164 t1 (str [106,111,105,110]) (.agg c8.toArray)) w7 λw9=>bQ [(str []),(i64 0),.nilFunc] [(0,1,(str [111])),(1,1,(i64 0)),(2,1,(.func (.func 163) #[] #[]))] λc10=>jV P0 (Instr.mapUpdate 164 t1 (str [107,101,121,115]) (.agg c10.toArray)) w9 λw11=>bQ [(str []),(i64 0),.nilFunc] [(0,1,(str [118])),(1,1,(i64 0)),(2,1,(.func (.func 165) #[] #[]))] λc12=>jV P0 (Instr.mapUpdate 164 t1 (str [108,101,110,103,116,104]) (.agg c12.toArray)) w11 λw13=>bQ [(str []),(i64 0),.nilFunc] [(0,1,(str [111,115,118])),(1,1,(i64 0)),(2,1,(.func (.func 166) #[] #[]))] λc14=>jV P0 (Instr.mapUpdate 164 t1 (str [108,111,111,107,117,112]) (.agg c14.toArray)) w13 λw15=>bQ [(str []),(i64 0),.nilFunc] [(0,1,(str [115])),(1,1,(i64 0)),(2,1,(.func (.func 167) #[] #[]))] λc16=>jV P0 (Instr.mapUpdate 164 t1 (str [108,111,119,101,114]) (.agg c16.toArray)) w15 λw17=>bQ [(str []),(i64 0),.nilFunc] [(0,1,(str [110,46])),(1,1,(i64 1)),(2,1,(.func (.func 169) #[] #[]))] λc18=>jV P0 (Instr.mapUpdate 164 t1 (str [109,97,120]) (.agg c18.toArray)) w17 λw19=>bQ [(str []),(i64 0),.nilFunc] [(0,1,(str [111,46])),(1,1,(i64 0)),(2,1,(.func (.func 171) #[] #[]))] λc20=>jV P0 (Instr.mapUpdate 164 t1 (str [109,101,114,103,101]) (.agg c20.toArray)) w19 λw21=>bQ [(str []),(i64 0),.nilFunc] [(0,1,(str [110,46])),(1,1,(i64 1)),(2,1,(.func (.func 172) #[] #[]))] λc22=>jV P0 (Instr.mapUpdate 164 t1 (str [109,105,110]) (.agg c22.toArray)) w21 λw23=>bQ [(str []),(i64 0),.nilFunc] [(0,1,(str [110])),(1,1,(i64 0)),(2,1,(.func (.func 173) #[] #[]))] λc24=>jV P0 (Instr.mapUpdate 164 t1 (str [114,97,110,103,101]) (.agg c24.toArray)) w23 λw25=>bQ [(str []),(i64 0),.nilFunc] [(0,1,(str [118])),(1,1,(i64 0)),(2,1,(.func (.func 174) #[] #[]))] λc26=>jV P0 (Instr.mapUpdate 164 t1 (str [114,101,118,101,114,115,101]) (.agg c26.toArray)) w25 λw27=>bQ [(str []),(i64 0),.nilFunc] [(0,1,(str [115,115])),(1,1,(i64 0)),(2,1,(.func (.func 175) #[] #[]))] λc28=>jV P0 (Instr.mapUpdate 164 t1 (str [115,112,108,105,116]) (.agg c28.toArray)) w27 λw29=>bQ [(str []),(i64 0),.nilFunc] [(0,1,(str [115,110,110])),(1,1,(i64 0)),(2,1,(.func (.func 176) #[] #[]))] λc30=>jV P0 (Instr.mapUpdate 164 t1 (str [115,117,98,115,116,114]) (.agg c30.toArray)) w29 λw31=>bQ [(str []),(i64 0),.nilFunc] [(0,1,(str [118])),(1,1,(i64 0)),(2,1,(.func (.func 177) #[] #[]))] λc32=>jV P0 (Instr.mapUpdate 164 t1 (str [116,111,105,110,116]) (.agg c32.toArray)) w31 λw33=>bQ [(str []),(i64 0),.nilFunc] [(0,1,(str [118])),(1,1,(i64 0)),(2,1,(.func (.func 178) #[] #[]))] λc34=>jV P0 (Instr.mapUpdate 164 t1 (str [116,111,115,116,114,105,110,103]) (.agg c34.toArray)) w33 λw35=>bQ [(str []),(i64 0),.nilFunc] [(0,1,(str [115])),(1,1,(i64 0)),(2,1,(.func (.func 179) #[] #[]))] λc36=>jV P0 (Instr.mapUpdate 164 t1 (str [117,112,112,101,114]) (.agg c36.toArray)) w35 λw37=>bQ [(str []),(i64 0),.nilFunc] [(0,1,(str [111])),(1,1,(i64 0)),(2,1,(.func (.func 180) #[] #[]))] λc38=>jV P0 (Instr.mapUpdate 164 t1 (str [118,97,108,117,101,115]) (.agg c38.toArray)) w37 λw39=>K t1 w39
theorem Vn{K:Q0}(h:aCQ w K):aA P0 126 [] w K:=
 tie _ 126 Tryz.f126 RR _ w K 0 _ rfl mixed Tryz.func126 (by kernel_rfl) (by kernel_rfl) Tryz.call126 h
def RQ:bC:={js:=[],ds:=[]}
def aCP(v0:Value)(w:World)(K:Q0):=cI 26 v0 w λt1 w1=>aE true 5 t1 w1 λt3=>aA P0 96 [t3] w1 λt4 w2=>gU .not t4 λt5=>K t5 w2
theorem Vm{K:Q0}(h:aCP v0 w K):aA P0 127 [v0] w K:=
 tie _ 127 Tryz.f127 RQ _ w K 1 _ rfl mixed Tryz.func127 (by kernel_rfl) (by kernel_rfl) Tryz.call127 h
def RP:bC:={js:=[(36005,⟨[50],[],47⟩),(22,⟨[35],[4,7,8,9],35⟩),(12006,⟨[31],[],27⟩),(4,⟨[5],[],3⟩)],ds:=[]}
def aCO(v0 v1:Value)(w:World)(K:Q0):=cI 162 v0 w λt2 w1=>aF 0 t2 λt11=>aE false 1 t11 w1 λt12=>aA P0 182 [t12,(str [46])] w1 λt13 w2=>bS 0 t13 λt14=>bS 1 t13 λt15=>aP (λJ3=>aD t15 (bK v1 λt19=>aA P0 183 [t14,t19] w2 λt20 w4=>J3 [t20] w4) (J3 [t14] w2)) λs3 _ w5=>bK v1 λt22=>eQ (s3.getD 0 undef) λt24=>aC .neq t22 t24 λt25=>cX (eD t25 false) [undef] w5 (λJ6=>bK v1 λt28=>aF 1 t2 λt29=>aE false 1 t29 w5 λt30=>aC .lss t28 t30 λt31=>J6 [t31] w5) λs6 _ w7=>bG t25 (.bool true) (s6.getD 0 undef) λt32=>aD t32 (K (.bool false) w7) (bK v1 λt34=>bL [(i64 0)] w7 λs8 _ w9 L8=>aC .lss (s8.getD 0 undef) t34 λt36=>aD t36 (bU none 5 v1 (s8.getD 0 undef) λt38=>aE true 5 t38 w9 λt39=>aN 26 zL0 w9 λt8 w10=>bF 5 t8 t39 w10 λw11=>lJ (s3.getD 0 undef) (s8.getD 0 undef) λt42=>aA P0 184 [t42] w11 λt43 w12=>aC .geq t43 (i64 0) λt45=>cX (eD t45 true) [undef] w12 (λJ13=>aF 0 t8 λt47=>aE false 1 t47 w12 λt48=>aC .neq t48 t43 λt50=>J13 [t50] w12) λs13 _ w14=>bG t45 (s13.getD 0 undef) (.bool false) λt51=>aD t51 (K (.bool false) w14) (aC .add (s8.getD 0 undef) (i64 1) λt52=>L8 [t52] w14)) (K (.bool true) w9))
theorem Vl{K:Q0}(h:aCO v0 v1 w K):aA P0 128 [v0,v1] w K:=
 tie _ 128 Tryz.f128 RP _ w K 2 _ rfl mixed Tryz.func128 (by kernel_rfl) (by kernel_rfl) Tryz.call128 h
def Rs:bC:={js:=[(15,⟨[],[8,9],15⟩),(20005,⟨[26],[],23⟩),(8,⟨[14],[8,9],14⟩)],ds:=[]}
def aCx(v0 v1 v2:Value)(w:World)(K:Q0):=bP P0 (convert 9 89 v0) w λt11 w1=>bK t11 λt13=>bL [(i64 0)] w1 λs2 _ w3 L2=>aC .lss (s2.getD 0 undef) t13 λt15=>aD t15 (aP (λJ4=>bU none 1 t11 (s2.getD 0 undef) λt17=>aE false 1 t17 w3 λt18=>aC .geq t18 v1 λt21=>cX (eD t21 true) [undef] w3 (λJ5=>aC .add v1 (.int .u8 26) λt25=>aC .lss t18 t25 λt26=>J5 [t26] w3) λs5 _ w6=>bG t21 (s5.getD 0 undef) (.bool false) λt27=>aD t27 (aC .sub t18 v1 λt32=>aC .add t32 v2 λt34=>bU none 1 t11 (s2.getD 0 undef) λt35=>bF 1 t35 t34 w6 λw7=>J4 [] w7) (J4 [] w6)) λs4 _ w8=>aC .add (s2.getD 0 undef) (i64 1) λt36=>L2 [t36] w8) (jP P0 (convert 89 9 t11) w3 λt38=>K t38 w3)
theorem UP{K:Q0}(h:aCx v0 v1 v2 w K):aA P0 168 [v0,v1,v2] w K:=
 tie _ 168 Tryz.f168 Rs _ w K 3 _ rfl mixed Tryz.func168 (by kernel_rfl) (by kernel_rfl) Tryz.call168 h
def Rr:bC:={js:=[],ds:=[]}
def aCw(v0:Value)(w:World)(K:Q0):=aN 26 zL0 w λt2 w1=>bU none 5 v0 (i64 0) λt5=>aF 2 t5 λt6=>aE false 1 t6 w1 λt7=>aA P0 168 [t7,(.int .u8 97),(.int .u8 65)] w1 λt8 w2=>aA P0 87 [t8] w2 λt9 w3=>bF 5 t2 t9 w3 λw4=>aE true 5 t2 w4 λr5=>K (.tuple #[r5,(.bool true)]) w4
theorem UO{K:Q0}(h:aCw v0 w K):aA P0 179 [v0] w K:=
 tie _ 179 Tryz.f179 Rr _ w K 1 _ rfl mixed Tryz.func179 (by kernel_rfl) (by kernel_rfl) Tryz.call179 h
def Rq:bC:={js:=[],ds:=[]}
def aCv(v0:Value)(w:World)(K:Q0):=aC .eql v0 (.int .u8 110) λt5=>aD t5 (K (i64 3) w) (aC .eql v0 (.int .u8 115) λt7=>aD t7 (K (i64 4) w) (aC .eql v0 (.int .u8 108) λt9=>aD t9 (K (i64 5) w) (aC .eql v0 (.int .u8 111) λt11=>aD t11 (K (i64 6) w) (K (.int .i64 (-1)) w))))
theorem UN{K:Q0}(h:aCv v0 w K):aA P0 184 [v0] w K:=
 tie _ 184 Tryz.f184 Rq _ w K 1 _ rfl mixed Tryz.func184 (by kernel_rfl) (by kernel_rfl) Tryz.call184 h
def W3(v0 v1 v2:Value)(w:World)(K:Q0):=cI 26 v1 w λt4 w1=>aA P0 9 [] w1 λt16 w2=>gU .not t16 λt17=>aD t17 (K (.bool false) w2) (eQ v0 λt21=>SI t21 (i64 3000) λt22=>jG v0 none (some t22) λt23=>aA P0 10 [t23] w2 λt24 w3=>bS 0 t24 λt25=>bS 1 t24 λt26=>aN 32 [sN,sN,sN] w3 λt7 w4=>bF 3 t7 t25 w4 λw5=>tR .ptr true t26 (.pointer none) λt28=>cX (eD t28 false) [undef] w5 (λJ6=>aE true 5 t4 w5 λt30=>aA P0 11 [t30] w5 λt31 w7=>gU .not t31 λt32=>J6 [t32] w7) λs6 _ w8=>bG t28 (.bool true) (s6.getD 0 undef) λt33=>cX (eD t33 false) [undef] w8 (λJ9=>eQ v2 λt36=>aC .gtr t36 (i64 16384) λt37=>J9 [t37] w8) λs9 _ w10=>bG t33 (.bool true) (s9.getD 0 undef) λt38=>aD t38 (K (.bool true) w10) (aP (λJ11=>aE true 5 t4 w10.drew λt39=>(aA P0 13 [] w10.drew λt41 w12=>(aE true 5 t4 w12 λx=>x=t39)/\(aA P0 12 [t39,v2,t41] w12 λt42 w13=>aN 26 zL0 w13 λt9 w14=>bF 5 t9 t42 w14 λw15=>J11 [t9] w15)/\(aN 26 zL0 w12 λt9 w16=>(aE true 5 t4 w16 λx=>x=t39)/\aA P0 12 [t39,v2,t41] w16 λt42 w17=>bF 5 t9 t42 w17 λw18=>J11 [t9] w18))/\(aN 26 zL0 w10.drew λt9 w19=>(aE true 5 t4 w19 λx=>x=t39)/\aA P0 13 [] w19 λt41 w20=>(aE true 5 t4 w20 λx=>x=t39)/\aA P0 12 [t39,v2,t41] w20 λt42 w21=>bF 5 t9 t42 w21 λw22=>J11 [t9] w22)) λs11 _ w23=>bL [(i64 0)] w23 λs24 _ w25 L24=>aF 0 t7 λt44=>aE false 1 t44 w25 λt45=>bK t45 λt46=>aC .lss (s24.getD 0 undef) t46 λt47=>cX (eD t47 true) [undef] w25 (λJ26=>aC .lss (s24.getD 0 undef) (i64 60) λt50=>J26 [t50] w25) λs26 _ w27=>bG t47 (s26.getD 0 undef) (.bool false) λt51=>aD t51 (aP (λJ28=>aE true 3 t7 w27 λt55=>aE true 5 (s11.getD 0 undef) w27 λt57=>aA P0 14 [t55,(s24.getD 0 undef),t57] w27 λt58 w29=>bS 0 t58 λt59=>bS 1 t58 λt60=>aN 26 zL0 w29 λt11 w30=>bF 5 t11 t59 w30 λw31=>tR .ptr true t60 (.pointer none) λt62=>cX (eD t62 false) [undef] w31 (λJ32=>aE true 5 t11 w31 λt64=>aA P0 15 [t64] w31 λt65 w33=>gU .not t65 λt66=>J32 [t66] w33) λs32 _ w34=>bG t62 (.bool true) (s32.getD 0 undef) λt67=>aD t67 (J28 [] w34) (aE true 5 t4 w34 λt69=>aA P0 16 [t69,v2] w34 λt71 w35=>bS 0 t71 λt72=>bS 1 t71 λt73=>aN 26 zL0 w35 λt13 w36=>bF 5 t13 t72 w36 λw37=>gU .not t73 λt75=>aD t75 (J28 [] w37) (aE true 3 t7 w37 λt77=>aE true 5 t4 w37 λt79=>aA P0 14 [t77,(s24.getD 0 undef),t79] w37 λt80 w38=>bS 0 t80 λt81=>bS 1 t80 λt82=>aN 26 zL0 w38 λt15 w39=>bF 5 t15 t81 w39 λw40=>tR .ptr false t82 (.pointer none) λt84=>cX (eD t84 true) [undef] w40 (λJ41=>aE true 5 t11 w40 λt86=>aE true 5 t15 w40 λt87=>aA P0 17 [t86,t87] w40 λt88 w42=>gU .not t88 λt89=>J41 [t89] w42) λs41 _ w43=>bG t84 (s41.getD 0 undef) (.bool false) λt90=>aD t90 (K (.bool false) w43) (J28 [] w43)))) λs28 _ w44=>aC .add (s24.getD 0 undef) (i64 1) λt53=>L24 [t53] w44) (K (.bool true) w27)))
def aBi:bC:={js:=[(16,⟨[7],[],7⟩)],ds:=[(25,⟨[0,1,2,5,6,7,8,9,10,11,12],[[],[],[],[2],[0,1,2,3],[0,1,2,3,4],[0,1,2,3,4,5],[0,1,2,3,4,5,6],[0,1,2,3,4,5,6,7],[0,1,2,3,4,5,6,7,8],[0,1,2,3,4,5,6,7,8,9],[0,1,2,3,4,5,6,7,8,9,10],[0,1,2,3,4,5,6,7,8,9,10,11]]⟩)]}
def W7(v0 v1:Value)(w:World)(K:Q0):=aA P0 9 [] w λt11 w1=>gU .not t11 λt12=>aD t12 (K (.bool false) w1) (bQ [(i64 0),(.bool false),(str []),sN,sN] [(0,1,(i64 6))] λc2=>aA P0 18 [v0] w1 λt15 w3=>aA P0 12 [(.agg c2.toArray),(str [110]),t15] w3 λt16 w4=>aA P0 19 [v1] w4 λt18 w5=>aA P0 12 [t16,(str [121]),t18] w5 λt19 w6=>aN 26 zL0 w6 λt5 w7=>bF 5 t5 t19 w7 λw8=>bQ [(str []),(str []),(str []),(str []),(str [])] [(0,1,(str [49,32,47,32,48])),(1,1,(str [110,111,112,101])),(2,1,(str [91,93,91,48,93])),(3,1,(str [117,112,112,101,114,40,49,41])),(4,1,(str [123,125,46,97]))] λc9=>oO .u64 v0 λt22=>aC .rem t22 (.int .u64 5) λt23=>oO .i64 t23 λt24=>SS 5 false 1 (.agg c9.toArray) t24 λt25=>aC .add (str [121,32,63,32,110,32,58,32]) t25 λt27=>aP (λJ10=>gU .not v1 λt29=>aD t29 (aC .add (str [121,32,63,32]) t25 λt31=>aC .add t31 (str [32,58,32,110]) λt32=>J10 [t32] w8) (J10 [t27] w8)) λs10 _ w11=>aC .add (str [121,32,124,124,32]) t25 λt35=>aE true 5 t5 w11 λt36=>aA P0 21 [t35,t36] w11 λt37 w12=>bS 0 t37 λt38=>bS 1 t37 λt39=>bS 2 t37 λt40=>aN 26 zL0 w12 λt8 w13=>bF 5 t8 t38 w13 λw14=>aE true 5 t5 w14.drew λt42=>aA P0 18 [v0] w14.drew λt44 w15=>(aE true 5 t5 w15 λx=>x=t42)/\aA P0 20 [(s10.getD 0 undef),t42,t44] w15 λt45 w16=>Cd (eD t45 true) (λk17=>k17 t40) λt47=>bG t45 t47 (.bool false) λt48=>Cd (eD t48 true) (λk18=>k18 t39) λt50=>Cd (eD t48 true) (λk19=>tR .ptr true t50 (.pointer none) k19) λt51=>bG t48 t51 (.bool false) λt52=>K t52 w16)
theorem aBU{K:Q0}(h:W7 v0 v1 w K):aA P0 7 [v0,v1] w K:=
 tie _ 7 Tryz.f7 aBi _ w K 2 _ rfl mixed Tryz.func7 (by kernel_rfl) (by kernel_rfl) Tryz.call7 h
def aBh:bC:={js:=[],ds:=[(7,⟨[0,3,4,7,8,9,10,11,12,14,15],[[],[],[0,1],[0,1,2],[0,1,2,3],[0,1,2,3],[0,1,2,3,4,5],[0,1,2,3,4,5,6],[0,1,2,3,4,5,6,7],[0,1,2,3,4,5,6,7,8],[0,1,2,3,4,5,6,7,8,9],[0,1,2,3,4,5,6,7,8,9,10],[0,1,2,3,4,5,6,7,8,9,10,11],[0,1,2,3,4,5,6,7,8,9,10,11,12],[0,1,2,3,4,5,6,7,8,9,10,11,12,13],[0,1,2,3,4,5,6,7,8,9,10,11,12,13,14]]⟩)]}
def W9(w:World)(K:Q0):=bQ [(i64 0),(.bool false),(str []),sN,sN] [(0,1,(i64 6))] λc1=>aN 26 zL0 w λt1 w2=>bF 5 t1 (.agg c1.toArray) w2 λw3=>aE true 5 t1 w3 λt7=>aA P0 21 [(str [49,32,47,32,48]),t7] w3 λt8 w4=>bS 0 t8 λt9=>bS 1 t8 λt10=>bS 2 t8 λt11=>aN 26 zL0 w4 λt2 w5=>bF 5 t2 t9 w5 λw6=>aE true 5 t1 w6.drew λt12=>aA P0 18 [(i64 7)] w6.drew λt13 w7=>(aE true 5 t1 w7 λx=>x=t12)/\aA P0 20 [(str [49,32,43,32,50,32,42,32,51]),t12,t13] w7 λt14 w8=>Cd (eD t14 true) (λk9=>aE true 5 t1 w8 k9) λt16=>GeW (eD t14 true) w8 (λk10=>aA P0 24 [(str [97,49,116,114,117,101])] w8 k10) λt17 w11=>((eD t14 true)=true->aE true 5 t1 w11 λx=>x=t16)/\GeW (eD t14 true) w11 (λk12=>aA P0 20 [(str [34,97,36,123,49,125,36,123,116,114,117,101,125,34]),t16,t17] w11 k12) λt18 w13=>bG t14 t18 (.bool false) λt19=>Cd (eD t19 true) (λk14=>k14 t11) λt21=>bG t19 t21 (.bool false) λt22=>Cd (eD t22 true) (λk15=>k15 t10) λt24=>GeW (eD t22 true) w13 (λk16=>aA P0 25 [t24,(i64 10),(i64 12)] w13 k16) λt25 w17=>bG t22 t25 (.bool false) λt26=>K t26 w17
theorem aBT{K:Q0}(h:W9 w K):aA P0 9 [] w K:=
 tie _ 9 Tryz.f9 aBh _ w K 0 _ rfl mixed Tryz.func9 (by kernel_rfl) (by kernel_rfl) Tryz.call9 h
def II:bC:={js:=[(10,⟨[19],[9,10],19⟩)],ds:=[(21,⟨[0,1,2,3,4,5,6,7,8,9],[[],[0],[0,1],[0,1,2],[],[],[5],[],[5,6,7],[5,6,7,8],[0,1,2,3,4,5,6,7,8,9]]⟩)]}
def W14(v0 v1 v2:Value)(w:World)(K:Q0):=
 cI 32 v0 w λt3 w1=>
 cI 26 v2 w1 λt5 w2=>
 aN 26 zL0 w2 λt6 w3=>
 aN 33 [(.pointer none)] w3 λt7 w4=>
 letI:HX:=⟨λch x5=>sU P0 34 [t6,t7] (.panicking ch) x5 λw5=>
 aE true 5 t6 w5 λr6=>
 aE false 1 t7 w5 λr7=>
 K (.tuple #[r6,r7]) w5⟩
 aE true 3 t3 w4 λt12=>
 bP P0 (Instr.makeMap 79 none) w4 λt13 w8=>
 bQ [sN,sN,sN,(.map none),(i64 0)] [(0,3,t12),(3,1,t13),(4,1,(i64 20000))] λc9=>
 cI 81 (.agg c9.toArray) w8 λt15 w10=>
 aF 4 t5 λt16=>
 aE false 1 t16 w10 λt17=>
 bK t17 λt18=>
 bL [(i64 0)] w10 λs11 _ w12 L11=>
 aC .lss (s11.getD 0 undef) t18 λt20=>
 aD t20 (
 bU none 1 t17 (s11.getD 0 undef) λt22=>
 aE false 1 t22 w12 λt23=>
 bW t15 λt25=>
 aF 3 t25 λt26=>
 aE false 1 t26 w12.drew λt27=>
 aF 3 t5 λt29=>
 aE false 1 t29 w12.drew λt30=>
 bU none 5 t30 (s11.getD 0 undef) λt32=>
 aE true 5 t32 w12.drew λt33=>
 jV P0 (Instr.mapUpdate 79 t27 t23 t33) w12.drew λw13=>
 aC .add (s11.getD 0 undef) (i64 1) λt34=>
 L11 [t34] w13) (
 aA P0 35 [t15,v1] w12 λt37 w14=>
 bF 5 t6 t37 w14 λw15=>
 bF 1 t7 (.pointer none) w15 λw16=>
 sU P0 34 [t6,t7] .returning w16 λw17=>
 aE true 5 t6 w17 λr18=>
 aE false 1 t7 w17 λr19=>
 K (.tuple #[r18,r19]) w17)
theorem aAJ(v0 v1 v2:Value)(w:World)(K:Q0):OR P0 Tryz.f14 II 1 [v0,v1,v2] w (Cp K)=W14 v0 v1 v2 w K:=by kernel_rfl
theorem UZ:xO P0 Tryz.f14 II 8 34 1 3=true:=by kernel_rfl
theorem aAI{K:Q0}(h:W14 v0 v1 v2 w K):aA P0 14 [v0,v1,v2] w K:=
 aA6 P0 14 Tryz.f14 II [v0,v1,v2] w K 8 34 1 3 (W14 v0 v1 v2 w K) rfl mixed Tryz.func14 UZ (aAJ v0 v1 v2 w K) Tryz.call14 Tryz.call34 h
def YH:bC:={js:=[(5005,⟨[25],[],23⟩),(5009,⟨[20],[],19⟩)],ds:=[]}
def W20(v0 v1 v2:Value)(w:World)(K:Q0):=cI 26 v1 w λt4 w1=>cI 26 v2 w1 λt5 w2=>aE true 5 t4 w2 λt12=>aA P0 21 [v0,t12] w2 λt13 w3=>bS 0 t13 λt14=>bS 1 t13 λt15=>bS 2 t13 λt16=>aN 26 zL0 w3 λt7 w4=>bF 5 t7 t14 w4 λw5=>cX (eD t16 true) [undef] w5 (λJ6=>tR .ptr false t15 (.pointer none) λt20=>J6 [t20] w5) λs6 _ w7=>bG t16 (s6.getD 0 undef) (.bool false) λt21=>cX (eD t21 true) [undef] w7 (λJ8=>aE true 5 t7 w7 λt23=>aE true 5 t5 w7 λt24=>aA P0 17 [t23,t24] w7 λt25 w9=>J8 [t25] w9) λs8 _ w10=>bG t21 (s8.getD 0 undef) (.bool false) λt26=>K t26 w10
theorem aAE{K:Q0}(h:W20 v0 v1 v2 w K):aA P0 20 [v0,v1,v2] w K:=
 tie _ 20 Tryz.f20 YH _ w K 3 _ rfl mixed Tryz.func20 (by kernel_rfl) (by kernel_rfl) Tryz.call20 h
def YG:bC:={js:=[(12,⟨[8,9],[],5⟩),(6008,⟨[32],[],26⟩),(6014,⟨[23],[],20⟩)],ds:=[(13,⟨[0,1,2,3,4,5,6,7,8,9,11,12,13,16],[[],[],[1],[1,2],[1,2,3],[1,2,3,4],[1,2,3,4,5],[1,2,3,4,5,6],[1,2,3,4,5,6,7],[],[0,1,2,3,4,5,6,7,8,9],[0,1,2,3,4,5,6,7,8,9,10],[0,1,2,3,4,5,6,7,8,9,10,11],[0,1,2,3,4,5,6,7,8,9,10,11],[],[0,1,2,3,4,5,6,7,8,9,10,11,12,14],[0,1,2,3,4,5,6,7,8,9,10,11,12,13,14,15]]⟩)]}
def W21(v0 v1:Value)(w:World)(K:Q0):=cI 26 v1 w λt3 w1=>aN 26 zL0 w1 λt4 w2=>aC .add (str [97,32,123,10,32,32,120,32,61,32]) v0 λt12=>aC .add t12 (str [10,125]) λt13=>aA P0 10 [t13] w2 λt14 w3=>bS 0 t14 λt15=>bS 1 t14 λt16=>aN 32 [sN,sN,sN] w3 λt7 w4=>bF 3 t7 t15 w4 λw5=>tR .ptr true t16 (.pointer none) λt18=>cX (eD t18 false) [undef] w5 (λJ6=>aF 1 t7 λt20=>aE false 1 t20 w5 λt21=>bK t21 λt22=>aC .neq t22 (i64 1) λt23=>J6 [t23] w5) λs6 _ w7=>bG t18 (.bool true) (s6.getD 0 undef) λt24=>cX (eD t24 false) [undef] w7 (λJ8=>aF 1 t7 λt26=>aE false 1 t26 w7 λt27=>bU none 5 t27 (i64 0) λt28=>aF 2 t28 λt29=>aE false 1 t29 w7 λt30=>bK t30 λt31=>aC .neq t31 (i64 1) λt32=>J8 [t32] w7) λs8 _ w9=>bG t24 (.bool true) (s8.getD 0 undef) λt33=>aD t33 (bQ [(i64 0),(.bool false),(str []),sN,sN] [] λc10=>bF 5 t4 (.agg c10.toArray) w9 λw11=>aE true 5 t4 w11 λr12=>K (.tuple #[r12,(.pointer none),(.bool false)]) w11) (aP (λJ13=>aE true 3 t7 w9.drew λt36=>aF 1 t7 λt37=>aE false 1 t37 w9.drew λt38=>bU none 5 t38 (i64 0) λt39=>aF 2 t39 λt40=>aE false 1 t40 w9.drew λt41=>bU none 3 t41 (i64 0) λt42=>aF 1 t42 λt43=>aE false 1 t43 w9.drew λt44=>aE true 5 t3 w9.drew λt45=>(aA P0 14 [t36,t44,t45] w9.drew λt46 w14=>bS 0 t46 λt47=>bS 1 t46 λt48=>aN 26 zL0 w14 λt9 w15=>bF 5 t9 t47 w15 λw16=>J13 [t48,t9] w16)/\(aN 26 zL0 w9.drew λt9 w17=>(aE true 5 t3 w17 λx=>x=t45)/\(aE false 1 t43 w17 λx=>x=t44)/\(aE false 1 t40 w17 λx=>x=t41)/\(aE false 1 t37 w17 λx=>x=t38)/\(aE true 3 t7 w17 λx=>x=t36)/\aA P0 14 [t36,t44,t45] w17 λt46 w18=>bS 0 t46 λt47=>bS 1 t46 λt48=>bF 5 t9 t47 w18 λw19=>J13 [t48,t9] w19)) λs13 _ w20=>aE true 5 (s13.getD 1 undef) w20 λt49=>bF 5 t4 t49 w20 λw21=>aE true 5 t4 w21 λr22=>K (.tuple #[r22,(s13.getD 0 undef),(.bool true)]) w21)
theorem aAD{K:Q0}(h:W21 v0 v1 w K):aA P0 21 [v0,v1] w K:=
 tie _ 21 Tryz.f21 YG _ w K 2 _ rfl mixed Tryz.func21 (by kernel_rfl) (by kernel_rfl) Tryz.call21 h
def Nz:bC:={js:=[],ds:=[(5,⟨[0,1,2],[[],[],[1],[0],[0,1,2,3]]⟩)]}
def R34(v0 v1:Value)(x:Value)(w:World)(K:World->Prop):Prop:=
 letI:HX:=noX
 FK P0 .neq 20 false true x .nilIface w λt5=>
 aD t5 (
 bQ [(i64 0),(.bool false),(str []),sN,sN] [] λc1=>
 jP P0 (Instr.typeAssert x 20 33 false) w.drew λt8=>
 bF 5 v0 (.agg c1.toArray) w.drew λw2=>
 (jP P0 (Instr.typeAssert x 20 33 false) w2 λx=>x=t8)/\
 bF 1 v1 t8 w2 λw3=>
 K w3) (
 K w)
theorem aAO(v0 v1:Value)(x:Value)(w:World)(K:World->Prop):To P0 Tryz.f34 Nz [v0,v1] x w K=R34 v0 v1 x w K:=by kernel_rfl
theorem VJ:AB P0 Tryz.f34 Nz 2=true:=by kernel_rfl
theorem PF{v0 v1:Value}{x:Value}{u:FrameMode}{K:World->Prop}(hu:Finds u x)(h:R34 v0 v1 x w K):sU P0 34 [v0,v1] u w K:=
 BG (args:=[v0,v1]) mixed Tryz.func34 VJ hu (by rw[aAO];exact h)
def Yw:bC:={js:=[(46,⟨[],[],7⟩),(14,⟨[],[],7⟩),(32,⟨[7,38],[7,9],38⟩),(4,⟨[],[],6⟩)],ds:=[]}
def W35(v0 v1:Value)(w:World)(K:Q0):=aN 26 zL0 w λt4 w1=>bW v0 λt11=>aF 0 t11 λt12=>aF 0 t12 λt13=>aE false 1 t13 w1 λt14=>bU none 5 t14 v1 λt16=>aE true 5 t16 w1 λt17=>aN 93 zL4 w1 λt5 w2=>bF 5 t5 t17 w2 λw3=>aP (λJ4=>bW v0 λt19=>aF 4 t19 λt20=>aE false 1 t20 w3 λt21=>aC .eql t21 (i64 0) λt22=>aD t22 (aF 4 t5 λt23=>aE false 1 t23 w3 λt24=>aA P0 57 [(i64 3),t24] w3 λt25 w5=>J4 [] w5) (J4 [] w3)) λs4 _ w6=>bW v0 λt27=>aF 4 t27 λt28=>aE false 1 t28 w6 λt29=>aC .sub t29 (i64 1) λt30=>bW v0 λt31=>aF 4 t31 λt32=>bF 1 t32 t30 w6 λw7=>aN 26 zL0 w7 λt6 w8=>aP (λJ9=>aF 0 t5 λt33=>aE false 1 t33 w8 λt34=>aC .eql t34 (i64 28) λt54=>aD t54 (aE true 5 t5 w8 λt56=>aA P0 58 [v0,t56] w8 λt57 w10=>bF 5 t6 t57 w10 λw11=>J9 [] w11) (aC .eql t34 (i64 29) λt59=>aD t59 (aE true 5 t5 w8 λt61=>aA P0 59 [v0,t61] w8 λt62 w12=>bF 5 t6 t62 w12 λw13=>J9 [] w13) (aF 2 t5 λt35=>aE false 1 t35 w8 λt36=>bK t36 λt37=>bL [sN,(i64 0)] w8 λs14 _ w15 L14=>aC .lss (s14.getD 1 undef) t37 λt39=>aD t39 (bU none 1 t36 (s14.getD 1 undef) λt40=>aE false 1 t40 w15 λt41=>aA P0 35 [v0,t41] w15 λt45 w16=>bR 26 1 [(i64 0),(.bool false),(str []),sN,sN] [(0,5,t45)] w16 λt46 w17=>bP P0 (Builtin.append_ #[23,23] 23 #[(s14.getD 0 undef),t46]) w17 λt47 w18=>aC .add (s14.getD 1 undef) (i64 1) λt48=>L14 [t47,t48] w18) (aE true 5 t5 w15 λt50=>aA P0 60 [v0,t50,(s14.getD 0 undef)] w15 λt52 w19=>bF 5 t6 t52 w19 λw20=>J9 [] w20)))) λs9 _ w21=>aP (λJ22=>aE true 5 t6 w21 λt63=>aA P0 61 [t63] w21 λt64 w23=>gU .not t64 λt65=>aD t65 (aF 4 t5 λt66=>aE false 1 t66 w23 λt67=>aA P0 57 [(i64 3),t67] w23 λt68 w24=>J22 [] w24) (J22 [] w23)) λs22 _ w25=>aE true 5 t6 w25 λt69=>bF 5 t4 t69 w25 λw26=>aE true 5 t4 w26 λr27=>K r27 w26
theorem aAt{K:Q0}(h:W35 v0 v1 w K):aA P0 35 [v0,v1] w K:=
 tie _ 35 Tryz.f35 Yw _ w K 2 _ rfl mixed Tryz.func35 (by kernel_rfl) (by kernel_rfl) Tryz.call35 h
def Yj:bC:={js:=[],ds:=[]}
def W57(v0 v1:Value)(w:World)(K:Q0):=bQ [(i64 0),(str []),(i64 0)] [(0,1,v0),(2,1,v1)] λc1=>cI 53 (.agg c1.toArray) w λt7 w2=>Lw (.iface 33 t7) w2
theorem aAg{K:Q0}(h:W57 v0 v1 w K):aA P0 57 [v0,v1] w K:=
 tie _ 57 Tryz.f57 Yj _ w K 2 _ rfl mixed Tryz.func57 (by kernel_rfl) (by kernel_rfl) Tryz.call57 h
def Yi:bC:={js:=[(4,⟨[],[],5⟩)],ds:=[]}
def W58(v0 v1:Value)(w:World)(K:Q0):=cI 93 v1 w λt3 w1=>aN 26 zL0 w1 λt4 w2=>aF 2 t3 λt7=>aE false 1 t7 w2 λt8=>bU none 1 t8 (i64 0) λt9=>aE false 1 t9 w2 λt10=>aA P0 35 [v0,t10] w2 λt11 w3=>aN 26 zL0 w3 λt5 w4=>bF 5 t5 t11 w4 λw5=>aP (λJ6=>aE true 5 t5 w5 λt13=>aA P0 84 [t13] w5 λt14 w7=>aD t14 (aE true 5 t5 w7 λt15=>bF 5 t4 t15 w7 λw8=>aE true 5 t4 w8 λr9=>K r9 w8) (aF 0 t5 λt17=>aE false 1 t17 w7 λt18=>aC .neq t18 (i64 2) λt19=>aD t19 (aF 4 t3 λt20=>aE false 1 t20 w7 λt21=>aA P0 57 [(i64 81),t21] w7 λt22 w10=>J6 [] w10) (aF 1 t5 λt24=>aE false 1 t24 w7 λt25=>aD t25 (aF 2 t3 λt27=>aE false 1 t27 w7 λt28=>bU none 1 t28 (i64 1) λt29=>aE false 1 t29 w7 λt30=>aA P0 35 [v0,t30] w7 λt31 w11=>bF 5 t4 t31 w11 λw12=>aE true 5 t4 w12 λr13=>K r13 w12) (J6 [] w7)))) λs6 _ w14=>aF 2 t3 λt33=>aE false 1 t33 w14 λt34=>bU none 1 t34 (i64 2) λt35=>aE false 1 t35 w14 λt36=>aA P0 35 [v0,t36] w14 λt37 w15=>bF 5 t4 t37 w15 λw16=>aE true 5 t4 w16 λr17=>K r17 w16
theorem aAf{K:Q0}(h:W58 v0 v1 w K):aA P0 58 [v0,v1] w K:=
 tie _ 58 Tryz.f58 Yi _ w K 2 _ rfl mixed Tryz.func58 (by kernel_rfl) (by kernel_rfl) Tryz.call58 h
def Yh:bC:={js:=[(40,⟨[],[],9⟩),(25,⟨[42],[10],42⟩),(4,⟨[],[],6⟩)],ds:=[(46,⟨[0,1,2,3,4,5,6],[[],[0],[0,1],[0,1,2],[],[4],[],[0,1,2,3,4,5,6]]⟩),(42,⟨[0,1,2,3,4,5],[[],[0],[0,1],[0,1,2],[],[4],[0,1,2,3,4,5]]⟩),(38,⟨[0,1,2,3,4,5,6,10],[[],[0],[],[],[3],[3,4],[3,4,5],[2,3,4,5,6],[2,3,4,5,6,7],[0,1,2,3,4,5,6,7,8],[0,1,2,3,4,5,6,7,8,9],[0,1,2,3,4,5,6,7,8,9,10]]⟩),(37,⟨[0,1,2,3,4,5,6],[[],[0],[0,1],[0,1,2],[],[4],[],[0,1,2,3,4,5,6]]⟩),(18,⟨[0,1,2,3,4,5,6,7,8,9,12],[[],[0],[0,1],[0,1,2],[],[4],[0,1,2,3,4,5],[0,1,2,3,4,5,6],[0,1,2,3,4,5,6,7],[0,1,2,3,4,5,6,7],[],[0,1,2,3,4,5,6,7,8,10],[0,1,2,3,4,5,6,7,8,9,10,11]]⟩)]}
def W59(v0 v1:Value)(w:World)(K:Q0):=cI 93 v1 w λt3 w1=>aN 26 zL0 w1 λt4 w2=>aF 2 t3 λt12=>aE false 1 t12 w2 λt13=>bU none 1 t13 (i64 0) λt14=>aE false 1 t14 w2 λt15=>aA P0 35 [v0,t15] w2 λt16 w3=>aN 26 zL0 w3 λt5 w4=>bF 5 t5 t16 w4 λw5=>aP (λJ6=>aE true 5 t5 w5 λt18=>aA P0 84 [t18] w5 λt19 w7=>aD t19 (aE true 5 t5 w7 λt20=>bF 5 t4 t20 w7 λw8=>aE true 5 t4 w8 λr9=>K r9 w8) (aF 0 t5 λt22=>aE false 1 t22 w7 λt23=>aC .neq t23 (i64 5) λt24=>aD t24 (aF 4 t3 λt25=>aE false 1 t25 w7 λt26=>aA P0 57 [(i64 81),t26] w7 λt27 w10=>J6 [] w10) (J6 [] w7))) λs6 _ w11=>bW v0 λt30=>aF 3 t30 λt31=>aE false 1 t31 w11.drew λt32=>aF 1 t3 λt33=>aE false 1 t33 w11.drew λt34=>jP P0 (Instr.lookup 79 t32 t34 true) w11.drew λt35=>bS 0 t35 λt36=>bS 1 t35 λt37=>aN 26 zL0 w11.drew λt6 w12=>(jP P0 (Instr.lookup 79 t32 t34 true) w12 λx=>x=t35)/\(aE false 1 t33 w12 λx=>x=t34)/\(aE false 1 t31 w12 λx=>x=t32)/\bF 5 t6 t36 w12 λw13=>bQ [(i64 0),(.bool false),(str []),sN,sN] [(0,1,(i64 5))] λc14=>aN 26 zL0 w13 λt8 w15=>bF 5 t8 (.agg c14.toArray) w15 λw16=>aF 3 t5 λt39=>aE false 1 t39 w16 λt40=>bK t40 λt41=>bL [(i64 0)] w16 λs17 _ w18 L17=>aC .lss (s17.getD 0 undef) t41 λt43=>aD t43 (bU none 5 t40 (s17.getD 0 undef) λt44=>aE true 5 t44 w18 λt45=>aN 26 zL0 w18 λt10 w19=>bF 5 t10 t45 w19 λw20=>bW v0 λt47=>aF 3 t47 λt48=>aE false 1 t48 w20.drew λt49=>aF 1 t3 λt50=>aE false 1 t50 w20.drew λt51=>aE true 5 t10 w20.drew λt52=>jV P0 (Instr.mapUpdate 79 t49 t51 t52) w20.drew λw21=>aF 3 t8 λt53=>aE false 1 t53 w21.drew λt54=>aF 2 t3 λt56=>aE false 1 t56 w21.drew λt57=>bU none 1 t57 (i64 1) λt58=>aE false 1 t58 w21.drew λt59=>aA P0 35 [v0,t59] w21.drew λt60 w22=>(aE false 1 t53 w22 λx=>x=t54)/\bR 26 1 [(i64 0),(.bool false),(str []),sN,sN] [(0,5,t60)] w22 λt61 w23=>(aE false 1 t53 w23 λx=>x=t54)/\bP P0 (Builtin.append_ #[23,23] 23 #[t54,t61]) w23 λt62 w24=>aF 3 t8 λt63=>bF 1 t63 t62 w24 λw25=>aC .add (s17.getD 0 undef) (i64 1) λt64=>L17 [t64] w25) (aP (λJ26=>bW v0 λt66=>aF 3 t66 λt67=>aE false 1 t67 w18.drew λt68=>aF 1 t3 λt69=>aE false 1 t69 w18.drew λt70=>bP P0 (Builtin.delete_ #[79,9] 0 #[t68,t70]) w18.drew λ_ w27=>aD t37 (bW v0 λt73=>aF 3 t73 λt74=>aE false 1 t74 w27.drew λt75=>aF 1 t3 λt76=>aE false 1 t76 w27.drew λt77=>aE true 5 t6 w27.drew λt78=>jV P0 (Instr.mapUpdate 79 t75 t77 t78) w27.drew λw28=>J26 [] w28) (J26 [] w27)) λs26 _ w29=>aE true 5 t8 w29 λt79=>bF 5 t4 t79 w29 λw30=>aE true 5 t4 w30 λr31=>K r31 w30)
theorem aAe{K:Q0}(h:W59 v0 v1 w K):aA P0 59 [v0,v1] w K:=
 tie _ 59 Tryz.f59 Yh _ w K 2 _ rfl mixed Tryz.func59 (by kernel_rfl) (by kernel_rfl) Tryz.call59 h
def Yg:bC:={js:=[(128,⟨[150],[],7⟩),(119006,⟨[135],[],131⟩),(110,⟨[122],[],15⟩),(100,⟨[114],[],15⟩),(91,⟨[],[],12⟩),(39,⟨[],[],8⟩),(12,⟨[18],[],15⟩)],ds:=[(140,⟨[0,1,2,3,4,5,6],[[],[],[1],[1,2],[],[4],[4,5],[0,1,2,3,4,5,6],[0,1,2,3,4,5,6,7]]⟩),(136,⟨[0,1,2,3,4,5,6],[[],[],[1],[1,2],[],[4],[4,5],[0,1,2,3,4,5,6],[0,1,2,3,4,5,6,7]]⟩),(126,⟨[0,1,2,3,4,5,7,8,9,10],[[],[0],[0,1],[],[3],[3,4],[0,1,2,3,4,5],[],[7],[7,8],[0,1,2,3,4,5,6,7,8,9],[0,1,2,3,4,5,6,7,8,9,10],[0,1,2,3,4,5,6,7,8,9,10,11]]⟩),(108,⟨[0,1,2,3],[[],[],[1],[1,2],[0,1,2,3],[0,1,2,3,4]]⟩),(84,⟨[0,1,2,3,4,5,6],[[],[],[1],[1,2],[],[4],[4,5],[0,1,2,3,4,5,6],[0,1,2,3,4,5,6,7]]⟩),(78,⟨[0,1,2,3],[[],[],[1],[1,2],[0,1,2,3],[0,1,2,3,4]]⟩),(72,⟨[0,1,2,3],[[],[],[1],[1,2],[0,1,2,3],[0,1,2,3,4]]⟩),(38,⟨[0,1,2,3,4,5,6,7,8,9,12],[[],[0],[0,1],[0,1,2],[],[4],[0,1,2,3,4,5],[0,1,2,3,4,5,6],[0,1,2,3,4,5,6,7],[0,1,2,3,4,5,6,7],[],[0,1,2,3,4,5,6,7,8,10],[0,1,2,3,4,5,6,7,8,9,10,11]]⟩)]}
def W60(v0 v1 v2:Value)(w:World)(K:Q0):=cI 93 v1 w λt4 w1=>aN 26 zL0 w1 λt6 w2=>aF 0 t4 λt13=>aE false 1 t13 w2 λt14=>aC .eql t14 (i64 1) λt16=>aD t16 (aA P0 85 [] w2 λt17 w3=>bF 5 t6 t17 w3 λw4=>aE true 5 t6 w4 λr5=>K r5 w4) (aP (λJ6=>aC .eql t14 (i64 2) λt19=>aD t19 (J6 [t19] w2) (aC .eql t14 (i64 3) λt20=>J6 [t20] w2)) λs6 _ w7=>aD (s6.getD 0 undef) (aF 0 t4 λt21=>aE false 1 t21 w7 λt22=>aC .eql t22 (i64 2) λt23=>aA P0 86 [t23] w7 λt24 w8=>bF 5 t6 t24 w8 λw9=>aE true 5 t6 w9 λr10=>K r10 w9) (aC .eql t14 (i64 4) λt26=>aD t26 (aF 1 t4 λt27=>aE false 1 t27 w7 λt28=>bQ [(i64 0),(.bool false),(str []),sN,sN] [(0,1,(i64 3)),(2,1,t28)] λc11=>bF 5 t6 (.agg c11.toArray) w7 λw12=>aE true 5 t6 w12 λr13=>K r13 w12) (aC .eql t14 (i64 5) λt31=>aD t31 (aF 1 t4 λt32=>aE false 1 t32 w7 λt33=>aA P0 87 [t33] w7 λt34 w14=>bF 5 t6 t34 w14 λw15=>aE true 5 t6 w15 λr16=>K r16 w15) (aC .eql t14 (i64 9) λt36=>aD t36 (bW v0 λt39=>aF 3 t39 λt40=>aE false 1 t40 w7.drew λt41=>aF 1 t4 λt42=>aE false 1 t42 w7.drew λt43=>jP P0 (Instr.lookup 79 t41 t43 true) w7.drew λt44=>bS 0 t44 λt45=>bS 1 t44 λt46=>aN 26 zL0 w7.drew λt7 w17=>(jP P0 (Instr.lookup 79 t41 t43 true) w17 λx=>x=t44)/\(aE false 1 t42 w17 λx=>x=t43)/\(aE false 1 t40 w17 λx=>x=t41)/\bF 5 t7 t45 w17 λw18=>aP (λJ19=>gU .not t46 λt48=>aD t48 (aF 4 t4 λt49=>aE false 1 t49 w18 λt50=>aA P0 57 [(i64 80),t50] w18 λt51 w20=>J19 [] w20) (J19 [] w18)) λs19 _ w21=>aE true 5 t7 w21 λt52=>aA P0 88 [t52] w21 λt53 w22=>bF 5 t6 t53 w22 λw23=>aE true 5 t6 w23 λr24=>K r24 w23) (aC .eql t14 (i64 6) λt55=>aD t55 (aE true 5 t4 w7 λt57=>aA P0 89 [v0,t57,v2] w7 λt59 w25=>bF 5 t6 t59 w25 λw26=>aE true 5 t6 w26 λr27=>K r27 w26) (aC .eql t14 (i64 7) λt61=>aD t61 (bQ [(i64 0),(.bool false),(str []),sN,sN] [(0,1,(i64 5)),(3,1,v2)] λc28=>bF 5 t6 (.agg c28.toArray) w7 λw29=>aE true 5 t6 w29 λr30=>K r30 w29) (aC .eql t14 (i64 8) λt65=>aD t65 (aF 3 t4 λt67=>aE false 1 t67 w7 λt68=>aA P0 90 [t68,v2] w7 λt70 w31=>bS 0 t70 λt71=>bS 1 t70 λt72=>aN 26 zL0 w31 λt9 w32=>bF 5 t9 t71 w32 λw33=>aE true 5 t9 w33 λt73=>bF 5 t6 t73 w33 λw34=>aE true 5 t6 w34 λr35=>K r35 w34) (aC .eql t14 (i64 10) λt75=>aD t75 (aE true 5 t4 w7.drew λt76=>bU none 5 v2 (i64 0) λt78=>aE true 5 t78 w7.drew λt79=>aA P0 91 [t76,t79] w7.drew λt80 w36=>bF 5 t6 t80 w36 λw37=>aE true 5 t6 w37 λr38=>K r38 w37) (aC .eql t14 (i64 30) λt82=>aD t82 (aE true 5 t4 w7.drew λt83=>bU none 5 v2 (i64 0) λt85=>aE true 5 t85 w7.drew λt86=>aA P0 92 [t83,t86] w7.drew λt87 w39=>bF 5 t6 t87 w39 λw40=>aE true 5 t6 w40 λr41=>K r41 w40) (aC .eql t14 (i64 11) λt89=>aD t89 (aE true 5 t4 w7.drew λt90=>bU none 5 v2 (i64 0) λt92=>aE true 5 t92 w7.drew λt93=>bU none 5 v2 (i64 1) λt95=>aE true 5 t95 w7.drew λt96=>aA P0 93 [t90,t93,t96] w7.drew λt97 w42=>bF 5 t6 t97 w42 λw43=>aE true 5 t6 w43 λr44=>K r44 w43) (aC .eql t14 (i64 12) λt99=>aD t99 (aF 1 t4 λt101=>aE false 1 t101 w7 λt102=>aA P0 94 [t102,v2] w7 λt104 w45=>bS 0 t104 λt105=>bS 1 t104 λt106=>aN 26 zL0 w45 λt11 w46=>bF 5 t11 t105 w46 λw47=>aP (λJ48=>aC .neq t106 (i64 0) λt108=>aD t108 (aF 4 t4 λt110=>aE false 1 t110 w47 λt111=>aA P0 57 [t106,t111] w47 λt112 w49=>J48 [] w49) (J48 [] w47)) λs48 _ w50=>aE true 5 t11 w50 λt113=>bF 5 t6 t113 w50 λw51=>aE true 5 t6 w51 λr52=>K r52 w51) (aP (λJ53=>aC .eql t14 (i64 13) λt115=>aD t115 (J53 [t115] w7) (aC .eql t14 (i64 14) λt116=>J53 [t116] w7)) λs53 _ w54=>aD (s53.getD 0 undef) (aE true 5 t4 w54.drew λt117=>bU none 5 v2 (i64 0) λt119=>aE true 5 t119 w54.drew λt120=>aA P0 95 [t117,t120] w54.drew λt121 w55=>bF 5 t6 t121 w55 λw56=>aE true 5 t6 w56 λr57=>K r57 w56) (aP (λJ58=>aC .eql t14 (i64 20) λt123=>aD t123 (J58 [t123] w54) (aC .eql t14 (i64 21) λt124=>J58 [t124] w54)) λs58 _ w59=>aD (s58.getD 0 undef) (bU none 5 v2 (i64 0) λt126=>aE true 5 t126 w59 λt127=>aA P0 96 [t127] w59 λt128 w60=>gU .not t128 λt129=>cX (eD t129 false) [undef] w60 (λJ61=>bU none 5 v2 (i64 1) λt132=>aE true 5 t132 w60 λt133=>aA P0 96 [t133] w60 λt134 w62=>gU .not t134 λt135=>J61 [t135] w62) λs61 _ w63=>bG t129 (.bool true) (s61.getD 0 undef) λt136=>aD t136 (aA P0 97 [] w63 λt137 w64=>bF 5 t6 t137 w64 λw65=>aE true 5 t6 w65 λr66=>K r66 w65) (bU none 5 v2 (i64 0) λt139=>aE true 5 t139 w63.drew λt140=>bU none 5 v2 (i64 1) λt142=>aE true 5 t142 w63.drew λt143=>aF 0 t4 λt145=>aE false 1 t145 w63.drew λt146=>aC .eql t146 (i64 20) λt147=>aA P0 98 [t140,t143] w63.drew λt144 w67=>(aE false 1 t145 w67 λx=>x=t146)/\tR .bool false t144 t147 λt148=>aA P0 86 [t148] w67 λt149 w68=>bF 5 t6 t149 w68 λw69=>aE true 5 t6 w69 λr70=>K r70 w69)) (aP (λJ71=>aC .eql t14 (i64 26) λt151=>aD t151 (J71 [t151] w59) (aC .eql t14 (i64 27) λt152=>J71 [t152] w59)) λs71 _ w72=>aD (s71.getD 0 undef) (aE true 5 t4 w72.drew λt153=>bU none 5 v2 (i64 0) λt155=>aE true 5 t155 w72.drew λt156=>bU none 5 v2 (i64 1) λt158=>aE true 5 t158 w72.drew λt159=>aA P0 99 [t153,t156,t159] w72.drew λt160 w73=>bF 5 t6 t160 w73 λw74=>aE true 5 t6 w74 λr75=>K r75 w74) (aE true 5 t4 w72.drew λt161=>bU none 5 v2 (i64 0) λt163=>aE true 5 t163 w72.drew λt164=>bU none 5 v2 (i64 1) λt166=>aE true 5 t166 w72.drew λt167=>aA P0 100 [t161,t164,t167] w72.drew λt168 w76=>bF 5 t6 t168 w76 λw77=>aE true 5 t6 w77 λr78=>K r78 w77)))))))))))))))
theorem aAd{K:Q0}(h:W60 v0 v1 v2 w K):aA P0 60 [v0,v1,v2] w K:=
 tie _ 60 Tryz.f60 Yg _ w K 3 _ rfl mixed Tryz.func60 (by kernel_rfl) (by kernel_rfl) Tryz.call60 h
def XO:bC:={js:=[],ds:=[]}
def W84(v0:Value)(w:World)(K:Q0):=cI 26 v0 w λt1 w1=>aF 0 t1 λt3=>aE false 1 t3 w1 λt4=>aC .eql t4 (i64 1) λt5=>K t5 w1
theorem ZL{K:Q0}(h:W84 v0 w K):aA P0 84 [v0] w K:=
 tie _ 84 Tryz.f84 XO _ w K 1 _ rfl mixed Tryz.func84 (by kernel_rfl) (by kernel_rfl) Tryz.call84 h
def XJ:bC:={js:=[(17,⟨[8],[8,9,10,11],15⟩),(41,⟨[11],[11],15⟩),(28,⟨[37],[],21⟩),(10,⟨[8,14],[8,9,10,11],14⟩)],ds:=[(48,⟨[0,1,2,3,4,5,6,7,8,9,10,11,12],[[],[0],[0,1],[0,1,2],[0,1,2,3],[],[5],[],[5,6,7],[5,6,7,8],[0,1,2,3,4,5,6,7,8,9],[0,1,2,3,4,5,6,7,8,9,10],[0,1,2,3,4,5,6,7,8,9,10,11],[0,1,2,3,4,5,6,7,8,9,10,11,12]]⟩)]}
def W89(v0 v1 v2:Value)(w:World)(K:Q0):=cI 93 v1 w λt4 w1=>aN 26 zL0 w1 λt6 w2=>aN 116 [(.pointer none),sN] w2 λt7 w3=>bK v2 λt13=>bL [(.bool true),(i64 0)] w3 λs4 _ w5 L4=>aC .lss (s4.getD 1 undef) t13 λt15=>aD t15 (aP (λJ6=>bU none 5 v2 (s4.getD 1 undef) λt17=>aE true 5 t17 w5 λt18=>aN 26 zL0 w5 λt10 w7=>bF 5 t10 t18 w7 λw8=>aF 0 t10 λt19=>aE false 1 t19 w8 λt20=>aC .eql t20 (i64 1) λt36=>aD t36 (J6 [(.bool false)] w8) (aP (λJ9=>aC .eql t20 (i64 4) λt38=>aD t38 (J9 [t38] w8) (aC .eql t20 (i64 3) λt39=>J9 [t39] w8)) λs9 _ w10=>aD (s9.getD 0 undef) (aF 2 t10 λt40=>aE false 1 t40 w10 λt41=>aA P0 66 [t7,t41] w10 λt42 w11=>J6 [(s4.getD 0 undef)] w11) (aC .eql t20 (i64 2) λt44=>aD t44 (aP (λJ12=>aF 1 t10 λt45=>aE false 1 t45 w10 λt46=>aD t46 (J12 [(str [116,114,117,101])] w10) (J12 [(str [102,97,108,115,101])] w10)) λs12 _ w13=>aA P0 66 [t7,(s12.getD 0 undef)] w13 λt48 w14=>J6 [(s4.getD 0 undef)] w14) (bW v0 λt22=>aF 0 t22 λt23=>aF 0 t23 λt24=>aE false 1 t24 w10.drew λt25=>aF 2 t4 λt26=>aE false 1 t26 w10.drew λt27=>bU none 1 t27 (s4.getD 1 undef) λt29=>aE false 1 t29 w10.drew λt30=>bU none 5 t25 t30 λt31=>aF 4 t31 λt32=>aE false 1 t32 w10.drew λt33=>aA P0 57 [(i64 81),t33] w10.drew λt34 w15=>J6 [(s4.getD 0 undef)] w15)))) λs6 _ w16=>aC .add (s4.getD 1 undef) (i64 1) λt49=>L4 [(s6.getD 0 undef),t49] w16) (gU .not (s4.getD 0 undef) λt51=>aD t51 (aA P0 97 [] w5 λt52 w17=>bF 5 t6 t52 w17 λw18=>aE true 5 t6 w18 λr19=>K r19 w18) (aA P0 64 [t7] w5 λt53 w20=>aA P0 87 [t53] w20 λt54 w21=>bF 5 t6 t54 w21 λw22=>aE true 5 t6 w22 λr23=>K r23 w22))
theorem ZG{K:Q0}(h:W89 v0 v1 v2 w K):aA P0 89 [v0,v1,v2] w K:=
 tie _ 89 Tryz.f89 XJ _ w K 3 _ rfl mixed Tryz.func89 (by kernel_rfl) (by kernel_rfl) Tryz.call89 h
def XH:bC:={js:=[(18,⟨[],[],6⟩),(10,⟨[],[],5⟩)],ds:=[]}
def W91(v0 v1:Value)(w:World)(K:Q0):=cI 93 v0 w λt2 w1=>cI 26 v1 w1 λt3 w2=>aN 26 zL0 w2 λt4 w3=>aE true 5 t3 w3 λt7=>aA P0 84 [t7] w3 λt8 w4=>aD t8 (aE true 5 t3 w4 λt9=>bF 5 t4 t9 w4 λw5=>aE true 5 t4 w5 λr6=>K r6 w5) (aP (λJ7=>aF 0 t3 λt10=>aE false 1 t10 w4 λt11=>aC .neq t11 (i64 6) λt12=>aD t12 (aF 4 t2 λt13=>aE false 1 t13 w4 λt14=>aA P0 57 [(i64 81),t14] w4 λt15 w8=>J7 [] w8) (J7 [] w4)) λs7 _ w9=>aE true 5 t3 w9 λt17=>aF 1 t2 λt18=>aE false 1 t18 w9 λt19=>aA P0 120 [t17,t19] w9 λt20 w10=>bS 0 t20 λt21=>bS 1 t20 λt22=>aN 26 zL0 w10 λt5 w11=>bF 5 t5 t21 w11 λw12=>aP (λJ13=>gU .not t22 λt24=>aD t24 (aF 4 t2 λt25=>aE false 1 t25 w12 λt26=>aA P0 57 [(i64 82),t26] w12 λt27 w14=>J13 [] w14) (J13 [] w12)) λs13 _ w15=>aE true 5 t5 w15 λt28=>bF 5 t4 t28 w15 λw16=>aE true 5 t4 w16 λr17=>K r17 w16)
theorem ZE{K:Q0}(h:W91 v0 v1 w K):aA P0 91 [v0,v1] w K:=
 tie _ 91 Tryz.f91 XH _ w K 2 _ rfl mixed Tryz.func91 (by kernel_rfl) (by kernel_rfl) Tryz.call91 h
def XG:bC:={js:=[(22,⟨[21],[7],21⟩),(10,⟨[],[],5⟩)],ds:=[(33,⟨[0,1,2,3,7],[[],[0],[],[],[2,3],[2,3,4],[0,1,2,3,4,5],[0,1,2,3,4,5,6],[0,1,2,3,4,5,6,7]]⟩)]}
def W92(v0 v1:Value)(w:World)(K:Q0):=cI 93 v0 w λt2 w1=>cI 26 v1 w1 λt3 w2=>aN 26 zL0 w2 λt4 w3=>aE true 5 t3 w3 λt8=>aA P0 84 [t8] w3 λt9 w4=>aD t9 (aE true 5 t3 w4 λt10=>bF 5 t4 t10 w4 λw5=>aE true 5 t4 w5 λr6=>K r6 w5) (aP (λJ7=>aF 0 t3 λt11=>aE false 1 t11 w4 λt12=>aC .neq t12 (i64 5) λt13=>aD t13 (aF 4 t2 λt14=>aE false 1 t14 w4 λt15=>aA P0 57 [(i64 81),t15] w4 λt16 w8=>J7 [] w8) (J7 [] w4)) λs7 _ w9=>bQ [(i64 0),(.bool false),(str []),sN,sN] [(0,1,(i64 5))] λc10=>aN 26 zL0 w9 λt5 w11=>bF 5 t5 (.agg c10.toArray) w11 λw12=>aF 3 t3 λt18=>aE false 1 t18 w12 λt19=>bK t19 λt20=>bL [(i64 0)] w12 λs13 _ w14 L13=>aC .lss (s13.getD 0 undef) t20 λt22=>aD t22 (bU none 5 t19 (s13.getD 0 undef) λt23=>aE true 5 t23 w14 λt24=>aN 26 zL0 w14 λt7 w15=>bF 5 t7 t24 w15 λw16=>aF 3 t5 λt25=>aE false 1 t25 w16.drew λt26=>aE true 5 t2 w16.drew λt27=>aE true 5 t7 w16.drew λt28=>aA P0 91 [t27,t28] w16.drew λt29 w17=>(aE false 1 t25 w17 λx=>x=t26)/\bR 26 1 [(i64 0),(.bool false),(str []),sN,sN] [(0,5,t29)] w17 λt30 w18=>(aE false 1 t25 w18 λx=>x=t26)/\bP P0 (Builtin.append_ #[23,23] 23 #[t26,t30]) w18 λt31 w19=>aF 3 t5 λt32=>bF 1 t32 t31 w19 λw20=>aC .add (s13.getD 0 undef) (i64 1) λt33=>L13 [t33] w20) (aE true 5 t5 w14 λt34=>bF 5 t4 t34 w14 λw21=>aE true 5 t4 w21 λr22=>K r22 w21))
theorem ZD{K:Q0}(h:W92 v0 v1 w K):aA P0 92 [v0,v1] w K:=
 tie _ 92 Tryz.f92 XG _ w K 2 _ rfl mixed Tryz.func92 (by kernel_rfl) (by kernel_rfl) Tryz.call92 h
def XF:bC:={js:=[(45,⟨[],[],9⟩),(47006,⟨[70],[],66⟩),(47010,⟨[63],[],62⟩),(29003,⟨[40],[],39⟩),(21,⟨[],[],7⟩),(4,⟨[7],[],7⟩),(11005,⟨[19],[],17⟩)],ds:=[]}
def W93(v0 v1 v2:Value)(w:World)(K:Q0):=cI 93 v0 w λt3 w1=>cI 26 v1 w1 λt4 w2=>cI 26 v2 w2 λt5 w3=>aN 26 zL0 w3 λt6 w4=>aP (λJ5=>aF 0 t4 λt9=>aE false 1 t9 w4 λt10=>aC .eql t10 (i64 1) λt12=>aD t12 (aE true 5 t5 w4 λt13=>bR 26 1 [(i64 0),(.bool false),(str []),sN,sN] [(0,5,t13)] w4 λt14 w6=>aA P0 122 [(i64 3),t14] w6 λt15 w7=>cX (eD t15 false) [undef] w7 (λJ8=>aE true 5 t5 w7 λt17=>bR 26 1 [(i64 0),(.bool false),(str []),sN,sN] [(0,5,t17)] w7 λt18 w9=>aA P0 122 [(i64 4),t18] w9 λt19 w10=>J8 [t19] w10) λs8 _ w11=>bG t15 (.bool true) (s8.getD 0 undef) λt20=>J5 [t20] w11) (aC .eql t10 (i64 5) λt22=>aD t22 (aE true 5 t5 w4 λt23=>bR 26 1 [(i64 0),(.bool false),(str []),sN,sN] [(0,5,t23)] w4 λt24 w12=>aA P0 122 [(i64 3),t24] w12 λt25 w13=>J5 [t25] w13) (aC .eql t10 (i64 6) λt27=>aD t27 (aE true 5 t5 w4 λt28=>bR 26 1 [(i64 0),(.bool false),(str []),sN,sN] [(0,5,t28)] w4 λt29 w14=>aA P0 122 [(i64 4),t29] w14 λt30 w15=>J5 [t30] w15) (J5 [(.bool false)] w4)))) λs5 _ w16=>aP (λJ17=>gU .not (s5.getD 0 undef) λt32=>aD t32 (aF 4 t3 λt33=>aE false 1 t33 w16 λt34=>aA P0 57 [(i64 81),t34] w16 λt35 w18=>J17 [] w18) (J17 [] w16)) λs17 _ w19=>aE true 5 t4 w19 λt36=>aA P0 84 [t36] w19 λt37 w20=>cX (eD t37 false) [undef] w20 (λJ21=>aE true 5 t5 w20 λt39=>aA P0 84 [t39] w20 λt40 w22=>J21 [t40] w22) λs21 _ w23=>bG t37 (.bool true) (s21.getD 0 undef) λt41=>aD t41 (aA P0 97 [] w23 λt42 w24=>bF 5 t6 t42 w24 λw25=>aE true 5 t6 w25 λr26=>K r26 w25) (aF 0 t4 λt43=>aE false 1 t43 w23 λt44=>aC .eql t44 (i64 6) λt45=>aD t45 (aF 2 t5 λt46=>aE false 1 t46 w23 λt47=>aF 4 t3 λt48=>aE false 1 t48 w23 λt49=>bQ [(i64 0),(str []),sN,sN,(i64 0)] [(1,1,t47),(4,1,t49)] λc27=>aE true 5 t4 w23 λt51=>aA P0 91 [(.agg c27.toArray),t51] w23 λt52 w28=>bF 5 t6 t52 w28 λw29=>aE true 5 t6 w29 λr30=>K r30 w29) (aF 2 t5 λt54=>aE false 1 t54 w23 λt55=>aA P0 123 [t55] w23 λt56 w31=>bS 0 t56 λt57=>bS 1 t56 λt58=>aP (λJ32=>gU .not t58 λt60=>cX (eD t60 false) [undef] w31 (λJ33=>aC .lss t57 (i64 0) λt63=>J33 [t63] w31) λs33 _ w34=>bG t60 (.bool true) (s33.getD 0 undef) λt64=>cX (eD t64 false) [undef] w34 (λJ35=>aF 3 t4 λt67=>aE false 1 t67 w34 λt68=>bK t68 λt69=>aC .geq t57 t69 λt70=>J35 [t70] w34) λs35 _ w36=>bG t64 (.bool true) (s35.getD 0 undef) λt71=>aD t71 (aF 4 t3 λt72=>aE false 1 t72 w36 λt73=>aA P0 57 [(i64 82),t73] w36 λt74 w37=>J32 [] w37) (J32 [] w36)) λs32 _ w38=>aF 3 t4 λt75=>aE false 1 t75 w38 λt76=>bU none 5 t76 t57 λt78=>aE true 5 t78 w38 λt79=>bF 5 t6 t79 w38 λw39=>aE true 5 t6 w39 λr40=>K r40 w39))
theorem ZC{K:Q0}(h:W93 v0 v1 v2 w K):aA P0 93 [v0,v1,v2] w K:=
 tie _ 93 Tryz.f93 XF _ w K 3 _ rfl mixed Tryz.func93 (by kernel_rfl) (by kernel_rfl) Tryz.call93 h
def XD:bC:={js:=[(19005,⟨[33],[],31⟩),(11005,⟨[16],[],14⟩)],ds:=[]}
def W95(v0 v1:Value)(w:World)(K:Q0):=cI 93 v0 w λt2 w1=>cI 26 v1 w1 λt3 w2=>aN 26 zL0 w2 λt4 w3=>aE true 5 t3 w3 λt6=>aA P0 84 [t6] w3 λt7 w4=>aD t7 (aE true 5 t3 w4 λt8=>bF 5 t4 t8 w4 λw5=>aE true 5 t4 w5 λr6=>K r6 w5) (aF 0 t3 λt10=>aE false 1 t10 w4 λt11=>aC .eql t11 (i64 3) λt12=>cX (eD t12 true) [undef] w4 (λJ7=>aF 0 t2 λt14=>aE false 1 t14 w4 λt15=>aC .eql t15 (i64 13) λt16=>J7 [t16] w4) λs7 _ w8=>bG t12 (s7.getD 0 undef) (.bool false) λt17=>aD t17 (aF 2 t3 λt19=>aE false 1 t19 w8 λt20=>aA P0 129 [(str [48]),t20] w8 λt21 w9=>bS 0 t21 λt22=>bS 1 t21 λt23=>aF 2 t3 λt24=>bF 1 t24 t22 w9 λw10=>aE true 5 t3 w10 λt25=>bF 5 t4 t25 w10 λw11=>aE true 5 t4 w11 λr12=>K r12 w11) (aF 0 t3 λt27=>aE false 1 t27 w8 λt28=>aC .eql t28 (i64 2) λt29=>cX (eD t29 true) [undef] w8 (λJ13=>aF 0 t2 λt31=>aE false 1 t31 w8 λt32=>aC .eql t32 (i64 14) λt33=>J13 [t33] w8) λs13 _ w14=>bG t29 (s13.getD 0 undef) (.bool false) λt34=>aD t34 (aF 1 t3 λt35=>aE false 1 t35 w14 λt36=>gU .not t36 λt37=>aA P0 86 [t37] w14 λt38 w15=>bF 5 t4 t38 w15 λw16=>aE true 5 t4 w16 λr17=>K r17 w16) (aF 4 t2 λt39=>aE false 1 t39 w14 λt40=>aA P0 57 [(i64 81),t40] w14 λt41 w18=>aE true 5 t3 w18 λt42=>bF 5 t4 t42 w18 λw19=>aE true 5 t4 w19 λr20=>K r20 w19)))
theorem ZA{K:Q0}(h:W95 v0 v1 w K):aA P0 95 [v0,v1] w K:=
 tie _ 95 Tryz.f95 XD _ w K 2 _ rfl mixed Tryz.func95 (by kernel_rfl) (by kernel_rfl) Tryz.call95 h
def Xz:bC:={js:=[(35003,⟨[45],[],44⟩),(26005,⟨[36],[],33⟩),(14,⟨[25],[9],25⟩),(2,⟨[],[],7⟩)],ds:=[]}
def W99(v0 v1 v2:Value)(w:World)(K:Q0):=cI 93 v0 w λt3 w1=>cI 26 v1 w1 λt4 w2=>cI 26 v2 w2 λt5 w3=>aN 26 zL0 w3 λt6 w4=>aP (λJ5=>aE true 5 t4 w4 λt10=>aE true 5 t5 w4 λt11=>bR 26 2 [(i64 0),(.bool false),(str []),sN,sN,(i64 0),(.bool false),(str []),sN,sN] [(0,5,t10),(5,5,t11)] w4 λt12 w6=>aA P0 122 [(i64 2),t12] w6 λt13 w7=>gU .not t13 λt14=>aD t14 (aF 4 t3 λt15=>aE false 1 t15 w7 λt16=>aA P0 57 [(i64 81),t16] w7 λt17 w8=>J5 [] w8) (J5 [] w7)) λs5 _ w9=>aF 0 t3 λt18=>aE false 1 t18 w9 λt19=>aC .eql t19 (i64 27) λt20=>aE true 5 t4 w9 λt21=>aE true 5 t5 w9 λt22=>bR 26 2 [(i64 0),(.bool false),(str []),sN,sN,(i64 0),(.bool false),(str []),sN,sN] [(0,5,t21),(5,5,t22)] w9 λt23 w10=>bK t23 λt24=>bL [(i64 0)] w10 λs11 _ w12 L11=>aC .lss (s11.getD 0 undef) t24 λt26=>aD t26 (bU none 5 t23 (s11.getD 0 undef) λt27=>aE true 5 t27 w12 λt28=>aN 26 zL0 w12 λt9 w13=>bF 5 t9 t28 w13 λw14=>aE true 5 t9 w14 λt29=>aA P0 84 [t29] w14 λt30 w15=>gU .not t30 λt31=>cX (eD t31 true) [undef] w15 (λJ16=>aF 1 t9 λt33=>aE false 1 t33 w15 λt34=>tR .bool false t34 t20 λt36=>J16 [t36] w15) λs16 _ w17=>bG t31 (s16.getD 0 undef) (.bool false) λt37=>aD t37 (aA P0 86 [t20] w17 λt39 w18=>bF 5 t6 t39 w18 λw19=>aE true 5 t6 w19 λr20=>K r20 w19) (aC .add (s11.getD 0 undef) (i64 1) λt40=>L11 [t40] w17)) (aE true 5 t4 w12 λt41=>aA P0 84 [t41] w12 λt42 w21=>cX (eD t42 false) [undef] w21 (λJ22=>aE true 5 t5 w21 λt44=>aA P0 84 [t44] w21 λt45 w23=>J22 [t45] w23) λs22 _ w24=>bG t42 (.bool true) (s22.getD 0 undef) λt46=>aD t46 (aA P0 97 [] w24 λt47 w25=>bF 5 t6 t47 w25 λw26=>aE true 5 t6 w26 λr27=>K r27 w26) (gU .not t20 λt49=>aA P0 86 [t49] w24 λt50 w28=>bF 5 t6 t50 w28 λw29=>aE true 5 t6 w29 λr30=>K r30 w29))
theorem Zw{K:Q0}(h:W99 v0 v1 v2 w K):aA P0 99 [v0,v1,v2] w K:=
 tie _ 99 Tryz.f99 Xz _ w K 3 _ rfl mixed Tryz.func99 (by kernel_rfl) (by kernel_rfl) Tryz.call99 h
def Sr:bC:={js:=[(69,⟨[],[],8⟩),(20,⟨[7,8],[],7⟩),(10003,⟨[22],[],21⟩),(2,⟨[],[],7⟩)],ds:=[]}
def aC8(v0 v1 v2:Value)(w:World)(K:Q0):=cI 93 v0 w λt3 w1=>cI 26 v1 w1 λt4 w2=>cI 26 v2 w2 λt5 w3=>aN 26 zL0 w3 λt6 w4=>aP (λJ5=>aE true 5 t4 w4 λt10=>aE true 5 t5 w4 λt11=>bR 26 2 [(i64 0),(.bool false),(str []),sN,sN,(i64 0),(.bool false),(str []),sN,sN] [(0,5,t10),(5,5,t11)] w4 λt12 w6=>aA P0 122 [(i64 3),t12] w6 λt13 w7=>gU .not t13 λt14=>aD t14 (aF 4 t3 λt15=>aE false 1 t15 w7 λt16=>aA P0 57 [(i64 81),t16] w7 λt17 w8=>J5 [] w8) (J5 [] w7)) λs5 _ w9=>aE true 5 t4 w9 λt18=>aA P0 84 [t18] w9 λt19 w10=>cX (eD t19 false) [undef] w10 (λJ11=>aE true 5 t5 w10 λt21=>aA P0 84 [t21] w10 λt22 w12=>J11 [t22] w12) λs11 _ w13=>bG t19 (.bool true) (s11.getD 0 undef) λt23=>aD t23 (aA P0 97 [] w13 λt24 w14=>bF 5 t6 t24 w14 λw15=>aE true 5 t6 w15 λr16=>K r16 w15) (aF 2 t4 λt25=>aE false 1 t25 w13 λt26=>aF 2 t5 λt27=>aE false 1 t27 w13 λt28=>aA P0 132 [t26,t28] w13 λt29 w17=>aP (λJ18=>aF 0 t3 λt30=>aE false 1 t30 w17 λt31=>aC .eql t31 (i64 22) λt33=>aD t33 (aC .lss t29 (i64 0) λt35=>aA P0 86 [t35] w17 λt36 w19=>bF 5 t6 t36 w19 λw20=>aE true 5 t6 w20 λr21=>K r21 w20) (aC .eql t31 (i64 23) λt38=>aD t38 (aC .gtr t29 (i64 0) λt40=>aA P0 86 [t40] w17 λt41 w22=>bF 5 t6 t41 w22 λw23=>aE true 5 t6 w23 λr24=>K r24 w23) (aC .eql t31 (i64 24) λt43=>aD t43 (aC .leq t29 (i64 0) λt45=>aA P0 86 [t45] w17 λt46 w25=>bF 5 t6 t46 w25 λw26=>aE true 5 t6 w26 λr27=>K r27 w26) (aC .eql t31 (i64 25) λt48=>aD t48 (aC .geq t29 (i64 0) λt50=>aA P0 86 [t50] w17 λt51 w28=>bF 5 t6 t51 w28 λw29=>aE true 5 t6 w29 λr30=>K r30 w29) (aC .eql t31 (i64 15) λt53=>aD t53 (aF 2 t4 λt55=>aE false 1 t55 w17 λt56=>aF 2 t5 λt57=>aE false 1 t57 w17 λt58=>aA P0 133 [t56,t58] w17 λt59 w31=>bS 0 t59 λt60=>bS 1 t59 λt61=>J18 [t60,t61] w31) (aC .eql t31 (i64 16) λt63=>aD t63 (aF 2 t4 λt65=>aE false 1 t65 w17 λt66=>aF 2 t5 λt67=>aE false 1 t67 w17 λt68=>aA P0 129 [t66,t68] w17 λt69 w32=>bS 0 t69 λt70=>bS 1 t69 λt71=>J18 [t70,t71] w32) (aC .eql t31 (i64 17) λt73=>aD t73 (aF 2 t4 λt75=>aE false 1 t75 w17 λt76=>aF 2 t5 λt77=>aE false 1 t77 w17 λt78=>aA P0 134 [t76,t78] w17 λt79 w33=>bS 0 t79 λt80=>bS 1 t79 λt81=>J18 [t80,t81] w33) (aC .eql t31 (i64 18) λt83=>aD t83 (aF 2 t4 λt85=>aE false 1 t85 w17 λt86=>aF 2 t5 λt87=>aE false 1 t87 w17 λt88=>aA P0 135 [t86,t88] w17 λt89 w34=>bS 0 t89 λt90=>bS 1 t89 λt91=>bS 2 t89 λt92=>J18 [t90,t92] w34) (aC .eql t31 (i64 19) λt94=>aD t94 (aF 2 t4 λt96=>aE false 1 t96 w17 λt97=>aF 2 t5 λt98=>aE false 1 t98 w17 λt99=>aA P0 135 [t97,t99] w17 λt100 w35=>bS 0 t100 λt101=>bS 1 t100 λt102=>bS 2 t100 λt103=>J18 [t102,t103] w35) (J18 [(str []),(i64 0)] w17)))))))))) λs18 _ w36=>aP (λJ37=>aC .neq (s18.getD 1 undef) (i64 0) λt105=>aD t105 (aF 4 t3 λt107=>aE false 1 t107 w36 λt108=>aA P0 57 [(s18.getD 1 undef),t108] w36 λt109 w38=>J37 [] w38) (J37 [] w36)) λs37 _ w39=>bQ [(i64 0),(.bool false),(str []),sN,sN] [(0,1,(i64 3)),(2,1,(s18.getD 0 undef))] λc40=>bF 5 t6 (.agg c40.toArray) w39 λw41=>aE true 5 t6 w41 λr42=>K r42 w41)
theorem VH{K:Q0}(h:aC8 v0 v1 v2 w K):aA P0 100 [v0,v1,v2] w K:=
 tie _ 100 Tryz.f100 Sr _ w K 3 _ rfl mixed Tryz.func100 (by kernel_rfl) (by kernel_rfl) Tryz.call100 h
def RY:bC:={js:=[],ds:=[]}
def aCT(v0 v1:Value)(w:World)(K:Q0):=cI 22 v0 w λt2 w1=>aA P0 124 [v1,(.func (.func 156) #[] #[t2])] w1 λt7 w2=>gU .not t7 λt8=>K t8 w2
theorem Vr{K:Q0}(h:aCT v0 v1 w K):aA P0 122 [v0,v1] w K:=
 tie _ 122 Tryz.f122 RY _ w K 2 _ rfl mixed Tryz.func122 (by kernel_rfl) (by kernel_rfl) Tryz.call122 h
def Rv:bC:={js:=[(3005,⟨[11],[],9⟩)],ds:=[]}
def aCz(v0 v1:Value)(w:World)(K:Q0):=cI 26 v0 w λt2 w1=>aF 0 t2 λt4=>aE false 1 t4 w1 λt5=>aE false 1 v1 w1 λt6=>aC .neq t5 t6 λt7=>cX (eD t7 true) [undef] w1 (λJ2=>aE true 5 t2 w1 λt9=>aA P0 84 [t9] w1 λt10 w3=>gU .not t10 λt11=>J2 [t11] w3) λs2 _ w4=>bG t7 (s2.getD 0 undef) (.bool false) λt12=>K t12 w4
theorem US{K:Q0}(h:aCz v0 v1 w K):aA P0 156 [v0,v1] w K:=
 tie _ 156 Tryz.f156 Rv _ w K 2 _ rfl mixed Tryz.func156 (by kernel_rfl) (by kernel_rfl) Tryz.call156 h
def YL:bC:={js:=[(41,⟨[],[],8⟩),(6,⟨[8],[],8⟩),(26,⟨[8],[8],21⟩),(28008,⟨[32],[],26⟩),(15,⟨[8,20],[8,9],20⟩)],ds:=[(38,⟨[0,1,2,3,4,5,6,9],[[],[0],[],[2],[],[2,3,4],[2,3,4,5],[2,3,4,5,6],[0,1,2,3,4,5,6,7],[0,1,2,3,4,5,6,7,8],[0,1,2,3,4,5,6,7,8,9]]⟩),(37,⟨[0,1,2,3,4,5,6,9],[[],[0],[],[2],[],[2,3,4],[2,3,4,5],[2,3,4,5,6],[0,1,2,3,4,5,6,7],[0,1,2,3,4,5,6,7,8],[0,1,2,3,4,5,6,7,8,9]]⟩)]}
def W12(v0 v1 v2:Value)(w:World)(K:Q0):=cI 26 v0 w λt3 w1=>cI 26 v2 w1 λt5 w2=>aN 26 zL0 w2 λt6 w3=>bQ [(i64 0),(.bool false),(str []),sN,sN] [(0,1,(i64 6))] λc4=>aN 26 zL0 w3 λt7 w5=>bF 5 t7 (.agg c4.toArray) w5 λw6=>aP (λJ7=>aF 0 t3 λt11=>aE false 1 t11 w6 λt12=>aC .eql t12 (i64 6) λt13=>aD t13 (aE true 5 t3 w6 λt14=>aA P0 33 [t14,v1] w6 λt16 w8=>bF 5 t3 t16 w8 λw9=>aF 4 t3 λt17=>aE false 1 t17 w9 λt18=>bK t18 λt19=>bL [(.bool false),(i64 0)] w9 λs10 _ w11 L10=>aC .lss (s10.getD 1 undef) t19 λt21=>aD t21 (aP (λJ12=>gU .not (s10.getD 0 undef) λt24=>cX (eD t24 true) [undef] w11 (λJ13=>aF 4 t3 λt27=>aE false 1 t27 w11 λt28=>bU none 1 t28 (s10.getD 1 undef) λt30=>aE false 1 t30 w11 λt31=>aC .lss v1 t31 λt32=>J13 [t32] w11) λs13 _ w14=>bG t24 (s13.getD 0 undef) (.bool false) λt33=>aD t33 (aF 4 t7 λt34=>aE false 1 t34 w14 λt35=>bR 9 1 [(str [])] [(0,1,v1)] w14 λt37 w15=>bP P0 (Builtin.append_ #[24,24] 24 #[t35,t37]) w15 λt38 w16=>aF 4 t7 λt39=>bF 1 t39 t38 w16 λw17=>aF 3 t7 λt40=>aE false 1 t40 w17 λt41=>aE true 5 t5 w17 λt42=>bR 26 1 [(i64 0),(.bool false),(str []),sN,sN] [(0,5,t42)] w17 λt43 w18=>bP P0 (Builtin.append_ #[23,23] 23 #[t41,t43]) w18 λt44 w19=>aF 3 t7 λt45=>bF 1 t45 t44 w19 λw20=>J12 [(.bool true)] w20) (J12 [(s10.getD 0 undef)] w14)) λs12 _ w21=>aF 4 t7 λt46=>aE false 1 t46 w21.drew λt47=>aF 4 t3 λt48=>aE false 1 t48 w21.drew λt49=>bU none 1 t49 (s10.getD 1 undef) λt51=>aE false 1 t51 w21.drew λt52=>bR 9 1 [(str [])] [(0,1,t52)] w21.drew λt53 w22=>(aE false 1 t46 w22 λx=>x=t47)/\bP P0 (Builtin.append_ #[24,24] 24 #[t47,t53]) w22 λt54 w23=>aF 4 t7 λt55=>bF 1 t55 t54 w23 λw24=>aF 3 t7 λt56=>aE false 1 t56 w24.drew λt57=>aF 3 t3 λt58=>aE false 1 t58 w24.drew λt59=>bU none 5 t59 (s10.getD 1 undef) λt61=>aE true 5 t61 w24.drew λt62=>bR 26 1 [(i64 0),(.bool false),(str []),sN,sN] [(0,5,t62)] w24.drew λt63 w25=>(aE false 1 t56 w25 λx=>x=t57)/\bP P0 (Builtin.append_ #[23,23] 23 #[t57,t63]) w25 λt64 w26=>aF 3 t7 λt65=>bF 1 t65 t64 w26 λw27=>aC .add (s10.getD 1 undef) (i64 1) λt66=>L10 [(s12.getD 0 undef),t66] w27) (J7 [(s10.getD 0 undef)] w11)) (J7 [(.bool false)] w6)) λs7 _ w28=>aP (λJ29=>gU .not (s7.getD 0 undef) λt68=>aD t68 (aF 4 t7 λt69=>aE false 1 t69 w28 λt70=>bR 9 1 [(str [])] [(0,1,v1)] w28 λt72 w30=>bP P0 (Builtin.append_ #[24,24] 24 #[t70,t72]) w30 λt73 w31=>aF 4 t7 λt74=>bF 1 t74 t73 w31 λw32=>aF 3 t7 λt75=>aE false 1 t75 w32 λt76=>aE true 5 t5 w32 λt77=>bR 26 1 [(i64 0),(.bool false),(str []),sN,sN] [(0,5,t77)] w32 λt78 w33=>bP P0 (Builtin.append_ #[23,23] 23 #[t76,t78]) w33 λt79 w34=>aF 3 t7 λt80=>bF 1 t80 t79 w34 λw35=>J29 [] w35) (J29 [] w28)) λs29 _ w36=>aE true 5 t7 w36 λt81=>bF 5 t6 t81 w36 λw37=>aE true 5 t6 w37 λr38=>K r38 w37
theorem aAK{K:Q0}(h:W12 v0 v1 v2 w K):aA P0 12 [v0,v1,v2] w K:=
 tie _ 12 Tryz.f12 YL _ w K 3 _ rfl mixed Tryz.func12 (by kernel_rfl) (by kernel_rfl) Tryz.call12 h
def YK:bC:={js:=[(14,⟨[45],[4,5],45⟩),(4008,⟨[40],[],34⟩),(4016,⟨[31],[],26⟩),(4023,⟨[23],[],19⟩),(4030,⟨[16],[],12⟩)],ds:=[(26,⟨[0,1,2,3,4,5,6,7,8,9,11],[[],[0],[],[0,1,2],[0,1,2,3],[],[5],[],[5,6,7],[5,6,7,8],[0,1,2,3,4,5,6,7,8,9],[0,1,2,3,4,5,6,7,8,9,10]]⟩)]}
def W17(v0 v1:Value)(w:World)(K:Q0):=cI 26 v0 w λt2 w1=>cI 26 v1 w1 λt3 w2=>aF 0 t2 λt6=>aE false 1 t6 w2 λt7=>aF 0 t3 λt8=>aE false 1 t8 w2 λt9=>aC .neq t7 t9 λt10=>cX (eD t10 false) [undef] w2 (λJ3=>aF 1 t2 λt12=>aE false 1 t12 w2 λt13=>aF 1 t3 λt14=>aE false 1 t14 w2 λt15=>tR .bool true t13 t15 λt16=>J3 [t16] w2) λs3 _ w4=>bG t10 (.bool true) (s3.getD 0 undef) λt17=>cX (eD t17 false) [undef] w4 (λJ5=>aF 2 t2 λt19=>aE false 1 t19 w4 λt20=>aF 2 t3 λt21=>aE false 1 t21 w4 λt22=>aC .neq t20 t22 λt23=>J5 [t23] w4) λs5 _ w6=>bG t17 (.bool true) (s5.getD 0 undef) λt24=>cX (eD t24 false) [undef] w6 (λJ7=>aF 4 t2 λt26=>aE false 1 t26 w6 λt27=>aF 4 t3 λt28=>aE false 1 t28 w6 λt29=>aA P0 37 [t27,t29] w6 λt30 w8=>gU .not t30 λt31=>J7 [t31] w8) λs7 _ w9=>bG t24 (.bool true) (s7.getD 0 undef) λt32=>cX (eD t32 false) [undef] w9 (λJ10=>aF 3 t2 λt34=>aE false 1 t34 w9 λt35=>bK t35 λt36=>aF 3 t3 λt37=>aE false 1 t37 w9 λt38=>bK t38 λt39=>aC .neq t36 t39 λt40=>J10 [t40] w9) λs10 _ w11=>bG t32 (.bool true) (s10.getD 0 undef) λt41=>aD t41 (K (.bool false) w11) (aF 3 t2 λt42=>aE false 1 t42 w11 λt43=>bK t43 λt44=>bL [(i64 0)] w11 λs12 _ w13 L12=>aC .lss (s12.getD 0 undef) t44 λt46=>aD t46 (aF 3 t2 λt48=>aE false 1 t48 w13.drew λt49=>bU none 5 t49 (s12.getD 0 undef) λt51=>aE true 5 t51 w13.drew λt52=>aF 3 t3 λt53=>aE false 1 t53 w13.drew λt54=>bU none 5 t54 (s12.getD 0 undef) λt56=>aE true 5 t56 w13.drew λt57=>aA P0 17 [t52,t57] w13.drew λt58 w14=>gU .not t58 λt59=>aD t59 (K (.bool false) w14) (aC .add (s12.getD 0 undef) (i64 1) λt60=>L12 [t60] w14)) (K (.bool true) w13))
theorem aAH{K:Q0}(h:W17 v0 v1 w K):aA P0 17 [v0,v1] w K:=
 tie _ 17 Tryz.f17 YK _ w K 2 _ rfl mixed Tryz.func17 (by kernel_rfl) (by kernel_rfl) Tryz.call17 h
def YJ:bC:={js:=[],ds:=[]}
def W18(v0:Value)(w:World)(K:Q0):=aN 26 zL0 w λt2 w1=>aA P0 22 [v0] w1 λt4 w2=>bQ [(i64 0),(.bool false),(str []),sN,sN] [(0,1,(i64 3)),(2,1,t4)] λc3=>bF 5 t2 (.agg c3.toArray) w2 λw4=>aE true 5 t2 w4 λr5=>K r5 w4
theorem aAG{K:Q0}(h:W18 v0 w K):aA P0 18 [v0] w K:=
 tie _ 18 Tryz.f18 YJ _ w K 1 _ rfl mixed Tryz.func18 (by kernel_rfl) (by kernel_rfl) Tryz.call18 h
def YI:bC:={js:=[],ds:=[]}
def W19(v0:Value)(w:World)(K:Q0):=aN 26 zL0 w λt2 w1=>bQ [(i64 0),(.bool false),(str []),sN,sN] [(0,1,(i64 2)),(1,1,v0)] λc2=>bF 5 t2 (.agg c2.toArray) w1 λw3=>aE true 5 t2 w3 λr4=>K r4 w3
theorem aAF{K:Q0}(h:W19 v0 w K):aA P0 19 [v0] w K:=
 tie _ 19 Tryz.f19 YI _ w K 1 _ rfl mixed Tryz.func19 (by kernel_rfl) (by kernel_rfl) Tryz.call19 h
def YF:bC:={js:=[(27,⟨[5],[],5⟩),(16,⟨[3,4],[],1⟩)],ds:=[]}
def W22(v0:Value)(w:World)(K:Q0):=aC .eql v0 (i64 0) λt7=>aD t7 (K (str [48]) w) (bL [(str []),v0] w λs1 _ w2 L1=>aC .neq (s1.getD 1 undef) (i64 0) λt10=>aD t10 (aC .rem (s1.getD 1 undef) (i64 10) λt14=>aP (λJ3=>aC .lss t14 (i64 0) λt16=>aD t16 (gU .neg t14 λt18=>J3 [t18] w2) (J3 [t14] w2)) λs3 _ w4=>aC .add (i64 48) (s3.getD 0 undef) λt20=>oO .u8 t20 λt21=>bR 5 1 [(.int .u8 0)] [(0,1,t21)] w4 λt22 w5=>jP P0 (convert 89 9 t22) w5 λt23=>aC .add t23 (s1.getD 0 undef) λt25=>aC .quo (s1.getD 1 undef) (i64 10) λt12=>L1 [t25,t12] w5) (aC .lss v0 (i64 0) λt27=>aA P0 38 [t27,(s1.getD 0 undef)] w2 λt29 w6=>K t29 w6))
theorem aAC{K:Q0}(h:W22 v0 w K):aA P0 22 [v0] w K:=
 tie _ 22 Tryz.f22 YF _ w K 1 _ rfl mixed Tryz.func22 (by kernel_rfl) (by kernel_rfl) Tryz.call22 h
def YE:bC:={js:=[],ds:=[]}
def W24(v0:Value)(w:World)(K:Q0):=aN 26 zL0 w λt2 w1=>bQ [(i64 0),(.bool false),(str []),sN,sN] [(0,1,(i64 4)),(2,1,v0)] λc2=>bF 5 t2 (.agg c2.toArray) w1 λw3=>aE true 5 t2 w3 λr4=>K r4 w3
theorem aAB{K:Q0}(h:W24 v0 w K):aA P0 24 [v0] w K:=
 tie _ 24 Tryz.f24 YE _ w K 1 _ rfl mixed Tryz.func24 (by kernel_rfl) (by kernel_rfl) Tryz.call24 h
def YD:bC:={js:=[(11007,⟨[34],[],30⟩),(11015,⟨[27],[],22⟩),(11023,⟨[19],[],14⟩)],ds:=[]}
def W25(v0 v1 v2:Value)(w:World)(K:Q0):=aC .eql v1 (i64 0) λt8=>aD t8 (tR .ptr false v0 (.pointer none) λt10=>K t10 w) (tR .ptr true v0 (.pointer none) λt12=>cX (eD t12 true) [undef] w (λJ1=>bW v0 λt15=>aF 0 t15 λt16=>aE false 1 t16 w λt17=>aC .eql t17 v1 λt19=>J1 [t19] w) λs1 _ w2=>bG t12 (s1.getD 0 undef) (.bool false) λt20=>cX (eD t20 true) [undef] w2 (λJ3=>bW v0 λt23=>aF 2 t23 λt24=>aE false 1 t24 w2 λt25=>aC .eql t25 v2 λt27=>J3 [t27] w2) λs3 _ w4=>bG t20 (s3.getD 0 undef) (.bool false) λt28=>cX (eD t28 true) [undef] w4 (λJ5=>bW v0 λt31=>aF 1 t31 λt32=>aE false 1 t32 w4 λt33=>aC .eql t33 (str []) λt34=>J5 [t34] w4) λs5 _ w6=>bG t28 (s5.getD 0 undef) (.bool false) λt35=>K t35 w6)
theorem aAA{K:Q0}(h:W25 v0 v1 v2 w K):aA P0 25 [v0,v1,v2] w K:=
 tie _ 25 Tryz.f25 YD _ w K 3 _ rfl mixed Tryz.func25 (by kernel_rfl) (by kernel_rfl) Tryz.call25 h
def Yx:bC:={js:=[(23,⟨[],[6],16⟩),(16,⟨[15],[6],15⟩)],ds:=[(32,⟨[0,1,2,3,4,5,6,9],[[],[0],[],[2],[],[2,3,4],[2,3,4,5],[2,3,4,5,6],[0,1,2,3,4,5,6,7],[0,1,2,3,4,5,6,7,8],[0,1,2,3,4,5,6,7,8,9]]⟩),(31,⟨[0,1,2,3,4,5,6,9],[[],[0],[],[2],[],[2,3,4],[2,3,4,5],[2,3,4,5,6],[0,1,2,3,4,5,6,7],[0,1,2,3,4,5,6,7,8],[0,1,2,3,4,5,6,7,8,9]]⟩)]}
def W33(v0 v1:Value)(w:World)(K:Q0):=cI 26 v0 w λt2 w1=>aN 26 zL0 w1 λt4 w2=>aF 0 t2 λt7=>aE false 1 t7 w2 λt8=>aC .neq t8 (i64 6) λt9=>aD t9 (aE true 5 t2 w2 λt10=>bF 5 t4 t10 w2 λw3=>aE true 5 t4 w3 λr4=>K r4 w3) (bQ [(i64 0),(.bool false),(str []),sN,sN] [(0,1,(i64 6))] λc5=>aN 26 zL0 w2 λt5 w6=>bF 5 t5 (.agg c5.toArray) w6 λw7=>aF 4 t2 λt12=>aE false 1 t12 w7 λt13=>bK t13 λt14=>bL [(i64 0)] w7 λs8 _ w9 L8=>aC .lss (s8.getD 0 undef) t14 λt16=>aD t16 (aP (λJ10=>aF 4 t2 λt18=>aE false 1 t18 w9 λt19=>bU none 1 t19 (s8.getD 0 undef) λt21=>aE false 1 t21 w9 λt22=>aC .neq t22 v1 λt24=>aD t24 (aF 4 t5 λt25=>aE false 1 t25 w9.drew λt26=>aF 4 t2 λt27=>aE false 1 t27 w9.drew λt28=>bU none 1 t28 (s8.getD 0 undef) λt30=>aE false 1 t30 w9.drew λt31=>bR 9 1 [(str [])] [(0,1,t31)] w9.drew λt32 w11=>(aE false 1 t25 w11 λx=>x=t26)/\bP P0 (Builtin.append_ #[24,24] 24 #[t26,t32]) w11 λt33 w12=>aF 4 t5 λt34=>bF 1 t34 t33 w12 λw13=>aF 3 t5 λt35=>aE false 1 t35 w13.drew λt36=>aF 3 t2 λt37=>aE false 1 t37 w13.drew λt38=>bU none 5 t38 (s8.getD 0 undef) λt40=>aE true 5 t40 w13.drew λt41=>bR 26 1 [(i64 0),(.bool false),(str []),sN,sN] [(0,5,t41)] w13.drew λt42 w14=>(aE false 1 t35 w14 λx=>x=t36)/\bP P0 (Builtin.append_ #[23,23] 23 #[t36,t42]) w14 λt43 w15=>aF 3 t5 λt44=>bF 1 t44 t43 w15 λw16=>J10 [] w16) (J10 [] w9)) λs10 _ w17=>aC .add (s8.getD 0 undef) (i64 1) λt45=>L8 [t45] w17) (aE true 5 t5 w9 λt46=>bF 5 t4 t46 w9 λw18=>aE true 5 t4 w18 λr19=>K r19 w18))
theorem aAu{K:Q0}(h:W33 v0 v1 w K):aA P0 33 [v0,v1] w K:=
 tie _ 33 Tryz.f33 Yx _ w K 2 _ rfl mixed Tryz.func33 (by kernel_rfl) (by kernel_rfl) Tryz.call33 h
def Yv:bC:={js:=[(14,⟨[13],[4,5],13⟩)],ds:=[(26,⟨[0,1,2,3,4,5,6,7,8],[[],[],[0,1],[0,1,2],[],[],[4,5],[4,5,6],[0,1,2,3,4,5,6,7]]⟩)]}
def W37(v0 v1:Value)(w:World)(K:Q0):=bK v0 λt7=>bK v1 λt9=>aC .neq t7 t9 λt10=>aD t10 (K (.bool false) w) (bK v0 λt12=>bL [(i64 0)] w λs1 _ w2 L1=>aC .lss (s1.getD 0 undef) t12 λt14=>aD t14 (bU none 1 v0 (s1.getD 0 undef) λt18=>aE false 1 t18 w2.drew λt19=>bU none 1 v1 (s1.getD 0 undef) λt22=>aE false 1 t22 w2.drew λt23=>aC .neq t19 t23 λt24=>aD t24 (K (.bool false) w2.drew) (aC .add (s1.getD 0 undef) (i64 1) λt25=>L1 [t25] w2.drew)) (K (.bool true) w2))
theorem aAs{K:Q0}(h:W37 v0 v1 w K):aA P0 37 [v0,v1] w K:=
 tie _ 37 Tryz.f37 Yv _ w K 2 _ rfl mixed Tryz.func37 (by kernel_rfl) (by kernel_rfl) Tryz.call37 h
def Yu:bC:={js:=[(4003,⟨[8],[],7⟩)],ds:=[]}
def W38(v0 v1:Value)(w:World)(K:Q0):=cX (eD v0 true) [undef] w (λJ1=>aC .neq v1 (str [48]) λt8=>J1 [t8] w) λs1 _ w2=>bG v0 (s1.getD 0 undef) (.bool false) λt9=>aD t9 (aC .add (str [45]) v1 λt11=>K t11 w2) (K v1 w2)
theorem aAr{K:Q0}(h:W38 v0 v1 w K):aA P0 38 [v0,v1] w K:=
 tie _ 38 Tryz.f38 Yu _ w K 2 _ rfl mixed Tryz.func38 (by kernel_rfl) (by kernel_rfl) Tryz.call38 h
def Ye:bC:={js:=[],ds:=[]}
def W62(v0 v1:Value)(w:World)(K:Q0):=aA P0 102 [v0] w λt6 w1=>bW v0 λt9=>aF 1 t9 λt10=>aE false 1 t10 w1 λt11=>bR 5 1 [(.int .u8 0)] [(0,1,v1)] w1 λt13 w2=>bP P0 (Builtin.append_ #[89,89] 89 #[t11,t13]) w2 λt14 w3=>bW v0 λt15=>aF 1 t15 λt16=>bF 1 t16 t14 w3 λw4=>K .nilIface w4
theorem aAb{K:Q0}(h:W62 v0 v1 w K):aA P0 62 [v0,v1] w K:=
 tie _ 62 Tryz.f62 Ye _ w K 2 _ rfl mixed Tryz.func62 (by kernel_rfl) (by kernel_rfl) Tryz.call62 h
def Yd:bC:={js:=[],ds:=[]}
def W63(v0 v1:Value)(w:World)(K:Q0):=aA P0 102 [v0] w λt8 w1=>bW v0 λt10=>aF 1 t10 λt11=>aE false 1 t11 w1 λt12=>bK t12 λt13=>bW v0 λt16=>aF 1 t16 λt17=>aE false 1 t17 w1 λt18=>aA P0 103 [t18,v1] w1 λt20 w2=>bW v0 λt21=>aF 1 t21 λt22=>bF 1 t22 t20 w2 λw3=>bW v0 λt24=>aF 1 t24 λt25=>aE false 1 t25 w3 λt26=>bK t26 λt27=>aC .sub t27 t13 λt29=>K (.tuple #[t29,.nilIface]) w3
theorem aAa{K:Q0}(h:W63 v0 v1 w K):aA P0 63 [v0,v1] w K:=
 tie _ 63 Tryz.f63 Yd _ w K 2 _ rfl mixed Tryz.func63 (by kernel_rfl) (by kernel_rfl) Tryz.call63 h
def Yc:bC:={js:=[],ds:=[]}
def W66(v0 v1:Value)(w:World)(K:Q0):=aA P0 102 [v0] w λt7 w1=>bW v0 λt10=>aF 1 t10 λt11=>aE false 1 t11 w1 λt12=>bP P0 (Builtin.append_ #[89,9] 89 #[t12,v1]) w1 λt14 w2=>bW v0 λt15=>aF 1 t15 λt16=>bF 1 t16 t14 w2 λw3=>eQ v1 λt18=>K (.tuple #[t18,.nilIface]) w3
theorem ZZ{K:Q0}(h:W66 v0 v1 w K):aA P0 66 [v0,v1] w K:=
 tie _ 66 Tryz.f66 Yc _ w K 2 _ rfl mixed Tryz.func66 (by kernel_rfl) (by kernel_rfl) Tryz.call66 h
def XQ:bC:={js:=[],ds:=[]}
def W81(v0 v1:Value)(w:World)(K:Q0):=aA P0 113 [v0,v1] w λt7 w1=>aC .geq t7 (i64 0) λt8=>K t8 w1
theorem ZN{K:Q0}(h:W81 v0 v1 w K):aA P0 81 [v0,v1] w K:=
 tie _ 81 Tryz.f81 XQ _ w K 2 _ rfl mixed Tryz.func81 (by kernel_rfl) (by kernel_rfl) Tryz.call81 h
def Sn:bC:={js:=[],ds:=[]}
def aC6(v0 v1:Value)(w:World)(K:Q0):=oO .u32 v1 λt6=>aC .leq t6 (.int .u32 127) λt7=>aD t7 (oO .u8 v1 λt10=>bR 5 1 [(.int .u8 0)] [(0,1,t10)] w λt11 w1=>bP P0 (Builtin.append_ #[89,89] 89 #[v0,t11]) w1 λt12 w2=>K t12 w2) (aA P0 138 [v0,v1] w λt15 w3=>K t15 w3)
theorem VF{K:Q0}(h:aC6 v0 v1 w K):aA P0 103 [v0,v1] w K:=
 tie _ 103 Tryz.f103 Sn _ w K 2 _ rfl mixed Tryz.func103 (by kernel_rfl) (by kernel_rfl) Tryz.call103 h
def Sm:bC:={js:=[],ds:=[]}
def aC5(v0 v1:Value)(w:World)(K:Q0):=aA P0 144 [v0,v1] w λt7 w1=>K t7 w1
theorem VE{K:Q0}(h:aC5 v0 v1 w K):aA P0 107 [v0,v1] w K:=
 tie _ 107 Tryz.f107 Sm _ w K 2 _ rfl mixed Tryz.func107 (by kernel_rfl) (by kernel_rfl) Tryz.call107 h
def Si:bC:={js:=[(6,⟨[8],[4,5],8⟩)],ds:=[]}
def aC1(v0 v1:Value)(w:World)(K:Q0):=bK v0 λt7=>bL [(i64 0)] w λs1 _ w2 L1=>aC .lss (s1.getD 0 undef) t7 λt9=>aD t9 (bU none 1 v0 (s1.getD 0 undef) λt14=>aE false 1 t14 w2 λt15=>aC .eql v1 t15 λt16=>aD t16 (K (s1.getD 0 undef) w2) (aC .add (s1.getD 0 undef) (i64 1) λt18=>L1 [t18] w2)) (K (.int .i64 (-1)) w2)
theorem Vz{K:Q0}(h:aC1 v0 v1 w K):aA P0 113 [v0,v1] w K:=
 tie _ 113 Tryz.f113 Si _ w K 2 _ rfl mixed Tryz.func113 (by kernel_rfl) (by kernel_rfl) Tryz.call113 h
def Sc:bC:={js:=[],ds:=[]}
def aCX(v0:Value)(w:World)(K:Q0):=tR .slice false v0 sN λt4=>aD t4 (K sN w) (bR 9 0 [] [] w λt5 w1=>bP P0 (Builtin.append_ #[24,24] 24 #[t5,v0]) w1 λt7 w2=>K t7 w2)
theorem Vv{K:Q0}(h:aCX v0 w K):aA P0 118 [v0] w K:=
 tie _ 118 Tryz.f118 Sc _ w K 1 _ rfl mixed Tryz.func118 (by kernel_rfl) (by kernel_rfl) Tryz.call118 h
def RV:bC:={js:=[],ds:=[]}
def Vp(v0 v1:Value)(w:World)(K:Q0):=aA P0 158 [v0,v1] w λt7 w1=>aC .geq t7 (i64 0) λt8=>K t8 w1
theorem FD{K:Q0}(h:Vp v0 v1 w K):aA P0 124 [v0,v1] w K:=
 tie _ 124 Tryz.f124 RV _ w K 2 _ rfl mixed Tryz.func124 (by kernel_rfl) (by kernel_rfl) Tryz.call124 h
def RE:bC:={js:=[(22004,⟨[55],[],54⟩),(11,⟨[25],[],6⟩),(16004,⟨[32],[],31⟩)],ds:=[]}
def aCF(v0 v1:Value)(w:World)(K:Q0):=oO .u32 v1 λt7=>aC .leq t7 (.int .u32 2047) λt13=>aD t13 (aC .shr v1 (.int .u64 6) λt16=>oO .u8 t16 λt17=>aC .or (.int .u8 192) t17 λt18=>oO .u8 v1 λt20=>aC .and t20 (.int .u8 63) λt21=>aC .or (.int .u8 128) t21 λt22=>bR 5 2 [(.int .u8 0),(.int .u8 0)] [(0,1,t18),(1,1,t22)] w λt23 w1=>bP P0 (Builtin.append_ #[89,89] 89 #[v0,t23]) w1 λt24 w2=>K t24 w2) (aP (λJ3=>aC .lss t7 (.int .u32 55296) λt27=>aD t27 (J3 [t27] w) (aC .lss (.int .u32 57343) t7 λt29=>cX (eD t29 true) [undef] w (λJ4=>aC .leq t7 (.int .u32 65535) λt32=>J4 [t32] w) λs4 _ w5=>bG t29 (s4.getD 0 undef) (.bool false) λt33=>J3 [t33] w5)) λs3 _ w6=>aD (s3.getD 0 undef) (aC .shr v1 (.int .u64 12) λt36=>oO .u8 t36 λt37=>aC .or (.int .u8 224) t37 λt38=>aC .shr v1 (.int .u64 6) λt40=>oO .u8 t40 λt41=>aC .and t41 (.int .u8 63) λt42=>aC .or (.int .u8 128) t42 λt43=>oO .u8 v1 λt45=>aC .and t45 (.int .u8 63) λt46=>aC .or (.int .u8 128) t46 λt47=>bR 5 3 [(.int .u8 0),(.int .u8 0),(.int .u8 0)] [(0,1,t38),(1,1,t43),(2,1,t47)] w6 λt48 w7=>bP P0 (Builtin.append_ #[89,89] 89 #[v0,t48]) w7 λt49 w8=>K t49 w8) (aC .gtr t7 (.int .u32 65535) λt52=>cX (eD t52 true) [undef] w6 (λJ9=>aC .leq t7 (.int .u32 1114111) λt55=>J9 [t55] w6) λs9 _ w10=>bG t52 (s9.getD 0 undef) (.bool false) λt56=>aD t56 (aC .shr v1 (.int .u64 18) λt59=>oO .u8 t59 λt60=>aC .or (.int .u8 240) t60 λt61=>aC .shr v1 (.int .u64 12) λt63=>oO .u8 t63 λt64=>aC .and t64 (.int .u8 63) λt65=>aC .or (.int .u8 128) t65 λt66=>aC .shr v1 (.int .u64 6) λt68=>oO .u8 t68 λt69=>aC .and t69 (.int .u8 63) λt70=>aC .or (.int .u8 128) t70 λt71=>oO .u8 v1 λt73=>aC .and t73 (.int .u8 63) λt74=>aC .or (.int .u8 128) t74 λt75=>bR 5 4 [(.int .u8 0),(.int .u8 0),(.int .u8 0),(.int .u8 0)] [(0,1,t61),(1,1,t66),(2,1,t71),(3,1,t75)] w10 λt76 w11=>bP P0 (Builtin.append_ #[89,89] 89 #[v0,t76]) w11 λt77 w12=>K t77 w12) (bR 5 3 [(.int .u8 0),(.int .u8 0),(.int .u8 0)] [(0,1,(.int .u8 239)),(1,1,(.int .u8 191)),(2,1,(.int .u8 189))] w10 λt9 w13=>bP P0 (Builtin.append_ #[89,89] 89 #[v0,t9]) w13 λt10 w14=>K t10 w14)))
theorem Vb{K:Q0}(h:aCF v0 v1 w K):aA P0 138 [v0,v1] w K:=
 tie _ 138 Tryz.f138 RE _ w K 2 _ rfl mixed Tryz.func138 (by kernel_rfl) (by kernel_rfl) Tryz.call138 h
def RD:bC:={js:=[],ds:=[]}
def aCE(v0 v1:Value)(w:World)(K:Q0):=aA P0 67 [v0,v1] w λt7 w1=>aD t7 (eQ v1 λt10=>jG v0 (some t10) none λt11=>K t11 w1) (K v0 w1)
theorem Va{K:Q0}(h:aCE v0 v1 w K):aA P0 144 [v0,v1] w K:=
 tie _ 144 Tryz.f144 RD _ w K 2 _ rfl mixed Tryz.func144 (by kernel_rfl) (by kernel_rfl) Tryz.call144 h
def Ry:bC:={js:=[(24004,⟨[52],[],36⟩),(24005,⟨[51],[],43⟩),(24007,⟨[50],[],49⟩),(24013,⟨[48],[],43⟩),(24020,⟨[42],[],36⟩),(8,⟨[7,8],[],7⟩)],ds:=[]}
def aCA(v0 v1:Value)(w:World)(K:Q0):=bK v0 λt11=>bL [(i64 0),t11] w λs1 _ w2 L1=>aC .lss (s1.getD 0 undef) (s1.getD 1 undef) λt15=>aD t15 (aC .add (s1.getD 0 undef) (s1.getD 1 undef) λt18=>oO .u64 t18 λt19=>aC .shr t19 (.int .u64 1) λt20=>oO .i64 t20 λt21=>bU none 1 v0 t21 λt24=>aE false 1 t24 w2 λt25=>aA P0 206 [t25,v1] w2 λt27 w3=>aD t27 (aC .add t21 (i64 1) λt29=>L1 [t29,(s1.getD 1 undef)] w3) (L1 [(s1.getD 0 undef),t21] w3)) (aC .lss (s1.getD 0 undef) t11 λt34=>cX (eD t34 true) [undef] w2 (λJ4=>bU none 1 v0 (s1.getD 0 undef) λt38=>aE false 1 t38 w2 λt39=>aC .eql t39 v1 λt41=>J4 [t41] w2) λs4 _ w5=>cX (eD (s4.getD 0 undef) false) [undef] w5 (λJ6=>bU none 1 v0 (s1.getD 0 undef) λt45=>aE false 1 t45 w5 λt46=>aA P0 207 [t46] w5 λt47 w7=>J6 [t47] w7) λs6 _ w8=>cX (eD (s6.getD 0 undef) true) [undef] w8 (λJ9=>aA P0 207 [v1] w8 λt50 w10=>J9 [t50] w10) λs9 _ w11=>cX (eD (s4.getD 0 undef) false) [undef] w11 (λJ12=>bG (s6.getD 0 undef) (s9.getD 0 undef) (.bool false) λt51=>J12 [t51] w11) λs12 _ w13=>cX (eD t34 true) [undef] w13 (λJ14=>bG (s4.getD 0 undef) (.bool true) (s12.getD 0 undef) λt52=>J14 [t52] w13) λs14 _ w15=>bG t34 (s14.getD 0 undef) (.bool false) λt53=>K (.tuple #[(s1.getD 0 undef),t53]) w15)
theorem UV{K:Q0}(h:aCA v0 v1 w K):aA P0 153 [v0,v1] w K:=
 tie _ 153 Tryz.f153 Ry _ w K 2 _ rfl mixed Tryz.func153 (by kernel_rfl) (by kernel_rfl) Tryz.call153 h
def Rx:bC:={js:=[],ds:=[(45,⟨[0,1,2,3,4,5,6,7],[[],[],[],[1,2],[0,1,2,3],[],[],[5,6],[0,1,2,3,4,5,6,7]]⟩),(33,⟨[0,1,2,3,4,5,6,7],[[],[],[],[1,2],[0,1,2,3],[],[],[5,6],[0,1,2,3,4,5,6,7]]⟩)]}
def aDN(v0 v1 v2:Value)(w:World)(K:Q0):=fX 1 v0 (some v1) none none λt12=>bK v2 λt14=>aC .eql t14 (i64 0) λt16=>aD t16 (K v0 w) (bK v0 λt19=>aC .eql v1 t19 λt22=>aD t22 (bP P0 (Builtin.append_ #[24,24] 24 #[v0,v2]) w λt25 w1=>K t25 w1) (aC .add t19 t14 λt28=>Ml v0 λt30=>aC .gtr t28 t30 λt31=>aD t31 (fX 1 v0 none (some v1) none λt34=>aC .add t19 t14 λt37=>aC .sub t37 v1 λt39=>bP P0 (Builtin.append_ #[24,3] 24 #[t34,t39]) w λt40 w2=>fX 1 t40 (some v1) none none λt43=>bP P0 (Builtin.copy_ #[24,24] 3 #[t43,v2]) w2 λt45 w3=>aC .add v1 t14 λt49=>fX 1 t40 (some t49) none none λt50=>fX 1 v0 (some v1) none none λt53=>bP P0 (Builtin.copy_ #[24,24] 3 #[t50,t53]) w3.drew λt54 w4=>K t40 w4) (aC .add t19 t14 λt59=>fX 1 v0 none (some t59) none λt60=>aC .add v1 t14 λt65=>fX 1 t60 (some t65) none none λt66=>aA P0 208 [v2,t66] w λt67 w5=>gU .not t67 λt68=>aD t68 (aC .add v1 t14 λt72=>fX 1 t60 (some t72) none none λt73=>fX 1 t60 (some v1) none none λt76=>bP P0 (Builtin.copy_ #[24,24] 3 #[t73,t76]) w5.drew λt77 w6=>fX 1 t60 (some v1) none none λt80=>bP P0 (Builtin.copy_ #[24,24] 3 #[t80,v2]) w6 λt82 w7=>K t60 w7) (fX 1 t60 (some t19) none none λt86=>bP P0 (Builtin.copy_ #[24,24] 3 #[t86,v2]) w5 λt88 w8=>fX 1 t60 (some v1) none none λt91=>aA P0 209 [t91,t14] w8 λt93 w9=>K t60 w9))))
theorem UU{K:Q0}(h:aDN v0 v1 v2 w K):aA P0 154 [v0,v1,v2] w K:=
 tie _ 154 Tryz.f154 Rx _ w K 3 _ rfl mixed Tryz.func154 (by kernel_rfl) (by kernel_rfl) Tryz.call154 h
def Rw:bC:={js:=[],ds:=[(45,⟨[0,1,2,3,4,5,6,7],[[],[],[],[1,2],[0,1,2,3],[],[],[5,6],[0,1,2,3,4,5,6,7]]⟩),(33,⟨[0,1,2,3,4,5,6,7],[[],[],[],[1,2],[0,1,2,3],[],[],[5,6],[0,1,2,3,4,5,6,7]]⟩)]}
def aDM(v0 v1 v2:Value)(w:World)(K:Q0):=fX 5 v0 (some v1) none none λt12=>bK v2 λt14=>aC .eql t14 (i64 0) λt16=>aD t16 (K v0 w) (bK v0 λt19=>aC .eql v1 t19 λt22=>aD t22 (bP P0 (Builtin.append_ #[23,23] 23 #[v0,v2]) w λt25 w1=>K t25 w1) (aC .add t19 t14 λt28=>Ml v0 λt30=>aC .gtr t28 t30 λt31=>aD t31 (fX 5 v0 none (some v1) none λt34=>aC .add t19 t14 λt37=>aC .sub t37 v1 λt39=>bP P0 (Builtin.append_ #[23,3] 23 #[t34,t39]) w λt40 w2=>fX 5 t40 (some v1) none none λt43=>bP P0 (Builtin.copy_ #[23,23] 3 #[t43,v2]) w2 λt45 w3=>aC .add v1 t14 λt49=>fX 5 t40 (some t49) none none λt50=>fX 5 v0 (some v1) none none λt53=>bP P0 (Builtin.copy_ #[23,23] 3 #[t50,t53]) w3.drew λt54 w4=>K t40 w4) (aC .add t19 t14 λt59=>fX 5 v0 none (some t59) none λt60=>aC .add v1 t14 λt65=>fX 5 t60 (some t65) none none λt66=>aA P0 210 [v2,t66] w λt67 w5=>gU .not t67 λt68=>aD t68 (aC .add v1 t14 λt72=>fX 5 t60 (some t72) none none λt73=>fX 5 t60 (some v1) none none λt76=>bP P0 (Builtin.copy_ #[23,23] 3 #[t73,t76]) w5.drew λt77 w6=>fX 5 t60 (some v1) none none λt80=>bP P0 (Builtin.copy_ #[23,23] 3 #[t80,v2]) w6 λt82 w7=>K t60 w7) (fX 5 t60 (some t19) none none λt86=>bP P0 (Builtin.copy_ #[23,23] 3 #[t86,v2]) w5 λt88 w8=>fX 5 t60 (some v1) none none λt91=>aA P0 211 [t91,t14] w8 λt93 w9=>K t60 w9))))
theorem UT{K:Q0}(h:aDM v0 v1 v2 w K):aA P0 155 [v0,v1,v2] w K:=
 tie _ 155 Tryz.f155 Rw _ w K 3 _ rfl mixed Tryz.func155 (by kernel_rfl) (by kernel_rfl) Tryz.call155 h
def Ru:bC:={js:=[],ds:=[]}
def aCy(v0:Value)(w:World)(K:Q0):=aA P0 212 [v0] w λt8 w1=>bS 0 t8 λt9=>bS 1 t8 λt10=>FK P0 .neq 118 false true t10 .nilIface w1 λt12=>aD t12 (aA P0 213 [(str [65,116,111,105]),v0,(i64 0),(i64 0),t10] w1 λt16 w2=>K (.tuple #[t9,t16]) w2) (K (.tuple #[t9,.nilIface]) w1)
theorem UR{K:Q0}(h:aCy v0 w K):aA P0 157 [v0] w K:=
 tie _ 157 Tryz.f157 Ru _ w K 1 _ rfl mixed Tryz.func157 (by kernel_rfl) (by kernel_rfl) Tryz.call157 h
def Rt:bC:={js:=[(6,⟨[8],[4,5],8⟩)],ds:=[]}
def UQ(v0 v1:Value)(w:World)(K:Q0):=bK v0 λt7=>bL [(i64 0)] w λs1 _ w2 L1=>aC .lss (s1.getD 0 undef) t7 λt9=>aD t9 (bU none 5 v0 (s1.getD 0 undef) λt14=>aE true 5 t14 w2 λt15=>kP P0 v1 [t15] w2 λt16 w3=>aD t16 (K (s1.getD 0 undef) w3) (aC .add (s1.getD 0 undef) (i64 1) λt18=>L1 [t18] w3)) (K (.int .i64 (-1)) w2)
theorem FC{K:Q0}(h:UQ v0 v1 w K):aA P0 158 [v0,v1] w K:=
 tie _ 158 Tryz.f158 Rt _ w K 2 _ rfl mixed Tryz.func158 (by kernel_rfl) (by kernel_rfl) Tryz.call158 h
def Rk:bC:={js:=[],ds:=[]}
def aCr(v0 v1:Value)(w:World)(K:Q0):=aA P0 229 [v0] w λt8 w1=>aA P0 229 [v1] w1 λt10 w2=>aD t8 (aD t10 (K (i64 0) w2) (K (.int .i64 (-1)) w2)) (aD t10 (K (i64 1) w2) (aC .lss v0 v1 λt16=>aD t16 (K (.int .i64 (-1)) w2) (aC .gtr v0 v1 λt19=>aD t19 (K (i64 1) w2) (K (i64 0) w2))))
theorem UJ{K:Q0}(h:aCr v0 v1 w K):aA P0 189 [v0,v1] w K:=
 tie _ 189 Tryz.f189 Rk _ w K 2 _ rfl mixed Tryz.func189 (by kernel_rfl) (by kernel_rfl) Tryz.call189 h
def Rj:bC:={js:=[],ds:=[]}
def aCq(v0 v1:Value)(w:World)(K:Q0):=aA P0 230 [v0] w λt8 w1=>aA P0 230 [v1] w1 λt10 w2=>aD t8 (aD t10 (K (i64 0) w2) (K (.int .i64 (-1)) w2)) (aD t10 (K (i64 1) w2) (aC .lss v0 v1 λt16=>aD t16 (K (.int .i64 (-1)) w2) (aC .gtr v0 v1 λt19=>aD t19 (K (i64 1) w2) (K (i64 0) w2))))
theorem UI{K:Q0}(h:aCq v0 v1 w K):aA P0 190 [v0,v1] w K:=
 tie _ 190 Tryz.f190 Rj _ w K 2 _ rfl mixed Tryz.func190 (by kernel_rfl) (by kernel_rfl) Tryz.call190 h
def Rh:bC:={js:=[(8,⟨[8],[2,5],8⟩)],ds:=[]}
def aCo(v0:Value)(w:World)(K:Q0):=bK v0 λt7=>bL [(i64 0)] w λs1 _ w2 L1=>aC .lss (s1.getD 0 undef) t7 λt9=>aD t9 (bU none 1 v0 (s1.getD 0 undef) λt10=>aE false 1 t10 w2 λt11=>aC .neq t11 (i64 0) λt14=>aD t14 (K t11 w2) (aC .add (s1.getD 0 undef) (i64 1) λt16=>L1 [t16] w2)) (K (i64 0) w2)
theorem UG{K:Q0}(h:aCo v0 w K):aA P0 193 [v0] w K:=
 tie _ 193 Tryz.f193 Rh _ w K 1 _ rfl mixed Tryz.func193 (by kernel_rfl) (by kernel_rfl) Tryz.call193 h
def Rf:bC:={js:=[(6,⟨[11],[4,5,6,7,8],11⟩)],ds:=[]}
def aCn(v0 v1:Value)(w:World)(K:Q0):=bK v0 λt10=>bL [(i64 0)] w λs1 _ w2 L1=>aC .lss (s1.getD 0 undef) t10 λt12=>aD t12 (bU none 1 v0 (s1.getD 0 undef) λt14=>aE false 1 t14 w2 λt15=>bK v1 λt18=>aC .geq (s1.getD 0 undef) t18 λt19=>aD t19 (K (i64 1) w2) (bU none 1 v1 (s1.getD 0 undef) λt22=>aE false 1 t22 w2 λt23=>aA P0 232 [t15,t23] w2 λt26 w3=>aC .neq t26 (i64 0) λt28=>aD t28 (K t26 w3) (aC .add (s1.getD 0 undef) (i64 1) λt30=>L1 [t30] w3))) (bK v0 λt32=>bK v1 λt34=>aC .lss t32 t34 λt35=>aD t35 (K (.int .i64 (-1)) w2) (K (i64 0) w2))
theorem UF{K:Q0}(h:aCn v0 v1 w K):aA P0 194 [v0,v1] w K:=
 tie _ 194 Tryz.f194 Rf _ w K 2 _ rfl mixed Tryz.func194 (by kernel_rfl) (by kernel_rfl) Tryz.call194 h
def Re:bC:={js:=[(6,⟨[13],[6,7,8,9,10],13⟩)],ds:=[]}
def aCm(v0 v1 v2:Value)(w:World)(K:Q0):=bK v0 λt12=>bL [(i64 0)] w λs1 _ w2 L1=>aC .lss (s1.getD 0 undef) t12 λt14=>aD t14 (bU none 5 v0 (s1.getD 0 undef) λt16=>aE true 5 t16 w2 λt17=>aN 26 zL0 w2 λt8 w3=>bF 5 t8 t17 w3 λw4=>bK v1 λt20=>aC .geq (s1.getD 0 undef) t20 λt21=>aD t21 (K (i64 1) w4) (bU none 5 v1 (s1.getD 0 undef) λt24=>aE true 5 t24 w4 λt25=>aN 26 zL0 w4 λt9 w5=>bF 5 t9 t25 w5 λw6=>aE true 5 t8 w6 λt27=>aE true 5 t9 w6 λt28=>kP P0 v2 [t27,t28] w6 λt29 w7=>aC .neq t29 (i64 0) λt31=>aD t31 (K t29 w7) (aC .add (s1.getD 0 undef) (i64 1) λt33=>L1 [t33] w7))) (bK v0 λt35=>bK v1 λt37=>aC .lss t35 t37 λt38=>aD t38 (K (.int .i64 (-1)) w2) (K (i64 0) w2))
theorem UE{K:Q0}(h:aCm v0 v1 v2 w K):aA P0 195 [v0,v1,v2] w K:=
 tie _ 195 Tryz.f195 Re _ w K 3 _ rfl mixed Tryz.func195 (by kernel_rfl) (by kernel_rfl) Tryz.call195 h
def QW:bC:={js:=[(3005,⟨[15],[],13⟩),(3010,⟨[10],[],8⟩)],ds:=[]}
def aCf(v0 v1:Value)(w:World)(K:Q0):=aA P0 238 [v0] w λt6 w1=>cX (eD t6 true) [undef] w1 (λJ2=>aA P0 238 [v1] w1 λt9 w3=>gU .not t9 λt10=>J2 [t10] w3) λs2 _ w4=>bG t6 (s2.getD 0 undef) (.bool false) λt11=>cX (eD t11 false) [undef] w4 (λJ5=>aC .lss v0 v1 λt15=>J5 [t15] w4) λs5 _ w6=>bG t11 (.bool true) (s5.getD 0 undef) λt16=>K t16 w6
theorem Ux{K:Q0}(h:aCf v0 v1 w K):aA P0 206 [v0,v1] w K:=
 tie _ 206 Tryz.f206 QW _ w K 2 _ rfl mixed Tryz.func206 (by kernel_rfl) (by kernel_rfl) Tryz.call206 h
def QV:bC:={js:=[],ds:=[]}
def aDL(v0:Value)(w:World)(K:Q0):=aC .neq v0 v0 λt5=>K t5 w
theorem Uw{K:Q0}(h:aDL v0 w K):aA P0 207 [v0] w K:=
 tie _ 207 Tryz.f207 QV _ w K 1 _ rfl mixed Tryz.func207 (by kernel_rfl) (by kernel_rfl) Tryz.call207 h
def QT:bC:={js:=[],ds:=[]}
def aCd(v0 v1:Value)(w:World)(K:Q0):=aA P0 251 [v0,v1] w λt8 w1=>bS 0 t8 λt9=>bS 1 t8 λt10=>K (.tuple #[t9,t10]) w1
theorem Uu{K:Q0}(h:aCd v0 v1 w K):aA P0 225 [v0,v1] w K:=
 tie _ 225 Tryz.f225 QT _ w K 2 _ rfl mixed Tryz.func225 (by kernel_rfl) (by kernel_rfl) Tryz.call225 h
def QS:bC:={js:=[],ds:=[]}
def aCc(v0 v1:Value)(w:World)(K:Q0):=aA P0 254 [v0,v1] w λt7 w1=>K t7 w1
theorem Ut{K:Q0}(h:aCc v0 v1 w K):aA P0 228 [v0,v1] w K:=
 tie _ 228 Tryz.f228 QS _ w K 2 _ rfl mixed Tryz.func228 (by kernel_rfl) (by kernel_rfl) Tryz.call228 h
def QR:bC:={js:=[],ds:=[]}
def aDK(v0:Value)(w:World)(K:Q0):=aC .neq v0 v0 λt5=>K t5 w
theorem Us{K:Q0}(h:aDK v0 w K):aA P0 229 [v0] w K:=
 tie _ 229 Tryz.f229 QR _ w K 1 _ rfl mixed Tryz.func229 (by kernel_rfl) (by kernel_rfl) Tryz.call229 h
def QQ:bC:={js:=[],ds:=[]}
def aDJ(v0:Value)(w:World)(K:Q0):=aC .neq v0 v0 λt5=>K t5 w
theorem Ur{K:Q0}(h:aDJ v0 w K):aA P0 230 [v0] w K:=
 tie _ 230 Tryz.f230 QQ _ w K 1 _ rfl mixed Tryz.func230 (by kernel_rfl) (by kernel_rfl) Tryz.call230 h
def QP:bC:={js:=[],ds:=[]}
def aCb(v0 v1:Value)(w:World)(K:Q0):=aA P0 238 [v0] w λt8 w1=>aA P0 238 [v1] w1 λt10 w2=>aD t8 (aD t10 (K (i64 0) w2) (K (.int .i64 (-1)) w2)) (aD t10 (K (i64 1) w2) (aC .lss v0 v1 λt16=>aD t16 (K (.int .i64 (-1)) w2) (aC .gtr v0 v1 λt19=>aD t19 (K (i64 1) w2) (K (i64 0) w2))))
theorem Uq{K:Q0}(h:aCb v0 v1 w K):aA P0 232 [v0,v1] w K:=
 tie _ 232 Tryz.f232 QP _ w K 2 _ rfl mixed Tryz.func232 (by kernel_rfl) (by kernel_rfl) Tryz.call232 h
def QO:bC:={js:=[],ds:=[]}
def aCa(v0 v1:Value)(w:World)(K:Q0):=aA P0 256 [v0] w λt8 w1=>aA P0 256 [v1] w1 λt10 w2=>aD t8 (aD t10 (K (i64 0) w2) (K (.int .i64 (-1)) w2)) (aD t10 (K (i64 1) w2) (aC .lss v0 v1 λt16=>aD t16 (K (.int .i64 (-1)) w2) (aC .gtr v0 v1 λt19=>aD t19 (K (i64 1) w2) (K (i64 0) w2))))
theorem Up{K:Q0}(h:aCa v0 v1 w K):aA P0 233 [v0,v1] w K:=
 tie _ 233 Tryz.f233 QO _ w K 2 _ rfl mixed Tryz.func233 (by kernel_rfl) (by kernel_rfl) Tryz.call233 h
def QL:bC:={js:=[],ds:=[]}
def aDI(v0:Value)(w:World)(K:Q0):=aC .neq v0 v0 λt5=>K t5 w
theorem Um{K:Q0}(h:aDI v0 w K):aA P0 238 [v0] w K:=
 tie _ 238 Tryz.f238 QL _ w K 1 _ rfl mixed Tryz.func238 (by kernel_rfl) (by kernel_rfl) Tryz.call238 h
def QK:bC:={js:=[],ds:=[]}
def aB7(v0 v1:Value)(w:World)(K:Q0):=aA P0 67 [v0,v1] w λt8 w1=>gU .not t8 λt9=>aD t9 (K (.tuple #[v0,(.bool false)]) w1) (eQ v1 λt13=>jG v0 (some t13) none λt14=>K (.tuple #[t14,(.bool true)]) w1)
theorem Ul{K:Q0}(h:aB7 v0 v1 w K):aA P0 251 [v0,v1] w K:=
 tie _ 251 Tryz.f251 QK _ w K 2 _ rfl mixed Tryz.func251 (by kernel_rfl) (by kernel_rfl) Tryz.call251 h
def QJ:bC:={js:=[],ds:=[]}
def aB6(v0 v1:Value)(w:World)(K:Q0):=aC .eql v1 (i64 10) λt10=>aD t10 (aC .lss v0 (.int .u64 100) λt12=>aD t12 (oO .i64 v0 λt14=>aA P0 274 [t14] w λt15 w1=>K t15 w1) (aN 262 (List.replicate 24 (.int .u8 0)) w λt5 w2=>aA P0 275 [v0] w2 λt17 w3=>Lj 24 1 t5 none (some t17) none λt19=>aA P0 276 [t19,v0] w3 λt21 w4=>Lj 24 1 t5 none (some t17) none λt23=>jP P0 (convert 89 9 t23) w4 λt24=>K t24 w4)) (aA P0 277 [sN,v0,v1,(.bool false),(.bool false)] w λt28 w5=>bS 0 t28 λt29=>bS 1 t28 λt30=>K t30 w5)
theorem Uk{K:Q0}(h:aB6 v0 v1 w K):aA P0 254 [v0,v1] w K:=
 tie _ 254 Tryz.f254 QJ _ w K 2 _ rfl mixed Tryz.func254 (by kernel_rfl) (by kernel_rfl) Tryz.call254 h
def QI:bC:={js:=[],ds:=[]}
def aDH(v0:Value)(w:World)(K:Q0):=aC .neq v0 v0 λt5=>K t5 w
theorem Uj{K:Q0}(h:aDH v0 w K):aA P0 256 [v0] w K:=
 tie _ 256 Tryz.f256 QI _ w K 1 _ rfl mixed Tryz.func256 (by kernel_rfl) (by kernel_rfl) Tryz.call256 h
end
section
open Go Go.Eng Go.Num
variable{w:World}{K:Q0}{cs:List Value}{G:Nat->Prop}{T:TypeId}{i:Nat}{n:Nat}{v:Value}{w':World}{P:Program}{c:UInt8}{S:Nat->Prop}
abbrev VT:TypeId:=26
structure oS(w:World)(a:Nat)(v:JV)(sv kv:Value):Prop where
 hb:w.heap[a]?=some (.cells [i64 v.k,.bool v.b,str v.t,sv,kv].toArray VT (0,0))
 items:∃T L,SlAt w T sv v.xs.length L/\cD w v.xs L
 keys:∃T,SlAt w T kv v.ks.length (v.ks.map str)
 fits:Fits v.xs.length v.ks v.t
theorem oS.ext{a:Nat}{v:JV}{sv kv:Value}(h:oS w a v sv kv)(hx:bA w w'):oS w' a v sv kv:=
 ⟨hx.at h.hb id,let⟨T,L,h1,h2⟩:=h.items;⟨T,L,h1.ext hx,h2.ext hx⟩,let⟨T,h1⟩:=h.keys;⟨T,h1.ext hx⟩,h.fits⟩
theorem oS.rep{a:Nat}{v:JV}{sv kv:Value}(h:oS w a v sv kv):cM w v [i64 v.k,.bool v.b,str v.t,sv,kv]:=by
 obtain⟨T,L,h1,h2⟩:=h.items;obtain⟨T',h3⟩:=h.keys;exact cM.mk h1 h2 h3 h.fits
theorem oS.ld{a:Nat}{v:JV}{sv kv:Value}{K:Value->Prop}(h:oS w a v sv kv)(hK:∀cs,cM w v cs->K (.agg cs.toArray)):aE true 5 (.pointer (some ⟨a,0,none⟩)) w K:=aU h.hb rfl (hK _ h.rep)
theorem oS.lenx{a:Nat}{v:JV}{sv kv:Value}(h:oS w a v sv kv)(K:Value->Prop):bK sv K↔K (i64 v.xs.length):=by obtain⟨T,L,h1,_⟩:=h.items;exact dJ h1 K
theorem oS.lenk{a:Nat}{v:JV}{sv kv:Value}(h:oS w a v sv kv)(K:Value->Prop):bK kv K↔K (i64 v.ks.length):=by obtain⟨T,h1⟩:=h.keys;exact dJ h1 K
theorem oS.item{a:Nat}{v:JV}{sv kv:Value}{k:IntKind}{x:JV}{K:Value->Prop}(h:oS w a v sv kv)(hi:v.xs[i]?=some x)(hK:∀cs,cM w x cs->K (.agg cs.toArray)):bU none 5 sv (.int k i) λp=>aE true 5 p w K:=by
 obtain⟨T,L,h1,h2⟩:=h.items;exact EJ h1 h2 hi hK
theorem oS.key{a:Nat}{v:JV}{sv kv:Value}{k:IntKind}{x:aH}{K:Value->Prop}(h:oS w a v sv kv)(hi:v.ks[i]?=some x)(hK:K (str x)):bU none 1 kv (.int k i) λp=>aE false 1 p w K:=by
 obtain⟨T,h1⟩:=h.keys;exact jE h1 hi hK
theorem gB{v:JV}{K:Q0}(h:cM w v cs)(hK:∀a w' sv kv,oS w' a v sv kv->bA w w'->w.heap.size<=a->K (.pointer (some ⟨a,0,none⟩)) w'):cI VT (.agg cs.toArray) w K:=by
 obtain⟨sv,kv,T1,T2,L,rfl,h1,h2,h3,h4⟩:=h.out;refine dF λa w' ha hz hb hx=>hK a w' sv kv ⟨hb,⟨T1,L,h1.ext hx,h2.ext hx⟩,⟨T2,h3.ext hx⟩,h4⟩ hx (by omega)
structure Pz(w:World)(v:JV)(sv kv:Value):Prop where
 items:∃T L,SlAt w T sv v.xs.length L/\cD w v.xs L
 keys:∃T,SlAt w T kv v.ks.length (v.ks.map str)
 fits:Fits v.xs.length v.ks v.t
theorem Pz.box{a:Nat}{v:JV}{sv kv:Value}(h:Pz w v sv kv)(hx:bA w w')(hb:w'.heap[a]?=some (.cells [i64 v.k,.bool v.b,str v.t,sv,kv].toArray VT (0,0))):oS w' a v sv kv:=
 ⟨hb,let⟨T,L,h1,h2⟩:=h.items;⟨T,L,h1.ext hx,h2.ext hx⟩,let⟨T,h1⟩:=h.keys;⟨T,h1.ext hx⟩,h.fits⟩
theorem BW{w0:World}{v:JV}{K:Q0}(h:cM w0 v cs)(hK:∀a w' sv kv,w'.heap[a]?=some (.cells [i64 v.k,.bool v.b,str v.t,sv,kv].toArray VT (0,0))->Pz w0 v sv kv->bA w w'->w.heap.size<=a->w'.heap.size=a+1->K (.pointer (some ⟨a,0,none⟩)) w'):cI VT (.agg cs.toArray) w K:=by
 obtain⟨sv,kv,T1,T2,L,rfl,h1,h2,h3,h4⟩:=h.out;refine dF λa w' ha hz hb hx=>hK a w' sv kv hb ⟨⟨T1,L,h1,h2⟩,⟨T2,h3⟩,h4⟩ hx (by omega) (by omega)
theorem Pz.item_old{w0:World}{v:JV}{sv kv:Value}{k:IntKind}{x:JV}{K:Value->Prop}(h:Pz w0 v sv kv)(hx:bA w0 w)(hi:v.xs[i]?=some x)(hK:∀cs,cM w0 x cs->K (.agg cs.toArray)):bU none 5 sv (.int k i) λp=>aE true 5 p w K:=by
 obtain⟨T,L,h1,h2⟩:=h.items;obtain⟨cs,hc,hg⟩:=h2.get hi;refine mR (size:=5) (h1.ext hx) h2.len (by omega) (List.getElem?_eq_some_iff.1 hi).1 λb o c fr hb hcc=>?_;exact rE hb hc.len (λj hj=>(hcc j hj).trans (hg j hj)) (hK cs hc)
def aC9(w0 w:World)(v:JV)(cs:List Value):Prop:=∃sv kv T1 T2 L,cs=[i64 v.k,.bool v.b,str v.t,sv,kv]/\SlAt w T1 sv v.xs.length L/\cD w0 v.xs L/\SlAt w T2 kv v.ks.length (v.ks.map str)/\Fits v.xs.length v.ks v.t
theorem jI(n:Nat){w1:World}{B:List Value->Fr->World->(List Value->World->Prop)->Prop}(R:Nat->World->Prop)(h0:R 0 w1)
  (step:∀i w g L,i<n->R i w->(∀w',R (i+1) w'->L [i64 ((i+1:Nat):Int)] w')->B [i64 (i:Nat)] g w L)
  (fin:∀w g L,R n w->B [i64 (n:Nat)] g w L):bL [i64 0] w1 B:=by
 refine⟨λs w=>∃i,i<=n/\s=[i64 (i:Nat)]/\R i w,λs _=>match s with|[.int _ i]=>n-i.toNat|_=>0,⟨0,Nat.zero_le _,rfl,h0⟩,?_⟩;rintro s g w ⟨i,hi,rfl,hR⟩;rcases Nat.lt_or_ge i n with hlt|hge
 ·exact step i w g _ hlt hR λw' h'=>⟨⟨i+1,hlt,rfl,h'⟩,by simp only[Int.toNat_natCast];omega⟩
 ·obtain rfl:i=n:=by omega
  exact fin w g _ hR
theorem wR(h:(i:Int)<9223372036854775807):IntKind.i64.wrap ((i:Int)+1)=((i+1:Nat):Int):=by rw[bD (by omega) (by omega)];simp
section
variable [HX]
theorem Le{a b:List aH}{x y:Value}{T1 T2:TypeId}{K:Q0}(h1:SlAt w T1 x a.length (a.map str))(h2:SlAt w T2 y b.length (b.map str))(ha:a.length<=9223372036854775807)
  (hK:∀w',bA w w'->K (.bool (decide (a=b))) w'):aA P0 37 [x,y] w K:=by
 refine aAs ?_;unfold W37;rw[dJ h1,dJ h2];simp only[cP,cS,bT,cR,cond_true,cond_false,exists_eq_left',cQ,Nat.reduceAdd,Nat.reduceLT,Nat.lt_add_one,Nat.zero_lt_succ,decide_true,decide_false,ne_eq,reduceCtorEq,aB];refine⟨λhne=>?_,λhe=>?_⟩
 ·have:a≠b:=by rintro rfl;exact hne rfl
  have:=hK w (aS.refl _ _);rw[decide_eq_false ‹a≠b›]at this;exact this
 ·have hl:a.length=b.length:=by omega
  rw[dJ h1];refine jI a.length (λi w'=>bA w w'/\a.take i=b.take i) ⟨aS.refl _ _,rfl⟩ ?_ ?_
  ·rintro i w2 g L hi ⟨hx2,htk⟩ hL;have hx3:=hx2.trans (aS.drew (aS.refl (λ_=>False) w2));obtain⟨u,hu⟩:∃u,a[i]?=some u:=⟨_,List.getElem?_eq_getElem hi⟩;obtain⟨v,hv⟩:∃v,b[i]?=some v:=⟨_,List.getElem?_eq_getElem (by omega)⟩;have hlt:((i:Int)<(a.length:Int)):=by omega
   simp only[cP,cS,bT,cR,cond_true,cond_false,exists_eq_left',cQ,Nat.reduceAdd,Nat.reduceLT,Nat.lt_add_one,Nat.zero_lt_succ,decide_true,decide_false,ne_eq,reduceCtorEq,hlt];refine jE (h1.ext hx3) hu ?_;refine jE (h2.ext hx3) hv ?_;simp only[cP,cS,bT,cR,cond_true,cond_false,exists_eq_left',cQ,Nat.reduceAdd,Nat.reduceLT,Nat.lt_add_one,Nat.zero_lt_succ,decide_true,decide_false,ne_eq,reduceCtorEq,aB];refine⟨λhne=>?_,λhe=>?_⟩
   ·have:=hK _ hx3;rw[decide_eq_false (Qh hu hv hne)]at this;exact this
   ·rw[wR (by omega)];have he:u=v:=by simpa using he
    exact hL _ ⟨hx3,JN htk hu (by rw[he];exact hv)⟩
  ·rintro w2 g L ⟨hx2,htk⟩;simp only[cP,cS,bT,cR,cond_true,cond_false,exists_eq_left',cQ,Nat.reduceAdd,Nat.reduceLT,Nat.lt_add_one,Nat.zero_lt_succ,decide_true,decide_false,ne_eq,reduceCtorEq,Int.lt_irrefl];rw[List.take_length,hl,List.take_length]at htk;have:=hK w2 hx2;rw[decide_eq_true htk]at this;exact this
end
section
variable [HX]
theorem LM(c:UInt8):(decide (((c.toNat:Nat):Int)<48)||decide ((57:Int)<((c.toNat:Nat):Int)))=!Num.isDig c:=by
 unfold Num.isDig;rcases Nat.lt_or_ge c.toNat 48 with h|h
 ·rw[decide_eq_true (by omega),decide_eq_false (show¬48<=c.toNat by omega)];rfl
 ·rw[decide_eq_false (show¬((c.toNat:Nat):Int)<48 by omega),decide_eq_true (show 48<=c.toNat by omega)];rcases Nat.lt_or_ge 57 c.toNat with h2|h2
  ·rw[decide_eq_true (by omega),decide_eq_false (show¬c.toNat<=57 by omega)];rfl
  ·rw[decide_eq_false (by omega),decide_eq_true (show c.toNat<=57 by omega)];rfl
theorem aA5(c:UInt8)(m:Int)(d:UInt8)(hm:m=(d.toNat:Nat)):decide (((c.toNat:Nat):Int)=m)=(c==d):=by
 rw[Bool.eq_iff_iff,decide_eq_true_eq,beq_iff_eq,hm];constructor
 ·intro h;exact UInt8.toNat_inj.1 (by omega)
 ·intro h;rw[h]
theorem IW{ks:List aH}{a b:aH}(ha:ks[i]?=some a)(hb:ks[i+1]?=some b)(h:Op.bytesLess a b=false):fK ks=false:=by
 induction ks generalizing i with
 |nil=>simp at ha
 |cons x r ih=>
  cases r with
  |nil=>simp at hb
  |cons y r=>
   cases i with
   |zero=>simp only[List.getElem?_cons_zero,Option.some.injEq,Nat.zero_add,List.getElem?_cons_succ]at ha hb;subst ha hb;simp[fK,h]
   |succ i=>
    simp only[List.getElem?_cons_succ]at ha hb;rw[fK,ih (by simpa using ha) (by simpa using hb)];simp
theorem GU{ks:List aH}{a:aH}(ha:ks[i]?=some a)(h:16384<a.length):fK ks=false:=by
 induction ks generalizing i with
 |nil=>simp at ha
 |cons x r ih=>
  cases i with
  |zero=>
   simp only[List.getElem?_cons_zero,Option.some.injEq]at ha;subst ha;cases r with
   |nil=>simp only[fK,decide_eq_false_iff_not];omega
   |cons y r=>rw[fK,decide_eq_false (by omega)];rfl
  |succ i=>
   simp only[List.getElem?_cons_succ]at ha;cases r with
   |nil=>simp at ha
   |cons y r=>rw[fK,ih ha];simp
theorem LK{ks:List aH}(h1:∀(i:Nat) (a:aH),ks[i]?=some a->a.length<=16384)(h2:∀(i:Nat) (a b:aH),ks[i]?=some a->ks[i+1]?=some b->Op.bytesLess a b=true):fK ks=true:=by
 induction ks with
 |nil=>rfl
 |cons x r ih=>
  have:=ih (λi a h=>h1 (i+1) a (by rw[List.getElem?_cons_succ];exact h)) (λi a b ha hb=>h2 (i+1) a b (by rw[List.getElem?_cons_succ];exact ha) (by rw[List.getElem?_cons_succ];exact hb));cases r with
  |nil=>simp only[fK,decide_eq_true_eq];exact h1 0 x rfl
  |cons y r=>rw[fK,this,h2 0 x y rfl rfl,decide_eq_true (h1 0 x rfl)];rfl
theorem Nj(a:JV):∀{b:JV} {cs ds:List Value} {w:World} {K:Q0},cM w a cs->cM w b ds->(∀w',bA w w'->K (.bool (zO a b)) w')->aA P0 17 [.agg cs.toArray,.agg ds.toArray] w K:=by
 induction a using JV.ind' with
 |h v ih=>
  intro b cs ds w K h h' hK;refine aAH ?_;unfold W17;refine gB h λx w1 sv kv hB hx _=>?_;refine gB (h'.ext hx) λy w2 sv' kv' hC hx2 _=>?_;have hB:=hB.ext hx2;have hx:=hx.trans hx2;clear hx2;rw[Nk]at hK;simp only[cP,cS,bT,cR,cond_true,cond_false,exists_eq_left',cQ,Nat.reduceAdd,Nat.reduceLT,Nat.lt_add_one,Nat.zero_lt_succ,decide_true,decide_false,ne_eq,reduceCtorEq,bT,hB.hb,hC.hb,Wn,aBr];intros;refine cX.act (!decide (v.ks=b.ks)) (λw'=>bA w2 w') (λ_=>aS.refl _ _) ?_ ?_
  ·intro hc J hJ;obtain⟨T1,k1⟩:=hB.keys;obtain⟨T2,k2⟩:=hC.keys;refine Le k1 k2 hB.fits.2.1 λw3 hx3=>?_;simp only[cP,cS,bT,cR,cond_true,cond_false,exists_eq_left',cQ,Nat.reduceAdd,Nat.reduceLT,Nat.lt_add_one,Nat.zero_lt_succ,decide_true,decide_false,ne_eq,reduceCtorEq];exact hJ w3 hx3
  intro g w3 hx3;have hB:=hB.ext hx3;have hC:=hC.ext hx3;have hx:=hx.trans hx3;clear hx3;simp only[cP,cS,bT,cR,cond_true,cond_false,exists_eq_left',cQ,Nat.reduceAdd,Nat.reduceLT,Nat.lt_add_one,Nat.zero_lt_succ,decide_true,decide_false,ne_eq,reduceCtorEq,bT,hB.hb,hC.hb,hB.lenx,hC.lenx];intros;have e1:(!v.b==b.b)=!decide (v.b=b.b):=by cases v.b<;>cases b.b<;>rfl
  have e2:decide (¬(v.xs.length:Int)=(b.xs.length:Int))=!decide (v.xs.length=b.xs.length):=by rw[<-decide_not];exact decide_eq_decide.2 (by omega)
  rw[e2];simp only[decide_not];have hsl:v.xs.length≠b.xs.length->pD v.xs b.xs=false:=Ls;by_cases hl:v.xs.length=b.xs.length
  ·rw[decide_eq_true hl,aQ];refine⟨λhne=>?_,λheq=>?_⟩
   ·have:=hK w3 hx;have e:(decide (v.k=b.k)&&decide (v.b=b.b)&&decide (v.t=b.t)&&decide (v.ks=b.ks)&&pD v.xs b.xs)=false:=by
     have e1:(v.b==b.b)=decide (v.b=b.b):=by cases v.b<;>cases b.b<;>rfl
     rw[e1]at hne;revert hne;cases decide (v.k=b.k)<;>cases decide (v.b=b.b)<;>cases decide (v.t=b.t)<;>cases decide (v.ks=b.ks)<;>simp
    rw[e]at this;exact this
   ·have e:(decide (v.k=b.k)&&decide (v.b=b.b)&&decide (v.t=b.t)&&decide (v.ks=b.ks))=true:=by
     have e1:(v.b==b.b)=decide (v.b=b.b):=by cases v.b<;>cases b.b<;>rfl
     rw[e1]at heq;revert heq;cases decide (v.k=b.k)<;>cases decide (v.b=b.b)<;>cases decide (v.t=b.t)<;>cases decide (v.ks=b.ks)<;>simp
    rw[e]at hK;refine jI v.xs.length (λi w'=>bA w3 w'/\v.xs.take i=b.xs.take i) ⟨aS.refl _ _,rfl⟩ ?_ ?_
    ·rintro i w4 g L hi ⟨hx4,hall⟩ hL;have hxd:bA w3 w4.drew:=hx4.trans (aS.drew (aS.refl (λ_=>False) w4));have hB4:=hB.ext hx4;have hC4:=hC.ext hx4;have hB:=hB.ext hxd;have hC:=hC.ext hxd;obtain⟨p,hp⟩:∃p,v.xs[i]?=some p:=⟨_,List.getElem?_eq_getElem hi⟩;obtain⟨q,hq⟩:∃q,b.xs[i]?=some q:=⟨_,List.getElem?_eq_getElem (by omega)⟩;have hlt:((i:Int)<(v.xs.length:Int)):=by omega
     simp only[cP,cS,bT,cR,cond_true,cond_false,exists_eq_left',cQ,Nat.reduceAdd,Nat.reduceLT,Nat.lt_add_one,Nat.zero_lt_succ,decide_true,decide_false,ne_eq,reduceCtorEq,bT,hB4.hb,hC4.hb,hlt];refine hB.item hp λcs1 h1=>?_;refine hC.item hq λcs2 h2=>?_;refine ih p (List.mem_of_getElem? hp) h1 h2 λw5 hx5=>?_;simp only[cP,cS,bT,cR,cond_true,cond_false,exists_eq_left',cQ,Nat.reduceAdd,Nat.reduceLT,Nat.lt_add_one,Nat.zero_lt_succ,decide_true,decide_false,ne_eq,reduceCtorEq,aQ];refine⟨λhf=>?_,λht=>?_⟩
     ·have hf:zO p q=false:=by simpa using hf
      have:=hK w5 (hx.trans (hxd.trans hx5));rw[Iz hl hp hq hf]at this;exact this
     ·have ht:zO p q=true:=by simpa using ht
      have:=(same_iff p q).1 ht;subst this;rw[wR (by have:=hB.fits.1;omega)];exact hL w5 ⟨hxd.trans hx5,JN hall hp hq⟩
    ·rintro w4 g L ⟨hx4,hall⟩;simp only[cP,cS,bT,cR,cond_true,cond_false,exists_eq_left',cQ,Nat.reduceAdd,Nat.reduceLT,Nat.lt_add_one,Nat.zero_lt_succ,decide_true,decide_false,ne_eq,reduceCtorEq,Int.lt_irrefl];rw[List.take_length,hl,List.take_length]at hall;have:=hK w4 (hx.trans hx4);rw[(qU _ _).2 hall]at this;exact this
  ·rw[decide_eq_false hl,Bool.not_false,Bool.or_true,bZ];have:=hK w3 hx;rw[hsl hl,Bool.and_false]at this;exact this
end
abbrev ST:TypeId:=9
theorem Jq:mM P0 24 ST 1 16:=⟨by kernel_rfl,by kernel_rfl,by decide⟩
theorem Fo:mM P0 23 VT 5 80:=⟨by kernel_rfl,by kernel_rfl,by decide⟩
abbrev zv:List Value:=[i64 0,.bool false,str [],.slice none 0 0,.slice none 0 0]
abbrev ptr(b:Nat):Value:=.pointer (some ⟨b,0,none⟩)
structure iD(w0 w:World)(b base:Nat)(sv0 kv0 sv kv:Value)(xs:List JV)(ks:List aH):Prop where
 ext:bA w0 w
 hb:w.heap[b]?=some (.cells [i64 6,.bool false,str [],sv0,kv0].toArray VT (0,0))
 low:w0.heap.size<=b
 lt:b<base
 le:base<=w.heap.size
 items:∃L,Own w base VT 5 sv xs.length L/\cD w0 xs L
 keys:Own w base ST 1 kv ks.length (ks.map str)
theorem iD.more{w0:World}{b base:Nat}{sv0 kv0 sv kv:Value}{xs:List JV}{ks:List aH}(h:iD w0 w b base sv0 kv0 sv kv xs ks)(hx:bA w w'):iD w0 w' b base sv0 kv0 sv kv xs ks:=
 ⟨h.ext.trans hx,hx.at h.hb id,h.low,h.lt,Nat.le_trans h.le hx.size,let⟨L,h1,h2⟩:=h.items;⟨L,h1.ext hx,h2⟩,h.keys.ext hx⟩
theorem iD.chg{w0:World}{b b' base:Nat}{sv0 kv0 sv kv:Value}{xs:List JV}{ks:List aH}(h:iD w0 w b base sv0 kv0 sv kv xs ks)(hc:aS (λk=>k=b') w w')(h1:b'≠b)(h2:b'<base)(h3:w0.heap.size<=b'):iD w0 w' b base sv0 kv0 sv kv xs ks:=
 ⟨h.ext.new hc h3,hc.at h.hb (λe=>h1 e.symm),h.low,h.lt,Nat.le_trans h.le hc.size,let⟨L,g1,g2⟩:=h.items;⟨L,g1.chg hc λk hk e=>by have:=hk.1;omega,g2⟩,h.keys.chg hc λk hk e=>by have:=hk.1;omega⟩
theorem qB{base:Nat}{e:TypeId}{size:Nat}{xs:List Value}(h:Own w base e size v n xs){k:Nat}(hk:v.ownBlock=some k):base<=k/\∃c,w.heap[k]?=some (.cells c e (0,0)):=h.block k hk
theorem iD.appk{w0:World}{b base:Nat}{sv0 kv0 sv kv t:Value}{xs:List JV}{ks:List aH}{x:aH}{K:Q0}(h:iD w0 w b base sv0 kv0 sv kv xs ks)(ht:SlAt w T t 1 [str x])(hl:ks.length<=1000000)
  (hK:∀kv' w',iD w0 w' b base sv0 kv0 sv kv' xs (ks++[x])->aS (λk=>base<=k) w w'->K kv' w'):bP P0 (Builtin.append_ #[24,24] 24 #[kv,t]) w K:=by
 refine gN Jq h.keys ht (m:=1) rfl (λu hu=>by simp only[List.mem_singleton]at hu;subst hu;rfl) (by omega) (by omega) h.le λv' w' h' hc _=>?_;refine hK v' w' ⟨h.ext.then hc λk hk e=>?_,hc.at h.hb λe=>?_,h.low,h.lt,Nat.le_trans h.le hc.size,?_,by simpa using h'⟩ (hc.mono λk _ e=>(qB h.keys e).1)
 ·have:=(qB h.keys e).1;have:=h.low;have:=h.lt;omega
 ·have:=(qB h.keys e).1;have:=h.lt;omega
 ·obtain⟨L,h1,h2⟩:=h.items;refine⟨L,h1.chg hc λk hk e=>?_,h2⟩;obtain⟨_,c,hc1⟩:=hk;obtain⟨_,c',hc2⟩:=qB h.keys e;rw[hc1]at hc2;cases hc2
theorem iD.appx{w0:World}{b base:Nat}{sv0 kv0 sv kv t:Value}{xs:List JV}{ks:List aH}{x:JV}{K:Q0}(h:iD w0 w b base sv0 kv0 sv kv xs ks)(ht:SlAt w T t 1 cs)(hx:cM w0 x cs)(hl:xs.length<=1000000)
  (hK:∀sv' w',iD w0 w' b base sv0 kv0 sv' kv (xs++[x]) ks->aS (λk=>base<=k) w w'->K sv' w'):bP P0 (Builtin.append_ #[23,23] 23 #[sv,t]) w K:=by
 obtain⟨L,h1,h2⟩:=h.items;refine gN Fo h1 ht (m:=1) (by rw[hx.len]) hx.one (by omega) (by omega) h.le λv' w' h' hc _=>?_;refine hK v' w' ⟨h.ext.then hc λk hk e=>?_,hc.at h.hb λe=>?_,h.low,h.lt,Nat.le_trans h.le hc.size,⟨L++cs,by simpa using h',h2.snoc hx⟩,h.keys.chg hc λk hk e=>?_⟩ (hc.mono λk _ e=>(qB h1 e).1)
 ·have:=(qB h1 e).1;have:=h.low;have:=h.lt;omega
 ·have:=(qB h1 e).1;have:=h.lt;omega
 ·obtain⟨_,c,hc1⟩:=hk;obtain⟨_,c',hc2⟩:=qB h1 e;rw[hc1]at hc2;cases hc2
theorem iD.set{w0:World}{b base off:Nat}{sv0 kv0 sv kv sv1 kv1:Value}{xs:List JV}{ks:List aH}{K:World->Prop}(h:iD w0 w b base sv0 kv0 sv kv xs ks)(h1:cY v=true)(ho:off<5)
  (he:([i64 6,.bool false,str [],sv0,kv0]:List Value).set off v=[i64 6,.bool false,str [],sv1,kv1])(hK:∀w',iD w0 w' b base sv1 kv1 sv kv xs ks->aS (λk=>k=b) w w'->K w'):bF 1 (.pointer (some ⟨b,off,none⟩)) v w K:=by
 refine eY h.hb h1 (by simpa using ho) λw' hz hb' hc=>?_;refine hK w' ⟨h.ext.new hc h.low,?_,h.low,h.lt,by rw[hz];exact h.le,?_,h.keys.chg hc λk hk e=>?_⟩ hc
 ·rw[hb',<-he];simp
 ·obtain⟨L,h1,h2⟩:=h.items;exact⟨L,h1.chg hc λk hk e=>by have:=hk.1;have:=h.lt;omega,h2⟩
 ·have:=hk.1;have:=h.lt;omega
theorem iD.one{w0:World}{b base:Nat}{sv0 kv0 sv kv:Value}{xs:List JV}{ks:List aH}(h:iD w0 w b base sv0 kv0 sv kv xs ks):cY sv=true/\cY kv=true:=by
 obtain⟨L,h1,_⟩:=h.items;obtain⟨p,c,rfl,_⟩:=h1.sl.shape;obtain⟨p',c',rfl,_⟩:=h.keys.sl.shape;exact⟨rfl,rfl⟩
abbrev Ib(g base:Nat)(w w':World):Prop:=aS (λk=>k=g\/base<=k) w w'
theorem pL{g base:Nat}{w1 w2:World}(h1:Ib g base w w1)(h2:bA w1 w2):Ib g base w w2:=h1.trans (aS.of_ext h2)
theorem rD{g base:Nat}{w1 w2:World}(h1:Ib g base w w1)(h2:aS (λk=>base<=k) w1 w2):Ib g base w w2:=h1.trans (h2.mono λk _ e=>.inr e)
theorem uQ{g base:Nat}{w1 w2:World}(h1:Ib g base w w1)(h2:aS (λk=>k=g) w1 w2):Ib g base w w2:=h1.trans (h2.mono λk _ e=>.inl e)
theorem nG{g base:Nat}{w1:World}(h1:Ib g base w w1){j:Nat}(hj:j<base)(hg:j≠g){o:Obj}(h:w.heap[j]?=some o):w1.heap[j]?=some o:=h1.at h (by omega)
theorem EG{g base:Nat}{w1 w2:World}(h1:bA w w1)(hg:w.heap.size<=g)(hb:w.heap.size<=base)(h2:Ib g base w1 w2):bA w w2:=h1.then h2 λk hk e=>by omega
structure uE(w0 w:World)(base:Nat)(v:JV)(sv kv:Value):Prop where
 items:∃L,Own w base VT 5 sv v.xs.length L/\cD w0 v.xs L
 keys:Own w base ST 1 kv v.ks.length (v.ks.map str)
 fits:Fits v.xs.length v.ks v.t
theorem uE.chg{w0:World}{base:Nat}{v:JV}{sv kv:Value}(h:uE w0 w base v sv kv)(hc:aS S w w')(hS:∀k,base<=k->k<w.heap.size->¬S k):uE w0 w' base v sv kv:=
 ⟨let⟨L,h1,h2⟩:=h.items;⟨L,h1.chg hc λk hk=>hS k hk.1 (by obtain⟨_,c,hk⟩:=hk;exact dA hk),h2⟩,h.keys.chg hc λk hk=>hS k hk.1 (by obtain⟨_,c,hk⟩:=hk;exact dA hk),h.fits⟩
theorem uE.one{w0:World}{base:Nat}{v:JV}{sv kv:Value}(h:uE w0 w base v sv kv):cY sv=true/\cY kv=true:=by
 obtain⟨L,h1,_⟩:=h.items;obtain⟨p,c,rfl,_⟩:=h1.sl.shape;obtain⟨p',c',rfl,_⟩:=h.keys.sl.shape;exact⟨rfl,rfl⟩
theorem uE.val{w0:World}{base:Nat}{v:JV}{sv kv:Value}(h:uE w0 w base v sv kv):aC9 w0 w v [i64 v.k,.bool v.b,str v.t,sv,kv]:=by
 obtain⟨L,h1,h2⟩:=h.items;exact⟨sv,kv,VT,ST,L,rfl,h1.sl,h2,h.keys.sl,h.fits⟩
theorem iD.own{w0:World}{b base:Nat}{sv kv:Value}{l:List (aH×JV)}(h:iD w0 w b base sv kv sv kv (l.map (·.2)) (l.map (·.1)))(hl:l.length<=1000000)(hk:∀p∈l,p.1.length<=9223372036854775807):uE w0 w base (mA l) sv kv:=by
 refine⟨h.items,h.keys,?_,?_,?_,?_⟩
 ·simp only[mA,JV.xs,List.length_map];omega
 ·simp only[mA,JV.ks,List.length_map];omega
 ·simp[mA,JV.t]
 ·intro s hs;simp only[mA,JV.ks,List.mem_map]at hs;obtain⟨p,hp,rfl⟩:=hs;exact hk p hp
theorem iD.rebase{w0:World}{b base base':Nat}(h:iD w0 w b base (.slice none 0 0) (.slice none 0 0) (.slice none 0 0) (.slice none 0 0) [] [])(h1:b<base')(h2:base'<=w.heap.size):iD w0 w b base' (.slice none 0 0) (.slice none 0 0) (.slice none 0 0) (.slice none 0 0) [] []:=
 ⟨h.ext,h.hb,h.low,h1,h2,⟨[],⟨rfl,.inl ⟨rfl,rfl⟩⟩,by simp[cD]⟩,⟨rfl,.inl ⟨rfl,rfl⟩⟩⟩
theorem Nn{x:aH}{K:Q0}(hK:∀t w',SlAt w' ST t 1 [str x]->bA w w'->K t w'):bR ST 1 [.string (aL [])] [(0,1,str x)] w K:=by
 unfold bR;simp only[cP,cS,bT,cR,cond_true,cond_false,exists_eq_left',cQ,Nat.reduceAdd,Nat.reduceLT,Nat.lt_add_one,Nat.zero_lt_succ,decide_true,decide_false,ne_eq,reduceCtorEq];exact hK _ _ (uP (w:=w) (base:=w.heap.size) (e:=ST) (size:=1) (n:=1) (cs:=[str x]) (Nat.le_refl _) rfl (by omega)).sl (by repeat (first|assumption|exact aS.refl _ _|refine aS.drew ?_|refine aS.alloc ?_ _|refine aS.set ?_ (by first|exact .inl rfl|exact .inr (by omega)|exact .inr (by simp only[nW,size_alloc,size_drew];omega)|(left;simp;done)) _|exact aS.of_ext (by assumption)))
theorem zP{K:Q0}(hc:cs.length=5)(hK:∀t w',SlAt w' VT t 1 cs->bA w w'->K t w'):bR VT 1 [(.int .i64 0),(.bool false),(.string (aL [])),(.slice none 0 0),(.slice none 0 0)] [(0,5,.agg cs.toArray)] w K:=by
 unfold bR;have hp:∀K:List Value->Prop,K cs->bQ [(.int .i64 0),(.bool false),(.string (aL [])),(.slice none 0 0),(.slice none 0 0)] [(0,5,.agg cs.toArray)] K:=by
  intro K hK;refine⟨by simp[Value.cells,hc],by simp,?_⟩;have:List.take 0 [(Value.int .i64 0),(.bool false),(.string (aL [])),(.slice none 0 0),(.slice none 0 0)]++((Value.agg cs.toArray).cells.toList++List.drop (0+5) [(Value.int .i64 0),(.bool false),(.string (aL [])),(.slice none 0 0),(.slice none 0 0)])=cs:=by simp[Value.cells]
  rw[this];exact hK
 refine hp _ ?_;exact hK _ _ (uP (w:=w) (base:=w.heap.size) (e:=VT) (size:=5) (n:=1) (cs:=cs) (Nat.le_refl _) (by omega) (by omega)).sl (by repeat (first|assumption|exact aS.refl _ _|refine aS.drew ?_|refine aS.alloc ?_ _|refine aS.set ?_ (by first|exact .inl rfl|exact .inr (by omega)|exact .inr (by simp only[nW,size_alloc,size_drew];omega)|(left;simp;done)) _|exact aS.of_ext (by assumption)))
theorem Hc{w0:World}{g base:Nat}{sv kv:Value}{xs:List JV}{ks:List aH}{x:aH}{K:World->Prop}(G:iD w0 w g base sv kv sv kv xs ks)(hl:ks.length<=1000000)
  (hK:∀kv' w',iD w0 w' g base sv kv' sv kv' xs (ks++[x])->Ib g base w w'->K w'):
  bR ST 1 [.string (aL [])] [(0,1,str x)] w λt w1=>bP P0 (Builtin.append_ #[24,24] 24 #[kv,t]) w1 λt2 w2=>bF 1 (.pointer (some ⟨g,4,none⟩)) t2 w2 K:=by
 refine Nn λt6 w6 ht6 hx6=>?_;refine(G.more hx6).appk ht6 hl λkv2 w7 G7 hb7=>?_;refine G7.set (sv1:=sv) (kv1:=kv2) G7.one.2 (by omega) rfl λw8 G8 hb8=>?_;exact hK kv2 w8 G8 (uQ (rD (aS.of_ext hx6) hb7) hb8)
theorem LW{w0:World}{g base:Nat}{sv kv:Value}{xs:List JV}{ks:List aH}{x:aH}{K:World->Prop}(G:iD w0 w g base sv kv sv kv xs ks)(hl:ks.length<=1000000)
  (hK:∀kv' w',iD w0 w' g base sv kv' sv kv' xs (ks++[x])->Ib g base w w'->K w'):
  bR ST 1 [.string (aL [])] [(0,1,str x)] w λt w1=>(∃v,DF w1.heap[g]? 4=some v/\v=kv)/\bP P0 (Builtin.append_ #[24,24] 24 #[kv,t]) w1 λt2 w2=>bF 1 (.pointer (some ⟨g,4,none⟩)) t2 w2 K:=by
 refine Nn λt6 w6 ht6 hx6=>⟨⟨kv,by rw[(G.more hx6).hb];rfl,rfl⟩,?_⟩;refine(G.more hx6).appk ht6 hl λkv2 w7 G7 hb7=>?_;refine G7.set (sv1:=sv) (kv1:=kv2) G7.one.2 (by omega) rfl λw8 G8 hb8=>?_;exact hK kv2 w8 G8 (uQ (rD (aS.of_ext hx6) hb7) hb8)
theorem Dm{w0:World}{g base:Nat}{sv kv:Value}{xs:List JV}{ks:List aH}{x:JV}{K:World->Prop}(G:iD w0 w g base sv kv sv kv xs ks)(hx:cM w0 x cs)(hl:xs.length<=1000000)
  (hK:∀sv' w',iD w0 w' g base sv' kv sv' kv (xs++[x]) ks->Ib g base w w'->K w'):
  bR VT 1 [(.int .i64 0),(.bool false),(.string (aL [])),(.slice none 0 0),(.slice none 0 0)] [(0,5,.agg cs.toArray)] w λt w1=>bP P0 (Builtin.append_ #[23,23] 23 #[sv,t]) w1 λt2 w2=>bF 1 (.pointer (some ⟨g,3,none⟩)) t2 w2 K:=by
 refine zP hx.len λt6 w6 ht6 hx6=>?_;refine(G.more hx6).appx ht6 hx hl λsv2 w7 G7 hb7=>?_;refine G7.set (sv1:=sv2) (kv1:=kv) G7.one.1 (by omega) rfl λw8 G8 hb8=>?_;exact hK sv2 w8 G8 (uQ (rD (aS.of_ext hx6) hb7) hb8)
theorem Jd{w0:World}{g base:Nat}{sv kv:Value}{xs:List JV}{ks:List aH}{x:JV}{K:World->Prop}(G:iD w0 w g base sv kv sv kv xs ks)(hx:cM w0 x cs)(hl:xs.length<=1000000)
  (hK:∀sv' w',iD w0 w' g base sv' kv sv' kv (xs++[x]) ks->Ib g base w w'->K w'):
  bR VT 1 [(.int .i64 0),(.bool false),(.string (aL [])),(.slice none 0 0),(.slice none 0 0)] [(0,5,.agg cs.toArray)] w λt w1=>(∃v,DF w1.heap[g]? 3=some v/\v=sv)/\bP P0 (Builtin.append_ #[23,23] 23 #[sv,t]) w1 λt2 w2=>bF 1 (.pointer (some ⟨g,3,none⟩)) t2 w2 K:=by
 refine zP hx.len λt6 w6 ht6 hx6=>⟨⟨sv,by rw[(G.more hx6).hb];rfl,rfl⟩,?_⟩;refine(G.more hx6).appx ht6 hx hl λsv2 w7 G7 hb7=>?_;refine G7.set (sv1:=sv2) (kv1:=kv) G7.one.1 (by omega) rfl λw8 G8 hb8=>?_;exact hK sv2 w8 G8 (uQ (rD (aS.of_ext hx6) hb7) hb8)
theorem uE.item_old{w0:World}{base:Nat}{v:JV}{sv kv:Value}{k:IntKind}{x:JV}{K:Value->Prop}(h:uE w0 w base v sv kv)(hi:v.xs[i]?=some x)(hK:∀cs,cM w0 x cs->K (.agg cs.toArray)):bU none 5 sv (.int k i) λp=>aE true 5 p w K:=by
 obtain⟨L,h1,h2⟩:=h.items;obtain⟨cs,hc,hg⟩:=h2.get hi;refine mR (size:=5) h1.sl h2.len (by omega) (List.getElem?_eq_some_iff.1 hi).1 λb o c fr hb hcc=>?_;exact rE hb hc.len (λj hj=>(hcc j hj).trans (hg j hj)) (hK cs hc)
section
variable [HX]
theorem oS.item_old{w0:World}{a:Nat}{v:JV}{sv kv:Value}{k:IntKind}{x:JV}{K:Value->Prop}(h:oS w0 a v sv kv)(hx:bA w0 w)(hi:v.xs[i]?=some x)(hK:∀cs,cM w0 x cs->K (.agg cs.toArray)):bU none 5 sv (.int k i) λp=>aE true 5 p w K:=by
 obtain⟨T,L,h1,h2⟩:=h.items;obtain⟨cs,hc,hg⟩:=h2.get hi;refine mR (size:=5) (h1.ext hx) h2.len (by omega) (List.getElem?_eq_some_iff.1 hi).1 λb o c fr hb hcc=>?_;exact rE hb hc.len (λj hj=>(hcc j hj).trans (hg j hj)) (hK cs hc)
theorem xD{k:Int}{b:Bool}{t:aH}{sv kv:Value}(h1:cY sv=true)(h2:cY kv=true):([i64 k,.bool b,str t,sv,kv]:List Value).all cY=true:=by
 simp only[List.all_cons,List.all_nil,h1,h2,Bool.and_true];rfl
theorem Jr{l:List (aH×JV)}{k:aH}{p:aH×JV}(hi:l[i]?=some p):kB (l.take (i+1)) k=if p.1=k then kB (l.take i) k else kB (l.take i) k++[p]:=by
 rw[List.take_add_one,hi];simp only[kB,Option.toList_some,List.filter_append];by_cases h:p.1=k<;>simp[h]
theorem PP{ks:List aH}{xs:List JV}{u:aH}{x:JV}(hu:ks[i]?=some u)(hx:xs[i]?=some x):(ks.zip xs)[i]?=some (u,x):=by
 rw[List.getElem?_zip_eq_some];exact⟨hu,hx⟩
theorem Pd{v:JV}{k:aH}{w0:World}{K:Q0}(h:cM w0 v cs)(h0:bA w0 w)(he:v.k=6)(hl:v.ks.length=v.xs.length)(hfew:v.ks.length<=100000)
  (hK:∀sv kv base w',bA w w'->w.heap.size<=base->uE w0 w' base (mA (kB (v.ks.zip v.xs) k)) sv kv->K (.agg [i64 6,.bool false,str [],sv,kv].toArray) w'):aA P0 33 [.agg cs.toArray,str k] w K:=by
 refine aAu ?_;unfold W33;refine BW h λa w1 sv kv hba I hx ha hz1=>?_;refine aI λb w2 hb hz2 hbb hx2=>?_;have hB:=I.box (h0.trans (hx.trans hx2)) (hx2.at hba id);have hB0:=I.box (h0.trans hx) hba;simp only[cP,cS,bT,cR,cond_true,cond_false,exists_eq_left',cQ,Nat.reduceAdd,Nat.reduceLT,Nat.lt_add_one,Nat.zero_lt_succ,decide_true,decide_false,ne_eq,reduceCtorEq,bT,hB.hb,aB];refine⟨λhne=>absurd he hne,λ_=>?_⟩
 ·skip
  refine aI λg w3 hg hz3 hgg hx3=>?_;refine aY (l:=[i64 6,.bool false,str [],.slice none 0 0,.slice none 0 0]) hgg rfl rfl rfl λw4 hz4 hg4 hc4=>?_;have hx14:bA w w4:=(hx.trans (hx2.trans hx3)).new hc4 (by have:=hx.size;omega);have hsz:=hx.size;have hx24:bA w2 w4:=hx3.new hc4 (by omega);have hbb:=hx24.at hbb id;have hB:=hB.ext hx24;have hba4:=(hx2.trans hx24).at hba id;have h00:=h0.size;have G0:iD w0 w4 g (g+1) (.slice none 0 0) (.slice none 0 0) (.slice none 0 0) (.slice none 0 0) [] []:=⟨h0.trans hx14,hg4,by omega,by omega,by omega,⟨[],⟨rfl,.inl ⟨rfl,rfl⟩⟩,by simp[cD]⟩,⟨rfl,.inl ⟨rfl,rfl⟩⟩⟩;simp only[cP,cS,bT,cR,cond_true,cond_false,exists_eq_left',cQ,Nat.reduceAdd,Nat.reduceLT,Nat.lt_add_one,Nat.zero_lt_succ,decide_true,decide_false,ne_eq,reduceCtorEq,bT,hB.hb];rw[hB.lenk];refine jI v.ks.length (λi w'=>∃sv kv,iD w0 w' g (g+1) sv kv sv kv ((kB ((v.ks.zip v.xs).take i) k).map (·.2)) ((kB ((v.ks.zip v.xs).take i) k).map (·.1))/\Ib g (g+1) w4 w') ⟨_,_,G0,aS.refl _ _⟩ ?_ ?_
  ·rintro i w5 gg L hi ⟨sv1,kv1,G,lo⟩ hL;have hB:=I.box G.ext (nG lo (by omega) (by omega) hba4);obtain⟨u,hu⟩:∃u,v.ks[i]?=some u:=⟨_,List.getElem?_eq_getElem hi⟩;obtain⟨x,hx'⟩:∃x,v.xs[i]?=some x:=⟨_,List.getElem?_eq_getElem (by omega)⟩;have hz:=PP hu hx';have hnx:=Jr (k:=k) hz;have hcnt:(kB ((v.ks.zip v.xs).take i) k).length<=1000000:=by
    have h1:(kB ((v.ks.zip v.xs).take i) k).length<=((v.ks.zip v.xs).take i).length:=List.length_filter_le _ _;rw[List.length_take]at h1;omega
   have hlt:((i:Int)<(v.ks.length:Int)):=by omega
   simp only[cP,cS,bT,cR,cond_true,cond_false,exists_eq_left',cQ,Nat.reduceAdd,Nat.reduceLT,Nat.lt_add_one,Nat.zero_lt_succ,decide_true,decide_false,ne_eq,reduceCtorEq,bT,hB.hb,hlt];refine aP.cut (λs w'=>s=[]/\∃sv kv,iD w0 w' g (g+1) sv kv sv kv ((kB ((v.ks.zip v.xs).take (i+1)) k).map (·.2)) ((kB ((v.ks.zip v.xs).take (i+1)) k).map (·.1))/\Ib g (g+1) w4 w') ?_ ?_
   ·refine hB.key hu ?_;simp only[cP,cS,bT,cR,cond_true,cond_false,exists_eq_left',cQ,Nat.reduceAdd,Nat.reduceLT,Nat.lt_add_one,Nat.zero_lt_succ,decide_true,decide_false,ne_eq,reduceCtorEq,aB];refine⟨λhne=>?_,λhe=>⟨sv1,kv1,?_,lo⟩⟩
    ·have hne:u≠k:=by simpa using hne
     rw[if_neg hne]at hnx;have hxd:bA w5 w5.drew:=aS.drew (aS.refl (λ_=>False) w5);have Gd:=G.more hxd;have hBd:=hB.ext hxd
     (try simp only[cP,cS,bT,cR,cond_true,cond_false,exists_eq_left',cQ,Nat.reduceAdd,Nat.reduceLT,Nat.lt_add_one,Nat.zero_lt_succ,decide_true,decide_false,ne_eq,reduceCtorEq,bT,G.hb])
     refine oS.key hBd hu ?_;refine Nn λt6 w6 ht6 hx6=>?_;have lo:=pL (pL lo hxd) hx6;have G:=Gd.more hx6
     (try simp only[cP,cS,bT,cR,cond_true,cond_false,exists_eq_left',cQ,Nat.reduceAdd,Nat.reduceLT,Nat.lt_add_one,Nat.zero_lt_succ,decide_true,decide_false,ne_eq,reduceCtorEq,bT,G.hb])
     refine G.appk ht6 (by rw[List.length_map];exact hcnt) λkv2 w7 G7 hb7=>?_;have lo:=rD lo hb7;refine G7.set (sv1:=sv1) (kv1:=kv2) G7.one.2 (by omega) rfl λw8 G8 hb8=>?_;have lo:=uQ lo hb8;have hB8:=I.box G8.ext (nG lo (by omega) (by omega) hba4)
     (try simp only[cP,cS,bT,cR,cond_true,cond_false,exists_eq_left',cQ,Nat.reduceAdd,Nat.reduceLT,Nat.lt_add_one,Nat.zero_lt_succ,decide_true,decide_false,ne_eq,reduceCtorEq,bT,G8.hb])
     have hxd8:bA w8 w8.drew:=aS.drew (aS.refl (λ_=>False) w8);have G:=G8.more hxd8;have lo:=pL lo hxd8
     (try simp only[cP,cS,bT,cR,cond_true,cond_false,exists_eq_left',cQ,Nat.reduceAdd,Nat.reduceLT,Nat.lt_add_one,Nat.zero_lt_succ,decide_true,decide_false,ne_eq,reduceCtorEq,bT,hB8.hb])
     refine I.item_old G.ext hx' λcs2 h2=>?_;refine zP h2.len λt9 w9 ht9 hx9=>?_;have lo:=pL lo hx9;have G:=G.more hx9
     (try simp only[cP,cS,bT,cR,cond_true,cond_false,exists_eq_left',cQ,Nat.reduceAdd,Nat.reduceLT,Nat.lt_add_one,Nat.zero_lt_succ,decide_true,decide_false,ne_eq,reduceCtorEq,bT,G.hb])
     refine G.appx ht9 h2 (by rw[List.length_map];exact hcnt) λsv2 w10 G10 hb10=>?_;have lo:=rD lo hb10;refine G10.set (sv1:=sv2) (kv1:=kv2) G10.one.1 (by omega) rfl λw11 G11 hb11=>?_;have lo:=uQ lo hb11;refine⟨sv2,kv2,?_,lo⟩;rw[hnx,List.map_append,List.map_append];exact G11
    ·have he:u=k:=by simpa using he
     rw[if_pos he]at hnx;rw[hnx];exact G
   ·rintro s g' w6 ⟨rfl,sv2,kv2,G2,lo⟩;rw[wR (by omega)];exact hL w6 ⟨sv2,kv2,G2,lo⟩
  ·rintro w5 gg L ⟨sv1,kv1,G,lo⟩;rw[List.take_of_length_le (by rw[List.length_zip];omega)]at G;simp only[cP,cS,bT,cR,cond_true,cond_false,exists_eq_left',cQ,Nat.reduceAdd,Nat.reduceLT,Nat.lt_add_one,Nat.zero_lt_succ,decide_true,decide_false,ne_eq,reduceCtorEq,Int.lt_irrefl];have hcnt:(kB (v.ks.zip v.xs) k).length<=1000000:=by
    have h1:(kB (v.ks.zip v.xs) k).length<=(v.ks.zip v.xs).length:=List.length_filter_le _ _;rw[List.length_zip]at h1;omega
   have hbb:=nG lo (by omega) (by omega) hbb;have hO:=G.own hcnt λp hp=>I.fits.2.2.2 _ (List.of_mem_zip (List.mem_filter.1 hp).1).1;refine aU G.hb rfl ?_;have h1:=hO.one;refine eS hbb rfl rfl (xD h1.1 h1.2) λw6 hc6=>?_;exact hK _ _ (g+1) w6 ((EG hx14 (by omega) (by omega) lo).new hc6 (by omega)) (by omega) (hO.chg hc6 λk hk _ e=>by omega)
theorem De{l:List (aH×JV)}{k:aH}{x:JV}:∀(i:Nat),(∀p∈l.take i,Op.bytesLess k p.1=false)->insP l k x=l.take i++insP (l.drop i) k x:=by
 induction l with
 |nil=>intro i _;simp[insP]
 |cons p l ih=>
  intro i hi;cases i with
  |zero=>rfl
  |succ i=>
   simp only[List.take_succ_cons,List.drop_succ_cons,List.cons_append];obtain⟨a,y⟩:=p;have h0:=hi (a,y) (by simp);simp only[insP,h0,Bool.false_eq_true,if_false];rw[ih i λq hq=>hi q (by simp[hq])]
def dM(l:List (aH×JV))(k:aH)(x:JV):Nat->List (aH×JV)×Bool
 |0=>([],false)
 |i+1=>match l[i]? with
  |none=>dM l k x i
  |some p=>if(!(dM l k x i).2&&Op.bytesLess k p.1)then((dM l k x i).1++[(k,x)]++[p],true)else((dM l k x i).1++[p],(dM l k x i).2)
theorem AU{l:List (aH×JV)}{k:aH}{x:JV}:∀(i:Nat),i<=l.length->((dM l k x i).2=false->(dM l k x i).1=l.take i/\∀p∈l.take i,Op.bytesLess k p.1=false)/\((dM l k x i).2=true->(dM l k x i).1++l.drop i=insP l k x)
 |0,_=>by simp[dM]
 |i+1,h=>by
  obtain⟨h1,h2⟩:=AU (l:=l) (k:=k) (x:=x) i (by omega)
  obtain⟨p,hp⟩:∃p,l[i]?=some p:=⟨_,List.getElem?_eq_getElem (by omega)⟩
  have hd:l.drop i=p::l.drop (i+1):=by
   have hi:i<l.length:=h;rw[List.drop_eq_getElem_cons hi];congr 1;exact Option.some.inj ((List.getElem?_eq_getElem hi).symm.trans hp)
  have ht:l.take (i+1)=l.take i++[p]:=by rw[List.take_add_one,hp];rfl
  simp only[dM,hp];cases hg:(dM l k x i).2 with
  |true=>
   simp only[Bool.not_true,Bool.false_and,Bool.false_eq_true,if_false];refine⟨(λe=>by cases e),λ_=>?_⟩;rw[<-h2 hg,hd];simp
  |false=>
   obtain⟨e1,e2⟩:=h1 hg;cases hb:Op.bytesLess k p.1 with
   |true=>
    simp only[Bool.not_false,Bool.and_self,if_true];refine⟨(λe=>by cases e),λ_=>?_⟩;obtain⟨a,y⟩:=p;rw[e1,De i e2,hd];simp only[insP,hb,if_true];simp
   |false=>
    simp only[Bool.not_false,Bool.true_and,Bool.false_eq_true,if_false];refine⟨λ_=>⟨by rw[e1,ht],λq hq=>?_⟩,λe=>by cases e⟩;rw[ht]at hq;rcases List.mem_append.1 hq with hq|hq
    ·exact e2 q hq
    ·rw[List.mem_singleton.1 hq];exact hb
theorem uL{l:List (aH×JV)}{k:aH}{x:JV}:insP l k x=if(dM l k x l.length).2 then(dM l k x l.length).1 else(dM l k x l.length).1++[(k,x)]:=by
 obtain⟨h1,h2⟩:=AU (k:=k) (x:=x) l.length (Nat.le_refl _);cases hg:(dM l k x l.length).2 with
 |true=>
  rw[if_pos rfl,<-h2 hg];simp
 |false=>
  obtain⟨e1,e2⟩:=h1 hg;rw[List.take_length]at e1 e2;rw[if_neg (by simp),e1];have:=De (l:=l) (k:=k) (x:=x) l.length (by rw[List.take_length];exact e2);rw[this];simp[insP]
theorem yH(l:List (aH×JV))(k:aH)(x:JV):∀i,(dM l k x i).1.length<=2*i
 |0=>by simp[dM]
 |i+1=>by
  have:=yH l k x i
  simp only[dM]
  split
  ·omega
  ·split<;>simp<;>omega
end
section
variable [HX]
theorem Nv{v x:JV}{ds:List Value}{k:aH}{w0:World}{K:Q0}(h:cM w0 v cs)(hd:cM w0 x ds)(h0:bA w0 w)(hl:v.k=6->v.ks.length=v.xs.length)(hfew:v.ks.length<=100000)(hk:k.length<=9223372036854775807)
  (hK:∀sv kv base w',bA w w'->w.heap.size<=base->uE w0 w' base (rV v k x) sv kv->K (.agg [i64 6,.bool false,str [],sv,kv].toArray) w'):aA P0 12 [.agg cs.toArray,str k,.agg ds.toArray] w K:=by
 refine aAK ?_;unfold W12;refine BW h λa w1 sv kv hba I hx ha hz1=>?_;refine BW hd λc w2 sv' kv' hbc Ix hx2 hc hz2=>?_;refine aI λb w3 hb hz3 hbb hx3=>?_;simp only[cP,cS,bT,cR,cond_true,cond_false,exists_eq_left',cQ,Nat.reduceAdd,Nat.reduceLT,Nat.lt_add_one,Nat.zero_lt_succ,decide_true,decide_false,ne_eq,reduceCtorEq];refine aI λg w4 hg hz4 hgg hx4=>?_;refine aY (l:=[i64 6,.bool false,str [],.slice none 0 0,.slice none 0 0]) hgg rfl rfl rfl λw5 hz5 hg5 hc5=>?_;have hw5:bA w w5:=(((hx.trans hx2).trans hx3).trans hx4).new hc5 (by omega);have hba5:=hc5.at (hx4.at (hx3.at (hx2.at hba id) id) id) (by omega);have hbc5:=hc5.at (hx4.at (hx3.at hbc id) id) (by omega);have hbb5:=hc5.at (hx4.at hbb id) (by omega);clear hgg hbb hbc hc5;have h00:=h0.size;have hxs:=hx.size;have G0:iD w0 w5 g (g+1) (.slice none 0 0) (.slice none 0 0) (.slice none 0 0) (.slice none 0 0) [] []:=⟨h0.trans hw5,hg5,by omega,by omega,by omega,⟨[],⟨rfl,.inl ⟨rfl,rfl⟩⟩,by simp[cD]⟩,⟨rfl,.inl ⟨rfl,rfl⟩⟩⟩;have hB:=I.box (h0.trans hw5) hba5;let P:List (aH×JV):=if v.k=6 then kB (v.ks.zip v.xs) k else [];have hP:rV v k x=mA (insP P k x):=by
  show rV v k x=mA (insP (if v.k=6 then kB (v.ks.zip v.xs) k else []) k x);unfold rV;split<;>rfl
 have hPl:P.length<=100000:=by
  show(if v.k=6 then kB (v.ks.zip v.xs) k else []).length<=100000;split
  ·have h1:(kB (v.ks.zip v.xs) k).length<=(v.ks.zip v.xs).length:=List.length_filter_le _ _;rw[List.length_zip]at h1;omega
  ·simp
 have hPk:∀p∈P,p.1.length<=9223372036854775807:=by
  intro p hp;have hp:p∈(if v.k=6 then kB (v.ks.zip v.xs) k else []):=hp;split at hp
  ·exact I.fits.2.2.2 _ (List.of_mem_zip (List.mem_filter.1 hp).1).1
  ·simp at hp
 rw[hP]at hK;refine aP.cut (λs w'=>∃sv kv base,s=[.bool (dM P k x P.length).2]/\b<base/\c<base/\iD w0 w' g base sv kv sv kv ((dM P k x P.length).1.map (·.2)) ((dM P k x P.length).1.map (·.1))/\w'.heap[c]?=some (.cells [i64 x.k,.bool x.b,str x.t,sv',kv'].toArray VT (0,0))/\w'.heap[b]?=some (.cells zv.toArray VT (0,0))/\bA w w') ?_ ?_
 ·simp only[cP,cS,bT,cR,cond_true,cond_false,exists_eq_left',cQ,Nat.reduceAdd,Nat.reduceLT,Nat.lt_add_one,Nat.zero_lt_succ,decide_true,decide_false,ne_eq,reduceCtorEq,bT,hB.hb,aB];refine⟨λhe=>?_,λhne=>?_⟩
  ·have hPe:P=kB (v.ks.zip v.xs) k:=if_pos he;refine aU hB.hb rfl ?_;refine Pd (w0:=w0) (v:=v) (cs:=[i64 v.k,.bool v.b,str v.t,sv,kv]) ?_ (h0.trans hw5) he (hl he) hfew λsw kw base0 w6 hx6 hbase0 hO=>?_
   ·obtain⟨T,L,i1,i2⟩:=I.items;obtain⟨T',i3⟩:=I.keys;exact cM.mk i1 i2 i3 I.fits
   have hs6:=hx6.size;rw[<-hPe]at hO;have hba6:=hx6.at hba5 id;refine aY (l:=[i64 6,.bool false,str [],sw,kw]) hba6 rfl rfl (xD hO.one.1 hO.one.2) λw7 hz7 hba7 hc7=>?_;have hO:=hO.chg hc7 λj hj _ e=>by omega
   have hbc7:=hc7.at (hx6.at hbc5 id) (by omega);have hbb7:=hc7.at (hx6.at hbb5 id) (by omega);have hw7:bA w w7:=(hw5.trans hx6).new hc7 (by omega);have G7:=((G0.more hx6).chg hc7 (by omega) (by omega) (by omega)).rebase (base':=w7.heap.size) (by omega) (Nat.le_refl _);have hPx:(mA P).xs=P.map (·.2):=rfl;have hPks:(mA P).ks=P.map (·.1):=rfl;simp only[cP,cS,bT,cR,cond_true,cond_false,exists_eq_left',cQ,Nat.reduceAdd,Nat.reduceLT,Nat.lt_add_one,Nat.zero_lt_succ,decide_true,decide_false,ne_eq,reduceCtorEq,bT,hba7];rw[dJ hO.keys.sl,hPks,List.length_map];refine⟨λs w'=>∃i sv kv,i<=P.length/\s=[.bool (dM P k x i).2,i64 (i:Nat)]/\iD w0 w' g w7.heap.size sv kv sv kv ((dM P k x i).1.map (·.2)) ((dM P k x i).1.map (·.1))/\Ib g w7.heap.size w7 w',λs _=>match s with|[_,.int _ i]=>P.length-i.toNat|_=>0,⟨0,_,_,Nat.zero_le _,rfl,G7,aS.refl _ _⟩,?_⟩;rintro s gg w8 ⟨i,sv8,kv8,hi,rfl,G8,lo8⟩;rcases Nat.lt_or_ge i P.length with hlt|hge
   ·have hltI:((i:Int)<(P.length:Int)):=by omega
    have hlen8:=yH P k x i;obtain⟨p,hp⟩:∃p,P[i]?=some p:=⟨_,List.getElem?_eq_getElem hlt⟩;have hstay:∀{w9:World},Ib g w7.heap.size w7 w9->w9.heap[a]?=some (.cells [i64 6,.bool false,str [],sw,kw].toArray VT (0,0))/\w9.heap[c]?=some (.cells [i64 x.k,.bool x.b,str x.t,sv',kv'].toArray VT (0,0))/\uE w0 w9 base0 (mA P) sw kw:=λlo=>
     ⟨nG lo (by omega) (by omega) hba7,nG lo (by omega) (by omega) hbc7,hO.chg lo λk hk hk2 e=>by omega⟩
    obtain⟨hba8,hbc8,hO8⟩:=hstay lo8;have hkey:∀{w9:World} {KK:Value->Prop},uE w0 w9 base0 (mA P) sw kw->KK (str p.1)->bU none 1 kw (.int .i64 i) λq=>aE false 1 q w9 KK:=λh hk=>jE h.keys.sl (by rw[hPks];simp[hp]) hk;simp only[cP,cS,bT,cR,cond_true,cond_false,exists_eq_left',cQ,Nat.reduceAdd,Nat.reduceLT,Nat.lt_add_one,Nat.zero_lt_succ,decide_true,decide_false,ne_eq,reduceCtorEq,bT,hltI,hba8];refine aP.cut (λs w'=>∃sv kv,s=[.bool (dM P k x (i+1)).2]/\iD w0 w' g w7.heap.size sv kv sv kv ((if(!(dM P k x i).2&&Op.bytesLess k p.1)then(dM P k x i).1++[(k,x)]else(dM P k x i).1).map (·.2)) ((if(!(dM P k x i).2&&Op.bytesLess k p.1)then(dM P k x i).1++[(k,x)]else(dM P k x i).1).map (·.1))/\Ib g w7.heap.size w7 w') ?_ ?_
    ·refine cX.look (Op.bytesLess k p.1) ?_ ?_
     ·intro _ J hJ;refine hkey hO8 ?_;simp only[cP,cS,bT,cR,cond_true,cond_false,exists_eq_left',cQ,Nat.reduceAdd,Nat.reduceLT,Nat.lt_add_one,Nat.zero_lt_succ,decide_true,decide_false,ne_eq,reduceCtorEq];exact hJ
     ·intro gd;simp only[cP,cS,bT,cR,cond_true,cond_false,exists_eq_left',cQ,Nat.reduceAdd,Nat.reduceLT,Nat.lt_add_one,Nat.zero_lt_succ,decide_true,decide_false,ne_eq,reduceCtorEq,aQ];refine⟨λhc=>?_,λhc=>?_⟩
      ·simp only[cP,cS,bT,cR,cond_true,cond_false,exists_eq_left',cQ,Nat.reduceAdd,Nat.reduceLT,Nat.lt_add_one,Nat.zero_lt_succ,decide_true,decide_false,ne_eq,reduceCtorEq,bT,G8.hb];rw[if_pos hc];refine Hc G8 (by rw[List.length_map];omega) λkv9 w9 G9 lo9=>?_;obtain⟨hba9,hbc9,hO9⟩:=hstay (lo8.trans lo9);simp only[cP,cS,bT,cR,cond_true,cond_false,exists_eq_left',cQ,Nat.reduceAdd,Nat.reduceLT,Nat.lt_add_one,Nat.zero_lt_succ,decide_true,decide_false,ne_eq,reduceCtorEq,bT,G9.hb];refine aU hbc9 rfl ?_;refine Dm G9 (?_:cM w0 x _) (by rw[List.length_map];omega) λsv10 w10 G10 lo10=>?_
       ·obtain⟨T,L,i1,i2⟩:=Ix.items;obtain⟨T',i3⟩:=Ix.keys;exact cM.mk i1 i2 i3 Ix.fits
       refine⟨sv10,kv9,?_,?_,(lo8.trans lo9).trans lo10⟩
       ·simp only[dM,hp,hc,if_true]
       ·rw[List.map_append,List.map_append];exact G10
      ·rw[if_neg (by rw[hc];simp)];refine⟨sv8,kv8,?_,G8,lo8⟩;simp only[dM,hp,hc,Bool.false_eq_true,if_false]
    ·rintro s gd w9 ⟨sv9,kv9,rfl,G9,lo9⟩;have hxd:bA w9 w9.drew:=aS.drew (aS.refl (λ_=>False) w9);obtain⟨hba9,hbc9,hO9⟩:=hstay lo9;obtain⟨_,_,hO9d⟩:=hstay (pL lo9 hxd);have hl9:(if(!(dM P k x i).2&&Op.bytesLess k p.1)then(dM P k x i).1++[(k,x)]else(dM P k x i).1).length<=2*i+1:=by split<;>(first|omega|(simp;omega))
     simp only[cP,cS,bT,cR,cond_true,cond_false,exists_eq_left',cQ,Nat.reduceAdd,Nat.reduceLT,Nat.lt_add_one,Nat.zero_lt_succ,decide_true,decide_false,ne_eq,reduceCtorEq,bT,G9.hb,hba9];refine hkey hO9d ?_;refine LW (G9.more hxd) (by rw[List.length_map];omega) λkv10 w10 G10 lo10=>?_;have lo10:=(pL lo9 hxd).trans lo10;obtain⟨hba10,hbc10,hO10⟩:=hstay lo10;have hxd10:bA w10 w10.drew:=aS.drew (aS.refl (λ_=>False) w10);obtain⟨_,_,hO10d⟩:=hstay (pL lo10 hxd10);simp only[cP,cS,bT,cR,cond_true,cond_false,exists_eq_left',cQ,Nat.reduceAdd,Nat.reduceLT,Nat.lt_add_one,Nat.zero_lt_succ,decide_true,decide_false,ne_eq,reduceCtorEq,bT,G10.hb,hba10];refine hO10d.item_old (by rw[hPx];simp only[List.getElem?_map,hp];rfl) λcs2 h2=>?_;refine Jd (G10.more hxd10) h2 (by rw[List.length_map];omega) λsv11 w11 G11 lo11=>?_;rw[wR (by omega)];refine⟨⟨i+1,sv11,kv10,hlt,rfl,?_,(pL lo10 hxd10).trans lo11⟩,by simp only[Int.toNat_natCast];omega⟩;have e:(dM P k x (i+1)).1=(if(!(dM P k x i).2&&Op.bytesLess k p.1)then(dM P k x i).1++[(k,x)]else(dM P k x i).1)++[p]:=by
      simp only[dM,hp];split<;>rfl
     rw[e,List.map_append,List.map_append];exact G11
   ·obtain rfl:i=P.length:=by omega
    simp only[cP,cS,bT,cR,cond_true,cond_false,exists_eq_left',cQ,Nat.reduceAdd,Nat.reduceLT,Nat.lt_add_one,Nat.zero_lt_succ,decide_true,decide_false,ne_eq,reduceCtorEq,Int.lt_irrefl];exact⟨sv8,kv8,w7.heap.size,by omega,by omega,G8,nG lo8 (by omega) (by omega) hbc7,nG lo8 (by omega) (by omega) hbb7,EG hw7 (by omega) (by have:=hw7.size;omega) lo8⟩
  ·have hPe:P=[]:=if_neg hne;rw[hPe];exact⟨_,_,g+1,rfl,by omega,by omega,G0,hbc5,hbb5,hw5⟩
 ·rintro s g' w6 ⟨sv6,kv6,base,rfl,hbb0,hcc0,G6,hbc6,hbb6,hw6⟩;have hlen:=yH P k x P.length;have hins:∀p∈insP P k x,p.1.length<=9223372036854775807:=by
   intro p hp;rw[uL]at hp;have hgo:∀i,∀p∈(dM P k x i).1,p.1.length<=9223372036854775807:=by
    intro i;induction i with
    |zero=>intro p hp;simp[dM]at hp
    |succ i ih=>
     intro p hp;simp only[dM]at hp;split at hp
     ·exact ih p hp
     ·rename_i q hq;have hq':=hPk q (List.mem_of_getElem? hq);split at hp<;>simp only[List.mem_append,List.mem_cons,List.not_mem_nil,or_false]at hp
      ·rcases hp with(hp|rfl)|rfl
       ·exact ih p hp
       ·exact hk
       ·exact hq'
      ·rcases hp with hp|rfl
       ·exact ih p hp
       ·exact hq'
   split at hp
   ·exact hgo _ p hp
   ·rcases List.mem_append.1 hp with hp|hp
    ·exact hgo _ p hp
    ·rw[List.mem_singleton.1 hp];exact hk
  have hil:(insP P k x).length<=1000000:=by rw[uL];split<;>(first|omega|(simp;omega))
  refine aP.cut (λs w'=>∃sv kv,s=[]/\iD w0 w' g base sv kv sv kv ((insP P k x).map (·.2)) ((insP P k x).map (·.1))/\w'.heap[b]?=some (.cells zv.toArray VT (0,0))/\bA w w') ?_ ?_
  ·simp only[cP,cS,bT,cR,cond_true,cond_false,exists_eq_left',cQ,Nat.reduceAdd,Nat.reduceLT,Nat.lt_add_one,Nat.zero_lt_succ,decide_true,decide_false,ne_eq,reduceCtorEq,aQ];refine⟨λhn=>?_,λhy=>?_⟩
   ·have hn:(dM P k x P.length).2=false:=by simpa using hn
    rw[uL,if_neg (by rw[hn];simp),List.map_append,List.map_append];simp only[cP,cS,bT,cR,cond_true,cond_false,exists_eq_left',cQ,Nat.reduceAdd,Nat.reduceLT,Nat.lt_add_one,Nat.zero_lt_succ,decide_true,decide_false,ne_eq,reduceCtorEq,bT,G6.hb];refine Hc G6 (by rw[List.length_map];omega) λkv9 w9 G9 lo9=>?_;have hbc9:=nG lo9 hcc0 (by omega) hbc6;simp only[cP,cS,bT,cR,cond_true,cond_false,exists_eq_left',cQ,Nat.reduceAdd,Nat.reduceLT,Nat.lt_add_one,Nat.zero_lt_succ,decide_true,decide_false,ne_eq,reduceCtorEq,bT,G9.hb];refine aU hbc9 rfl ?_;refine Dm G9 (?_:cM w0 x _) (by rw[List.length_map];omega) λsv10 w10 G10 lo10=>?_
    ·obtain⟨T,L,i1,i2⟩:=Ix.items;obtain⟨T',i3⟩:=Ix.keys;exact cM.mk i1 i2 i3 Ix.fits
    exact⟨sv10,kv9,G10,nG (lo9.trans lo10) hbb0 (by omega) hbb6,EG hw6 (by omega) (by omega) (lo9.trans lo10)⟩
   ·have hy:(dM P k x P.length).2=true:=by simpa using hy
    rw[uL,if_pos hy];exact⟨sv6,kv6,G6,hbb6,hw6⟩
  ·rintro s gd w9 ⟨sv9,kv9,rfl,G9,hbb9,hw9⟩;have hO:=G9.own hil hins;refine aU G9.hb rfl ?_;refine eS hbb9 rfl rfl (xD hO.one.1 hO.one.2) λw10 hc10=>?_;have hsz:=hx.size;exact hK _ _ base w10 (hw9.new hc10 (by omega)) (by omega) (hO.chg hc10 λk hk _ e=>by omega)
theorem Qt{v x:JV}{ds:List Value}{k:aH}{K:Q0}(h:cM w v cs)(hd:cM w x ds)(hl:v.k=6->v.ks.length=v.xs.length)(hfew:v.ks.length<=100000)(hk:k.length<=9223372036854775807)
 (hK:∀sv kv base w',bA w w'->w.heap.size<=base->uE w w' base (rV v k x) sv kv->K (.agg [i64 6,.bool false,str [],sv,kv].toArray) w'):aA P0 12 [.agg cs.toArray,str k,.agg ds.toArray] w K:=Nv h hd (aS.refl _ _) hl hfew hk hK
end
section
variable [HX]
theorem tX{v:JV}{K:Q0}(h:cM w v cs)(hK:∀a w' sv kv,oS w' a v sv kv->bA w w'->K (ptr a) w'):
  aN VT [(.int .i64 0),(.bool false),(.string (aL [])),(.slice none 0 0),(.slice none 0 0)] w λt w1=>bF 5 t (.agg cs.toArray) w1 λw2=>K t w2:=by
 obtain⟨sv,kv,T1,T2,L,rfl,h1,h2,h3,h4⟩:=h.out;refine aI λa w1 ha hz hb hx=>?_;refine aY hb rfl rfl h.all_one λw2 hz2 hb2 hc2=>?_;have hx':=hx.new hc2 (by omega);exact hK a w2 sv kv ⟨hb2,⟨T1,L,h1.ext hx',h2.ext hx'⟩,⟨T2,h3.ext hx'⟩,h4⟩ hx'
theorem HS{α:Type}{p:α->Bool}{xs:List α}{x:α}(hi:xs[i]?=some x):(xs.take (i+1)).any p=((xs.take i).any p||p x):=by
 rw[List.take_add_one,hi];simp
end
end
end Go.Proofs.YtghhmpppnmoeoaaGreatDoor
namespace Go.Proofs
section
open Go.Shelf
variable{w:World}{K:Q0}{cs:List Value}{G:Nat->Prop}{T:TypeId}{i:Nat}{n:Nat}{v:Value}{w':World}{P:Program}{c:UInt8}{S:Nat->Prop}
def Tryz.lays170_ren:Go.Shelf.Ren:=⟨λ|170=>223|n=>n,λ|70=>114|3=>3|0=>0|72=>116|37=>89|5=>5|n=>n,λ|n=>n⟩
theorem Tryz.lays170:Go.Proofs.Lays.n170 P0 Tryz.lays170_ren:={
 mixed:=by kernel_rfl
 f170:=Tryz.func223.trans (congrArg some (by kernel_rfl))
 t0:=Tryz.underlying0
 a0:=Tryz.isAgg0
 z0:=Tryz.sizeOf0
 v0:=Tryz.zeroValue0
 t3:=Tryz.underlying3
 a3:=Tryz.isAgg3
 z3:=Tryz.sizeOf3
 v3:=Tryz.zeroValue3
 t37:=Tryz.underlying89
 a37:=Tryz.isAgg89
 z37:=Tryz.sizeOf89
 v37:=Tryz.zeroValue89
 t70:=Tryz.underlying114
 a70:=Tryz.isAgg114
 z70:=Tryz.sizeOf114
 v70:=Tryz.zeroValue114
 t72:=Tryz.underlying116
 a72:=Tryz.isAgg116
 z72:=Tryz.sizeOf116
 v72:=Tryz.zeroValue116}
def Tryz.lays169_ren:Go.Shelf.Ren:=⟨λ|169=>64|n=>n,λ|70=>114|9=>9|0=>0|72=>116|37=>89|127=>145|3=>3|5=>5|n=>n,λ|n=>n⟩
theorem Tryz.lays169:Go.Proofs.Lays.n169 P0 Tryz.lays169_ren:={
 mixed:=by kernel_rfl
 f169:=Tryz.func64.trans (congrArg some (by kernel_rfl))
 t0:=Tryz.underlying0
 a0:=Tryz.isAgg0
 z0:=Tryz.sizeOf0
 v0:=Tryz.zeroValue0
 t3:=Tryz.underlying3
 a3:=Tryz.isAgg3
 z3:=Tryz.sizeOf3
 v3:=Tryz.zeroValue3
 t9:=Tryz.underlying9
 a9:=Tryz.isAgg9
 z9:=Tryz.sizeOf9
 v9:=Tryz.zeroValue9
 t37:=Tryz.underlying89
 a37:=Tryz.isAgg89
 z37:=Tryz.sizeOf89
 v37:=Tryz.zeroValue89
 t70:=Tryz.underlying114
 a70:=Tryz.isAgg114
 z70:=Tryz.sizeOf114
 v70:=Tryz.zeroValue114
 t72:=Tryz.underlying116
 a72:=Tryz.isAgg116
 z72:=Tryz.sizeOf116
 v72:=Tryz.zeroValue116
 t127:=Tryz.underlying145
 a127:=Tryz.isAgg145
 z127:=Tryz.sizeOf145
 v127:=Tryz.zeroValue145}
theorem Tryz.Builder_Extra_169:Builder.Extra P0 Tryz.lays169_ren:={
 sizeBuilder:=by kernel_rfl
 liesBuilder:=by kernel_rfl
 t5:=Tryz.underlying5
 a5:=Tryz.isAgg5
 z5:=Tryz.sizeOf5
 v5:=Tryz.zeroValue5
 infoByte:=by kernel_rfl
 cellsByte:=by kernel_rfl
 sizeByte:=by kernel_rfl
 neB5:=by decide}
def Tryz.lays161_ren:Go.Shelf.Ren:=⟨λ|161=>111|231=>146|227=>147|233=>148|235=>149|228=>201|197=>202|151=>203|260=>234|152=>235|137=>68|119=>257|224=>142|225=>141|217=>105|266=>140|n=>n,λ|9=>9|4=>4|3=>3|5=>5|117=>179|116=>178|0=>0|124=>182|105=>214|21=>21|119=>248|46=>54|139=>251|138=>250|n=>n,λ|3=>1|4=>2|n=>n⟩
theorem Tryz.lays161:Go.Proofs.Lays.n161 P0 Tryz.lays161_ren:={
 mixed:=by kernel_rfl
 f119:=Tryz.func257.trans (congrArg some (by kernel_rfl))
 f137:=Tryz.func68.trans (congrArg some (by kernel_rfl))
 f151:=Tryz.func203.trans (congrArg some (by kernel_rfl))
 f152:=Tryz.func235.trans (congrArg some (by kernel_rfl))
 f161:=Tryz.func111.trans (congrArg some (by kernel_rfl))
 f197:=Tryz.func202.trans (congrArg some (by kernel_rfl))
 f217:=Tryz.func105.trans (congrArg some (by kernel_rfl))
 f224:=Tryz.func142.trans (congrArg some (by kernel_rfl))
 f225:=Tryz.func141.trans (congrArg some (by kernel_rfl))
 f227:=Tryz.func147.trans (congrArg some (by kernel_rfl))
 f228:=Tryz.func201.trans (congrArg some (by kernel_rfl))
 f231:=Tryz.func146.trans (congrArg some (by kernel_rfl))
 f233:=Tryz.func148.trans (congrArg some (by kernel_rfl))
 f235:=Tryz.func149.trans (congrArg some (by kernel_rfl))
 f260:=Tryz.func234.trans (congrArg some (by kernel_rfl))
 f266:=Tryz.func140.trans (congrArg some (by kernel_rfl))
 t0:=Tryz.underlying0
 a0:=Tryz.isAgg0
 z0:=Tryz.sizeOf0
 v0:=Tryz.zeroValue0
 t3:=Tryz.underlying3
 a3:=Tryz.isAgg3
 z3:=Tryz.sizeOf3
 v3:=Tryz.zeroValue3
 t4:=Tryz.underlying4
 a4:=Tryz.isAgg4
 z4:=Tryz.sizeOf4
 v4:=Tryz.zeroValue4
 t5:=Tryz.underlying5
 a5:=Tryz.isAgg5
 z5:=Tryz.sizeOf5
 v5:=Tryz.zeroValue5
 t9:=Tryz.underlying9
 a9:=Tryz.isAgg9
 z9:=Tryz.sizeOf9
 v9:=Tryz.zeroValue9
 t21:=Tryz.underlying21
 a21:=Tryz.isAgg21
 z21:=Tryz.sizeOf21
 v21:=Tryz.zeroValue21
 t46:=Tryz.underlying54
 a46:=Tryz.isAgg54
 z46:=Tryz.sizeOf54
 v46:=Tryz.zeroValue54
 t105:=Tryz.underlying214
 a105:=Tryz.isAgg214
 z105:=Tryz.sizeOf214
 v105:=Tryz.zeroValue214
 t116:=Tryz.underlying178
 a116:=Tryz.isAgg178
 z116:=Tryz.sizeOf178
 t117:=Tryz.underlying179
 a117:=Tryz.isAgg179
 z117:=Tryz.sizeOf179
 v117:=Tryz.zeroValue179
 t119:=Tryz.underlying248
 a119:=Tryz.isAgg248
 z119:=Tryz.sizeOf248
 t124:=Tryz.underlying182
 a124:=Tryz.isAgg182
 z124:=Tryz.sizeOf182
 v124:=Tryz.zeroValue182
 t138:=Tryz.underlying250
 a138:=Tryz.isAgg250
 z138:=Tryz.sizeOf250
 v138:=Tryz.zeroValue250
 t139:=Tryz.underlying251
 a139:=Tryz.isAgg251
 z139:=Tryz.sizeOf251
 v139:=Tryz.zeroValue251
 g3:=by kernel_rfl
 g4:=by kernel_rfl}
def Tryz.lays106_ren:Go.Shelf.Ren:=⟨λ|106=>192|213=>231|265=>255|n=>n,λ|9=>9|3=>3|n=>n,λ|n=>n⟩
theorem Tryz.lays106:Go.Proofs.Lays.n106 P0 Tryz.lays106_ren:={
 mixed:=by kernel_rfl
 f106:=Tryz.func192.trans (congrArg some (by kernel_rfl))
 f213:=Tryz.func231.trans (congrArg some (by kernel_rfl))
 f265:=Tryz.func255.trans (congrArg some (by kernel_rfl))
 t3:=Tryz.underlying3
 a3:=Tryz.isAgg3
 z3:=Tryz.sizeOf3
 v3:=Tryz.zeroValue3
 t9:=Tryz.underlying9
 a9:=Tryz.isAgg9
 z9:=Tryz.sizeOf9
 v9:=Tryz.zeroValue9}
open Go.RowKit in
theorem Tryz.strings_Compare(a b:ByteArray)(w:World):
 Calls P0 192 #[.string a,.string b] w λe w'=>e=.returned (.int .i64 (Lib.compareBytes a.data.toList b.data.toList))/\w'=w:=Any.strings_Compare Tryz.lays106 a b w
def Tryz.lays137_ren:Go.Shelf.Ren:=⟨λ|137=>68|217=>105|266=>140|n=>n,λ|9=>9|5=>5|3=>3|n=>n,λ|n=>n⟩
theorem Tryz.lays137:Go.Proofs.Lays.n137 P0 Tryz.lays137_ren:={
 mixed:=by kernel_rfl
 f137:=Tryz.func68.trans (congrArg some (by kernel_rfl))
 f217:=Tryz.func105.trans (congrArg some (by kernel_rfl))
 f266:=Tryz.func140.trans (congrArg some (by kernel_rfl))
 t3:=Tryz.underlying3
 a3:=Tryz.isAgg3
 z3:=Tryz.sizeOf3
 v3:=Tryz.zeroValue3
 t5:=Tryz.underlying5
 a5:=Tryz.isAgg5
 z5:=Tryz.sizeOf5
 v5:=Tryz.zeroValue5
 t9:=Tryz.underlying9
 a9:=Tryz.isAgg9
 z9:=Tryz.sizeOf9
 v9:=Tryz.zeroValue9}
open Go.RowKit in
theorem Tryz.strings_IndexByte(s:ByteArray)(c:Int)(w:World):
 Calls P0 68 #[.string s,.int .u8 c] w λe w'=>e=.returned (.int .i64 (Lib.indexByte s.data.toList c.toNat.toUInt8))/\w'=w:=Any.strings_IndexByte Tryz.lays137 s c w
def Tryz.lays104_ren:Go.Shelf.Ren:=⟨λ|104=>182|211=>221|207=>248|n=>n,λ|9=>9|4=>4|24=>192|3=>3|n=>n,λ|n=>n⟩
theorem Tryz.lays104:Go.Proofs.Lays.n104 P0 Tryz.lays104_ren:={
 mixed:=by kernel_rfl
 f104:=Tryz.func182.trans (congrArg some (by kernel_rfl))
 f207:=Tryz.func248.trans (congrArg some (by kernel_rfl))
 f211:=Tryz.func221.trans (congrArg some (by kernel_rfl))
 t3:=Tryz.underlying3
 a3:=Tryz.isAgg3
 z3:=Tryz.sizeOf3
 v3:=Tryz.zeroValue3
 t4:=Tryz.underlying4
 a4:=Tryz.isAgg4
 z4:=Tryz.sizeOf4
 v4:=Tryz.zeroValue4
 t9:=Tryz.underlying9
 a9:=Tryz.isAgg9
 z9:=Tryz.sizeOf9
 v9:=Tryz.zeroValue9
 t24:=Tryz.underlying192
 a24:=Tryz.isAgg192
 z24:=Tryz.sizeOf192
 v24:=Tryz.zeroValue192}
open Go.RowKit in
theorem Tryz.strings_CutSuffix(s p:ByteArray)(w:World)(hs:s.size<=9223372036854775807):
 Calls P0 182 #[.string s,.string p] w λe w'=>e=.returned (.tuple #[.string ⟨(Lib.trimSuffix s.data.toList p.data.toList).toArray⟩,.bool (Lib.hasSuffix s.data.toList p.data.toList)])/\w'=w:=Any.strings_CutSuffix Tryz.lays104 s p w hs
open Go.RowKit in
theorem Tryz.Builder_Len_f(B b:Nat)(bs:List Value)(w:World)(h:Lib.IsBuilderF 116 5 B b bs w):
 Calls P0 223 #[.pointer (some ⟨b,0,none⟩)] w λe w'=>e=.returned (.int .i64 bs.length)/\w'=w:=Any.Builder_Len_f Tryz.lays170 B b bs w h
open Go.RowKit in
theorem Tryz.Builder_String_any_k(B b:Nat)(l:List UInt8)(w:World)(h:Lib.IsBuilderF 116 5 B b (Lib.byteCells l) w)(hBw:B<=w.heap.size):
 Calls P0 64 #[.pointer (some ⟨b,0,none⟩)] w λe w'=>e=.returned (.string ⟨l.toArray⟩)/\(Lib.IsBuilderF 116 5 B b (Lib.byteCells l) w'/\Below B w w'/\Lib.OthersKept 5 (some b) w w'):=Any.Builder_String_any_k Tryz.lays169 Tryz.Builder_Extra_169 B b l w h hBw
def Tryz.lays283_ren:Go.Shelf.Ren:=⟨λ|283=>274|n=>n,λ|3=>3|9=>9|4=>4|n=>n,λ|n=>n⟩
theorem Tryz.lays283:Go.Proofs.Lays.n283 P0 Tryz.lays283_ren:={
 mixed:=by kernel_rfl
 f283:=Tryz.func274.trans (congrArg some (by kernel_rfl))
 t3:=Tryz.underlying3
 a3:=Tryz.isAgg3
 z3:=Tryz.sizeOf3
 v3:=Tryz.zeroValue3
 t4:=Tryz.underlying4
 a4:=Tryz.isAgg4
 z4:=Tryz.sizeOf4
 v4:=Tryz.zeroValue4
 t9:=Tryz.underlying9
 a9:=Tryz.isAgg9
 z9:=Tryz.sizeOf9
 v9:=Tryz.zeroValue9}
open Go.Lib in
theorem Tryz.internal_strconv_small(i:Nat)(h:i<100)(w:World):
 Calls P0 274 #[.int .i64 i] w λe w'=>e=.returned (.string ⟨(Lib.decDigits i).toArray⟩)/\w'=w:=Any.internal_strconv_small Tryz.lays283 i h w
def Tryz.laysM284_ren:Go.Shelf.Ren:=⟨λ|284=>275|129=>284|317=>283|318=>285|n=>n,λ|53=>209|3=>3|212=>271|0=>0|4=>4|46=>54|5=>5|9=>9|n=>n,λ|17=>5|n=>n⟩
theorem Tryz.laysM284:Go.Proofs.LaysM.n284 P0 Tryz.laysM284_ren:={
 mixed:=by kernel_rfl
 f129:=Tryz.func284.trans (congrArg some (by kernel_rfl))
 f284:=Tryz.func275.trans (congrArg some (by kernel_rfl))
 f317:=Tryz.func283.trans (congrArg some (by kernel_rfl))
 f318:=Tryz.func285.trans (congrArg some (by kernel_rfl))
 t0:=Tryz.underlying0
 a0:=Tryz.isAgg0
 z0:=Tryz.sizeOf0
 v0:=Tryz.zeroValue0
 t3:=Tryz.underlying3
 a3:=Tryz.isAgg3
 z3:=Tryz.sizeOf3
 v3:=Tryz.zeroValue3
 t4:=Tryz.underlying4
 a4:=Tryz.isAgg4
 z4:=Tryz.sizeOf4
 v4:=Tryz.zeroValue4
 t5:=Tryz.underlying5
 a5:=Tryz.isAgg5
 z5:=Tryz.sizeOf5
 v5:=Tryz.zeroValue5
 t9:=Tryz.underlying9
 a9:=Tryz.isAgg9
 z9:=Tryz.sizeOf9
 v9:=Tryz.zeroValue9
 t46:=Tryz.underlying54
 a46:=Tryz.isAgg54
 z46:=Tryz.sizeOf54
 v46:=Tryz.zeroValue54
 t53:=Tryz.underlying209
 a53:=Tryz.isAgg209
 z53:=Tryz.sizeOf209
 v53:=Tryz.zeroValue209
 t212:=Tryz.underlying271
 a212:=Tryz.isAgg271
 z212:=Tryz.sizeOf271
 v212:=Tryz.zeroValue271
 g17:=by kernel_rfl
 i0:=by kernel_rfl
 i3:=by kernel_rfl
 i4:=by kernel_rfl
 i5:=by kernel_rfl
 i9:=by kernel_rfl
 i46:=by kernel_rfl
 i53:=by kernel_rfl
 i212:=by kernel_rfl
 m17:=by kernel_rfl}
open Go.Lib in
theorem Tryz.internal_strconv_numDigits(u:Nat)(h1:1<=u)(h2:u<18446744073709551616)(w:World)(htab:Lib.TabIs P0 w "internal/strconv.uint64pow10" .u64 Lib.pow10Tab):
 Calls P0 275 #[.int .u64 u] w λe w'=>e=.returned (.int .i64 (Lib.nDigits u))/\w'=w:=Any.internal_strconv_numDigits Tryz.laysM284 u h1 h2 w htab
def Tryz.lays285_ren:Go.Shelf.Ren:=⟨λ|285=>276|n=>n,λ|37=>89|53=>209|3=>3|4=>4|51=>174|9=>9|5=>5|0=>0|n=>n,λ|n=>n⟩
theorem Tryz.lays285:Go.Proofs.Lays.n285 P0 Tryz.lays285_ren:={
 mixed:=by kernel_rfl
 f285:=Tryz.func276.trans (congrArg some (by kernel_rfl))
 t0:=Tryz.underlying0
 a0:=Tryz.isAgg0
 z0:=Tryz.sizeOf0
 v0:=Tryz.zeroValue0
 t3:=Tryz.underlying3
 a3:=Tryz.isAgg3
 z3:=Tryz.sizeOf3
 v3:=Tryz.zeroValue3
 t4:=Tryz.underlying4
 a4:=Tryz.isAgg4
 z4:=Tryz.sizeOf4
 v4:=Tryz.zeroValue4
 t5:=Tryz.underlying5
 a5:=Tryz.isAgg5
 z5:=Tryz.sizeOf5
 v5:=Tryz.zeroValue5
 t9:=Tryz.underlying9
 a9:=Tryz.isAgg9
 z9:=Tryz.sizeOf9
 v9:=Tryz.zeroValue9
 t37:=Tryz.underlying89
 a37:=Tryz.isAgg89
 z37:=Tryz.sizeOf89
 v37:=Tryz.zeroValue89
 t51:=Tryz.underlying174
 a51:=Tryz.isAgg174
 z51:=Tryz.sizeOf174
 v51:=Tryz.zeroValue174
 t53:=Tryz.underlying209
 a53:=Tryz.isAgg209
 z53:=Tryz.sizeOf209
 v53:=Tryz.zeroValue209}
open Go.RowKit Go.Sort Go.Lib in
theorem Tryz.internal_strconv_formatBase10(blk off cap:Nat)(u:Nat)(d:Array UInt8)(w:World)(hH:Holds (λ(b:UInt8)=>Value.int .u8 (b.toNat:Int)) w blk off d)(hu:u<10^d.size)(hu64:u<18446744073709551616)(hsz:d.size<4611686018427387904):
 Calls P0 276 #[.slice (some ⟨blk,off,none⟩) d.size cap,.int .u64 u] w λe w'=>
  e=.returned (.tuple #[])/\∃(n v':Nat) (dk:Array UInt8),w'=(putRow (λ(b:UInt8)=>Value.int .u8 (b.toNat:Int)) w blk off dk).drewN n/\FmtInv d.size u 0 v' dk:=Any.internal_strconv_formatBase10 Tryz.lays285 blk off cap u d w hH hu hu64 hsz
def Tryz.laysC245_ren:Go.Shelf.Ren:=⟨λ|245=>213|279=>242|280=>243|281=>244|282=>245|316=>267|171=>269|205=>268|243=>280|246=>288|283=>274|284=>275|285=>276|286=>277|129=>284|317=>283|318=>285|319=>286|320=>287|337=>289|338=>290|n=>n,λ|9=>9|3=>3|75=>118|167=>236|4=>4|168=>239|210=>258|37=>89|0=>0|127=>145|145=>270|143=>268|2=>2|171=>262|53=>209|5=>5|173=>265|212=>271|51=>174|20=>20|213=>272|46=>54|232=>276|233=>277|80=>122|n=>n,λ|15=>3|16=>4|17=>5|18=>6|19=>7|n=>n⟩
theorem Tryz.laysC245:Go.Proofs.LaysC.n245 P0 Tryz.laysC245_ren:={
 mixed:=by kernel_rfl
 f129:=Tryz.func284.trans (congrArg some (by kernel_rfl))
 f171:=Tryz.func269.trans (congrArg some (by kernel_rfl))
 f205:=Tryz.func268.trans (congrArg some (by kernel_rfl))
 f243:=Tryz.func280.trans (congrArg some (by kernel_rfl))
 f245:=Tryz.func213.trans (congrArg some (by kernel_rfl))
 f246:=Tryz.func288.trans (congrArg some (by kernel_rfl))
 f279:=Tryz.func242.trans (congrArg some (by kernel_rfl))
 f280:=Tryz.func243.trans (congrArg some (by kernel_rfl))
 f281:=Tryz.func244.trans (congrArg some (by kernel_rfl))
 f282:=Tryz.func245.trans (congrArg some (by kernel_rfl))
 f283:=Tryz.func274.trans (congrArg some (by kernel_rfl))
 f284:=Tryz.func275.trans (congrArg some (by kernel_rfl))
 f285:=Tryz.func276.trans (congrArg some (by kernel_rfl))
 f286:=Tryz.func277.trans (congrArg some (by kernel_rfl))
 f316:=Tryz.func267.trans (congrArg some (by kernel_rfl))
 f317:=Tryz.func283.trans (congrArg some (by kernel_rfl))
 f318:=Tryz.func285.trans (congrArg some (by kernel_rfl))
 f319:=Tryz.func286.trans (congrArg some (by kernel_rfl))
 f320:=Tryz.func287.trans (congrArg some (by kernel_rfl))
 f337:=Tryz.func289.trans (congrArg some (by kernel_rfl))
 f338:=Tryz.func290.trans (congrArg some (by kernel_rfl))
 t0:=Tryz.underlying0
 a0:=Tryz.isAgg0
 z0:=Tryz.sizeOf0
 v0:=Tryz.zeroValue0
 t2:=Tryz.underlying2
 a2:=Tryz.isAgg2
 z2:=Tryz.sizeOf2
 v2:=Tryz.zeroValue2
 t3:=Tryz.underlying3
 a3:=Tryz.isAgg3
 z3:=Tryz.sizeOf3
 v3:=Tryz.zeroValue3
 t4:=Tryz.underlying4
 a4:=Tryz.isAgg4
 z4:=Tryz.sizeOf4
 v4:=Tryz.zeroValue4
 t5:=Tryz.underlying5
 a5:=Tryz.isAgg5
 z5:=Tryz.sizeOf5
 v5:=Tryz.zeroValue5
 t9:=Tryz.underlying9
 a9:=Tryz.isAgg9
 z9:=Tryz.sizeOf9
 v9:=Tryz.zeroValue9
 t20:=Tryz.underlying20
 a20:=Tryz.isAgg20
 z20:=Tryz.sizeOf20
 v20:=Tryz.zeroValue20
 t37:=Tryz.underlying89
 a37:=Tryz.isAgg89
 z37:=Tryz.sizeOf89
 v37:=Tryz.zeroValue89
 t46:=Tryz.underlying54
 a46:=Tryz.isAgg54
 z46:=Tryz.sizeOf54
 v46:=Tryz.zeroValue54
 t51:=Tryz.underlying174
 a51:=Tryz.isAgg174
 z51:=Tryz.sizeOf174
 v51:=Tryz.zeroValue174
 t53:=Tryz.underlying209
 a53:=Tryz.isAgg209
 z53:=Tryz.sizeOf209
 v53:=Tryz.zeroValue209
 t75:=Tryz.underlying118
 a75:=Tryz.isAgg118
 z75:=Tryz.sizeOf118
 v75:=Tryz.zeroValue118
 t127:=Tryz.underlying145
 a127:=Tryz.isAgg145
 z127:=Tryz.sizeOf145
 v127:=Tryz.zeroValue145
 t143:=Tryz.underlying268
 a143:=Tryz.isAgg268
 z143:=Tryz.sizeOf268
 v143:=Tryz.zeroValue268
 t145:=Tryz.underlying270
 a145:=Tryz.isAgg270
 z145:=Tryz.sizeOf270
 v145:=Tryz.zeroValue270
 t167:=Tryz.underlying236
 a167:=Tryz.isAgg236
 z167:=Tryz.sizeOf236
 v167:=Tryz.zeroValue236
 t168:=Tryz.underlying239
 a168:=Tryz.isAgg239
 z168:=Tryz.sizeOf239
 v168:=Tryz.zeroValue239
 t171:=Tryz.underlying262
 a171:=Tryz.isAgg262
 z171:=Tryz.sizeOf262
 v171:=Tryz.zeroValue262
 t173:=Tryz.underlying265
 a173:=Tryz.isAgg265
 z173:=Tryz.sizeOf265
 v173:=Tryz.zeroValue265
 t210:=Tryz.underlying258
 a210:=Tryz.isAgg258
 z210:=Tryz.sizeOf258
 v210:=Tryz.zeroValue258
 t212:=Tryz.underlying271
 a212:=Tryz.isAgg271
 z212:=Tryz.sizeOf271
 v212:=Tryz.zeroValue271
 t213:=Tryz.underlying272
 a213:=Tryz.isAgg272
 z213:=Tryz.sizeOf272
 t232:=Tryz.underlying276
 a232:=Tryz.isAgg276
 z232:=Tryz.sizeOf276
 v232:=Tryz.zeroValue276
 t233:=Tryz.underlying277
 a233:=Tryz.isAgg277
 z233:=Tryz.sizeOf277
 v233:=Tryz.zeroValue277
 g15:=by kernel_rfl
 g16:=by kernel_rfl
 g17:=by kernel_rfl
 g18:=by kernel_rfl
 g19:=by kernel_rfl
 t80:=Tryz.underlying122
 a80:=Tryz.isAgg122
 z80:=Tryz.sizeOf122
 v80:=Tryz.zeroValue122
 i0:=by kernel_rfl
 i2:=by kernel_rfl
 i3:=by kernel_rfl
 i4:=by kernel_rfl
 i5:=by kernel_rfl
 i9:=by kernel_rfl
 i20:=by kernel_rfl
 i37:=by kernel_rfl
 i46:=by kernel_rfl
 i51:=by kernel_rfl
 i53:=by kernel_rfl
 i75:=by kernel_rfl
 i80:=by kernel_rfl
 i127:=by kernel_rfl
 i143:=by kernel_rfl
 i145:=by kernel_rfl
 i167:=by kernel_rfl
 i168:=by kernel_rfl
 i171:=by kernel_rfl
 i173:=by kernel_rfl
 i210:=by kernel_rfl
 i212:=by kernel_rfl
 i232:=by kernel_rfl
 i233:=by kernel_rfl
 m15:=by kernel_rfl
 m16:=by kernel_rfl
 m17:=by kernel_rfl
 m18:=by kernel_rfl
 m19:=by kernel_rfl
 c0:=by kernel_rfl
 c2:=by kernel_rfl
 c3:=by kernel_rfl
 c4:=by kernel_rfl
 c5:=by kernel_rfl
 c9:=by kernel_rfl
 c20:=by kernel_rfl
 c37:=by kernel_rfl
 c46:=by kernel_rfl
 c51:=by kernel_rfl
 c53:=by kernel_rfl
 c75:=by kernel_rfl
 c80:=by kernel_rfl
 c127:=by kernel_rfl
 c143:=by kernel_rfl
 c145:=by kernel_rfl
 c167:=by kernel_rfl
 c168:=by kernel_rfl
 c171:=by kernel_rfl
 c173:=by kernel_rfl
 c210:=by kernel_rfl
 c212:=by kernel_rfl
 c213:=by kernel_rfl
 c232:=by kernel_rfl
 c233:=by kernel_rfl}
open Go.RowKit in
theorem Tryz.strconv_toError_syntax(fn s:ByteArray)(base bits:Int)(ev:Value)(w:World)(hlim:s.size<=281474976710656)(hv:w.cell? ⟨3,0,none⟩=some ev)(hev:ev=.nilIface\/∃te pe,ev=.iface te pe):
 Calls P0 213 #[.string fn,.string s,.int .i64 base,.int .i64 bits,.iface 236 (.int .i64 2)] w λe w'=>∃N,e=.returned (.iface 239 (.pointer (some ⟨N,0,none⟩)))/\w.heap.size<=N/\w'.heap[N]?=some (.cells #[.string fn,.string s,ev] 258 (0,0))/\Below w.heap.size w w':=Any.strconv_toError_syntax Tryz.laysC245 fn s base bits ev w hlim hv hev
def Tryz.laysC244_ren:Go.Shelf.Ren:=⟨λ|244=>212|247=>241|287=>252|321=>272|322=>273|n=>n,λ|9=>9|3=>3|75=>118|4=>4|5=>5|167=>236|37=>89|0=>0|85=>237|2=>2|53=>209|175=>227|46=>54|21=>21|80=>122|n=>n,λ|n=>n⟩
theorem Tryz.laysC244:Go.Proofs.LaysC.n244 P0 Tryz.laysC244_ren:={
 mixed:=by kernel_rfl
 f244:=Tryz.func212.trans (congrArg some (by kernel_rfl))
 f247:=Tryz.func241.trans (congrArg some (by kernel_rfl))
 f287:=Tryz.func252.trans (congrArg some (by kernel_rfl))
 f321:=Tryz.func272.trans (congrArg some (by kernel_rfl))
 f322:=Tryz.func273.trans (congrArg some (by kernel_rfl))
 t0:=Tryz.underlying0
 a0:=Tryz.isAgg0
 z0:=Tryz.sizeOf0
 v0:=Tryz.zeroValue0
 t2:=Tryz.underlying2
 a2:=Tryz.isAgg2
 z2:=Tryz.sizeOf2
 v2:=Tryz.zeroValue2
 t3:=Tryz.underlying3
 a3:=Tryz.isAgg3
 z3:=Tryz.sizeOf3
 v3:=Tryz.zeroValue3
 t4:=Tryz.underlying4
 a4:=Tryz.isAgg4
 z4:=Tryz.sizeOf4
 v4:=Tryz.zeroValue4
 t5:=Tryz.underlying5
 a5:=Tryz.isAgg5
 z5:=Tryz.sizeOf5
 v5:=Tryz.zeroValue5
 t9:=Tryz.underlying9
 a9:=Tryz.isAgg9
 z9:=Tryz.sizeOf9
 v9:=Tryz.zeroValue9
 t21:=Tryz.underlying21
 a21:=Tryz.isAgg21
 z21:=Tryz.sizeOf21
 v21:=Tryz.zeroValue21
 t37:=Tryz.underlying89
 a37:=Tryz.isAgg89
 z37:=Tryz.sizeOf89
 v37:=Tryz.zeroValue89
 t46:=Tryz.underlying54
 a46:=Tryz.isAgg54
 z46:=Tryz.sizeOf54
 v46:=Tryz.zeroValue54
 t53:=Tryz.underlying209
 a53:=Tryz.isAgg209
 z53:=Tryz.sizeOf209
 v53:=Tryz.zeroValue209
 t75:=Tryz.underlying118
 a75:=Tryz.isAgg118
 z75:=Tryz.sizeOf118
 v75:=Tryz.zeroValue118
 t85:=Tryz.underlying237
 a85:=Tryz.isAgg237
 z85:=Tryz.sizeOf237
 v85:=Tryz.zeroValue237
 t167:=Tryz.underlying236
 a167:=Tryz.isAgg236
 z167:=Tryz.sizeOf236
 v167:=Tryz.zeroValue236
 t175:=Tryz.underlying227
 a175:=Tryz.isAgg227
 z175:=Tryz.sizeOf227
 v175:=Tryz.zeroValue227
 t80:=Tryz.underlying122
 a80:=Tryz.isAgg122
 z80:=Tryz.sizeOf122
 v80:=Tryz.zeroValue122
 i0:=by kernel_rfl
 i2:=by kernel_rfl
 i3:=by kernel_rfl
 i4:=by kernel_rfl
 i5:=by kernel_rfl
 i9:=by kernel_rfl
 i21:=by kernel_rfl
 i37:=by kernel_rfl
 i46:=by kernel_rfl
 i53:=by kernel_rfl
 i75:=by kernel_rfl
 i80:=by kernel_rfl
 i85:=by kernel_rfl
 i167:=by kernel_rfl
 i175:=by kernel_rfl
 c0:=by kernel_rfl
 c2:=by kernel_rfl
 c3:=by kernel_rfl
 c4:=by kernel_rfl
 c5:=by kernel_rfl
 c9:=by kernel_rfl
 c21:=by kernel_rfl
 c37:=by kernel_rfl
 c46:=by kernel_rfl
 c53:=by kernel_rfl
 c75:=by kernel_rfl
 c80:=by kernel_rfl
 c85:=by kernel_rfl
 c167:=by kernel_rfl
 c175:=by kernel_rfl}
open Go.RowKit in
theorem Tryz.internal_strconv_Atoi_all(s:ByteArray)(hmax:s.size<=9223372036854775806)(w:World):
 Calls P0 212 #[.string s] w λe w'=>e=.returned (Lib.intTuple 236 (Lib.atoiSat s.data.toList) (Lib.atoiAll s.data.toList))/\(w'=w\/∃t,w'=Lib.bytesWorld w 5 t):=Any.internal_strconv_Atoi_all Tryz.laysC244 s hmax w
open Go.RowKit in
theorem Tryz.strconv_toError_range(fn s:ByteArray)(base bits:Int)(ev:Value)(w:World)(hlim:s.size<=281474976710656)(hv:w.cell? ⟨4,0,none⟩=some ev)(hev:ev=.nilIface\/∃te pe,ev=.iface te pe):
 Calls P0 213 #[.string fn,.string s,.int .i64 base,.int .i64 bits,.iface 236 (.int .i64 1)] w λe w'=>∃N,e=.returned (.iface 239 (.pointer (some ⟨N,0,none⟩)))/\w.heap.size<=N/\w'.heap[N]?=some (.cells #[.string fn,.string s,ev] 258 (0,0))/\Below w.heap.size w w':=Any.strconv_toError_range Tryz.laysC245 fn s base bits ev w hlim hv hev
def Tryz.laysPu14_ren:Go.Shelf.Ren:=⟨λ|14=>226|16=>252|17=>213|19=>272|20=>273|21=>242|22=>243|23=>244|24=>245|25=>267|27=>269|26=>268|28=>280|29=>288|30=>274|31=>275|32=>276|33=>277|35=>284|34=>283|36=>285|37=>286|38=>287|39=>289|40=>290|n=>n,λ|9=>9|3=>3|22=>209|24=>118|25=>227|4=>4|34=>236|5=>5|36=>54|37=>89|0=>0|39=>239|21=>21|44=>258|47=>145|50=>270|48=>268|2=>2|52=>262|55=>265|59=>271|60=>174|20=>20|61=>272|65=>276|66=>277|67=>122|n=>n,λ|0=>3|1=>4|2=>5|3=>6|4=>7|n=>n⟩
theorem Tryz.laysPu14:Go.Proofs.LaysPu.n14 P0 Tryz.laysPu14_ren:={
 mixed:=by kernel_rfl
 f14:=Tryz.func226.trans (congrArg some (by kernel_rfl))
 f16:=Tryz.func252.trans (congrArg some (by kernel_rfl))
 f17:=Tryz.func213.trans (congrArg some (by kernel_rfl))
 f19:=Tryz.func272.trans (congrArg some (by kernel_rfl))
 f20:=Tryz.func273.trans (congrArg some (by kernel_rfl))
 f21:=Tryz.func242.trans (congrArg some (by kernel_rfl))
 f22:=Tryz.func243.trans (congrArg some (by kernel_rfl))
 f23:=Tryz.func244.trans (congrArg some (by kernel_rfl))
 f24:=Tryz.func245.trans (congrArg some (by kernel_rfl))
 f25:=Tryz.func267.trans (congrArg some (by kernel_rfl))
 f26:=Tryz.func268.trans (congrArg some (by kernel_rfl))
 f27:=Tryz.func269.trans (congrArg some (by kernel_rfl))
 f28:=Tryz.func280.trans (congrArg some (by kernel_rfl))
 f29:=Tryz.func288.trans (congrArg some (by kernel_rfl))
 f30:=Tryz.func274.trans (congrArg some (by kernel_rfl))
 f31:=Tryz.func275.trans (congrArg some (by kernel_rfl))
 f32:=Tryz.func276.trans (congrArg some (by kernel_rfl))
 f33:=Tryz.func277.trans (congrArg some (by kernel_rfl))
 f34:=Tryz.func283.trans (congrArg some (by kernel_rfl))
 f35:=Tryz.func284.trans (congrArg some (by kernel_rfl))
 f36:=Tryz.func285.trans (congrArg some (by kernel_rfl))
 f37:=Tryz.func286.trans (congrArg some (by kernel_rfl))
 f38:=Tryz.func287.trans (congrArg some (by kernel_rfl))
 f39:=Tryz.func289.trans (congrArg some (by kernel_rfl))
 f40:=Tryz.func290.trans (congrArg some (by kernel_rfl))
 t0:=Tryz.underlying0
 a0:=Tryz.isAgg0
 z0:=Tryz.sizeOf0
 v0:=Tryz.zeroValue0
 i0:=by kernel_rfl
 t2:=Tryz.underlying2
 a2:=Tryz.isAgg2
 z2:=Tryz.sizeOf2
 v2:=Tryz.zeroValue2
 i2:=by kernel_rfl
 t3:=Tryz.underlying3
 a3:=Tryz.isAgg3
 z3:=Tryz.sizeOf3
 v3:=Tryz.zeroValue3
 i3:=by kernel_rfl
 t4:=Tryz.underlying4
 a4:=Tryz.isAgg4
 z4:=Tryz.sizeOf4
 v4:=Tryz.zeroValue4
 i4:=by kernel_rfl
 t5:=Tryz.underlying5
 a5:=Tryz.isAgg5
 z5:=Tryz.sizeOf5
 v5:=Tryz.zeroValue5
 i5:=by kernel_rfl
 t9:=Tryz.underlying9
 a9:=Tryz.isAgg9
 z9:=Tryz.sizeOf9
 v9:=Tryz.zeroValue9
 i9:=by kernel_rfl
 t20:=Tryz.underlying20
 a20:=Tryz.isAgg20
 z20:=Tryz.sizeOf20
 v20:=Tryz.zeroValue20
 i20:=by kernel_rfl
 t21:=Tryz.underlying21
 a21:=Tryz.isAgg21
 z21:=Tryz.sizeOf21
 v21:=Tryz.zeroValue21
 i21:=by kernel_rfl
 t22:=Tryz.underlying209
 a22:=Tryz.isAgg209
 z22:=Tryz.sizeOf209
 v22:=Tryz.zeroValue209
 i22:=by kernel_rfl
 t24:=Tryz.underlying118
 a24:=Tryz.isAgg118
 z24:=Tryz.sizeOf118
 v24:=Tryz.zeroValue118
 i24:=by kernel_rfl
 t25:=Tryz.underlying227
 a25:=Tryz.isAgg227
 z25:=Tryz.sizeOf227
 v25:=Tryz.zeroValue227
 i25:=by kernel_rfl
 t34:=Tryz.underlying236
 a34:=Tryz.isAgg236
 z34:=Tryz.sizeOf236
 v34:=Tryz.zeroValue236
 i34:=by kernel_rfl
 c34:=by kernel_rfl
 t36:=Tryz.underlying54
 a36:=Tryz.isAgg54
 z36:=Tryz.sizeOf54
 v36:=Tryz.zeroValue54
 i36:=by kernel_rfl
 t37:=Tryz.underlying89
 a37:=Tryz.isAgg89
 z37:=Tryz.sizeOf89
 v37:=Tryz.zeroValue89
 i37:=by kernel_rfl
 t39:=Tryz.underlying239
 a39:=Tryz.isAgg239
 z39:=Tryz.sizeOf239
 v39:=Tryz.zeroValue239
 i39:=by kernel_rfl
 t44:=Tryz.underlying258
 a44:=Tryz.isAgg258
 z44:=Tryz.sizeOf258
 v44:=Tryz.zeroValue258
 i44:=by kernel_rfl
 t47:=Tryz.underlying145
 a47:=Tryz.isAgg145
 z47:=Tryz.sizeOf145
 v47:=Tryz.zeroValue145
 i47:=by kernel_rfl
 t48:=Tryz.underlying268
 a48:=Tryz.isAgg268
 z48:=Tryz.sizeOf268
 v48:=Tryz.zeroValue268
 i48:=by kernel_rfl
 t50:=Tryz.underlying270
 a50:=Tryz.isAgg270
 z50:=Tryz.sizeOf270
 v50:=Tryz.zeroValue270
 i50:=by kernel_rfl
 t52:=Tryz.underlying262
 a52:=Tryz.isAgg262
 z52:=Tryz.sizeOf262
 v52:=Tryz.zeroValue262
 i52:=by kernel_rfl
 t55:=Tryz.underlying265
 a55:=Tryz.isAgg265
 z55:=Tryz.sizeOf265
 v55:=Tryz.zeroValue265
 i55:=by kernel_rfl
 t59:=Tryz.underlying271
 a59:=Tryz.isAgg271
 z59:=Tryz.sizeOf271
 v59:=Tryz.zeroValue271
 i59:=by kernel_rfl
 t60:=Tryz.underlying174
 a60:=Tryz.isAgg174
 z60:=Tryz.sizeOf174
 v60:=Tryz.zeroValue174
 i60:=by kernel_rfl
 t61:=Tryz.underlying272
 a61:=Tryz.isAgg272
 z61:=Tryz.sizeOf272
 t65:=Tryz.underlying276
 a65:=Tryz.isAgg276
 z65:=Tryz.sizeOf276
 v65:=Tryz.zeroValue276
 i65:=by kernel_rfl
 t66:=Tryz.underlying277
 a66:=Tryz.isAgg277
 z66:=Tryz.sizeOf277
 v66:=Tryz.zeroValue277
 i66:=by kernel_rfl
 t67:=Tryz.underlying122
 a67:=Tryz.isAgg122
 z67:=Tryz.sizeOf122
 v67:=Tryz.zeroValue122
 i67:=by kernel_rfl
 g0:=by kernel_rfl
 m0:=by kernel_rfl
 g1:=by kernel_rfl
 m1:=by kernel_rfl
 g2:=by kernel_rfl
 m2:=by kernel_rfl
 g3:=by kernel_rfl
 m3:=by kernel_rfl
 g4:=by kernel_rfl
 m4:=by kernel_rfl}
open Go.RowKit in
theorem Tryz.strconv_ParseUint_10_at64_ok(s:ByteArray)(hmax:s.size<=9223372036854775806)(u:Nat)(h:Lib.parseUintB 64 s.data.toList=.ok u)(w:World):
 Calls P0 226 #[.string s,.int .i64 10,.int .i64 64] w λe w'=>e=.returned (.tuple #[.int .u64 u,.nilIface])/\(w'=w\/w'=Lib.bytesWorld w 5 s):=Any.strconv_ParseUint_10_at64_ok Tryz.laysPu14 s hmax u h w
def Tryz.lays143_ren:Go.Shelf.Ren:=⟨λ|143=>71|219=>106|217=>105|225=>141|224=>142|267=>143|266=>140|314=>200|n=>n,λ|9=>9|3=>3|4=>4|5=>5|46=>54|146=>212|51=>174|n=>n,λ|1=>0|n=>n⟩
theorem Tryz.lays143:Go.Proofs.Lays.n143 P0 Tryz.lays143_ren:={
 mixed:=by kernel_rfl
 f143:=Tryz.func71.trans (congrArg some (by kernel_rfl))
 f217:=Tryz.func105.trans (congrArg some (by kernel_rfl))
 f219:=Tryz.func106.trans (congrArg some (by kernel_rfl))
 f224:=Tryz.func142.trans (congrArg some (by kernel_rfl))
 f225:=Tryz.func141.trans (congrArg some (by kernel_rfl))
 f266:=Tryz.func140.trans (congrArg some (by kernel_rfl))
 f267:=Tryz.func143.trans (congrArg some (by kernel_rfl))
 f314:=Tryz.func200.trans (congrArg some (by kernel_rfl))
 t3:=Tryz.underlying3
 a3:=Tryz.isAgg3
 z3:=Tryz.sizeOf3
 v3:=Tryz.zeroValue3
 t4:=Tryz.underlying4
 a4:=Tryz.isAgg4
 z4:=Tryz.sizeOf4
 v4:=Tryz.zeroValue4
 t5:=Tryz.underlying5
 a5:=Tryz.isAgg5
 z5:=Tryz.sizeOf5
 v5:=Tryz.zeroValue5
 t9:=Tryz.underlying9
 a9:=Tryz.isAgg9
 z9:=Tryz.sizeOf9
 v9:=Tryz.zeroValue9
 t46:=Tryz.underlying54
 a46:=Tryz.isAgg54
 z46:=Tryz.sizeOf54
 v46:=Tryz.zeroValue54
 t51:=Tryz.underlying174
 a51:=Tryz.isAgg174
 z51:=Tryz.sizeOf174
 v51:=Tryz.zeroValue174
 t146:=Tryz.underlying212
 a146:=Tryz.isAgg212
 z146:=Tryz.sizeOf212
 v146:=Tryz.zeroValue212
 g1:=by kernel_rfl}
open Go.RowKit Go.Lib in
theorem Tryz.strings_Index(s sub:ByteArray)(m:Int)(w:World)(hs:s.size<4294967281)(hm:w.cell? ⟨0,0,none⟩=some (.int .i64 m)):
 Calls P0 71 #[.string s,.string sub] w λe w'=>e=.returned (.int .i64 (Lib.index s.data.toList sub.data.toList))/\w'=w:=Any.strings_Index Tryz.lays143 s sub m w hs hm
def Tryz.lays145_ren:Go.Shelf.Ren:=⟨λ|145=>110|220=>145|219=>106|217=>105|225=>141|224=>142|267=>143|266=>140|314=>200|n=>n,λ|9=>9|4=>4|59=>147|3=>3|5=>5|46=>54|146=>212|51=>174|n=>n,λ|1=>0|n=>n⟩
theorem Tryz.lays145:Go.Proofs.Lays.n145 P0 Tryz.lays145_ren:={
 mixed:=by kernel_rfl
 f145:=Tryz.func110.trans (congrArg some (by kernel_rfl))
 f217:=Tryz.func105.trans (congrArg some (by kernel_rfl))
 f219:=Tryz.func106.trans (congrArg some (by kernel_rfl))
 f220:=Tryz.func145.trans (congrArg some (by kernel_rfl))
 f224:=Tryz.func142.trans (congrArg some (by kernel_rfl))
 f225:=Tryz.func141.trans (congrArg some (by kernel_rfl))
 f266:=Tryz.func140.trans (congrArg some (by kernel_rfl))
 f267:=Tryz.func143.trans (congrArg some (by kernel_rfl))
 f314:=Tryz.func200.trans (congrArg some (by kernel_rfl))
 t3:=Tryz.underlying3
 a3:=Tryz.isAgg3
 z3:=Tryz.sizeOf3
 v3:=Tryz.zeroValue3
 t4:=Tryz.underlying4
 a4:=Tryz.isAgg4
 z4:=Tryz.sizeOf4
 v4:=Tryz.zeroValue4
 t5:=Tryz.underlying5
 a5:=Tryz.isAgg5
 z5:=Tryz.sizeOf5
 v5:=Tryz.zeroValue5
 t9:=Tryz.underlying9
 a9:=Tryz.isAgg9
 z9:=Tryz.sizeOf9
 v9:=Tryz.zeroValue9
 t46:=Tryz.underlying54
 a46:=Tryz.isAgg54
 z46:=Tryz.sizeOf54
 v46:=Tryz.zeroValue54
 t51:=Tryz.underlying174
 a51:=Tryz.isAgg174
 z51:=Tryz.sizeOf174
 v51:=Tryz.zeroValue174
 t59:=Tryz.underlying147
 a59:=Tryz.isAgg147
 z59:=Tryz.sizeOf147
 v59:=Tryz.zeroValue147
 t146:=Tryz.underlying212
 a146:=Tryz.isAgg212
 z146:=Tryz.sizeOf212
 v146:=Tryz.zeroValue212
 g1:=by kernel_rfl}
open Go.RowKit Go.Lib in
theorem Tryz.strings_Cut(s sep:ByteArray)(m:Int)(w:World)(hs:s.size<4294967281)(hm:w.cell? ⟨0,0,none⟩=some (.int .i64 m)):
 Calls P0 110 #[.string s,.string sep] w λe w'=>e=.returned (.tuple #[.string ⟨(Lib.cut s.data.toList sep.data.toList).1.toArray⟩,.string ⟨(Lib.cut s.data.toList sep.data.toList).2.1.toArray⟩,.bool (Lib.cut s.data.toList sep.data.toList).2.2])/\∃n,w'=w.drewN n:=Any.strings_Cut Tryz.lays145 s sep m w hs hm
def Tryz.lays206_ren:Go.Shelf.Ren:=⟨λ|206=>67|n=>n,λ|9=>9|4=>4|3=>3|n=>n,λ|n=>n⟩
theorem Tryz.lays206:Go.Proofs.Lays.n206 P0 Tryz.lays206_ren:={
 mixed:=by kernel_rfl
 f206:=Tryz.func67.trans (congrArg some (by kernel_rfl))
 t3:=Tryz.underlying3
 a3:=Tryz.isAgg3
 z3:=Tryz.sizeOf3
 v3:=Tryz.zeroValue3
 t4:=Tryz.underlying4
 a4:=Tryz.isAgg4
 z4:=Tryz.sizeOf4
 v4:=Tryz.zeroValue4
 t9:=Tryz.underlying9
 a9:=Tryz.isAgg9
 z9:=Tryz.sizeOf9
 v9:=Tryz.zeroValue9}
open Go.RowKit Go.Lib in
theorem Tryz.stringslite_HasPrefix(s p:ByteArray)(w:World):
 Calls P0 67 #[.string s,.string p] w λe w'=>e=.returned (.bool (Lib.hasPrefix s.data.toList p.data.toList))/\w'=w:=Any.stringslite_HasPrefix Tryz.lays206 s p w
def Tryz.lays99_ren:Go.Shelf.Ren:=⟨λ|99=>43|206=>67|n=>n,λ|9=>9|4=>4|3=>3|n=>n,λ|n=>n⟩
theorem Tryz.lays99:Go.Proofs.Lays.n99 P0 Tryz.lays99_ren:={
 mixed:=by kernel_rfl
 f99:=Tryz.func43.trans (congrArg some (by kernel_rfl))
 f206:=Tryz.func67.trans (congrArg some (by kernel_rfl))
 t3:=Tryz.underlying3
 a3:=Tryz.isAgg3
 z3:=Tryz.sizeOf3
 v3:=Tryz.zeroValue3
 t4:=Tryz.underlying4
 a4:=Tryz.isAgg4
 z4:=Tryz.sizeOf4
 v4:=Tryz.zeroValue4
 t9:=Tryz.underlying9
 a9:=Tryz.isAgg9
 z9:=Tryz.sizeOf9
 v9:=Tryz.zeroValue9}
open Go.RowKit Go.Lib in
theorem Tryz.strings_HasPrefix(s p:ByteArray)(w:World):
 Calls P0 43 #[.string s,.string p] w λe w'=>e=.returned (.bool (Lib.hasPrefix s.data.toList p.data.toList))/\w'=w:=Any.strings_HasPrefix Tryz.lays99 s p w
def Tryz.lays105_ren:Go.Shelf.Ren:=⟨λ|105=>183|212=>222|99=>43|165=>65|166=>66|170=>223|169=>64|263=>249|264=>250|206=>67|240=>102|241=>104|276=>137|277=>139|n=>n,λ|9=>9|3=>3|4=>4|20=>20|0=>0|46=>54|109=>225|5=>5|72=>116|76=>120|51=>174|146=>212|53=>209|148=>244|70=>114|37=>89|75=>118|127=>145|164=>172|80=>122|n=>n,λ|n=>n⟩
theorem Tryz.lays105:Go.Proofs.Lays.n105 P0 Tryz.lays105_ren:={
 mixed:=by kernel_rfl
 f99:=Tryz.func43.trans (congrArg some (by kernel_rfl))
 f105:=Tryz.func183.trans (congrArg some (by kernel_rfl))
 f165:=Tryz.func65.trans (congrArg some (by kernel_rfl))
 f166:=Tryz.func66.trans (congrArg some (by kernel_rfl))
 f169:=Tryz.func64.trans (congrArg some (by kernel_rfl))
 f170:=Tryz.func223.trans (congrArg some (by kernel_rfl))
 f206:=Tryz.func67.trans (congrArg some (by kernel_rfl))
 f212:=Tryz.func222.trans (congrArg some (by kernel_rfl))
 f240:=Tryz.func102.trans (congrArg some (by kernel_rfl))
 f241:=Tryz.func104.trans (congrArg some (by kernel_rfl))
 f263:=Tryz.func249.trans (congrArg some (by kernel_rfl))
 f264:=Tryz.func250.trans (congrArg some (by kernel_rfl))
 f276:=Tryz.func137.trans (congrArg some (by kernel_rfl))
 f277:=Tryz.func139.trans (congrArg some (by kernel_rfl))
 t0:=Tryz.underlying0
 a0:=Tryz.isAgg0
 z0:=Tryz.sizeOf0
 v0:=Tryz.zeroValue0
 t3:=Tryz.underlying3
 a3:=Tryz.isAgg3
 z3:=Tryz.sizeOf3
 v3:=Tryz.zeroValue3
 t4:=Tryz.underlying4
 a4:=Tryz.isAgg4
 z4:=Tryz.sizeOf4
 v4:=Tryz.zeroValue4
 t5:=Tryz.underlying5
 a5:=Tryz.isAgg5
 z5:=Tryz.sizeOf5
 v5:=Tryz.zeroValue5
 t9:=Tryz.underlying9
 a9:=Tryz.isAgg9
 z9:=Tryz.sizeOf9
 v9:=Tryz.zeroValue9
 t20:=Tryz.underlying20
 a20:=Tryz.isAgg20
 z20:=Tryz.sizeOf20
 v20:=Tryz.zeroValue20
 t37:=Tryz.underlying89
 a37:=Tryz.isAgg89
 z37:=Tryz.sizeOf89
 v37:=Tryz.zeroValue89
 t46:=Tryz.underlying54
 a46:=Tryz.isAgg54
 z46:=Tryz.sizeOf54
 v46:=Tryz.zeroValue54
 t51:=Tryz.underlying174
 a51:=Tryz.isAgg174
 z51:=Tryz.sizeOf174
 v51:=Tryz.zeroValue174
 t53:=Tryz.underlying209
 a53:=Tryz.isAgg209
 z53:=Tryz.sizeOf209
 v53:=Tryz.zeroValue209
 t70:=Tryz.underlying114
 a70:=Tryz.isAgg114
 z70:=Tryz.sizeOf114
 v70:=Tryz.zeroValue114
 t72:=Tryz.underlying116
 a72:=Tryz.isAgg116
 z72:=Tryz.sizeOf116
 v72:=Tryz.zeroValue116
 t75:=Tryz.underlying118
 a75:=Tryz.isAgg118
 z75:=Tryz.sizeOf118
 v75:=Tryz.zeroValue118
 t76:=Tryz.underlying120
 a76:=Tryz.isAgg120
 z76:=Tryz.sizeOf120
 v76:=Tryz.zeroValue120
 t109:=Tryz.underlying225
 a109:=Tryz.isAgg225
 z109:=Tryz.sizeOf225
 v109:=Tryz.zeroValue225
 t127:=Tryz.underlying145
 a127:=Tryz.isAgg145
 z127:=Tryz.sizeOf145
 v127:=Tryz.zeroValue145
 t146:=Tryz.underlying212
 a146:=Tryz.isAgg212
 z146:=Tryz.sizeOf212
 v146:=Tryz.zeroValue212
 t148:=Tryz.underlying244
 a148:=Tryz.isAgg244
 z148:=Tryz.sizeOf244
 v148:=Tryz.zeroValue244
 t164:=Tryz.underlying172
 a164:=Tryz.isAgg172
 z164:=Tryz.sizeOf172
 v164:=Tryz.zeroValue172}
theorem Tryz.Builder_Extra_105:Builder.Extra P0 Tryz.lays105_ren:={
 sizeBuilder:=by kernel_rfl
 liesBuilder:=by kernel_rfl
 t5:=Tryz.underlying5
 a5:=Tryz.isAgg5
 z5:=Tryz.sizeOf5
 v5:=Tryz.zeroValue5
 infoByte:=by kernel_rfl
 cellsByte:=by kernel_rfl
 sizeByte:=by kernel_rfl
 neB5:=by decide}
open Go.RowKit Go.Lib in
theorem Tryz.strings_Repeat(s:ByteArray)(c:Nat)(w:World)(hc:c<=9223372036854775807)(hlen:s.size*c<=140737488355328):
 Calls P0 183 #[.string s,.int .i64 c] w λe w'=>e=.returned (.string ⟨(Lib.repeatL s.data.toList c).toArray⟩)/\Below w.heap.size w w':=Any.strings_Repeat Tryz.lays105 Tryz.Builder_Extra_105 s c w hc hlen
open Go.RowKit Go.Lib in
theorem Tryz.strings_TrimLeft_laid(s cutset:ByteArray)(w:World)(hcs:cutset.size<4294967281)(hascii:∀(j:Nat) b,cutset.data.toList[j]?=some b->b.toNat<128):
 Calls P0 111 #[.string s,.string cutset] w λe w'=>e=.returned (.string ⟨(Lib.trimLeftS s.data.toList cutset.data.toList).toArray⟩)/\Below w.heap.size w w':=Any.strings_TrimLeft_laid Tryz.lays161 (by kernel_rfl) s cutset w hcs hascii
end
end Go.Proofs
namespace Go.Proofs.YtghhmpppnmoeoaaGreatDoor
section
open Go Go.Eng Go.Num
variable{w:World}{K:Q0}{cs:List Value}{G:Nat->Prop}{T:TypeId}{i:Nat}{n:Nat}{v:Value}{w':World}{P:Program}{c:UInt8}{S:Nat->Prop}
abbrev u64(n:Nat):Value:=.int .u64 (n:Int)
abbrev U8:TypeId:=5
theorem vG(w:World)(e:TypeId)(s:ByteArray):bA w (Lib.bytesWorld w e s):=
 ⟨rfl,rfl,rfl,by rw[Lib.bytesWorld_size];omega,λk hk _=>Lib.bytesWorld_at_old w e s k hk⟩
theorem FS{l:aH}{src dst:TypeId}{K:Q0}(hs:Tryz.prog.underlying src=some .string)(hd:Tryz.prog.underlying dst=some (.slice U8))(he:Tryz.prog.underlying U8=some (.int .u8))
  (hK:∀v w',Byt w' U8 v l->bA w w'->K v w'):bP P0 (convert src dst (str l)) w K:=by
 unfold bP;rw[Lib.run_convert_string_bytes w src dst U8 (aL l) hs hd he];refine hK _ _ ?_ (vG _ _ _);have hle:(aL l).size<=grownCap w (aL l).size 0 U8:=by
  exact grownCap_ge w (aL l).size 0 U8
 refine⟨some ⟨w.heap.size,0,none⟩,grownCap w (aL l).size 0 U8,by rw[dC],by rw[<-dC];exact hle,(λe=>by cases e),λ_=>⟨w.heap.size,0,_,_,rfl,Lib.bytesWorld_at_new w U8 (aL l),λi hi=>?_⟩⟩;have hi:i<(aL l).size:=by rw[dC];simpa[iQ]using hi
 have:=Lib.bytesWorld_cell w U8 (aL l) i hi;rw[aX,Lib.bytesWorld_at_new,aZ]at this;rw[Nat.zero_add,this,uF,cK];have hi':i<l.length:=by rw[dC]at hi;exact hi
 simp[List.getD_eq_getElem?_getD,List.getElem?_eq_getElem hi']
theorem eA[HX]{g:FuncId}{args:Array Value}{K:Q0}(hr:∀(ar:Array Value) (w:World),(callFunc g ar).run P0 w=.ok (.enter g ar) w)
  (h:Calls P0 g args w λe w'=>∃v,e=.returned v/\K v w'):aA P0 g args.toList w K:=by
 unfold aA;rw[show args.toList.toArray=args from by simp,hr];refine h.mono ?_;rintro e w' ⟨v,rfl,hk⟩;exact hk
section
variable [HX]
theorem We(n:Int)(KK:Value->Prop)(h:KK (.bool false)):aC .neq (i64 n) (i64 n) KK:=by rw[dG];simpa using h
theorem aBs(n:Nat)(KK:Value->Prop)(h:KK (.bool false)):aC .neq (u64 n) (u64 n) KK:=by rw[dG];simpa using h
theorem Wd(s:aH)(KK:Value->Prop)(h:KK (.bool false)):aC .neq (str s) (str s) KK:=by rw[sJ];simpa using h
theorem Kf{n:Int}{K:Q0}(hK:K (.bool false) w):aA P0 229 [i64 n] w K:=by
 refine Us ?_;exact We n _ hK
theorem Kg{n:Int}{K:Q0}(hK:K (.bool false) w):aA P0 230 [i64 n] w K:=by
 refine Ur ?_;exact We n _ hK
theorem Ke{K:Q0}(hK:K (.bool false) w):aA P0 256 [u64 n] w K:=by
 refine Uj ?_;exact aBs n _ hK
theorem EK{s:aH}{K:Q0}(hK:K (.bool false) w):aA P0 238 [str s] w K:=by
 refine Um ?_;exact Wd s _ hK
theorem OC{s:aH}{K:Q0}(hK:K (.bool false) w):aA P0 207 [str s] w K:=by
 refine Uw ?_;exact Wd s _ hK
theorem Jz{a b:Int}{K:Q0}(hK:K (i64 (Ao a b)) w):(a<b->K (i64 (-1)) w)/\(¬a<b->(b<a->K (i64 1) w)/\(¬b<a->K (i64 0) w)):=by
 unfold Ao at hK;refine⟨λh=>?_,λh=>⟨λh2=>?_,λh2=>?_⟩⟩
 ·rw[if_pos h]at hK;exact hK
 ·rw[if_neg h,if_pos h2]at hK;exact hK
 ·rw[if_neg h,if_neg h2]at hK;exact hK
theorem aBM{a b:Int}{K:Q0}(hK:K (i64 (Ao a b)) w):aA P0 189 [i64 a,i64 b] w K:=by
 refine UJ ?_;unfold aCr;refine Kf (Kf ?_);simp only[cP,cS,bT,cR,cond_true,cond_false,exists_eq_left',cQ,Nat.reduceAdd,Nat.reduceLT,Nat.lt_add_one,Nat.zero_lt_succ,decide_true,decide_false,ne_eq,reduceCtorEq,aB];exact Jz hK
theorem Wr{a b:Int}{K:Q0}(hK:K (i64 (Ao a b)) w):aA P0 190 [i64 a,i64 b] w K:=by
 refine UI ?_;unfold aCq;refine Kg (Kg ?_);simp only[cP,cS,bT,cR,cond_true,cond_false,exists_eq_left',cQ,Nat.reduceAdd,Nat.reduceLT,Nat.lt_add_one,Nat.zero_lt_succ,decide_true,decide_false,ne_eq,reduceCtorEq,aB];exact Jz hK
theorem aBJ{a b:Nat}{K:Q0}(hK:K (i64 (oV a b)) w):aA P0 233 [u64 a,u64 b] w K:=by
 refine Up ?_;unfold aCa;refine Ke (Ke ?_);simp only[cP,cS,bT,cR,cond_true,cond_false,exists_eq_left',cQ,Nat.reduceAdd,Nat.reduceLT,Nat.lt_add_one,Nat.zero_lt_succ,decide_true,decide_false,ne_eq,reduceCtorEq,aB];have e:oV a b=Ao a b:=by unfold oV Ao;simp only[Int.ofNat_lt]
 rw[e]at hK;exact Jz hK
theorem IU{a b:aH}(h1:Op.bytesLess a b=false)(h2:(!(Op.bytesLess a b||decide (a=b)))=false):a=b:=by
 rw[h1]at h2;simpa using h2
theorem aBK{a b:aH}{K:Q0}(hK:K (i64 (Cj a b)) w):aA P0 232 [str a,str b] w K:=by
 refine Uq ?_;unfold aCb;refine EK (EK ?_);simp only[cP,cS,bT,cR,cond_true,cond_false,exists_eq_left',cQ,Nat.reduceAdd,Nat.reduceLT,Nat.lt_add_one,Nat.zero_lt_succ,decide_true,decide_false,ne_eq,reduceCtorEq];simp only[aQ];unfold Cj at hK;refine⟨λh=>?_,λh=>⟨λh2=>?_,λh2=>?_⟩⟩
 ·rw[if_pos h]at hK;exact hK
 ·have hne:a≠b:=by rintro rfl;simp at h2
  rw[if_neg (by rw[h];simp),if_neg hne]at hK;exact hK
 ·rw[if_neg (by rw[h];simp),if_pos (IU h h2)]at hK;exact hK
theorem Pm{a b:aH}{K:Q0}(hK:K (.bool (Op.bytesLess a b)) w):aA P0 206 [str a,str b] w K:=by
 refine Ux ?_;unfold aCf;refine EK ?_;simp only[cP,cS,bT,cR,cond_true,cond_false,exists_eq_left',cQ,Nat.reduceAdd,Nat.reduceLT,Nat.lt_add_one,Nat.zero_lt_succ,decide_true,decide_false,ne_eq,reduceCtorEq];intros;exact hK
theorem An(a b:aH):Lib.compareBytes a b=Cj a b:=by
 induction a generalizing b with
 |nil=>cases b<;>simp[Lib.compareBytes,Cj,Op.bytesLess]
 |cons x a ih=>
  cases b with
  |nil=>simp[Lib.compareBytes,Cj,Op.bytesLess]
  |cons y b=>
   simp only[Lib.compareBytes,ih,Cj,Op.bytesLess];by_cases h1:x<y
   ·simp[h1]
   ·by_cases h2:y<x
    ·have:x≠y:=by rintro rfl;exact h1 h2
     simp[h1,h2,this]
    ·have:x=y:=UInt8.le_antisymm (UInt8.not_lt.1 h2) (UInt8.not_lt.1 h1);subst this;simp
theorem WY{a b:aH}{K:Q0}(hK:K (i64 (Cj a b)) w):aA P0 192 [str a,str b] w K:=by
 refine eA (args:=#[str a,str b]) Tryz.call192 ((Tryz.strings_Compare (aL a) (aL b) w).mono ?_);rintro e w' ⟨rfl,rfl⟩;refine⟨_,rfl,?_⟩;rw[cK,cK];rw[An];exact hK
theorem JW{s p:aH}{K:Q0}(hs:s.length<=9223372036854775807)(hK:K (.bool (p.isPrefixOf s)) w):aA P0 67 [str s,str p] w K:=by
 refine eA (args:=#[str s,str p]) Tryz.call67 ((Tryz.stringslite_HasPrefix (aL s) (aL p) w).mono ?_);rintro e w' ⟨rfl,rfl⟩;refine⟨_,rfl,?_⟩;rw[cK,cK];exact hK
theorem zM{a:aH}{K:Q0}(hs:a.length<=9223372036854775807)(hK:K (str (dig a)) w):aA P0 107 [str a,str [45]] w K:=by
 refine VE ?_;unfold aC5;refine Va ?_;unfold aCE;refine JW hs ?_;cases a with
 |nil=>
  rw[show([45]:aH).isPrefixOf []=false from rfl];simp only[cP,cS,bT,cR,cond_true,cond_false,exists_eq_left',cQ,Nat.reduceAdd,Nat.reduceLT,Nat.lt_add_one,Nat.zero_lt_succ,decide_true,decide_false,ne_eq,reduceCtorEq];exact hK
 |cons c r=>
  by_cases hc:c=45
  ·subst hc;have e:([45]:aH).isPrefixOf (45::r)=true:=by simp[List.isPrefixOf]
   have ed:dig (45::r)=r:=by simp[dig]
   rw[ed]at hK;rw[e];have e1:((0+1:Nat):Int).toNat=1:=rfl;simp only[cP,cS,bT,cR,cond_true,cond_false,exists_eq_left',cQ,Nat.reduceAdd,Nat.reduceLT,Nat.lt_add_one,Nat.zero_lt_succ,decide_true,decide_false,ne_eq,reduceCtorEq,e1];refine⟨by omega,by omega,?_⟩;rw[<-List.length_cons (a:=(45:UInt8)),List.take_length];exact hK
  ·have e:([45]:aH).isPrefixOf (c::r)=false:=by simp[List.isPrefixOf,Ne.symm hc]
   have ed:dig (c::r)=c::r:=by simp[dig,hc]
   rw[ed]at hK;rw[e];simp only[cP,cS,bT,cR,cond_true,cond_false,exists_eq_left',cQ,Nat.reduceAdd,Nat.reduceLT,Nat.lt_add_one,Nat.zero_lt_succ,decide_true,decide_false,ne_eq,reduceCtorEq];exact hK
theorem Jv{a:aH}{K:Q0}(hs:a.length<=9223372036854775807)(hK:K (.tuple #[str (dig a),.bool (neg a)]) w):aA P0 225 [str a,str [45]] w K:=by
 refine Uu ?_;unfold aCd;refine Ul ?_;unfold aB7;refine JW hs ?_;cases a with
 |nil=>
  rw[show([45]:aH).isPrefixOf []=false from rfl];simp only[cP,cS,bT,cR,cond_true,cond_false,exists_eq_left',cQ,Nat.reduceAdd,Nat.reduceLT,Nat.lt_add_one,Nat.zero_lt_succ,decide_true,decide_false,ne_eq,reduceCtorEq];exact hK
 |cons c r=>
  by_cases hc:c=45
  ·subst hc;have e:([45]:aH).isPrefixOf (45::r)=true:=by simp[List.isPrefixOf]
   have ed:dig (45::r)=r:=by simp[dig]
   have en:neg (45::r)=true:=by simp[neg]
   rw[ed,en]at hK;rw[e];have e1:((0+1:Nat):Int).toNat=1:=rfl;simp only[cP,cS,bT,cR,cond_true,cond_false,exists_eq_left',cQ,Nat.reduceAdd,Nat.reduceLT,Nat.lt_add_one,Nat.zero_lt_succ,decide_true,decide_false,ne_eq,reduceCtorEq,e1];refine⟨by omega,by omega,?_⟩;rw[<-List.length_cons (a:=(45:UInt8)),List.take_length];exact hK
  ·have e:([45]:aH).isPrefixOf (c::r)=false:=by simp[List.isPrefixOf,Ne.symm hc]
   have ed:dig (c::r)=c::r:=by simp[dig,hc]
   have en:neg (c::r)=false:=by simp[neg,hc]
   rw[ed,en]at hK;rw[e];simp only[cP,cS,bT,cR,cond_true,cond_false,exists_eq_left',cQ,Nat.reduceAdd,Nat.reduceLT,Nat.lt_add_one,Nat.zero_lt_succ,decide_true,decide_false,ne_eq,reduceCtorEq];exact hK
theorem iT{a:aH}{K:Q0}(ha:a.length<=9223372036854775807)(hK:∀w',bA w w'->K (.bool (goodN a)) w'):aA P0 75 [str a] w K:=by
 refine ZT ?_;unfold W75;refine zM ha ?_;have hg:goodN a=(!decide ((dig a).length<1)&&!decide (100<(dig a).length)&&!((dig a).head?==some 48&&!decide (a=[48]))&&(dig a).all Num.isDig):=by
  unfold goodN;have e1:decide (1<=(dig a).length)=!decide ((dig a).length<1):=by rw[<-decide_not];exact decide_eq_decide.2 (by omega)
  have e2:decide ((dig a).length<=100)=!decide (100<(dig a).length):=by rw[<-decide_not];exact decide_eq_decide.2 (by omega)
  rw[e1,e2];cases((dig a).head?==some 48)<;>cases decide (a=[48])<;>simp
 rw[hg]at hK;have hdl:(dig a).length<=a.length:=by
  cases a with
  |nil=>simp[dig]
  |cons c r=>simp only[dig];split<;>simp
 cases hd:dig a with
 |nil=>
  rw[hd]at hK;have hz:decide (((0:Nat):Int)<1)=true:=by decide
  simp only[cP,cS,bT,cR,cond_true,cond_false,exists_eq_left',cQ,Nat.reduceAdd,Nat.reduceLT,Nat.lt_add_one,Nat.zero_lt_succ,decide_true,decide_false,ne_eq,reduceCtorEq,hz];intros;exact hK _ (aS.refl _ _)
 |cons c r=>
  rw[hd]at hK hdl;have hz:decide (((r.length+1:Nat):Int)<1)=false:=decide_eq_false (by omega);simp only[cP,cS,bT,cR,cond_true,cond_false,exists_eq_left',cQ,Nat.reduceAdd,Nat.reduceLT,Nat.lt_add_one,Nat.zero_lt_succ,decide_true,decide_false,ne_eq,reduceCtorEq,Int.le_refl,Int.toNat_zero,aA5 c 48 48 rfl,hz];intros;rw[aQ];have e1:decide ((100:Int)<((r.length+1:Nat):Int))=decide (100<(c::r).length):=decide_eq_decide.2 (by simp only[List.length_cons];omega);have e4:decide ((c::r).length<1)=false:=decide_eq_false (by simp);have e5:((c::r).head?==some 48)=(c==48):=by simp
  rw[e1];rw[e4,e5]at hK;simp only[decide_not];generalize decide (100<(c::r).length)=b1 at*
  generalize ((c==48)&&!decide (a=[48]))=b2 at*
  refine⟨λh=>?_,λh=>?_⟩
  ·have:=hK _ (aS.refl _ _);have e:(!false&&!b1&&!b2&&(c::r).all Num.isDig)=false:=by
    cases b1<;>cases b2<;>simp at h⊢
   rw[e]at this;exact this
  ·have hb:b1=false/\b2=false:=by simpa using h
   rw[hb.1,hb.2]at hK;refine FS (l:=c::r) (by kernel_rfl) (by kernel_rfl) (by kernel_rfl) λv w1 hv hx1=>?_;rw[dJ hv];generalize c::r=D at*
   refine jI D.length (λi w2=>bA w1 w2/\(D.take i).all Num.isDig=true) ⟨aS.refl _ _,rfl⟩ ?_ ?_
   ·rintro i w2 g L hi ⟨hx2,hall⟩ hL;obtain⟨e,he⟩:∃e,D[i]?=some e:=⟨_,List.getElem?_eq_getElem hi⟩;have hlt:((i:Int)<((D.length:Nat):Int)):=by omega
    simp only[cP,cS,bT,cR,cond_true,cond_false,exists_eq_left',cQ,Nat.reduceAdd,Nat.reduceLT,Nat.lt_add_one,Nat.zero_lt_succ,decide_true,decide_false,ne_eq,reduceCtorEq,hlt];refine lW (hv.ext hx2) (by rw[iQ]) (by rw[uF,he];rfl) ?_;simp only[cP,cS,bT,cR,cond_true,cond_false,exists_eq_left',cQ,Nat.reduceAdd,Nat.reduceLT,Nat.lt_add_one,Nat.zero_lt_succ,decide_true,decide_false,ne_eq,reduceCtorEq,LM];intros;rw[aQ];refine⟨λhf=>?_,λht=>?_⟩
    ·have hf:Num.isDig e=false:=by simpa using hf
     have:=hK _ (hx1.trans hx2);rw[Zv he hf]at this;exact this
    ·have ht:Num.isDig e=true:=by simpa using ht
     rw[wR (by omega)];exact hL _ ⟨hx2,by rw[rP he,hall,ht];rfl⟩
   ·rintro w2 g L ⟨hx2,hall⟩;simp only[cP,cS,bT,cR,cond_true,cond_false,exists_eq_left',cQ,Nat.reduceAdd,Nat.reduceLT,Nat.lt_add_one,Nat.zero_lt_succ,decide_true,decide_false,ne_eq,reduceCtorEq,Int.lt_irrefl];rw[List.take_length]at hall;have:=hK w2 (hx1.trans hx2);rw[hall]at this;exact this
end
abbrev BT:TypeId:=198
abbrev sQ:TypeId:=209
theorem OZ:mM P0 196 sQ 1 8:=⟨by kernel_rfl,by kernel_rfl,by decide⟩
def fC(w:World)(x:Big)(cs:List Value):Prop:=∃(sv:Value) (_:TypeId),cs=[.bool x.below,sv]/\SlAt w sQ sv x.l.length (x.l.map u64)/\x.l.length<=1000/\mU x.l
theorem fC.ext{x:Big}(h:fC w x cs)(hx:bA w w'):fC w' x cs:=by
 obtain⟨sv,T,rfl,h1,h2,h3⟩:=h;exact⟨sv,T,rfl,h1.ext hx,h2,h3⟩
theorem fC.one{x:Big}(h:fC w x cs):cs.all cY=true:=by
 obtain⟨sv,T,rfl,h1,_⟩:=h;obtain⟨p,c,rfl,_⟩:=h1.shape;rfl
theorem fC.len{x:Big}(h:fC w x cs):cs.length=2:=by obtain⟨sv,T,rfl,_⟩:=h;rfl
structure Aq(w:World)(a:Nat)(x:Big)(sv:Value):Prop where
 hb:w.heap[a]?=some (.cells [.bool x.below,sv].toArray BT (0,0))
 l:∃_:TypeId,SlAt w sQ sv x.l.length (x.l.map u64)
 few:x.l.length<=1000
 lim:mU x.l
theorem Aq.ext{a:Nat}{x:Big}{sv:Value}(h:Aq w a x sv)(hx:bA w w'):Aq w' a x sv:=⟨hx.at h.hb id,let⟨T,h1⟩:=h.l;⟨T,h1.ext hx⟩,h.few,h.lim⟩
theorem Aq.rep{a:Nat}{x:Big}{sv:Value}(h:Aq w a x sv):fC w x [.bool x.below,sv]:=by obtain⟨T,h1⟩:=h.l;exact⟨sv,T,rfl,h1,h.few,h.lim⟩
theorem Aq.ld{a:Nat}{x:Big}{sv:Value}{K:Value->Prop}(h:Aq w a x sv)(hK:∀cs,fC w x cs->K (.agg cs.toArray)):aE true 2 (ptr a) w K:=aU h.hb rfl (hK _ h.rep)
theorem Aq.len{a:Nat}{x:Big}{sv:Value}(h:Aq w a x sv)(K:Value->Prop):bK sv K↔K (i64 x.l.length):=by obtain⟨T,h1⟩:=h.l;exact dJ h1 K
theorem Aq.at{a:Nat}{x:Big}{sv:Value}{k:IntKind}{K:Value->Prop}(h:Aq w a x sv)(hi:x.l[i]?=some n)(hK:K (u64 n)):bU none 1 sv (.int k i) λp=>aE false 1 p w K:=by
 obtain⟨T,h1⟩:=h.l;exact lW h1 (by simp) (by simp[hi]) hK
theorem lF{x:Big}{K:Q0}(h:fC w x cs)(hK:∀a w' sv,Aq w' a x sv->bA w w'->a=w.heap.size->w'.heap.size=a+1->K (ptr a) w'):cI BT (.agg cs.toArray) w K:=by
 obtain⟨sv,T,rfl,h1,h2,h3⟩:=h;refine dF λa w' ha hz hb hx=>hK a w' sv ⟨hb,⟨T,h1.ext hx⟩,h2,h3⟩ hx ha (by omega)
theorem JS{w0:World}{b:Nat}{ds:List Value}{K:Q0}(hb:w.heap[b]?=some (.cells ds.toArray BT (0,0)))(hd:ds.length=2)(hl:w0.heap.size<=b)(hx:bA w0 w)(h1:cs.all cY=true)(h2:cs.length=2)
  (hK:∀w',bA w0 w'->aS (λk=>k=b) w w'->K (.agg cs.toArray) w'):bF 2 (ptr b) (.agg cs.toArray) w λw5=>aE true 2 (ptr b) w5 λr6=>K r6 w5:=
 eS hb h2 hd h1 λw' hc=>hK w' (hx.new hc hl) hc
theorem fC.keep{b:Nat}{x:Big}{p:Bool}{q:Value}{T0:TypeId}(h:fC w x cs)(hb:w.heap[b]?=some (.cells [.bool p,q].toArray T0 (0,0)))(hq:∀n,q≠u64 n)(hc:aS (λk=>k=b) w w'):fC w' x cs:=by
 obtain⟨sv,T,rfl,⟨p',cap,hv,h1,h2,h3⟩,h4,h5⟩:=h;refine⟨sv,T,rfl,⟨p',cap,hv,h1,h2,λhne=>?_⟩,h4,h5⟩;obtain⟨k,off,c,fr,hp,hk,hcs⟩:=h3 hne;have hkb:k≠b:=by
  rintro rfl;rw[hb]at hk;cases hk;obtain⟨n,r,e⟩:∃n r,x.l=n::r:=by
   cases hx:x.l with
   |nil=>rw[hx]at hne;simp at hne
   |cons n r=>exact⟨n,r,rfl⟩
  have:=hcs 0 (by rw[e];simp);rw[e]at this;simp only[Nat.add_zero,List.map_cons,List.getElem?_cons_zero,List.getElem?_toArray]at this;rcases off with _|_|off
  ·simp at this
  ·simp only[Nat.zero_add,List.getElem?_cons_succ,List.getElem?_cons_zero,Option.some.injEq]at this;exact hq n this
  ·simp at this
 exact⟨k,off,c,fr,hp,hc.at hk hkb,hcs⟩
theorem kV{n:Int}(h1:0<=n)(h2:n<18446744073709551616):IntKind.u64.wrap n=n:=by
 simp only[IntKind.wrap,IntKind.signed,IntKind.bits,IntKind.max,IntKind.min];simp;omega
theorem Wb{K:Q0}(hK:∀t w',SlAt w' sQ t 1 [u64 n]->bA w w'->K t w'):bR sQ 1 [(.int .u64 0)] [(0,1,u64 n)] w K:=by
 unfold bR;simp only[cP,cS,bT,cR,cond_true,cond_false,exists_eq_left',cQ,Nat.reduceAdd,Nat.reduceLT,Nat.lt_add_one,Nat.zero_lt_succ,decide_true,decide_false,ne_eq,reduceCtorEq];exact hK _ _ (uP (w:=w) (base:=w.heap.size) (e:=sQ) (size:=1) (n:=1) (cs:=[u64 n]) (Nat.le_refl _) rfl (by omega)).sl (by repeat (first|assumption|exact aS.refl _ _|refine aS.drew ?_|refine aS.alloc ?_ _|refine aS.set ?_ (by first|exact .inl rfl|exact .inr (by omega)|exact .inr (by simp only[nW,size_alloc,size_drew];omega)|(left;simp;done)) _|exact aS.of_ext (by assumption)))
theorem KR{base:Nat}{l:List Nat}{K:Q0}(h:Own w base sQ 1 v l.length (l.map u64))(hb:base<=w.heap.size)(hl:l.length<=100000)
  (hK:∀v' w',Own w' base sQ 1 v' (l++[n]).length ((l++[n]).map u64)->aS (λk=>base<=k) w w'->K v' w'):
  bR sQ 1 [(.int .u64 0)] [(0,1,u64 n)] w λt w1=>bP P0 (Builtin.append_ #[196,196] 196 #[v,t]) w1 K:=by
 refine Wb λt w1 ht hx=>?_;refine gN OZ (h.ext hx) ht (m:=1) rfl (λu hu=>by simp only[List.mem_singleton]at hu;subst hu;rfl) (by omega) (by omega) (Nat.le_trans hb hx.size) λv' w' h' hc _=>?_;refine hK v' w' (by simpa using h') ((aS.of_ext hx).trans ?_);refine hc.mono λk _ e=>(qB (h.ext hx) e).1
 done
section
variable [HX]
theorem MV{k:Nat}{K:Value->Prop}(h:SlAt w T v n cs)(hl:cs.length=n)(hk:k<=n)(hK:∀v',SlAt w T v' k (cs.take k)->K v'):fX 1 v none (some (i64 (k:Nat))) none K:=by
 obtain⟨p,cap,rfl,h1,h2,h3⟩:=h;rw[Ei];simp only[cZ,cO];refine⟨by omega,by omega,?_⟩;have e:(if cap=0 then p else p.map (·.add (0*1)))=p:=by
  split
  ·rfl
  ·cases p with
   |none=>rfl
   |some a=>simp[Addr.add]
 rw[e];refine hK _ ⟨p,cap-0,by simp,by omega,λe=>?_,λhne=>?_⟩
 ·have:=h2 e;omega
 ·obtain⟨b,off,c,fr,hp,hb,hcs⟩:=h3 λe=>hne (by rw[e];simp);refine⟨b,off,c,fr,hp,hb,λi hi=>?_⟩;rw[List.length_take]at hi;rw[hcs i (by omega),List.getElem?_take,if_pos (by omega)]
def GT(w:World)(a:Nat):Nat:=match DF w.heap[a]? 1 with|some (Value.slice _ n _)=>n|_=>0
theorem mC{x:Big}{K:Q0}(h:fC w x cs)(hK:∀cs' w',bA w w'->fC w' x.trim cs'->K (.agg cs'.toArray) w'):aA P0 197 [.agg cs.toArray] w K:=by
 refine UC ?_;unfold aCk;obtain⟨sv,T,rfl,h1,h2,h3⟩:=h;refine dF λa w1 ha hz hba hx=>?_;refine aI λb w2 hb hz2 hbb hx2=>?_;have hba:=hx2.at hba id;have hx12:=hx.trans hx2;refine⟨λs w'=>s=[]/\∃m sv',m<=x.l.length/\w'.heap[a]?=some (.cells [.bool x.below,sv'].toArray BT (0,0))/\SlAt w sQ sv' m ((x.l.take m).map u64)/\eG (x.l.take m)=eG x.l/\aS (λk=>k=a) w2 w',
  λ_ w'=>GT w' a,⟨rfl,x.l.length,sv,Nat.le_refl _,hba,by rw[List.take_length];exact h1,by rw[List.take_length],aS.refl _ _⟩,?_⟩
 rintro s g w3 ⟨rfl,m,sv',hm,hba3,hs,htr,hc3⟩;have hx3:bA w w3:=hx12.new hc3 (by omega);have hs3:=hs.ext hx3;obtain⟨p,cap,rfl,hcap⟩:=hs.shape;simp only[cP,cS,bT,cR,cond_true,cond_false,exists_eq_left',cQ,Nat.reduceAdd,Nat.reduceLT,Nat.lt_add_one,Nat.zero_lt_succ,decide_true,decide_false,ne_eq,reduceCtorEq,bT,hba3];have hlen3:GT w3 a=m:=by unfold GT;rw[hba3];rfl
 rw[hlen3];clear hlen3;refine cX.look (decide (x.l[m-1]?=some 0)) ?_ ?_
 ·intro hc J hJ;obtain⟨k,rfl⟩:∃k,m=k+1:=⟨m-1,by simp only[decide_eq_true_eq]at hc;omega⟩;have hw:IntKind.i64.wrap (((k+1:Nat):Int)-1)=((k:Nat):Int):=by rw[bD (by omega) (by omega)];omega
  obtain⟨y,hy⟩:∃y,x.l[k]?=some y:=⟨_,List.getElem?_eq_getElem (by omega)⟩;simp only[cP,cS,bT,cR,cond_true,cond_false,exists_eq_left',cQ,Nat.reduceAdd,Nat.reduceLT,Nat.lt_add_one,Nat.zero_lt_succ,decide_true,decide_false,ne_eq,reduceCtorEq,hw];refine lW hs3 (by simp;omega) (by simp[hy];rfl) ?_;simp only[cP,cS,bT,cR,cond_true,cond_false,exists_eq_left',cQ,Nat.reduceAdd,Nat.reduceLT,Nat.lt_add_one,Nat.zero_lt_succ,decide_true,decide_false,ne_eq,reduceCtorEq];have e:decide ((y:Int)=0)=decide (x.l[k+1-1]?=some 0):=decide_eq_decide.2 (by rw[Nat.add_sub_cancel,hy,Option.some.injEq];omega);rw[e];exact hJ
 ·intro gd;simp only[cP,cS,bT,cR,cond_true,cond_false,exists_eq_left',cQ,Nat.reduceAdd,Nat.reduceLT,Nat.lt_add_one,Nat.zero_lt_succ,decide_true,decide_false,ne_eq,reduceCtorEq,bT,hba3];rw[aQ];refine⟨λhc=>?_,λhc=>?_⟩
  ·simp only[Bool.and_eq_true,decide_eq_true_eq]at hc;obtain⟨k,rfl⟩:∃k,m=k+1:=⟨m-1,by omega⟩;have hw:IntKind.i64.wrap (((k+1:Nat):Int)-1)=((k:Nat):Int):=by rw[bD (by omega) (by omega)];omega
   rw[hw];refine MV (k:=k) hs (by simp;omega) (by omega) λv' hv'=>?_;obtain⟨p',cap',rfl,_⟩:=hv'.shape;refine eY hba3 rfl (by simp) λw4 hz4 hb4 hc4=>?_;have hb4:w4.heap[a]?=some (.cells [.bool x.below,.slice p' k cap'].toArray BT (0,0)):=by rw[hb4];simp
   refine⟨⟨k,_,by omega,hb4,?_,?_,hc3.trans hc4⟩,?_⟩
   ·have e:(x.l.take k).map u64=((x.l.take (k+1)).map u64).take k:=by rw[<-List.map_take,List.take_take,Nat.min_eq_left (by omega)]
    rw[e];exact hv'
   ·have e:x.l.take (k+1)=x.l.take k++[0]:=by
     rw[List.take_add_one];have:=hc.2;rw[Nat.add_sub_cancel]at this;rw[this];rfl
    rw[<-htr,e,lL]
   ·have:GT w4 a=k:=by unfold GT;rw[hb4];rfl
    rw[this];omega
  ·have hT:eG x.l=x.l.take m:=by
    rw[<-htr];rcases Nat.eq_zero_or_pos m with h0|h0
    ·subst h0;rw[List.take_zero,nN]
    ·obtain⟨k,rfl⟩:∃k,m=k+1:=⟨m-1,by omega⟩;obtain⟨y,hy⟩:∃y,x.l[k]?=some y:=⟨_,List.getElem?_eq_getElem (by omega)⟩;have hy0:y≠0:=by
      rintro rfl;rw[decide_eq_true (show((0:Int)<((k+1:Nat):Int))by omega),Nat.add_sub_cancel,hy]at hc;simp at hc
     have e:x.l.take (k+1)=x.l.take k++[y]:=by rw[List.take_add_one,hy];rfl
     rw[e,qN hy0]
   have hlt:(eG x.l).length=m:=by rw[hT,List.length_take];omega
   have hbel:(x.below&&decide ((0:Int)<(m:Int)))=x.trim.below:=by
    show _=(x.below&&!(eG x.l).isEmpty);congr 1;cases hT2:eG x.l with
    |nil=>rw[hT2]at hlt;simp at hlt;subst hlt;simp
    |cons y r=>rw[hT2]at hlt;simp at hlt;simp;omega
   (try simp only[cP,cS,bT,cR,cond_true,cond_false,exists_eq_left',cQ,Nat.reduceAdd,Nat.reduceLT,Nat.lt_add_one,Nat.zero_lt_succ,decide_true,decide_false,ne_eq,reduceCtorEq,bT,hba3])
   intros;rw[hbel];refine eY hba3 rfl (by simp) λw4 hz4 hb4 hc4=>?_;have hb4:w4.heap[a]?=some (.cells [.bool x.trim.below,.slice p m cap].toArray BT (0,0)):=by rw[hb4];simp
   refine aU hb4 rfl ?_;have hbb4:=hc4.at (hc3.at hbb (by omega)) (by omega);have hx4:bA w w4:=hx3.new hc4 (by omega);refine JS (w0:=w) hbb4 rfl (by have:=hx.size;omega) hx4 rfl rfl λw5 hx5 _=>?_;refine hK _ w5 hx5 ⟨_,T,rfl,?_,?_,?_⟩
   ·show SlAt w5 sQ _ (eG x.l).length ((eG x.l).map u64);rw[hlt,hT];exact hs.ext hx5
   ·show(eG x.l).length<=1000;rw[hlt];omega
   ·exact(iR x.l).2.2 h3
theorem wE(l:List Nat)(i:Nat):(l.drop i).headD 0=l.getD i 0:=by
 induction l generalizing i with
 |nil=>simp
 |cons x l ih=>cases i<;>simp_all
theorem IH{x y:List Nat}{c:Nat}(h:x≠[]\/y≠[]):eU x y c=(c+x.headD 0+y.headD 0)%1000000000::eU x.tail y.tail ((c+x.headD 0+y.headD 0)/1000000000):=by
 cases x with
 |nil=>cases y with
  |nil=>simp at h
  |cons b y=>simp[eU]
 |cons a x=>cases y with
  |nil=>simp[eU]
  |cons b y=>simp[eU]
theorem Bm{l:List Nat}(h:mU l)(i:Nat):l.getD i 0<1000000000:=by
 rw[List.getD_eq_getElem?_getD];cases hi:l[i]? with
 |none=>simp
 |some x=>exact h x (List.mem_of_getElem? hi)
theorem Ny{x y:Big}{ds:List Value}{K:Q0}(h:fC w x cs)(h':fC w y ds)(hK:∀v w',bA w w'->SlAt w' sQ v (eU x.l y.l 0).length ((eU x.l y.l 0).map u64)->K v w'):aA P0 224 [.agg cs.toArray,.agg ds.toArray] w K:=by
 refine Uv ?_;unfold aCe;refine lF h λa w1 sv hB hx ha hz1=>?_;refine lF (h'.ext hx) λb w2 sv' hC hx2 hb hz2=>?_;have hB:=hB.ext hx2;have hx:=hx.trans hx2;clear hx2;simp only[cP,cS,bT,cR,cond_true,cond_false,exists_eq_left',cQ,Nat.reduceAdd,Nat.reduceLT,Nat.lt_add_one,Nat.zero_lt_succ,decide_true,decide_false,ne_eq,reduceCtorEq,bT,hB.hb,hC.hb,hB.len,hC.len];have hmax:(if(x.l.length:Int)<(y.l.length:Int)then(y.l.length:Int)else(x.l.length:Int))=((max x.l.length y.l.length:Nat):Int):=by split<;>omega
 rw[hmax];generalize hM:max x.l.length y.l.length=M;have hM1:M<=1000:=by have:=hB.few;have:=hC.few;omega
 refine⟨λs w'=>∃i c v l,i<=M/\c<=1/\s=[v,u64 c,i64 (i:Nat)]/\bA w2 w'/\Own w' w2.heap.size sQ 1 v l.length (l.map u64)/\l.length=i/\l++eU (x.l.drop i) (y.l.drop i) c=eU x.l y.l 0,
  λs _=>match s with|[_,_,.int _ i]=>M-i.toNat|_=>0,⟨0,0,_,[],by omega,by omega,rfl,aS.refl _ _,⟨rfl,.inl ⟨rfl,rfl⟩⟩,rfl,by simp⟩,?_⟩
 rintro s g w3 ⟨i,c,v,l,hi,hc,rfl,hx3,hO,hl,he⟩;have hB3:=hB.ext hx3;have hC3:=hC.ext hx3;rcases Nat.lt_or_ge i M with hlt|hge
 ·have hltI:(i:Int)<(M:Int):=by omega
  have hxi:=Bm hB.lim i;have hyi:=Bm hC.lim i;simp only[cP,cS,bT,cR,cond_true,cond_false,exists_eq_left',cQ,Nat.reduceAdd,Nat.reduceLT,Nat.lt_add_one,Nat.zero_lt_succ,decide_true,decide_false,ne_eq,reduceCtorEq,hltI];refine aP.cut (λs w'=>s=[u64 (c+x.l.getD i 0)]/\w'=w3) ?_ ?_
  ·(try simp only[cP,cS,bT,cR,cond_true,cond_false,exists_eq_left',cQ,Nat.reduceAdd,Nat.reduceLT,Nat.lt_add_one,Nat.zero_lt_succ,decide_true,decide_false,ne_eq,reduceCtorEq,bT,hB3.hb,hB3.len])
   rw[aB];refine⟨λhi1=>?_,λhi1=>?_⟩
   ·obtain⟨n,hn⟩:∃n,x.l[i]?=some n:=⟨_,List.getElem?_eq_getElem (by omega)⟩;have hgd:x.l.getD i 0=n:=by rw[List.getD_eq_getElem?_getD,hn];rfl
    (try simp only[cP,cS,bT,cR,cond_true,cond_false,exists_eq_left',cQ,Nat.reduceAdd,Nat.reduceLT,Nat.lt_add_one,Nat.zero_lt_succ,decide_true,decide_false,ne_eq,reduceCtorEq,bT,hB3.hb])
    refine hB3.at hn ?_;simp only[cP,cS,bT,cR,cond_true,cond_false,exists_eq_left',cQ,Nat.reduceAdd,Nat.reduceLT,Nat.lt_add_one,Nat.zero_lt_succ,decide_true,decide_false,ne_eq,reduceCtorEq];rw[hgd]at hxi⊢;rw[kV (by omega) (by omega)];simp only[u64,Int.natCast_add]
   ·have hgd:x.l.getD i 0=0:=by rw[List.getD_eq_getElem?_getD,List.getElem?_eq_none (by omega)];rfl
    rw[hgd];first|exact⟨rfl,rfl⟩|rfl
  ·rintro s gg w4 ⟨rfl,rfl⟩;refine aP.cut (λs w'=>s=[u64 (c+x.l.getD i 0+y.l.getD i 0)]/\w'=w4) ?_ ?_
   ·(try simp only[cP,cS,bT,cR,cond_true,cond_false,exists_eq_left',cQ,Nat.reduceAdd,Nat.reduceLT,Nat.lt_add_one,Nat.zero_lt_succ,decide_true,decide_false,ne_eq,reduceCtorEq,bT,hC3.hb,hC3.len])
    rw[aB];refine⟨λhi1=>?_,λhi1=>?_⟩
    ·obtain⟨n,hn⟩:∃n,y.l[i]?=some n:=⟨_,List.getElem?_eq_getElem (by omega)⟩;have hgd:y.l.getD i 0=n:=by rw[List.getD_eq_getElem?_getD,hn];rfl
     (try simp only[cP,cS,bT,cR,cond_true,cond_false,exists_eq_left',cQ,Nat.reduceAdd,Nat.reduceLT,Nat.lt_add_one,Nat.zero_lt_succ,decide_true,decide_false,ne_eq,reduceCtorEq,bT,hC3.hb])
     refine hC3.at hn ?_;simp only[cP,cS,bT,cR,cond_true,cond_false,exists_eq_left',cQ,Nat.reduceAdd,Nat.reduceLT,Nat.lt_add_one,Nat.zero_lt_succ,decide_true,decide_false,ne_eq,reduceCtorEq];rw[hgd]at hyi⊢;rw[kV (by omega) (by omega)];simp only[u64,Int.natCast_add]
    ·have hgd:y.l.getD i 0=0:=by rw[List.getD_eq_getElem?_getD,List.getElem?_eq_none (by omega)];rfl
     rw[hgd];first|exact⟨rfl,rfl⟩|rfl
   ·rintro s gg w5 ⟨rfl,rfl⟩;have hst:=IH (x:=x.l.drop i) (y:=y.l.drop i) (c:=c) (by
     rcases Nat.lt_or_ge i x.l.length with h1|h1
     ·left;intro e;have:=List.drop_eq_nil_iff.1 e;omega
     ·right;intro e;have:=List.drop_eq_nil_iff.1 e;omega)
    rw[wE,wE,List.tail_drop,List.tail_drop]at hst;have hn:c+x.l.getD i 0+y.l.getD i 0<2000000000:=by omega
    generalize c+x.l.getD i 0+y.l.getD i 0=n at*
    have e1:((n:Int).tmod 1000000000)=((n%1000000000:Nat):Int):=by simp[Int.natCast_emod,Int.tmod_eq_emod_of_nonneg]
    have e2:IntKind.u64.wrap ((n:Int).tdiv 1000000000)=((n/1000000000:Nat):Int):=by
     rw[Int.tdiv_eq_ediv_of_nonneg (by omega),kV (by omega) (by omega)];omega
    have hne:¬(1000000000:Int)=0:=by decide
    simp only[cP,cS,bT,cR,cond_true,cond_false,exists_eq_left',cQ,Nat.reduceAdd,Nat.reduceLT,Nat.lt_add_one,Nat.zero_lt_succ,decide_true,decide_false,ne_eq,reduceCtorEq,e1,e2,hne,not_false_eq_true];refine KR hO hx3.size (by omega) λv' w' h' hc'=>?_;rw[wR (by omega)];refine⟨⟨i+1,n/1000000000,v',l++[n%1000000000],hlt,by omega,rfl,hx3.then hc' λk hk e=>by omega,h',by simp[hl],?_⟩,by simp only[Int.toNat_natCast];omega⟩;rw[<-he,hst];simp
 ·obtain rfl:i=M:=by omega
  simp only[cP,cS,bT,cR,cond_true,cond_false,exists_eq_left',cQ,Nat.reduceAdd,Nat.reduceLT,Nat.lt_add_one,Nat.zero_lt_succ,decide_true,decide_false,ne_eq,reduceCtorEq,Int.lt_irrefl];refine KR hO hx3.size (by omega) λv' w' h' hc'=>?_;have e1:x.l.drop i=[]:=List.drop_eq_nil_iff.2 (by omega);have e2:y.l.drop i=[]:=List.drop_eq_nil_iff.2 (by omega);rw[e1,e2]at he;simp only[eU]at he;have:=hK v' w' (hx.trans (hx3.then hc' λk hk e=>by omega));rw[<-he]at this;exact this h'.sl
theorem pK{a:Nat}{x y:List Nat}{c:Nat}:dY (a::x) y c=(if a<c+y.headD 0 then a+1000000000-(c+y.headD 0)else a-(c+y.headD 0))::dY x y.tail (if a<c+y.headD 0 then 1 else 0):=by
 simp only[dY];split<;>rfl
theorem yO{x y:Big}{ds:List Value}{K:Q0}(h:fC w x cs)(h':fC w y ds)(hK:∀v w',bA w w'->SlAt w' sQ v (dY x.l y.l 0).length ((dY x.l y.l 0).map u64)->K v w'):aA P0 199 [.agg cs.toArray,.agg ds.toArray] w K:=by
 refine UA ?_;unfold aCi;refine lF h λa w1 sv hB hx ha hz1=>?_;refine lF (h'.ext hx) λb w2 sv' hC hx2 hb hz2=>?_;have hB:=hB.ext hx2;have hx:=hx.trans hx2;clear hx2;simp only[cP,cS,bT,cR,cond_true,cond_false,exists_eq_left',cQ,Nat.reduceAdd,Nat.reduceLT,Nat.lt_add_one,Nat.zero_lt_succ,decide_true,decide_false,ne_eq,reduceCtorEq,bT,hB.hb,hC.hb,hB.len,hC.len];have hM1:x.l.length<=1000:=hB.few;refine⟨λs w'=>∃i c v l,i<=x.l.length/\c<=1/\s=[v,u64 c,i64 (i:Nat)]/\bA w2 w'/\Own w' w2.heap.size sQ 1 v l.length (l.map u64)/\l.length=i/\l++dY (x.l.drop i) (y.l.drop i) c=dY x.l y.l 0,
  λs _=>match s with|[_,_,.int _ i]=>x.l.length-i.toNat|_=>0,⟨0,0,_,[],by omega,by omega,rfl,aS.refl _ _,⟨rfl,.inl ⟨rfl,rfl⟩⟩,rfl,by simp⟩,?_⟩
 rintro s g w3 ⟨i,c,v,l,hi,hc,rfl,hx3,hO,hl,he⟩;have hB3:=hB.ext hx3;have hC3:=hC.ext hx3;rcases Nat.lt_or_ge i x.l.length with hlt|hge
 ·have hltI:(i:Int)<(x.l.length:Int):=by omega
  have hyi:=Bm hC.lim i;obtain⟨n,hn⟩:∃n,x.l[i]?=some n:=⟨_,List.getElem?_eq_getElem hlt⟩;have hnl:=hB.lim n (List.mem_of_getElem? hn);simp only[cP,cS,bT,cR,cond_true,cond_false,exists_eq_left',cQ,Nat.reduceAdd,Nat.reduceLT,Nat.lt_add_one,Nat.zero_lt_succ,decide_true,decide_false,ne_eq,reduceCtorEq,hltI];refine hB3.at hn ?_;refine aP.cut (λs w'=>s=[u64 (c+y.l.getD i 0)]/\w'=w3) ?_ ?_
  ·(try simp only[cP,cS,bT,cR,cond_true,cond_false,exists_eq_left',cQ,Nat.reduceAdd,Nat.reduceLT,Nat.lt_add_one,Nat.zero_lt_succ,decide_true,decide_false,ne_eq,reduceCtorEq,bT,hC3.hb,hC3.len])
   rw[aB];refine⟨λhi1=>?_,λhi1=>?_⟩
   ·obtain⟨m,hm⟩:∃n,y.l[i]?=some n:=⟨_,List.getElem?_eq_getElem (by omega)⟩;have hgd:y.l.getD i 0=m:=by rw[List.getD_eq_getElem?_getD,hm];rfl
    (try simp only[cP,cS,bT,cR,cond_true,cond_false,exists_eq_left',cQ,Nat.reduceAdd,Nat.reduceLT,Nat.lt_add_one,Nat.zero_lt_succ,decide_true,decide_false,ne_eq,reduceCtorEq,bT,hC3.hb])
    refine hC3.at hm ?_;simp only[cP,cS,bT,cR,cond_true,cond_false,exists_eq_left',cQ,Nat.reduceAdd,Nat.reduceLT,Nat.lt_add_one,Nat.zero_lt_succ,decide_true,decide_false,ne_eq,reduceCtorEq];rw[hgd]at hyi⊢;rw[kV (by omega) (by omega)];simp only[u64,Int.natCast_add]
   ·have hgd:y.l.getD i 0=0:=by rw[List.getD_eq_getElem?_getD,List.getElem?_eq_none (by omega)];rfl
    rw[hgd];first|exact⟨rfl,rfl⟩|rfl
  ·rintro s gg w4 ⟨rfl,rfl⟩;have hdx:x.l.drop i=n::x.l.drop (i+1):=by
    rw[List.drop_eq_getElem_cons hlt];congr 1;exact Option.some.inj ((List.getElem?_eq_getElem hlt).symm.trans hn)
   rw[hdx,pK,wE,List.tail_drop]at he;have ht:c+y.l.getD i 0<=1000000000:=by omega
   generalize c+y.l.getD i 0=t at*
   refine aP.cut (λs w'=>s=[u64 (if n<t then 1 else 0),u64 (if n<t then n+1000000000 else n)]/\w'=w4) ?_ ?_
   ·simp only[cP,cS,bT,cR,cond_true,cond_false,exists_eq_left',cQ,Nat.reduceAdd,Nat.reduceLT,Nat.lt_add_one,Nat.zero_lt_succ,decide_true,decide_false,ne_eq,reduceCtorEq,aB];refine⟨λh1=>?_,λh1=>?_⟩
    ·rw[if_pos (by omega),if_pos (by omega),kV (by omega) (by omega)];simp only[u64,Int.natCast_add];rfl
    ·rw[if_neg (by omega),if_neg (by omega)];rfl
   ·rintro s gg w5 ⟨rfl,rfl⟩;have e1:IntKind.u64.wrap (((if n<t then n+1000000000 else n:Nat):Int)-(t:Int))=(((if n<t then n+1000000000-t else n-t:Nat)):Int):=by
     split
     ·rw[kV (by omega) (by omega)];omega
     ·rw[kV (by omega) (by omega)];omega
    simp only[cP,cS,bT,cR,cond_true,cond_false,exists_eq_left',cQ,Nat.reduceAdd,Nat.reduceLT,Nat.lt_add_one,Nat.zero_lt_succ,decide_true,decide_false,ne_eq,reduceCtorEq,e1];refine KR hO hx3.size (by omega) λv' w' h' hc'=>?_;rw[wR (by omega)];refine⟨⟨i+1,if n<t then 1 else 0,v',l++[if n<t then n+1000000000-t else n-t],hlt,by split<;>omega,rfl,hx3.then hc' λk hk e=>by omega,h',by simp[hl],?_⟩,by simp only[Int.toNat_natCast];omega⟩;rw[<-he];simp
 ·obtain rfl:i=x.l.length:=by omega
  simp only[cP,cS,bT,cR,cond_true,cond_false,exists_eq_left',cQ,Nat.reduceAdd,Nat.reduceLT,Nat.lt_add_one,Nat.zero_lt_succ,decide_true,decide_false,ne_eq,reduceCtorEq,Int.lt_irrefl];rw[List.drop_length]at he;simp only[dY,List.append_nil]at he;have:=hK v w3 (hx.trans hx3);rw[<-he]at this;exact this hO.sl
theorem Zo(a b:Nat):Ao (a:Int) (b:Int)=oV a b:=by unfold oV Ao;simp only[Int.ofNat_lt]
theorem FW{x y:Big}{ds:List Value}{K:Q0}(h:fC w x cs)(h':fC w y ds)(hK:∀w',bA w w'->K (i64 (FX x.l y.l)) w'):aA P0 198 [.agg cs.toArray,.agg ds.toArray] w K:=by
 refine UB ?_;unfold aCj;refine lF h λa w1 sv hB hx ha hz1=>?_;refine lF (h'.ext hx) λb w2 sv' hC hx2 hb hz2=>?_;have hB:=hB.ext hx2;have hx:=hx.trans hx2;clear hx2;simp only[cP,cS,bT,cR,cond_true,cond_false,exists_eq_left',cQ,Nat.reduceAdd,Nat.reduceLT,Nat.lt_add_one,Nat.zero_lt_succ,decide_true,decide_false,ne_eq,reduceCtorEq,bT,hB.hb,hC.hb,hB.len,hC.len];refine Wr ?_;rw[Zo];unfold FX at hK;simp only[cP,cS,bT,cR,cond_true,cond_false,exists_eq_left',cQ,Nat.reduceAdd,Nat.reduceLT,Nat.lt_add_one,Nat.zero_lt_succ,decide_true,decide_false,ne_eq,reduceCtorEq,aB];refine⟨λh0=>?_,λh0=>?_⟩
 ·have:=hK w2 hx;rw[if_pos h0]at this;exact this
 ·have h0:oV x.l.length y.l.length=0:=Decidable.not_not.1 h0;rw[if_neg (by rw[h0];simp)]at hK;have hl:x.l.length=y.l.length:=by
   rcases eW x.l.length y.l.length with⟨_,e⟩|⟨e,_⟩|⟨_,e⟩
   ·rw[h0]at e;cases e
   ·exact e
   ·rw[h0]at e;cases e
  have hf:=hB.few;simp only[cP,cS,bT,cR,cond_true,cond_false,exists_eq_left',cQ,Nat.reduceAdd,Nat.reduceLT,Nat.lt_add_one,Nat.zero_lt_succ,decide_true,decide_false,ne_eq,reduceCtorEq,bT,hB.hb,hB.len];refine⟨λs w'=>∃m:Nat,m<=x.l.length/\s=[i64 ((m:Int)-1)]/\bA w2 w'/\pC ((x.l.zip y.l).take m).reverse=pC (x.l.zip y.l).reverse,
   λs _=>match s with|[.int _ i]=>(i+1).toNat|_=>0,⟨x.l.length,Nat.le_refl _,by rw[bD (by omega) (by omega)],aS.refl _ _,by rw[List.take_of_length_le (by rw[List.length_zip];omega)]⟩,?_⟩
  rintro s g w3 ⟨m,hm,rfl,hx3,he⟩;have hxd:=hx3.trans (aS.drew (aS.refl (λ_=>False) w3));have hB3:=hB.ext hx3;have hC3:=hC.ext hx3;have hBd:=hB.ext hxd;have hCd:=hC.ext hxd;rcases Nat.eq_zero_or_pos m with h1|h1
  ·subst h1;have e0:¬(0:Int)<=((0:Nat):Int)-1:=by omega
   simp only[cP,cS,bT,cR,cond_true,cond_false,exists_eq_left',cQ,Nat.reduceAdd,Nat.reduceLT,Nat.lt_add_one,Nat.zero_lt_succ,decide_true,decide_false,ne_eq,reduceCtorEq,e0];have:=hK w3 (hx.trans hx3);rw[<-he]at this;exact this
  ·obtain⟨k,rfl⟩:∃k,m=k+1:=⟨m-1,by omega⟩;obtain⟨p,hp⟩:∃p,x.l[k]?=some p:=⟨_,List.getElem?_eq_getElem (by omega)⟩;obtain⟨q,hq⟩:∃q,y.l[k]?=some q:=⟨_,List.getElem?_eq_getElem (by omega)⟩;have hk:((k+1:Nat):Int)-1=((k:Nat):Int):=by omega
   have e0:(0:Int)<=((k:Nat):Int):=by omega
   rw[hk];simp only[cP,cS,bT,cR,cond_true,cond_false,exists_eq_left',cQ,Nat.reduceAdd,Nat.reduceLT,Nat.lt_add_one,Nat.zero_lt_succ,decide_true,decide_false,ne_eq,reduceCtorEq,e0,bT,hB3.hb,hC3.hb];refine hBd.at hp ?_;refine hCd.at hq ?_;refine aBJ ?_;have hz:(x.l.zip y.l).take (k+1)=(x.l.zip y.l).take k++[(p,q)]:=by
    rw[List.take_add_one,(List.getElem?_zip_eq_some (z:=(p,q))).2 ⟨hp,hq⟩];rfl
   rw[hz,List.reverse_append]at he;simp only[List.reverse_cons,List.reverse_nil,List.nil_append,List.singleton_append,pC]at he;simp only[cP,cS,bT,cR,cond_true,cond_false,exists_eq_left',cQ,Nat.reduceAdd,Nat.reduceLT,Nat.lt_add_one,Nat.zero_lt_succ,decide_true,decide_false,ne_eq,reduceCtorEq,aB];refine⟨λh2=>?_,λh2=>?_⟩
   ·rw[if_pos h2]at he;have:=hK w3.drew (hx.trans hxd);rw[<-he]at this;exact this
   ·rw[if_neg h2]at he;rw[bD (by omega) (by omega)];exact⟨⟨k,by omega,rfl,hxd,he⟩,by omega⟩
theorem AF{x:Big}{K:Q0}(h:fC w x cs)(hK:∀cs' w',bA w w'->fC w' (wU x) cs'->K (.agg cs'.toArray) w'):aA P0 187 [.agg cs.toArray] w K:=by
 refine UK ?_;unfold aCs;refine lF h λa w1 sv hB hx ha hz1=>?_;refine aI λb w2 hb hz2 hbb hx2=>?_;have hB:=hB.ext hx2;have hx:=hx.trans hx2;obtain⟨T,hs⟩:=hB.l;obtain⟨p,cap,rfl,_⟩:=hs.shape;simp only[cP,cS,bT,cR,cond_true,cond_false,exists_eq_left',cQ,Nat.reduceAdd,Nat.reduceLT,Nat.lt_add_one,Nat.zero_lt_succ,decide_true,decide_false,ne_eq,reduceCtorEq,bT,hB.hb];refine mC (x:=⟨!x.below,x.l⟩) ⟨_,T,rfl,hs,hB.few,hB.lim⟩ λcs' w3 hx3 hr=>?_;have hbb:=hx3.at hbb id;refine eS hbb hr.len rfl hr.one λw4 hc4=>?_;exact hK _ w4 ((hx.trans hx3).new hc4 (by have:=hx.size;have:=hx2.size;omega)) (hr.keep hbb (by intro n e;cases e) hc4)
theorem JO{x y:Big}{ds:List Value}{K:Q0}(h:fC w x cs)(h':fC w y ds)(hfew:x.l.length+y.l.length<900)(hK:∀cs' w',bA w w'->fC w' (Cf x y) cs'->K (.agg cs'.toArray) w'):aA P0 185 [.agg cs.toArray,.agg ds.toArray] w K:=by
 refine UM ?_;unfold aCu;refine lF h λa w1 sv hB hx ha hz1=>?_;refine lF (h'.ext hx) λb w2 sv' hC hx2 hb hz2=>?_;have hB:=hB.ext hx2;have hx:=hx.trans hx2;refine aI λg w3 hg hz3 hgg hx3=>?_;have hB:=hB.ext hx3;have hC:=hC.ext hx3;have hs2:=hx2.size;have hs:=hx.size;have hx:=hx.trans hx3;have iX:∀(z:Big) (w4:World) (v:Value),bA w3 w4->SlAt w4 sQ v z.l.length (z.l.map u64)->z.l.length<=1000->mU z.l->Cf x y=z.trim->
   aA P0 197 [.agg [.bool z.below,v].toArray] w4 λt w6=>bF 2 (ptr g) t w6 λw7=>aE true 2 (ptr g) w7 λr=>K r w7:=by
  intro z w4 v hx4 hv hf hl he;refine mC (x:=z) ⟨v,sQ,rfl,hv,hf,hl⟩ λcs' w5 hx5 hr=>?_;have hgg:=hx5.at (hx4.at hgg id) id;refine eS hgg hr.len rfl hr.one λw6 hc6=>?_;rw[he]at hK;exact hK _ w6 ((hx.trans (hx4.trans hx5)).new hc6 (by omega)) (hr.keep hgg (by intro n e;cases e) hc6)
 have hxd:bA w3 w3.drew:=aS.drew (aS.refl (λ_=>False) w3);have hBd:=hB.ext hxd;have hCd:=hC.ext hxd;have hpl:∀(x y:List Nat) (c:Nat),(eU x y c).length<=x.length+y.length+1:=by
  intro x;induction x with
  |nil=>intro y;induction y with
   |nil=>intro c;simp[eU]
   |cons b y ih=>intro c;simp only[eU,List.length_cons];have:=ih ((c+b)/1000000000);simp only[List.length_nil]at this⊢;omega
  |cons a x ih=>
   intro y c;cases y with
   |nil=>simp only[eU,List.length_cons,List.length_nil];have:=ih [] ((c+a)/1000000000);simp only[List.length_nil]at this;omega
   |cons b y=>simp only[eU,List.length_cons];have:=ih y ((c+a+b)/1000000000);omega
 have hml:∀(x y:List Nat) (c:Nat),(dY x y c).length=x.length:=by
  intro x;induction x with
  |nil=>intro y c;simp[dY]
  |cons a x ih=>intro y c;rw[pK,List.length_cons,ih,List.length_cons]
 have hmlim:∀(x y:List Nat) (c:Nat),mU x->mU y->c<=1->mU (dY x y c):=by
  intro x;induction x with
  |nil=>intro y c _ _ _;simp[dY,mU]
  |cons a x ih=>
   intro y c h1 h2 h3;rw[pK];have ha:=h1 a List.mem_cons_self;have hy:y.headD 0<1000000000:=by
    cases y with
    |nil=>simp
    |cons b y=>exact h2 b List.mem_cons_self
   have:=ih y.tail (if a<c+y.headD 0 then 1 else 0) (λu hu=>h1 u (List.mem_cons_of_mem _ hu)) (λu hu=>h2 u (List.mem_of_mem_tail hu)) (by split<;>omega);intro u hu;rcases List.mem_cons.1 hu with rfl|hu
   ·split<;>omega
   ·exact this u hu
 simp only[cP,cS,bT,cR,cond_true,cond_false,exists_eq_left',cQ,Nat.reduceAdd,Nat.reduceLT,Nat.lt_add_one,Nat.zero_lt_succ,decide_true,decide_false,ne_eq,reduceCtorEq,bT,hB.hb,hC.hb,Wn];rw[aQ];unfold Cf at iX;refine⟨λhe=>?_,λhne=>?_⟩
 ·have he:x.below=y.below:=by simpa using he
  refine hBd.ld λcs1 h1=>?_;refine hCd.ld λcs2 h2=>?_;refine Ny h1 h2 λv w4 hx4 hv=>?_;have hB4:=hBd.ext hx4;obtain⟨p,c,rfl,_⟩:=hv.shape;simp only[cP,cS,bT,cR,cond_true,cond_false,exists_eq_left',cQ,Nat.reduceAdd,Nat.reduceLT,Nat.lt_add_one,Nat.zero_lt_succ,decide_true,decide_false,ne_eq,reduceCtorEq,bT,hB4.hb];rw[if_pos he]at iX;refine iX ⟨x.below,eU x.l y.l 0⟩ w4 _ (hxd.trans hx4) hv ?_ (qX _ _ _ hB.lim hC.lim (by omega)) rfl;have:=hpl x.l y.l 0;show(eU x.l y.l 0).length<=1000;omega
 ·have hne:x.below≠y.below:=by simpa using hne
  rw[if_neg hne]at iX;refine hB.ld λcs1 h1=>?_;refine hC.ld λcs2 h2=>?_;refine FW h1 h2 λw4 hx4=>?_;have hB4:=hB.ext hx4;have hC4:=hC.ext hx4;have hxd4:bA w4 w4.drew:=aS.drew (aS.refl (λ_=>False) w4);have hBd:=hB4.ext hxd4;have hCd:=hC4.ext hxd4;simp only[cP,cS,bT,cR,cond_true,cond_false,exists_eq_left',cQ,Nat.reduceAdd,Nat.reduceLT,Nat.lt_add_one,Nat.zero_lt_succ,decide_true,decide_false,ne_eq,reduceCtorEq,aB];refine⟨λhs=>?_,λhs=>?_⟩
  ·rw[if_pos hs]at iX
   (try simp only[cP,cS,bT,cR,cond_true,cond_false,exists_eq_left',cQ,Nat.reduceAdd,Nat.reduceLT,Nat.lt_add_one,Nat.zero_lt_succ,decide_true,decide_false,ne_eq,reduceCtorEq,bT,hB4.hb])
   refine hBd.ld λcs3 h3=>?_;refine hCd.ld λcs4 h4=>?_;refine yO h3 h4 λv w5 hx5 hv=>?_;have hB5:=hBd.ext hx5;obtain⟨p,c,rfl,_⟩:=hv.shape;simp only[cP,cS,bT,cR,cond_true,cond_false,exists_eq_left',cQ,Nat.reduceAdd,Nat.reduceLT,Nat.lt_add_one,Nat.zero_lt_succ,decide_true,decide_false,ne_eq,reduceCtorEq,bT,hB5.hb];refine iX ⟨x.below,dY x.l y.l 0⟩ w5 _ (hx4.trans (hxd4.trans hx5)) hv ?_ (hmlim _ _ _ hB.lim hC.lim (by omega)) rfl;show(dY x.l y.l 0).length<=1000;rw[hml];omega
  ·rw[if_neg hs]at iX
   (try simp only[cP,cS,bT,cR,cond_true,cond_false,exists_eq_left',cQ,Nat.reduceAdd,Nat.reduceLT,Nat.lt_add_one,Nat.zero_lt_succ,decide_true,decide_false,ne_eq,reduceCtorEq,bT,hC4.hb])
   refine hCd.ld λcs3 h3=>?_;refine hBd.ld λcs4 h4=>?_;refine yO h3 h4 λv w5 hx5 hv=>?_;have hC5:=hCd.ext hx5;obtain⟨p,c,rfl,_⟩:=hv.shape;simp only[cP,cS,bT,cR,cond_true,cond_false,exists_eq_left',cQ,Nat.reduceAdd,Nat.reduceLT,Nat.lt_add_one,Nat.zero_lt_succ,decide_true,decide_false,ne_eq,reduceCtorEq,bT,hC5.hb];refine iX ⟨y.below,dY y.l x.l 0⟩ w5 _ (hx4.trans (hxd4.trans hx5)) hv ?_ (hmlim _ _ _ hC.lim hB.lim (by omega)) rfl;show(dY y.l x.l 0).length<=1000;rw[hml];omega
end
theorem CU:∀(l:aH) (acc:Nat),l.all Num.isDig=true->acc*10^l.length+dec l<1000000000000000000->Lib.parseUintM (2^64-1) acc l=.ok (acc*10^l.length+dec l)
 |[],acc,_,_=>by simp[Lib.parseUintM,dec]
 |c::r,acc,h,hb=>by
  simp only[List.all_cons,Bool.and_eq_true]at h
  have hc:=h.1
  simp only[Num.isDig,Bool.and_eq_true,decide_eq_true_eq]at hc
  have e:acc*10^(c::r).length+dec (c::r)=(acc*10+(c.toNat-48))*10^r.length+dec r:=by
   rw[rO,List.length_cons,Nat.pow_succ,Nat.add_mul,<-Nat.add_assoc];congr 2;rw[Nat.mul_comm (10^r.length) 10,Nat.mul_assoc]
  rw[e]at hb⊢;have hp:1<=10^r.length:=Nat.pow_pos (by omega);have h1:acc*10+(c.toNat-48)<=(acc*10+(c.toNat-48))*10^r.length:=Nat.le_mul_of_pos_right _ hp;simp only[Lib.parseUintM];rw[if_pos hc,if_neg (by omega),if_neg (by omega)];exact CU r _ h.2 hb
section
variable [HX]
theorem Lv{l:aH}{K:Q0}(h0:l≠[])(hl:l.length<=9)(hd:l.all Num.isDig=true)(hK:∀w',bA w w'->K (.tuple #[u64 (dec l),.nilIface]) w'):aA P0 226 [str l,i64 10,i64 64] w K:=by
 have hlt:=aBH hd hl;have hp:Lib.parseUintB 64 l=.ok (dec l):=by
  unfold Lib.parseUintB;rw[if_neg h0];have:=CU l 0 hd (by rw[Nat.zero_mul,Nat.zero_add];omega);rw[Nat.zero_mul,Nat.zero_add]at this;exact this
 refine eA (args:=#[str l,i64 10,i64 64]) Tryz.call226 ((Tryz.strconv_ParseUint_10_at64_ok (aL l) (by rw[dC];omega) (dec l) (by rw[cK];exact hp) w).mono ?_);rintro e w' ⟨rfl,rfl|rfl⟩
 ·exact⟨_,rfl,hK _ (aS.refl _ _)⟩
 ·exact⟨_,rfl,hK _ (vG _ _ _)⟩
theorem uS:∀(n:Nat) (d:aH),d.length<=n->(gY d).length<=d.length
 |n,[],_=>by rw[yP];simp
 |0,_::_,h=>by simp at h
 |n+1,c::d,hn=>by
  rw[Bl (by simp)]
  generalize hD:c::d=D at*
  have hpos:0<D.length:=by rw[<-hD];simp
  have:=uS n (D.take (D.length-9)) (by rw[List.length_take];omega)
  rw[List.length_take]at this
  simp only[List.length_cons];omega
theorem Gs{a:aH}{K:Q0}(g2:(dig a).length<=100)(g4:(dig a).all Num.isDig=true)(ha:a.length<=9223372036854775807)(hK:∀cs' w',bA w w'->fC w' (eL a) cs'->K (.agg cs'.toArray) w'):aA P0 186 [str a] w K:=by
 refine UL ?_;unfold aCt;refine aI λb w1 hb hz1 hbb hx1=>?_;refine Jv ha ?_;simp only[cP,cS,bT,cR,cond_true,cond_false,exists_eq_left',cQ,Nat.reduceAdd,Nat.reduceLT,Nat.lt_add_one,Nat.zero_lt_succ,decide_true,decide_false,ne_eq,reduceCtorEq];generalize hd:dig a=d at*
 refine aI λg w2 hgz hz2 hgg hx2=>?_;refine aY (l:=[.bool (neg a),.slice none 0 0]) hgg rfl rfl rfl λw3 hz3 hg3 hc3=>?_;have hx3:bA w w3:=(hx1.trans hx2).new hc3 (by omega);have hbb:=hc3.at (hx2.at hbb id) (by omega);refine⟨λs w'=>∃(z:Int) (v:Value) (l:List Nat),s=[i64 z]/\z<=d.length/\-9<=z/\l++gY (d.take z.toNat)=gY d/\Own w' (g+1) sQ 1 v l.length (l.map u64)/\w'.heap[g]?=some (.cells [.bool (neg a),v].toArray BT (0,0))/\w'.heap[b]?=some (.cells [.bool false,.slice none 0 0].toArray BT (0,0))/\aS (λk=>k=g\/g+1<=k) w3 w'/\l.length+z.toNat<=100,
  λs _=>match s with|[.int _ z]=>z.toNat|_=>0,⟨d.length,_,[],rfl,by omega,by omega,by rw[Int.toNat_natCast,List.take_length];rfl,⟨rfl,.inl ⟨rfl,rfl⟩⟩,hg3,hbb,aS.refl _ _,by simp;omega⟩,?_⟩
 rintro s gg w4 ⟨z,v,l,rfl,hzl,hz9,hll,hO,hg4,hb4,hc4,hcnt⟩;have hsz:=hc4.size;rcases Int.lt_or_le 0 z with hpos|hneg
 ·obtain⟨e,rfl⟩:∃e:Nat,z=(e:Int):=⟨z.toNat,by omega⟩;rw[Int.toNat_natCast]at hll hcnt;have hlo:(if(0:Int)<IntKind.i64.wrap ((e:Int)-9)then IntKind.i64.wrap ((e:Int)-9)else 0)=((e-9:Nat):Int):=by
   rw[bD (by omega) (by omega)];split<;>omega
  have hlen:(d.take e).length=e:=by rw[List.length_take];omega
  simp only[cP,cS,bT,cR,cond_true,cond_false,exists_eq_left',cQ,Nat.reduceAdd,Nat.reduceLT,Nat.lt_add_one,Nat.zero_lt_succ,decide_true,decide_false,ne_eq,reduceCtorEq,hpos,hlo,Int.toNat_natCast];refine⟨by omega,by omega,by omega,by omega,?_⟩;have hne:d.take e≠[]:=λh=>by rw[h]at hlen;simp at hlen;omega
  have hchunk:=Bl hne;rw[hlen,List.take_take,Nat.min_eq_left (by omega)]at hchunk;have hcl:((d.take e).drop (e-9)).length<=9:=by rw[List.length_drop,hlen];omega
  have hcn:(d.take e).drop (e-9)≠[]:=λh=>by have:=List.drop_eq_nil_iff.1 h;omega
  refine Lv hcn hcl (HT _ (rP _ g4)) λw5 hx5=>?_;have hg5:=hx5.at hg4 id;have hs5:=hx5.size;simp only[cP,cS,bT,cR,cond_true,cond_false,exists_eq_left',cQ,Nat.reduceAdd,Nat.reduceLT,Nat.lt_add_one,Nat.zero_lt_succ,decide_true,decide_false,ne_eq,reduceCtorEq,bT,hg5];refine KR (hO.ext hx5) (by have:=dA hg3;omega) (by omega) λv' w6 h6 hc6=>?_;have hg6:=hc6.at hg5 (by omega);have h1v:cY v'=true:=by obtain⟨p,c,rfl,_⟩:=h6.sl.shape;rfl
  refine eY hg6 h1v (by simp) λw7 hz7 hg7 hc7=>?_;rw[bD (by omega) (by omega)];have hg7:w7.heap[g]?=some (.cells [.bool (neg a),v'].toArray BT (0,0)):=by rw[hg7];simp
  have ht:((e:Int)-9).toNat=e-9:=by omega
  refine⟨⟨_,v',l++[dec ((d.take e).drop (e-9))],rfl,by omega,by omega,?_,h6.chg hc7 λk hk e=>by have:=hk.1;omega,hg7,hc7.at (hc6.at (hx5.at hb4 id) (by omega)) (by omega),?_,?_⟩,?_⟩
  ·rw[ht,<-hll,hchunk,List.append_assoc];rfl
  ·exact((hc4.trans (aS.of_ext hx5)).trans (hc6.mono λk _ e=>.inr e)).trans (hc7.mono λk _ e=>.inl e)
  ·rw[ht];simp;omega
  ·simp only[ht];omega
 ·have h0:¬(0:Int)<z:=by omega
  have hz0:z.toNat=0:=by omega
  rw[hz0,List.take_zero,yP,List.append_nil]at hll;subst hll;simp only[cP,cS,bT,cR,cond_true,cond_false,exists_eq_left',cQ,Nat.reduceAdd,Nat.reduceLT,Nat.lt_add_one,Nat.zero_lt_succ,decide_true,decide_false,ne_eq,reduceCtorEq,h0];refine aU hg4 rfl ?_;have hlim:=(nS _ d (Nat.le_refl _) g4).2;refine mC (x:=⟨neg a,gY d⟩) ⟨v,sQ,rfl,hO.sl,by simp at hcnt⊢;omega,hlim⟩ λcs' w5 hx5 hr=>?_;have hb5:=hx5.at hb4 id;refine eS hb5 hr.len rfl hr.one λw6 hc6=>?_;have e:eL a=(⟨neg a,gY d⟩:Big).trim:=by unfold eL;rw[hd]
  rw[e]at hK;have hx4:bA w w4:=hx3.then hc4 λk hk h=>by have:=hx1.size;omega
  exact hK _ w6 ((hx4.trans hx5).new hc6 (by omega)) (hr.keep hb5 (by intro n e;cases e) hc6)
theorem jW{a:aH}{K:Q0}(hg:goodN a=true)(ha:a.length<=9223372036854775807)(hK:∀cs' w',bA w w'->fC w' (eL a) cs'->K (.agg cs'.toArray) w'):aA P0 186 [str a] w K:=
 Gs (fF hg).2.1 (fF hg).2.2.2 ha hK
theorem Bb{a b:aH}{K:Q0}(ha:a.length<=9223372036854775807)(hb:b.length<=9223372036854775807)(hK:∀w',bA w w'->K (i64 (tY a b)) w'):aA P0 132 [str a,str b] w K:=by
 refine Vh ?_;unfold aCK;unfold tY at hK;refine iT ha λw1 hx1=>?_;simp only[cP,cS,bT,cR,cond_true,cond_false,exists_eq_left',cQ,Nat.reduceAdd,Nat.reduceLT,Nat.lt_add_one,Nat.zero_lt_succ,decide_true,decide_false,ne_eq,reduceCtorEq];refine cX.act (!goodN b) (λw'=>bA w1 w') (λ_=>aS.refl _ _) ?_ ?_
 ·intro hc J hJ;refine iT hb λw2 hx2=>?_;simp only[cP,cS,bT,cR,cond_true,cond_false,exists_eq_left',cQ,Nat.reduceAdd,Nat.reduceLT,Nat.lt_add_one,Nat.zero_lt_succ,decide_true,decide_false,ne_eq,reduceCtorEq];exact hJ w2 hx2
 intro g w2 hx2;have hx:=hx1.trans hx2;simp only[cP,cS,bT,cR,cond_true,cond_false,exists_eq_left',cQ,Nat.reduceAdd,Nat.reduceLT,Nat.lt_add_one,Nat.zero_lt_succ,decide_true,decide_false,ne_eq,reduceCtorEq];rw[aQ];refine⟨λhn=>?_,λhy=>?_⟩
 ·have:=hK w2 hx;have e:(goodN a&&goodN b)=false:=by revert hn;cases goodN a<;>cases goodN b<;>simp
  rw[e]at this;exact this
 ·have hga:goodN a=true:=by revert hy;cases goodN a<;>simp
  have hgb:goodN b=true:=by revert hy;cases goodN b<;>simp
  rw[hga,hgb]at hK;simp only[Bool.and_self,if_true]at hK;have lenR:∀{a:aH},goodN a=true->(eL a).l.length<=100:=by
   intro a h;obtain⟨_,h2,_,_⟩:=fF h;have h3:=uS _ (dig a) (Nat.le_refl _);show(eG (gY (dig a))).length<=100;have:∀l:List Nat,(eG l).length<=l.length:=λl=>by
    induction l using tE with
    |h0=>rw[nN];simp
    |h1 l x ih=>
     by_cases h:x=0
     ·subst h;rw[lL];simp;omega
     ·rw[qN h];simp
   have:=this (gY (dig a));omega
  refine jW hga ha λcs1 w3 hx3 h1=>?_;refine jW hgb hb λcs2 w4 hx4 h2=>?_;refine AF h2 λcs3 w5 hx5 h3=>?_;have hl3:(wU (eL b)).l.length<=100:=by
   have:=lenR hgb;have:∀l:List Nat,(eG l).length<=l.length:=λl=>by
    induction l using tE with
    |h0=>rw[nN];simp
    |h1 l x ih=>
     by_cases h:x=0
     ·subst h;rw[lL];simp;omega
     ·rw[qN h];simp
   have:=this (eL b).l;show(eG (eL b).l).length<=100;omega
  refine JO (h1.ext (hx4.trans hx5)) h3 (by have:=lenR hga;omega) λcs4 w6 hx6 h4=>?_;generalize Cf (eL a) (wU (eL b))=D at*
  obtain⟨sv,T,rfl,hs,hf,hlim⟩:=h4;refine aI λc w7 hc hz7 hcc hx7=>?_;obtain⟨p,cap,rfl,_⟩:=hs.shape;refine aY (l:=[.bool D.below,.slice p D.l.length cap]) hcc rfl rfl rfl λw8 hz8 hb8 hc8=>?_;have hx8:bA w w8:=(hx.trans (hx3.trans (hx4.trans (hx5.trans (hx6.trans hx7))))).new hc8 (by
   have:=(hx.trans (hx3.trans (hx4.trans (hx5.trans hx6)))).size;omega)
  have:=hK w8 hx8;simp only[cP,cS,bT,cR,cond_true,cond_false,exists_eq_left',cQ,Nat.reduceAdd,Nat.reduceLT,Nat.lt_add_one,Nat.zero_lt_succ,decide_true,decide_false,ne_eq,reduceCtorEq,bT,hb8];simp only[aB];refine⟨λh0=>?_,λh0=>?_⟩
  ·have hl:D.l=[]:=List.eq_nil_of_length_eq_zero (by omega);rw[if_pos hl]at this;exact this
  ·have hl:D.l≠[]:=λe=>by rw[e]at h0;simp at h0
   rw[if_neg hl]at this;rw[aQ];refine⟨λhb=>?_,λhb=>?_⟩
   ·rw[if_pos hb]at this;exact this
   ·rw[if_neg (by rw[hb];simp)]at this;exact this
end
section
variable [HX]
theorem uA{g:FuncId}{args:List Value}{K:Q0}(h:aA P g args w K):kP P (.func (.func g) #[] #[]) args w K:=by
 unfold kP Nf;unfold aA at h;have:(do let d<-(Deferred.ofValue (.func (.func g) #[] #[]) args.toArray);invoke d.target d.args:Sem Next)=callFunc g args.toArray:=by
  show callFunc g (#[]++args.toArray++#[])=_;simp
 rw[this];exact h
structure cV(w:World)(sv:Value)(xs:List JV):Prop where
 it:∃T L,SlAt w T sv xs.length L/\cD w xs L
 few:xs.length<=9223372036854775807
theorem cV.ext{sv:Value}{xs:List JV}(h:cV w sv xs)(hx:bA w w'):cV w' sv xs:=⟨let⟨T,L,h1,h2⟩:=h.it;⟨T,L,h1.ext hx,h2.ext hx⟩,h.few⟩
theorem oS.itemsAt{a:Nat}{v:JV}{sv kv:Value}(h:oS w a v sv kv):cV w sv v.xs:=⟨h.items,h.fits.1⟩
theorem cV.len{sv:Value}{xs:List JV}(h:cV w sv xs)(K:Value->Prop):bK sv K↔K (i64 xs.length):=by obtain⟨T,L,h1,_⟩:=h.it;exact dJ h1 K
theorem cV.at{sv:Value}{xs:List JV}{k:IntKind}{x:JV}{K:Value->Prop}(h:cV w sv xs)(hi:xs[i]?=some x)(hK:∀cs,cM w x cs->K (.agg cs.toArray)):bU none 5 sv (.int k i) λp=>aE true 5 p w K:=by
 obtain⟨T,L,h1,h2⟩:=h.it;exact EJ h1 h2 hi hK
def Ab{α:Type}(p:α->Bool)(xs:List α):Int:=match xs.findIdx? p with|some i=>i|none=>-1
theorem Hl{α:Type}(p:α->Bool)(xs:List α):decide ((0:Int)<=Ab p xs)=xs.any p:=by
 unfold Ab;cases h:xs.findIdx? p with
 |none=>
  have:=List.findIdx?_eq_none_iff.1 h;have:xs.any p=false:=List.any_eq_false.2 λx hx=>by simp[this x hx]
  rw[this];decide
 |some i=>
  obtain⟨hi,hp,_⟩:=List.findIdx?_eq_some_iff_getElem.1 h;rw[List.any_eq_true.2 ⟨_,List.getElem_mem hi,hp⟩];exact decide_eq_true (by simp)
theorem Aa{α:Type}{p:α->Bool}{xs:List α}{x:α}(h:(xs.take i).any p=false)(hi:xs[i]?=some x)(hx:p x=true):xs.findIdx? p=some i:=by
 obtain⟨hl,e⟩:=List.getElem?_eq_some_iff.1 hi;rw[List.findIdx?_eq_some_iff_getElem];refine⟨hl,by rw[e];exact hx,λj hj=>?_⟩;have:=List.any_eq_false.1 h xs[j] (List.mem_of_getElem? (i:=j) (by rw[List.getElem?_take,if_pos hj];exact List.getElem?_eq_getElem _));simpa using this
theorem Tf{sv f:Value}{xs:List JV}{p:JV->Bool}{K:Q0}(h:cV w sv xs)
  (hf:∀x∈xs,∀{cs:List Value} {w:World} {K:Q0},cM w x cs->(∀w',bA w w'->K (.bool (p x)) w')->kP P0 f [.agg cs.toArray] w K)
  (hK:∀w',bA w w'->K (i64 (Ab p xs)) w'):aA P0 158 [sv,f] w K:=by
 refine FC ?_;unfold UQ;rw[h.len];refine jI xs.length (λi w'=>bA w w'/\(xs.take i).any p=false) ⟨aS.refl _ _,by simp⟩ ?_ ?_
 ·rintro i w2 g L hi ⟨hx2,hno⟩ hL;obtain⟨x,hxi⟩:∃x,xs[i]?=some x:=⟨_,List.getElem?_eq_getElem hi⟩;have hlt:((i:Int)<(xs.length:Int)):=by omega
  simp only[cP,cS,bT,cR,cond_true,cond_false,exists_eq_left',cQ,Nat.reduceAdd,Nat.reduceLT,Nat.lt_add_one,Nat.zero_lt_succ,decide_true,decide_false,ne_eq,reduceCtorEq,hlt];refine(h.ext hx2).at hxi λcs hcs=>?_;refine hf x (List.mem_of_getElem? hxi) hcs λw3 hx3=>?_;rw[aQ];refine⟨λht=>?_,λhn=>?_⟩
  ·have:=hK w3 (hx2.trans hx3);unfold Ab at this;rw[Aa hno hxi ht]at this;exact this
  ·have:=h.few;rw[wR (by omega)];exact hL w3 ⟨hx2.trans hx3,by rw[HS hxi,hno,hn];rfl⟩
 ·rintro w2 g L ⟨hx2,hno⟩;simp only[cP,cS,bT,cR,cond_true,cond_false,exists_eq_left',cQ,Nat.reduceAdd,Nat.reduceLT,Nat.lt_add_one,Nat.zero_lt_succ,decide_true,decide_false,ne_eq,reduceCtorEq,Int.lt_irrefl];rw[List.take_length]at hno;have:=hK w2 hx2;unfold Ab at this;rw[List.findIdx?_eq_none_iff.2 λx hx=>by simpa using List.any_eq_false.1 hno x hx]at this;exact this
theorem Jw{sv f:Value}{xs:List JV}{p:JV->Bool}{K:Q0}(h:cV w sv xs)
  (hf:∀x∈xs,∀{cs:List Value} {w:World} {K:Q0},cM w x cs->(∀w',bA w w'->K (.bool (p x)) w')->kP P0 f [.agg cs.toArray] w K)
  (hK:∀w',bA w w'->K (.bool (xs.any p)) w'):aA P0 124 [sv,f] w K:=by
 refine FD ?_;unfold Vp;refine Tf h hf λw1 hx1=>?_;simp only[cP,cS,bT,cR,cond_true,cond_false,exists_eq_left',cQ,Nat.reduceAdd,Nat.reduceLT,Nat.lt_add_one,Nat.zero_lt_succ,decide_true,decide_false,ne_eq,reduceCtorEq,Hl];exact hK w1 hx1
theorem Te{sv f:Value}{xs:List JV}{p:JV->Bool}{K:Q0}(h:cV w sv xs)
  (hf:∀x∈xs,∀{cs:List Value} {w1:World} {K:Q0},bA w w1->cM w1 x cs->(∀w',bA w1 w'->K (.bool (p x)) w')->kP P0 f [.agg cs.toArray] w1 K)
  (hK:∀w',bA w w'->K (i64 (Ab p xs)) w'):aA P0 158 [sv,f] w K:=by
 refine FC ?_;unfold UQ;rw[h.len];refine jI xs.length (λi w'=>bA w w'/\(xs.take i).any p=false) ⟨aS.refl _ _,by simp⟩ ?_ ?_
 ·rintro i w2 g L hi ⟨hx2,hno⟩ hL;obtain⟨x,hxi⟩:∃x,xs[i]?=some x:=⟨_,List.getElem?_eq_getElem hi⟩;have hlt:((i:Int)<(xs.length:Int)):=by omega
  simp only[cP,cS,bT,cR,cond_true,cond_false,exists_eq_left',cQ,Nat.reduceAdd,Nat.reduceLT,Nat.lt_add_one,Nat.zero_lt_succ,decide_true,decide_false,ne_eq,reduceCtorEq,hlt];refine(h.ext hx2).at hxi λcs hcs=>?_;refine hf x (List.mem_of_getElem? hxi) hx2 hcs λw3 hx3=>?_;rw[aQ];refine⟨λht=>?_,λhn=>?_⟩
  ·have:=hK w3 (hx2.trans hx3);unfold Ab at this;rw[Aa hno hxi ht]at this;exact this
  ·have:=h.few;rw[wR (by omega)];exact hL w3 ⟨hx2.trans hx3,by rw[HS hxi,hno,hn];rfl⟩
 ·rintro w2 g L ⟨hx2,hno⟩;simp only[cP,cS,bT,cR,cond_true,cond_false,exists_eq_left',cQ,Nat.reduceAdd,Nat.reduceLT,Nat.lt_add_one,Nat.zero_lt_succ,decide_true,decide_false,ne_eq,reduceCtorEq,Int.lt_irrefl];rw[List.take_length]at hno;have:=hK w2 hx2;unfold Ab at this;rw[List.findIdx?_eq_none_iff.2 λx hx=>by simpa using List.any_eq_false.1 hno x hx]at this;exact this
theorem wI{sv f:Value}{xs:List JV}{p:JV->Bool}{K:Q0}(h:cV w sv xs)
  (hf:∀x∈xs,∀{cs:List Value} {w1:World} {K:Q0},bA w w1->cM w1 x cs->(∀w',bA w1 w'->K (.bool (p x)) w')->kP P0 f [.agg cs.toArray] w1 K)
  (hK:∀w',bA w w'->K (.bool (xs.any p)) w'):aA P0 124 [sv,f] w K:=by
 refine FD ?_;unfold Vp;refine Te h hf λw1 hx1=>?_;simp only[cP,cS,bT,cR,cond_true,cond_false,exists_eq_left',cQ,Nat.reduceAdd,Nat.reduceLT,Nat.lt_add_one,Nat.zero_lt_succ,decide_true,decide_false,ne_eq,reduceCtorEq,Hl];exact hK w1 hx1
theorem Cn(xs:List JV):(!xs.any λx=> !lA x)=wC xs:=by
 rw[IV];induction xs with
 |nil=>rfl
 |cons x xs ih=>simp only[List.any_cons,List.all_cons,Bool.not_or,Bool.not_not,ih]
theorem EH(v:JV):∀{cs:List Value} {w:World} {K:Q0},cM w v cs->(∀w',bA w w'->K (.bool (lA v)) w')->aA P0 96 [.agg cs.toArray] w K:=by
 induction v using JV.ind' with
 |h v ih=>
  intro cs w K h hK;refine Zz ?_;unfold W96;refine gB h λa w1 sv kv hB hx _=>?_;rw[LJ]at hK;simp only[cP,cS,bT,cR,cond_true,cond_false,exists_eq_left',cQ,Nat.reduceAdd,Nat.reduceLT,Nat.lt_add_one,Nat.zero_lt_succ,decide_true,decide_false,ne_eq,reduceCtorEq,bT,hB.hb];refine cX.act (wC v.xs) (λw'=>bA w1 w') (λ_=>aS.refl _ _) ?_ ?_
  ·intro hc J hJ;refine Jw (p:=λx=> !lA x) hB.itemsAt ?_ λw2 hx2=>?_
   ·intro x hx cs w K hr hK;refine uA ?_;refine Vj ?_;unfold aCM;refine gB hr λb w1 sv kv hB hx1 _=>?_;refine hB.ld λcs2 h2=>?_;refine ih x hx h2 λw2 hx2=>?_;simp only[cP,cS,bT,cR,cond_true,cond_false,exists_eq_left',cQ,Nat.reduceAdd,Nat.reduceLT,Nat.lt_add_one,Nat.zero_lt_succ,decide_true,decide_false,ne_eq,reduceCtorEq];exact hK w2 (hx1.trans hx2)
   ·simp only[cP,cS,bT,cR,cond_true,cond_false,exists_eq_left',cQ,Nat.reduceAdd,Nat.reduceLT,Nat.lt_add_one,Nat.zero_lt_succ,decide_true,decide_false,ne_eq,reduceCtorEq,Cn];exact hJ w2 hx2
  ·intro g w2 hx2;have:=hK w2 (hx.trans hx2);simp only[cP,cS,bT,cR,cond_true,cond_false,exists_eq_left',cQ,Nat.reduceAdd,Nat.reduceLT,Nat.lt_add_one,Nat.zero_lt_succ,decide_true,decide_false,ne_eq,reduceCtorEq];simpa only[decide_not]using this
theorem JL{b:Bool}{K:Q0}(hK:K (i64 (xY b)) w):aA P0 191 [.bool b] w K:=by
 refine UH ?_;unfold aCp;rw[aQ];unfold xY at hK;exact⟨λh=>by rw[if_pos h]at hK;exact hK,λh=>by rw[if_neg (by rw[h];simp)]at hK;exact hK⟩
theorem TF{a b:List aH}{x y:Value}{T1 T2:TypeId}{K:Q0}(h1:SlAt w T1 x a.length (a.map str))(h2:SlAt w T2 y b.length (b.map str))(ha:a.length<=9223372036854775807)
  (hK:∀w',bA w w'->K (i64 (vS a b)) w'):aA P0 194 [x,y] w K:=by
 refine UF ?_;unfold aCn;rw[dJ h1];refine jI a.length (λi w'=>bA w w'/\i<=b.length/\vS (a.drop i) (b.drop i)=vS a b) ⟨aS.refl _ _,by omega,rfl⟩ ?_ ?_
 ·rintro i w2 g L hi ⟨hx2,hib,he⟩ hL;obtain⟨u,hu⟩:∃u,a[i]?=some u:=⟨_,List.getElem?_eq_getElem hi⟩;have hlt:((i:Int)<(a.length:Int)):=by omega
  have hda:a.drop i=u::a.drop (i+1):=by
   rw[List.drop_eq_getElem_cons hi];congr 1;exact Option.some.inj ((List.getElem?_eq_getElem hi).symm.trans hu)
  simp only[cP,cS,bT,cR,cond_true,cond_false,exists_eq_left',cQ,Nat.reduceAdd,Nat.reduceLT,Nat.lt_add_one,Nat.zero_lt_succ,decide_true,decide_false,ne_eq,reduceCtorEq,hlt];refine jE (h1.ext hx2) hu ?_;rw[dJ h2];simp only[cP,cS,bT,cR,cond_true,cond_false,exists_eq_left',cQ,Nat.reduceAdd,Nat.reduceLT,Nat.lt_add_one,Nat.zero_lt_succ,decide_true,decide_false,ne_eq,reduceCtorEq,aB];refine⟨λhge=>?_,λhltb=>?_⟩
  ·have hdb:b.drop i=[]:=List.drop_eq_nil_iff.2 (by omega);rw[hda,hdb]at he;have:=hK w2 hx2;rw[<-he]at this;exact this
  ·have hib2:i<b.length:=by omega
   obtain⟨v,hv⟩:∃v,b[i]?=some v:=⟨_,List.getElem?_eq_getElem hib2⟩;have hdb:b.drop i=v::b.drop (i+1):=by
    rw[List.drop_eq_getElem_cons hib2];congr 1;exact Option.some.inj ((List.getElem?_eq_getElem hib2).symm.trans hv)
   rw[hda,hdb]at he;simp only[vS,NH]at he;refine jE (h2.ext hx2) hv ?_;refine aBK ?_;simp only[cP,cS,bT,cR,cond_true,cond_false,exists_eq_left',cQ,Nat.reduceAdd,Nat.reduceLT,Nat.lt_add_one,Nat.zero_lt_succ,decide_true,decide_false,ne_eq,reduceCtorEq,aB];refine⟨λhne=>?_,λh0=>?_⟩
   ·rw[if_neg hne]at he;have:=hK w2 hx2;rw[<-he]at this;exact this
   ·rw[if_pos (Decidable.not_not.1 h0)]at he;rw[wR (by omega)];exact hL w2 ⟨hx2,hib2,he⟩
 ·rintro w2 g L ⟨hx2,hib,he⟩;simp only[cP,cS,bT,cR,cond_true,cond_false,exists_eq_left',cQ,Nat.reduceAdd,Nat.reduceLT,Nat.lt_add_one,Nat.zero_lt_succ,decide_true,decide_false,ne_eq,reduceCtorEq,Int.lt_irrefl];rw[dJ h1,dJ h2];rw[List.drop_length]at he;simp only[cP,cS,bT,cR,cond_true,cond_false,exists_eq_left',cQ,Nat.reduceAdd,Nat.reduceLT,Nat.lt_add_one,Nat.zero_lt_succ,decide_true,decide_false,ne_eq,reduceCtorEq,aB];have:=hK w2 hx2;rw[<-he]at this;refine⟨λhlt=>?_,λhge=>?_⟩
  ·obtain⟨v,r,e⟩:∃v r,b.drop a.length=v::r:=by
    cases hd:b.drop a.length with
    |nil=>have:=List.drop_eq_nil_iff.1 hd;omega
    |cons v r=>exact⟨v,r,rfl⟩
   rw[e]at this;exact this
  ·rw[List.drop_eq_nil_iff.2 (show b.length<=a.length by omega)]at this;exact this
theorem aBj{a b:Int}{K:Q0}(hv:SlAt w 3 v 2 [i64 a,i64 b])(hK:∀w',bA w w'->K (i64 (NH a b)) w'):aA P0 193 [v] w K:=by
 refine UG ?_;unfold aCo;rw[dJ hv];unfold NH at hK;refine jI 2 (λi w'=>bA w w'/\(1<=i->a=0)/\(2<=i->b=0)) ⟨aS.refl _ _,by omega,by omega⟩ ?_ ?_
 ·rintro i w2 g L hi ⟨hx2,h1,h2⟩ hL;have hlt:((i:Int)<((2:Nat):Int)):=by omega
  simp only[cP,cS,bT,cR,cond_true,cond_false,exists_eq_left',cQ,Nat.reduceAdd,Nat.reduceLT,Nat.lt_add_one,Nat.zero_lt_succ,decide_true,decide_false,ne_eq,reduceCtorEq,hlt];have hc:i=0\/i=1:=by omega
  rcases hc with rfl|rfl
  ·refine lW (hv.ext hx2) rfl (show [i64 a,i64 b][0]?=some (i64 a)from rfl) ?_;simp only[cP,cS,bT,cR,cond_true,cond_false,exists_eq_left',cQ,Nat.reduceAdd,Nat.reduceLT,Nat.lt_add_one,Nat.zero_lt_succ,decide_true,decide_false,ne_eq,reduceCtorEq,aB];refine⟨λhne=>?_,λh0=>?_⟩
   ·have:=hK w2 hx2;rw[if_neg hne]at this;exact this
   ·rw[wR (by omega)];exact hL w2 ⟨hx2,λ_=>Decidable.not_not.1 h0,λh=>by omega⟩
  ·have ha:=h1 (Nat.le_refl _);refine lW (hv.ext hx2) rfl (show [i64 a,i64 b][1]?=some (i64 b)from rfl) ?_;simp only[cP,cS,bT,cR,cond_true,cond_false,exists_eq_left',cQ,Nat.reduceAdd,Nat.reduceLT,Nat.lt_add_one,Nat.zero_lt_succ,decide_true,decide_false,ne_eq,reduceCtorEq,aB];refine⟨λhne=>?_,λh0=>?_⟩
   ·have:=hK w2 hx2;rw[if_pos ha]at this;exact this
   ·rw[wR (by omega)];exact hL w2 ⟨hx2,λ_=>ha,λ_=>Decidable.not_not.1 h0⟩
 ·rintro w2 g L ⟨hx2,h1,h2⟩;simp only[cP,cS,bT,cR,cond_true,cond_false,exists_eq_left',cQ,Nat.reduceAdd,Nat.reduceLT,Nat.lt_add_one,Nat.zero_lt_succ,decide_true,decide_false,ne_eq,reduceCtorEq,Int.lt_irrefl];have:=hK w2 hx2;rw[if_pos (h1 (by omega)),h2 (Nat.le_refl _)]at this;exact this
theorem Mj{sv tv f:Value}{xs ys:List JV}{K:Q0}(h:cV w sv xs)(h':cV w tv ys)
  (hf:∀x∈xs,∀y∈ys,∀{cs ds:List Value} {w:World} {K:Q0},cM w x cs->cM w y ds->(∀w',bA w w'->K (i64 (Jy x y)) w')->kP P0 f [.agg cs.toArray,.agg ds.toArray] w K)
  (hK:∀w',bA w w'->K (i64 (cmpL xs ys)) w'):aA P0 195 [sv,tv,f] w K:=by
 refine UE ?_;unfold aCm;rw[h.len];refine jI xs.length (λi w'=>bA w w'/\i<=ys.length/\cmpL (xs.drop i) (ys.drop i)=cmpL xs ys) ⟨aS.refl _ _,by omega,rfl⟩ ?_ ?_
 ·rintro i w2 g L hi ⟨hx2,hib,he⟩ hL;obtain⟨u,hu⟩:∃u,xs[i]?=some u:=⟨_,List.getElem?_eq_getElem hi⟩;have hlt:((i:Int)<(xs.length:Int)):=by omega
  have hda:xs.drop i=u::xs.drop (i+1):=by
   rw[List.drop_eq_getElem_cons hi];congr 1;exact Option.some.inj ((List.getElem?_eq_getElem hi).symm.trans hu)
  simp only[cP,cS,bT,cR,cond_true,cond_false,exists_eq_left',cQ,Nat.reduceAdd,Nat.reduceLT,Nat.lt_add_one,Nat.zero_lt_succ,decide_true,decide_false,ne_eq,reduceCtorEq,hlt];refine(h.ext hx2).at hu λcs hcs=>?_;refine tX hcs λp w3 sp kp hP hx3=>?_;rw[h'.len];simp only[cP,cS,bT,cR,cond_true,cond_false,exists_eq_left',cQ,Nat.reduceAdd,Nat.reduceLT,Nat.lt_add_one,Nat.zero_lt_succ,decide_true,decide_false,ne_eq,reduceCtorEq,aB];refine⟨λhge=>?_,λhltb=>?_⟩
  ·have hdb:ys.drop i=[]:=List.drop_eq_nil_iff.2 (by omega);rw[hda,hdb]at he;have:=hK w3 (hx2.trans hx3);rw[<-he]at this;exact this
  ·have hib2:i<ys.length:=by omega
   obtain⟨v,hv⟩:∃v,ys[i]?=some v:=⟨_,List.getElem?_eq_getElem hib2⟩;have hdb:ys.drop i=v::ys.drop (i+1):=by
    rw[List.drop_eq_getElem_cons hib2];congr 1;exact Option.some.inj ((List.getElem?_eq_getElem hib2).symm.trans hv)
   rw[hda,hdb]at he;simp only[cmpL,NH]at he;refine(h'.ext (hx2.trans hx3)).at hv λds hds=>?_;refine tX hds λq w4 sq kq hQ hx4=>?_;refine(hP.ext hx4).ld λcs2 hc2=>?_;refine hQ.ld λds2 hd2=>?_;refine hf u (List.mem_of_getElem? hu) v (List.mem_of_getElem? hv) hc2 hd2 λw5 hx5=>?_;have hx:=hx2.trans (hx3.trans (hx4.trans hx5));simp only[cP,cS,bT,cR,cond_true,cond_false,exists_eq_left',cQ,Nat.reduceAdd,Nat.reduceLT,Nat.lt_add_one,Nat.zero_lt_succ,decide_true,decide_false,ne_eq,reduceCtorEq,aB];refine⟨λhne=>?_,λh0=>?_⟩
   ·rw[if_neg hne]at he;have:=hK w5 hx;rw[<-he]at this;exact this
   ·rw[if_pos (Decidable.not_not.1 h0)]at he;have:=h.few;rw[wR (by omega)];exact hL w5 ⟨hx,hib2,he⟩
 ·rintro w2 g L ⟨hx2,hib,he⟩;simp only[cP,cS,bT,cR,cond_true,cond_false,exists_eq_left',cQ,Nat.reduceAdd,Nat.reduceLT,Nat.lt_add_one,Nat.zero_lt_succ,decide_true,decide_false,ne_eq,reduceCtorEq,Int.lt_irrefl];rw[h.len,h'.len];rw[List.drop_length]at he;simp only[cP,cS,bT,cR,cond_true,cond_false,exists_eq_left',cQ,Nat.reduceAdd,Nat.reduceLT,Nat.lt_add_one,Nat.zero_lt_succ,decide_true,decide_false,ne_eq,reduceCtorEq,aB];have:=hK w2 hx2;rw[<-he]at this;refine⟨λhlt=>?_,λhge=>?_⟩
  ·obtain⟨v,r,e⟩:∃v r,ys.drop xs.length=v::r:=by
    cases hd:ys.drop xs.length with
    |nil=>have:=List.drop_eq_nil_iff.1 hd;omega
    |cons v r=>exact⟨v,r,rfl⟩
   rw[e]at this;exact this
  ·rw[List.drop_eq_nil_iff.2 (show ys.length<=xs.length by omega)]at this;exact this
theorem aBL(v:JV):∀{b:JV} {cs ds:List Value} {w:World} {K:Q0},cM w v cs->cM w b ds->(∀w',bA w w'->K (i64 (Jy v b)) w')->aA P0 131 [.agg cs.toArray,.agg ds.toArray] w K:=by
 induction v using JV.ind' with
 |h v ih=>
  intro b cs ds w K h h' hK;refine Vi ?_;unfold aCL;refine gB h λx w1 sv kv hB hx _=>?_;refine gB (h'.ext hx) λy w2 sv' kv' hC hx2 _=>?_;have hB:=hB.ext hx2;have hx:=hx.trans hx2;clear hx2;rw[TH]at hK;unfold NH at hK;simp only[cP,cS,bT,cR,cond_true,cond_false,exists_eq_left',cQ,Nat.reduceAdd,Nat.reduceLT,Nat.lt_add_one,Nat.zero_lt_succ,decide_true,decide_false,ne_eq,reduceCtorEq,bT,hB.hb,hC.hb];refine aBM ?_;simp only[cP,cS,bT,cR,cond_true,cond_false,exists_eq_left',cQ,Nat.reduceAdd,Nat.reduceLT,Nat.lt_add_one,Nat.zero_lt_succ,decide_true,decide_false,ne_eq,reduceCtorEq,aB];refine⟨λhne=>?_,λh0=>?_⟩
  ·have:=hK w2 hx;rw[if_neg hne]at this;exact this
  ·rw[if_pos (Decidable.not_not.1 h0)]at hK;have hxd:bA w2 w2.drew:=aS.drew (aS.refl (λ_=>False) w2);have hBd:=hB.ext hxd;have hCd:=hC.ext hxd
   (try simp only[cP,cS,bT,cR,cond_true,cond_false,exists_eq_left',cQ,Nat.reduceAdd,Nat.reduceLT,Nat.lt_add_one,Nat.zero_lt_succ,decide_true,decide_false,ne_eq,reduceCtorEq,bT,hB.hb,hC.hb])
   refine⟨λh2=>?_,λh2=>?_⟩
   ·rw[if_pos (show v.k=2 by simpa using h2)]at hK
    (try simp only[cP,cS,bT,cR,cond_true,cond_false,exists_eq_left',cQ,Nat.reduceAdd,Nat.reduceLT,Nat.lt_add_one,Nat.zero_lt_succ,decide_true,decide_false,ne_eq,reduceCtorEq,bT,hB.hb,hC.hb])
    refine JL ?_
    (try simp only[cP,cS,bT,cR,cond_true,cond_false,exists_eq_left',cQ,Nat.reduceAdd,Nat.reduceLT,Nat.lt_add_one,Nat.zero_lt_succ,decide_true,decide_false,ne_eq,reduceCtorEq,bT,hC.hb])
    refine JL (Wr ?_);exact hK _ (hx.trans hxd)
   ·rw[if_neg (show¬v.k=2 by simpa using h2)]at hK
    (try simp only[cP,cS,bT,cR,cond_true,cond_false,exists_eq_left',cQ,Nat.reduceAdd,Nat.reduceLT,Nat.lt_add_one,Nat.zero_lt_succ,decide_true,decide_false,ne_eq,reduceCtorEq,aB])
    refine⟨λh3=>?_,λh3=>?_⟩
    ·rw[if_pos (show v.k=3 by simpa using h3)]at hK
     (try simp only[cP,cS,bT,cR,cond_true,cond_false,exists_eq_left',cQ,Nat.reduceAdd,Nat.reduceLT,Nat.lt_add_one,Nat.zero_lt_succ,decide_true,decide_false,ne_eq,reduceCtorEq,bT,hB.hb,hC.hb])
     exact Bb hB.fits.2.2.1 hC.fits.2.2.1 λw3 hx3=>hK w3 (hx.trans hx3)
    ·rw[if_neg (show¬v.k=3 by simpa using h3)]at hK
     (try simp only[cP,cS,bT,cR,cond_true,cond_false,exists_eq_left',cQ,Nat.reduceAdd,Nat.reduceLT,Nat.lt_add_one,Nat.zero_lt_succ,decide_true,decide_false,ne_eq,reduceCtorEq,aB])
     refine⟨λh4=>?_,λh4=>?_⟩
     ·rw[if_pos (show v.k=4 by simpa using h4)]at hK
      (try simp only[cP,cS,bT,cR,cond_true,cond_false,exists_eq_left',cQ,Nat.reduceAdd,Nat.reduceLT,Nat.lt_add_one,Nat.zero_lt_succ,decide_true,decide_false,ne_eq,reduceCtorEq,bT,hB.hb,hC.hb])
      exact WY (hK w2 hx)
     ·rw[if_neg (show¬v.k=4 by simpa using h4)]at hK
      (try simp only[cP,cS,bT,cR,cond_true,cond_false,exists_eq_left',cQ,Nat.reduceAdd,Nat.reduceLT,Nat.lt_add_one,Nat.zero_lt_succ,decide_true,decide_false,ne_eq,reduceCtorEq,bT,hB.hb,hC.hb])
      obtain⟨T1,k1⟩:=hBd.keys;obtain⟨T2,k2⟩:=hCd.keys;refine TF k1 k2 hB.fits.2.1 λw3 hx3=>?_;have hB3:=hBd.ext hx3;have hC3:=hCd.ext hx3;simp only[cP,cS,bT,cR,cond_true,cond_false,exists_eq_left',cQ,Nat.reduceAdd,Nat.reduceLT,Nat.lt_add_one,Nat.zero_lt_succ,decide_true,decide_false,ne_eq,reduceCtorEq,bT,hB3.hb,hC3.hb];refine Mj hB3.itemsAt hC3.itemsAt ?_ λw4 hx4=>?_
      ·intro p hp q hq cs ds w K hc hd hK;exact uA (ih p hp hc hd hK)
      unfold bR;simp only[cP,cS,bT,cR,cond_true,cond_false,exists_eq_left',cQ,Nat.reduceAdd,Nat.reduceLT,Nat.lt_add_one,Nat.zero_lt_succ,decide_true,decide_false,ne_eq,reduceCtorEq];have hs:SlAt (w4.alloc (.cells [i64 (vS v.ks b.ks),i64 (cmpL v.xs b.xs)].toArray 3)) 3 (.slice (some ⟨w4.heap.size,0,none⟩) 2 2) 2 [i64 (vS v.ks b.ks),i64 (cmpL v.xs b.xs)]:=
       (uP (w:=w4) (base:=w4.heap.size) (e:=3) (size:=1) (n:=2) (cs:=[i64 (vS v.ks b.ks),i64 (cmpL v.xs b.xs)]) (Nat.le_refl _) rfl (by omega)).sl
      refine aBj hs λw5 hx5=>?_;have hx':=hx.trans (hxd.trans (hx3.trans (hx4.trans ((aS.alloc (aS.refl _ _) _:bA w4 _).trans hx5))));exact hK w5 hx'
theorem Tw{a b:JV}{ds:List Value}{K:Q0}(h:cM w a cs)(h':cM w b ds)(hK:∀w',bA w w'->K (.bool (decide (Jy a b=0))) w'):aA P0 98 [.agg cs.toArray,.agg ds.toArray] w K:=by
 refine Zx ?_;unfold W98;refine gB h λx w1 sv kv hB hx _=>?_;refine gB (h'.ext hx) λy w2 sv' kv' hC hx2 _=>?_;have hB:=hB.ext hx2;refine hB.ld λcs1 h1=>?_;refine hC.ld λcs2 h2=>?_;refine aBL a h1 h2 λw3 hx3=>?_;simp only[cP,cS,bT,cR,cond_true,cond_false,exists_eq_left',cQ,Nat.reduceAdd,Nat.reduceLT,Nat.lt_add_one,Nat.zero_lt_succ,decide_true,decide_false,ne_eq,reduceCtorEq];exact hK w3 (hx.trans (hx2.trans hx3))
end
def Mt(G:Nat->Prop)(v:Value):Prop:=∀k,v.ownBlock=some k->G k
mutual
def bE(G:Nat->Prop)(w:World):JV->List Value->Prop
 |.mk k b t xs ks,cs=>∃sv kv T1 T2 L,cs=[i64 k,.bool b,str t,sv,kv]/\SlAt w T1 sv xs.length L/\bB G w xs L/\SlAt w T2 kv ks.length (ks.map str)/\Fits xs.length ks t/\(L≠[]->Mt G sv)/\(ks.map str≠[]->Mt G kv)
def bB(G:Nat->Prop)(w:World):List JV->List Value->Prop
 |[],L=>L=[]
 |x::xs,L=>∃c r,L=c++r/\bE G w x c/\bB G w xs r
end
theorem qR(h:SlAt w T v n cs)(hg:cs≠[]->Mt G v)(hc:aS S w w')(hS:∀k,G k->k<w.heap.size->¬S k):SlAt w' T v n cs:=by
 obtain⟨p,cap,rfl,h1,h2,h3⟩:=h;refine⟨p,cap,rfl,h1,h2,λhne=>?_⟩;obtain⟨b,off,c,fr,rfl,hb,hcs⟩:=h3 hne;exact⟨b,off,c,fr,rfl,hc.at hb (hS b (hg hne b rfl) (dA hb)),hcs⟩
theorem Ej(h:SlAt w T v n cs)(hne:cs≠[]):Mt (λk=>k<w.heap.size) v:=by
 obtain⟨p,cap,rfl,h1,h2,h3⟩:=h;obtain⟨b,off,c,fr,rfl,hb,hcs⟩:=h3 hne;intro k hk;cases hk;exact dA hb
mutual
theorem bE.chg{S G:Nat->Prop}{w w':World}(hc:aS S w w')(hS:∀k,G k->k<w.heap.size->¬S k):∀{v:JV} {cs:List Value},bE G w v cs->bE G w' v cs
 |.mk k b t xs ks,cs,h=>by
  simp only[bE]at h⊢
  obtain⟨sv,kv,T1,T2,L,rfl,h1,h2,h3,h4,h5,h6⟩:=h
  exact⟨sv,kv,T1,T2,L,rfl,qR h1 h5 hc hS,bB.chg hc hS h2,qR h3 h6 hc hS,h4,h5,h6⟩
theorem bB.chg{S G:Nat->Prop}{w w':World}(hc:aS S w w')(hS:∀k,G k->k<w.heap.size->¬S k):∀{xs:List JV} {L:List Value},bB G w xs L->bB G w' xs L
 |[],L,h=>by simp only[bB]at h⊢;exact h
 |x::xs,L,h=>by
  simp only[bB]at h⊢
  obtain⟨c,r,rfl,h1,h2⟩:=h
  exact⟨c,r,rfl,bE.chg hc hS h1,bB.chg hc hS h2⟩
end
mutual
theorem bE.mono{G G':Nat->Prop}{w:World}(hG:∀k,k<w.heap.size->G k->G' k):∀{v:JV} {cs:List Value},bE G w v cs->bE G' w v cs
 |.mk k b t xs ks,cs,h=>by
  simp only[bE]at h⊢
  obtain⟨sv,kv,T1,T2,L,rfl,h1,h2,h3,h4,h5,h6⟩:=h
  exact⟨sv,kv,T1,T2,L,rfl,h1,bB.mono hG h2,h3,h4,λhne k hk=>hG k (Ej h1 hne k hk) (h5 hne k hk),λhne k hk=>hG k (Ej h3 hne k hk) (h6 hne k hk)⟩
theorem bB.mono{G G':Nat->Prop}{w:World}(hG:∀k,k<w.heap.size->G k->G' k):∀{xs:List JV} {L:List Value},bB G w xs L->bB G' w xs L
 |[],L,h=>by simp only[bB]at h⊢;exact h
 |x::xs,L,h=>by
  simp only[bB]at h⊢
  obtain⟨c,r,rfl,h1,h2⟩:=h
  exact⟨c,r,rfl,bE.mono hG h1,bB.mono hG h2⟩
end
mutual
theorem bE.rep{G:Nat->Prop}{w:World}:∀{v:JV} {cs:List Value},bE G w v cs->cM w v cs
 |.mk k b t xs ks,cs,h=>by
  simp only[bE]at h
  simp only[cM]
  obtain⟨sv,kv,T1,T2,L,rfl,h1,h2,h3,h4,h5,h6⟩:=h
  exact⟨sv,kv,T1,T2,L,rfl,h1,bB.rep h2,h3,h4⟩
theorem bB.rep{G:Nat->Prop}{w:World}:∀{xs:List JV} {L:List Value},bB G w xs L->cD w xs L
 |[],L,h=>by simp only[bB]at h;simp only[cD];exact h
 |x::xs,L,h=>by
  simp only[bB]at h
  simp only[cD]
  obtain⟨c,r,rfl,h1,h2⟩:=h
  exact⟨c,r,rfl,bE.rep h1,bB.rep h2⟩
end
theorem bB.snoc{G:Nat->Prop}{w:World}:∀{xs:List JV} {x:JV} {L cs:List Value},bB G w xs L->bE G w x cs->bB G w (xs++[x]) (L++cs)
 |[],x,L,cs,h,hx=>by
  simp only[bB]at h
  subst h
  simp only[List.nil_append,bB]
  exact⟨cs,[],by simp,hx,rfl⟩
 |y::xs,x,L,cs,h,hx=>by
  simp only[bB]at h
  obtain⟨c,r,rfl,h1,h2⟩:=h
  simp only[List.cons_append,bB]
  exact⟨c,r++cs,by simp,h1,bB.snoc h2 hx⟩
theorem bE.mk{v:JV}{sv kv:Value}{T1 T2:TypeId}{L:List Value}(h1:SlAt w T1 sv v.xs.length L)(h2:bB G w v.xs L)(h3:SlAt w T2 kv v.ks.length (v.ks.map str))(h4:Fits v.xs.length v.ks v.t)(h5:L≠[]->Mt G sv)(h6:v.ks.map str≠[]->Mt G kv):bE G w v [i64 v.k,.bool v.b,str v.t,sv,kv]:=by
 cases v with
 |mk k b t xs ks=>simp only[bE];exact⟨sv,kv,T1,T2,L,rfl,h1,h2,h3,h4,h5,h6⟩
abbrev vJ(n:Nat):Nat->Prop:=λk=>n<=k
section
variable [HX]
theorem TI{l:List aH}{K:Q0}(h:SlAt w T v l.length (l.map str))(hl:l.length<=1000000)
  (hK:∀v' w',bA w w'->SlAt w' ST v' l.length (l.map str)->Mt (vJ w.heap.size) v'->K v' w'):aA P0 118 [v] w K:=by
 refine Vv ?_;unfold aCX;obtain⟨p,cap,rfl,hcap,hp,hc⟩:=h;cases p with
 |none=>
  obtain⟨h0,rfl⟩:=hp rfl;have:l=[]:=List.eq_nil_of_length_eq_zero h0;subst this;have e:∀K:Value->Prop,tR .slice false (.slice none ([]:List aH).length 0) (.slice none 0 0) K↔K (.bool true):=λK=>Iff.rfl;rw[e];simp only[cP,cS,bT,cR,cond_true,cond_false,exists_eq_left',cQ,Nat.reduceAdd,Nat.reduceLT,Nat.lt_add_one,Nat.zero_lt_succ,decide_true,decide_false,ne_eq,reduceCtorEq];exact hK _ w (aS.refl _ _) (SlAt.nil _ _) (by intro k hk;cases hk)
 |some a=>
  have e:∀K:Value->Prop,tR .slice false (.slice (some a) l.length cap) (.slice none 0 0) K↔K (.bool false):=λK=>Iff.rfl;rw[e];unfold bR;simp only[cP,cS,bT,cR,cond_true,cond_false,exists_eq_left',cQ,Nat.reduceAdd,Nat.reduceLT,Nat.lt_add_one,Nat.zero_lt_succ,decide_true,decide_false,ne_eq,reduceCtorEq];refine fN Jq (base:=w.heap.size) (uP (w:=w) (base:=w.heap.size) (e:=ST) (size:=1) (n:=0) (cs:=[]) (Nat.le_refl _) rfl (by omega)) (x:=.slice (some a) l.length cap) (T:=T) (m:=l.length) (news:=l.map str) ?_ (by simp) ?_ (by omega) (by omega) (by rw[size_alloc];omega) λv' w' h' hc' hb'=>?_
  ·have hx:bA w (w.alloc (.cells ([]:List Value).toArray ST)):=(by repeat (first|assumption|exact aS.refl _ _|refine aS.drew ?_|refine aS.alloc ?_ _|refine aS.set ?_ (by first|exact .inl rfl|exact .inr (by omega)|exact .inr (by simp only[nW,size_alloc,size_drew];omega)|(left;simp;done)) _|exact aS.of_ext (by assumption)));exact SlAt.ext ⟨some a,cap,rfl,hcap,hp,hc⟩ hx
  ·intro u hu;obtain⟨s,_,rfl⟩:=List.mem_map.1 hu;rfl
  ·have hx:bA w (w.alloc (.cells ([]:List Value).toArray ST)):=(by repeat (first|assumption|exact aS.refl _ _|refine aS.drew ?_|refine aS.alloc ?_ _|refine aS.set ?_ (by first|exact .inl rfl|exact .inr (by omega)|exact .inr (by simp only[nW,size_alloc,size_drew];omega)|(left;simp;done)) _|exact aS.of_ext (by assumption)));refine hK v' w' (hx.then hc' λk hk e=>?_) (by simpa using h'.sl) λk hk=>(h'.block k hk).1;simp only[Value.ownBlock,Option.some.injEq]at e;omega
theorem Pn{xs:List JV}(hcl:∀x∈xs,∀{cs:List Value} {w:World} {K:Q0},cM w x cs->(∀cs' w',bA w w'->bE (vJ w.heap.size) w' x cs'->K (.agg cs'.toArray) w')->aA P0 88 [.agg cs.toArray] w K)
  {sv:Value}{K:Q0}(h:cV w sv xs)(hl:xs.length<=1000000)
  (hK:∀sv' w',bA w w'->(∃L,SlAt w' VT sv' xs.length L/\bB (vJ w.heap.size) w' xs L)->Mt (vJ w.heap.size) sv'->K sv' w'):aA P0 119 [sv] w K:=by
 refine Vu ?_;unfold aCW;rw[h.len];refine⟨λs w'=>∃i v L,i<=xs.length/\s=[v,i64 (i:Nat)]/\bA w w'/\Own w' w.heap.size VT 5 v i L/\bB (λk=>w.heap.size<=k/\v.ownBlock≠some k) w' (xs.take i) L,
  λs _=>match s with|[_,.int _ i]=>xs.length-i.toNat|_=>0,⟨0,_,[],by omega,rfl,aS.refl _ _,⟨by simp,.inl ⟨rfl,rfl⟩⟩,by simp[bB]⟩,?_⟩
 rintro s g w2 ⟨i,v,L,hi,rfl,hx2,hO,hr⟩;rcases Nat.lt_or_ge i xs.length with hlt|hge
 ·obtain⟨x,hxi⟩:∃x,xs[i]?=some x:=⟨_,List.getElem?_eq_getElem hlt⟩;have hltI:(i:Int)<(xs.length:Int):=by omega
  simp only[cP,cS,bT,cR,cond_true,cond_false,exists_eq_left',cQ,Nat.reduceAdd,Nat.reduceLT,Nat.lt_add_one,Nat.zero_lt_succ,decide_true,decide_false,ne_eq,reduceCtorEq,hltI];refine(h.ext hx2).at hxi λcs hcs=>?_;refine tX hcs λp w3 sp kp hP hx3=>?_;refine hP.ld λcs2 h2=>?_;refine hcl x (List.mem_of_getElem? hxi) h2 λcs3 w4 hx4 h3=>?_;refine zP h3.rep.len λt w5 ht hx5=>?_;have hx25:=hx3.trans (hx4.trans hx5);have hO5:=hO.ext hx25;have s0:=hx2.size;have s3:=hx3.size;have s25:=hx25.size;have hglt:∀k,v.ownBlock=some k->k<w2.heap.size:=λk hk=>(World.ownsRow.lt hO k hk).2;refine fN Fo hO5 ht (m:=1) (by rw[h3.rep.len]) h3.rep.one (by omega) (by omega) (by omega) λv' w6 h6 hc6 hb6=>?_;have hx6:bA w w6:=(hx2.trans hx25).then hc6 λk hk e=>by
   have:=(qB hO5 e).1;omega
  rw[wR (by omega)];refine⟨⟨i+1,v',L++cs3,hlt,rfl,hx6,h6,?_⟩,by simp only[Int.toNat_natCast];omega⟩;have e:xs.take (i+1)=xs.take i++[x]:=by rw[List.take_add_one,hxi];rfl
  rw[e];have hr5:=bB.chg hx25 (λ_ _ _ e=>e) hr;have h35:=bE.chg hx5 (λ_ _ _ e=>e) h3;have hall:bB (λk=>w.heap.size<=k/\v.ownBlock≠some k) w5 (xs.take i++[x]) (L++cs3):=
   hr5.snoc (h35.mono λk _ hk=>⟨by have:w3.heap.size<=k:=hk;omega,λe=>by have:=hglt k e;have:w3.heap.size<=k:=hk;omega⟩)
  have hall2:bB (λk=>(w.heap.size<=k/\v.ownBlock≠some k)/\k<w5.heap.size) w5 (xs.take i++[x]) (L++cs3):=hall.mono λk hlt hk=>⟨hk,hlt⟩;have hall3:=bB.chg hc6 (λk hk _ e=>hk.1.2 e) hall2;exact hall3.mono λk _ hk=>⟨hk.1.1,λe=>by
   rcases hb6 k e with h|h
   ·exact hk.1.2 h
   ·omega⟩
 ·obtain rfl:i=xs.length:=by omega
  simp only[cP,cS,bT,cR,cond_true,cond_false,exists_eq_left',cQ,Nat.reduceAdd,Nat.reduceLT,Nat.lt_add_one,Nat.zero_lt_succ,decide_true,decide_false,ne_eq,reduceCtorEq,Int.lt_irrefl];rw[List.take_length]at hr;exact hK v w2 hx2 ⟨L,hO.sl,hr.mono λk _ hk=>hk.1⟩ λk hk=>(hO.block k hk).1
end
end
end Go.Proofs.YtghhmpppnmoeoaaGreatDoor
namespace Go.Eng
section
open Go Go.Num
variable{w:World}{K:Q0}{cs:List Value}{G:Nat->Prop}{T:TypeId}{i:Nat}{n:Nat}{v:Value}{w':World}{P:Program}{c:UInt8}{S:Nat->Prop}
mutual
def sC:JV->Bool
 |.mk _ _ _ xs ks=>decide (xs.length<=100000)&&decide (ks.length<=100000)&&OW xs
def OW:List JV->Bool
 |[]=>true
 |x::xs=>sC x&&OW xs
end
theorem uY(v:JV):sC v=(decide (v.xs.length<=100000)&&decide (v.ks.length<=100000)&&OW v.xs):=by cases v;rfl
theorem tP(xs:List JV):OW xs=xs.all sC:=by
 induction xs with
 |nil=>rfl
 |cons x xs ih=>simp[OW,ih]
theorem vW:∀(m:Nat),m<=24->∀(v:JV),mK v m=true->1<=mD v/\mD v<=2000*m+1
 |0,_,v,h=>by rw[oN]at h;cases h
 |m+1,hm,v,h=>by
  rw[kI,kN]at h
  rw[qS]
  have key:∀(xs:List JV) (n:Int),xs.all (mK · m)=true->1<=n->n<=2000*(m+1)+1->1<=gP xs n/\gP xs n<=2000*(m+1)+1:=by
   intro xs;induction xs with
   |nil=>intro n _ h1 h2;exact⟨h1,h2⟩
   |cons x xs ih=>
    intro n ha h1 h2;simp only[List.all_cons,Bool.and_eq_true]at ha;obtain⟨a1,a2⟩:=vW m (by omega) x ha.1;simp only[gP];split
    ·rw[bD (by omega) (by omega)];exact ih _ ha.2 (by omega) (by omega)
    ·exact⟨h1,h2⟩
  have:=key v.xs 1 h (by omega) (by omega);exact⟨this.1,by have:=this.2;omega⟩
theorem rT{m:Nat}(hm:m<=24):∀(xs:List JV) (n:Int),xs.all (mK · m)=true->1<=n->gP xs n<=2000->n+xs.length<=2000/\∀x∈xs,mD x<=2000
 |[],n,_,_,h=>by simp only[gP]at h;exact⟨by simp;exact h,by simp⟩
 |x::xs,n,ha,h1,h=>by
  simp only[List.all_cons,Bool.and_eq_true]at ha
  obtain⟨a1,a2⟩:=vW m hm x ha.1
  simp only[gP]at h
  split at h
  ·rw[bD (by omega) (by omega)]at h
   obtain⟨i1,i2⟩:=rT hm xs _ ha.2 (by omega) h
   refine⟨by simp only[List.length_cons];omega,λy hy=>?_⟩
   rcases List.mem_cons.1 hy with rfl|hy
   ·omega
   ·exact i2 y hy
  ·omega
theorem OO(v:JV):∀(m:Nat),m<=24->mD v<=2000->mK v m=true->oC v=true->sC v=true:=by
 induction v using JV.ind' with
 |h v ih=>
  intro m hm hs hd hp;cases m with
  |zero=>rw[oN]at hd;cases hd
  |succ m=>
   rw[kI,kN]at hd;rw[qS]at hs;obtain⟨h1,h2⟩:=rT (m:=m) (by omega) v.xs 1 hd (by omega) hs;rw[jH,Bool.and_eq_true,rW]at hp;obtain⟨_,_,_,_,_,k6,_,_,k9,_⟩:=iZ hp.1;rw[uY,tP];have e1:v.xs.length<=100000:=by omega
   have e2:v.ks.length<=100000:=by
    by_cases hk:v.ks=[]
    ·rw[hk];simp
    ·have:=k9 (k6 hk);omega
   rw[decide_eq_true e1,decide_eq_true e2];simp only[Bool.and_self,Bool.true_and,List.all_eq_true];intro x hx;exact ih x hx m (by omega) (h2 x hx) (List.all_eq_true.1 hd x hx) (List.all_eq_true.1 hp.2 x hx)
structure DY(v:JV):Prop where
 plain:oC v=true
 few:sC v=true
theorem oJ{v:JV}(h:cU v=true):DY v:=by
 simp only[cU,Bool.and_eq_true,decide_eq_true_eq]at h;exact⟨h.2,OO v 24 (Nat.le_refl _) h.1.1 h.1.2 h.2⟩
theorem DY.item{v x:JV}(h:DY v)(hx:x∈v.xs):DY x:=by
 have h1:=h.plain;have h2:=h.few;rw[jH,Bool.and_eq_true,rW,List.all_eq_true]at h1;rw[uY,tP]at h2;simp only[Bool.and_eq_true,List.all_eq_true]at h2;exact⟨h1.2 x hx,h2.2 x hx⟩
theorem DY.lens{v:JV}(h:DY v):v.xs.length<=100000/\v.ks.length<=100000/\(v.k=6->v.ks.length=v.xs.length)/\fK v.ks=true/\(v.ks≠[]->v.k=6):=by
 have h1:=h.plain;have h2:=h.few;rw[jH,Bool.and_eq_true]at h1;rw[uY]at h2;simp only[Bool.and_eq_true,decide_eq_true_eq]at h2;obtain⟨_,_,_,_,_,k6,_,_,k9,k10⟩:=iZ h1.1;exact⟨h2.1.1,h2.1.2,k9,k10,k6⟩
theorem lT:∀{a b c:aH},Op.bytesLess a b=true->Op.bytesLess b c=true->Op.bytesLess a c=true
 |[],[],_,h,_=>by simp[Op.bytesLess]at h
 |_::_,[],_,h,_=>by simp[Op.bytesLess]at h
 |_,_::_,[],_,h=>by simp[Op.bytesLess]at h
 |[],_::_,_::_,_,_=>by simp[Op.bytesLess]
 |x::a,y::b,z::c,h1,h2=>by
  simp only[Op.bytesLess,Bool.or_eq_true,Bool.and_eq_true,decide_eq_true_eq,beq_iff_eq]at h1 h2⊢
  rcases h1 with h1|⟨rfl,h1⟩
  ·rcases h2 with h2|⟨rfl,h2⟩
   ·exact .inl (UInt8.lt_trans h1 h2)
   ·exact .inl h1
  ·rcases h2 with h2|⟨rfl,h2⟩
   ·exact .inl h2
   ·exact .inr ⟨rfl,lT h1 h2⟩
theorem Bn:∀(a b:aH),Op.bytesLess a b=true\/a=b\/Op.bytesLess b a=true
 |[],[]=>.inr (.inl rfl)
 |[],_::_=>.inl rfl
 |_::_,[]=>.inr (.inr rfl)
 |x::a,y::b=>by
  simp only[Op.bytesLess,Bool.or_eq_true,Bool.and_eq_true,decide_eq_true_eq,beq_iff_eq,List.cons.injEq]
  by_cases h1:x<y
  ·exact .inl (.inl h1)
  ·by_cases h2:y<x
   ·exact .inr (.inr (.inl h2))
   ·have:x=y:=UInt8.le_antisymm (UInt8.not_lt.1 h2) (UInt8.not_lt.1 h1)
    subst this
    rcases Bn a b with h|h|h
    ·exact .inl (.inr ⟨rfl,h⟩)
    ·exact .inr (.inl ⟨rfl,h⟩)
    ·exact .inr (.inr (.inr ⟨rfl,h⟩))
theorem LI{a b:aH}(h:Op.bytesLess a b=true):Op.bytesLess b a=false:=by
 cases hb:Op.bytesLess b a with
 |false=>rfl
 |true=>have:=lT h hb;rw[GR]at this;cases this
def HW(ks:List aH):Prop:=ks.Pairwise λa b=>Op.bytesLess a b=true
theorem zU:∀{ks:List aH},fK ks=true->HW ks
 |[],_=>List.Pairwise.nil
 |[a],_=>List.pairwise_singleton _ _
 |a::b::r,h=>by
  simp only[fK,Bool.and_eq_true]at h
  have ih:=zU (ks:=b::r) h.2
  refine List.Pairwise.cons (λc hc=>?_) ih
  rcases List.mem_cons.1 hc with rfl|hc
  ·exact h.1.2
  ·exact lT h.1.2 ((List.pairwise_cons.1 ih).1 c hc)
theorem Ep{ks:List aH}(h:HW ks){j:Nat}{a b:aH}(ha:ks[i]?=some a)(hb:ks[j]?=some b)(hij:i<j):Op.bytesLess a b=true:=by
 obtain⟨h1,e1⟩:=List.getElem?_eq_some_iff.1 ha;obtain⟨h2,e2⟩:=List.getElem?_eq_some_iff.1 hb;have:=List.pairwise_iff_getElem.1 h i j h1 h2 hij;rw[e1,e2]at this;exact this
end
end Go.Eng
