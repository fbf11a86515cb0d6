/- One plain sentence: contracts and plain laws that the claim rests on. Conditions: those that each states. -/
import Derived.Test.YtghhmpppnmoeoaaGreatDoorXSteps1
import Derived.Shelf.Strings.BuilderF
import Derived.Shelf.Strings.BuilderK
import Derived.Shelf.Strconv.Atoi
import Derived.Shelf.Strconv.AtoiInnerAll
import Derived.Shelf.Strconv.AtoiFail
import Derived.Shelf.Strconv.ParseInt10
import Derived.Shelf.Strconv.ParseUint10
import Derived.Shelf.Strconv.Itoa2
import Derived.Shelf.Strconv.Itoa1
import Derived.Shelf.Slices.ReverseS
import Derived.Shelf.Strconv.Itoa3
import Derived.Shelf.Pu.ParseUintPublic10
import Derived.Shelf.Strconv.ToErrorRange
import Derived.Shelf.Strconv.ToError
import Derived.Shelf.Small.Strs
import Derived.Shelf.Strings.Count
import Derived.Shelf.Strings.Cut
import Derived.Shelf.Small.Wraps
import Derived.Shelf.Strings.Prefix
import Derived.Shelf.Strings.Search3
import Derived.Shelf.Strings.OnBuilder
import Derived.Shelf.Strings.Repeat
import Derived.Shelf.Strings.Split
import Derived.Shelf.Strings.SlTrimAscii
import Derived.Shelf.Strconv.Clone
import Derived.Shelf.Strings.Search1
import Derived.Shelf.Unicode.DecodeAny
import Derived.Shelf.Small.Utf8
import Derived.Shelf.Strings.BuilderX
import Derived.Shelf.Lays
import Derived.Shelf.Lays2
import Derived.Shelf.LaysC
import Derived.Shelf.LaysM
import Derived.Shelf.Pu.Lays
import Derived.Ground.MpProg
import Derived.Ground.Names2Prog
import Derived.Test.YtghhmpppnmoeoaaGreatDoorProg
import Derived.Lib.ConvBytes
import Derived.Lib.ParseIntBCases
import Derived.Sort.OwnSorted
import Derived.Lib.SlicesCompact
import Derived.Lib.AppendZerosOnto
import Derived.Lib.DecodeN
import Derived.Lib.RuneBytes
import Derived.Laws.IdiomCopy
import Derived.Lib.Overlaps
import Derived.Laws.Externs
import Derived.Lib.Split
import Derived.Lib.Join
import Derived.Lib.ItoaNum
import Derived.Maps.RangeRun
import Derived.MapKept
import Derived.Lib.LastIndexByte
set_option linter.all false
set_option linter.unusedSimpArgs false
set_option linter.unusedVariables false
set_option linter.unusedSectionVars false
set_option maxRecDepth 100000
namespace Go.Proofs.YtghhmpppnmoeoaaGreatDoor
section
open Go Go.Eng
variable{w:World}{K:Q0}{cs:List Value}{G:Nat->Prop}{T:TypeId}{i:Nat}{n:Nat}{v:Value}{w':World}{P:Program}{c:UInt8}{S:Nat->Prop}{v0 v1 v2 v3 v4 v5:Value}
variable [HX]
def Yf:cJ:={js:=[],ds:=[]}
def W61(v0:Value)(w:World)(K:Q0):=eL 26 v0 w λt1 w1=>bO 3 zL3 w1 λt3 w2=>stW 1 t3 (i64 2000) w2 λw3=>ldW true 5 t1 w3 λt4=>aC P0 101 [t4,(i64 24),t3] w3 λt5 w4=>K t5 w4
theorem ZW{K:Q0}(h:W61 v0 w K):aC P0 61 [v0] w K:=
 tie _ 61 Tryz.f61 Yf _ w K 1 _ rfl mixed Tryz.func61 (by kernel_rfl) (by kernel_rfl) Tryz.call61 h
def XW:cJ:={js:=[(28003,⟨[36],[],35⟩),(16,⟨[28],[2,5],28⟩),(6002,⟨[23],[],17⟩),(6004,⟨[22],[],21⟩),(6008,⟨[20],[],17⟩),(6013,⟨[14],[],12⟩)],ds:=[]}
def W75(v0:Value)(w:World)(K:Q0):=aC P0 107 [v0,(str [45])] w λt7 w1=>gW t7 λt9=>aQ .lss t9 (i64 1) λt10=>GdW (isB t10 false) [undef] w1 (λJ2=>gW t7 λt13=>aQ .gtr t13 (i64 100) λt14=>J2 [t14] w1) λs2 _ w3=>cP t10 (.bool true) (s2.getD 0 undef) λt15=>GdW (isB t15 false) [undef] w3 (λJ4=>oO t7 (i64 0) λt18=>aQ .eql t18 (.int .u8 48) λt19=>J4 [t19] w3) λs4 _ w5=>GdW (isB (s4.getD 0 undef) true) [undef] w5 (λJ6=>aQ .neq v0 (str [48]) λt22=>J6 [t22] w5) λs6 _ w7=>GdW (isB t15 false) [undef] w7 (λJ8=>cP (s4.getD 0 undef) (s6.getD 0 undef) (.bool false) λt23=>J8 [t23] w7) λs8 _ w9=>cP t15 (.bool true) (s8.getD 0 undef) λt24=>aR t24 (K (.bool false) w9) (dY P0 (convert 9 89 t7) w9 λt26 w10=>dC t26 λt27=>cZ [(i64 0)] w10 λs11 _ w12 L11=>aQ .lss (s11.getD 0 undef) t27 λt29=>aR t29 (dV none 1 t26 (s11.getD 0 undef) λt30=>ldW false 1 t30 w12 λt31=>aQ .lss t31 (.int .u8 48) λt33=>GdW (isB t33 false) [undef] w12 (λJ13=>aQ .gtr t31 (.int .u8 57) λt36=>J13 [t36] w12) λs13 _ w14=>cP t33 (.bool true) (s13.getD 0 undef) λt37=>aR t37 (K (.bool false) w14) (aQ .add (s11.getD 0 undef) (i64 1) λt38=>L11 [t38] w14)) (K (.bool true) w12))
theorem ZN{K:Q0}(h:W75 v0 w K):aC P0 75 [v0] w K:=
 tie _ 75 Tryz.f75 XW _ w K 1 _ rfl mixed Tryz.func75 (by kernel_rfl) (by kernel_rfl) Tryz.call75 h
def XN:cJ:={js:=[],ds:=[]}
def W85(w:World)(K:Q0):=bO 26 zL0 w λt0 w1=>dD [(i64 0),(.bool false),(str []),sN,sN] [] λc2=>stW 5 t0 (.agg c2.toArray) w1 λw3=>ldW true 5 t0 w3 λr4=>K r4 w3
theorem ZE{K:Q0}(h:W85 w K):aC P0 85 [] w K:=
 tie _ 85 Tryz.f85 XN _ w K 0 _ rfl mixed Tryz.func85 (by kernel_rfl) (by kernel_rfl) Tryz.call85 h
def XM:cJ:={js:=[],ds:=[]}
def W86(v0:Value)(w:World)(K:Q0):=bO 26 zL0 w λt2 w1=>dD [(i64 0),(.bool false),(str []),sN,sN] [(0,1,(i64 2)),(1,1,v0)] λc2=>stW 5 t2 (.agg c2.toArray) w1 λw3=>ldW true 5 t2 w3 λr4=>K r4 w3
theorem ZD{K:Q0}(h:W86 v0 w K):aC P0 86 [v0] w K:=
 tie _ 86 Tryz.f86 XM _ w K 1 _ rfl mixed Tryz.func86 (by kernel_rfl) (by kernel_rfl) Tryz.call86 h
def XL:cJ:={js:=[],ds:=[]}
def W87(v0:Value)(w:World)(K:Q0):=bO 26 zL0 w λt2 w1=>dD [(i64 0),(.bool false),(str []),sN,sN] [(0,1,(i64 4)),(2,1,v0)] λc2=>stW 5 t2 (.agg c2.toArray) w1 λw3=>ldW true 5 t2 w3 λr4=>K r4 w3
theorem ZC{K:Q0}(h:W87 v0 w K):aC P0 87 [v0] w K:=
 tie _ 87 Tryz.f87 XL _ w K 1 _ rfl mixed Tryz.func87 (by kernel_rfl) (by kernel_rfl) Tryz.call87 h
def XK:cJ:={js:=[],ds:=[(3,⟨[0,1,3,4,6,8],[[],[0],[0,1],[],[3],[0,1,2,3,4],[0,1,2,3,4],[0,1,2,3,4,5,6],[0,1,2,3,4,5,6,7],[0,1,2,3,4,5,6,7,8]]⟩)]}
def W88(v0:Value)(w:World)(K:Q0):=eL 26 v0 w λt1 w1=>bO 26 zL0 w1 λt2 w2=>aY 4 t1 λt3=>ldW false 1 t3 w2.drew λt4=>aY 3 t1 λt6=>ldW false 1 t6 w2.drew λt7=>aC P0 118 [t4] w2.drew λt5 w3=>(ldW false 1 t6 w3 λx=>x=t7)/\aY 4 t1 λt9=>aC P0 119 [t7] w3 λt8 w4=>stW 1 t9 t5 w4 λw5=>aY 3 t1 λt10=>stW 1 t10 t8 w5 λw6=>ldW true 5 t1 w6 λt11=>stW 5 t2 t11 w6 λw7=>ldW true 5 t2 w7 λr8=>K r8 w7
theorem ZB{K:Q0}(h:W88 v0 w K):aC P0 88 [v0] w K:=
 tie _ 88 Tryz.f88 XK _ w K 1 _ rfl mixed Tryz.func88 (by kernel_rfl) (by kernel_rfl) Tryz.call88 h
def XD:cJ:={js:=[(3006,⟨[10],[],7⟩)],ds:=[]}
def W96(v0:Value)(w:World)(K:Q0):=eL 26 v0 w λt1 w1=>aY 0 t1 λt3=>ldW false 1 t3 w1 λt4=>aQ .neq t4 (i64 1) λt5=>GdW (isB t5 true) [undef] w1 (λJ2=>aY 3 t1 λt7=>ldW false 1 t7 w1 λt8=>aC P0 124 [t8,(.func (.func 130) #[] #[])] w1 λt9 w3=>unW .not t9 λt10=>J2 [t10] w3) λs2 _ w4=>cP t5 (s2.getD 0 undef) (.bool false) λt11=>K t11 w4
theorem Zu{K:Q0}(h:W96 v0 w K):aC P0 96 [v0] w K:=
 tie _ 96 Tryz.f96 XD _ w K 1 _ rfl mixed Tryz.func96 (by kernel_rfl) (by kernel_rfl) Tryz.call96 h
def XC:cJ:={js:=[],ds:=[]}
def W97(w:World)(K:Q0):=bO 26 zL0 w λt0 w1=>dD [(i64 0),(.bool false),(str []),sN,sN] [(0,1,(i64 1))] λc2=>stW 5 t0 (.agg c2.toArray) w1 λw3=>ldW true 5 t0 w3 λr4=>K r4 w3
theorem Zt{K:Q0}(h:W97 w K):aC P0 97 [] w K:=
 tie _ 97 Tryz.f97 XC _ w K 0 _ rfl mixed Tryz.func97 (by kernel_rfl) (by kernel_rfl) Tryz.call97 h
def XB:cJ:={js:=[],ds:=[]}
def W98(v0 v1:Value)(w:World)(K:Q0):=eL 26 v0 w λt2 w1=>eL 26 v1 w1 λt3 w2=>ldW true 5 t2 w2 λt5=>ldW true 5 t3 w2 λt6=>aC P0 131 [t5,t6] w2 λt7 w3=>aQ .eql t7 (i64 0) λt8=>K t8 w3
theorem Zs{K:Q0}(h:W98 v0 v1 w K):aC P0 98 [v0,v1] w K:=
 tie _ 98 Tryz.f98 XB _ w K 2 _ rfl mixed Tryz.func98 (by kernel_rfl) (by kernel_rfl) Tryz.call98 h
def To:cJ:={js:=[(89007,⟨[130],[],126⟩),(12,⟨[],[],6⟩),(78002,⟨[119],[],108⟩),(78010,⟨[118],[],111⟩),(78013,⟨[110],[],108⟩),(66,⟨[99],[6,7,8],99⟩),(40010,⟨[79],[],72⟩),(34010,⟨[63],[],56⟩),(28010,⟨[48],[],41⟩),(16,⟨[33],[],33⟩),(6002,⟨[29],[],23⟩),(6005,⟨[28],[],26⟩),(6008,⟨[25],[],23⟩),(6014,⟨[20],[],17⟩)],ds:=[]}
def aCQ(v0 v1 v2:Value)(w:World)(K:Q0):=eL 26 v0 w λt3 w1=>eL 3 v1 w1 λt4 w2=>eL 143 v2 w2 λt5 w3=>ldW false 1 t5 w3 λt9=>dJ t9 λt10=>ldW false 1 t10 w3 λt11=>aQ .sub t11 (i64 1) λt12=>dJ t9 λt13=>stW 1 t13 t12 w3 λw4=>ldW false 1 t4 w4 λt14=>aQ .eql t14 (i64 0) λt15=>GdW (isB t15 false) [undef] w4 (λJ5=>ldW false 1 t5 w4 λt17=>dJ t17 λt18=>ldW false 1 t18 w4 λt19=>aQ .lss t19 (i64 0) λt20=>J5 [t20] w4) λs5 _ w6=>cP t15 (.bool true) (s5.getD 0 undef) λt21=>GdW (isB t21 false) [undef] w6 (λJ7=>aY 1 t3 λt23=>ldW false 1 t23 w6 λt24=>J7 [t24] w6) λs7 _ w8=>GdW (isB (s7.getD 0 undef) true) [undef] w8 (λJ9=>aY 0 t3 λt26=>ldW false 1 t26 w8 λt27=>aQ .neq t27 (i64 2) λt28=>J9 [t28] w8) λs9 _ w10=>GdW (isB t21 false) [undef] w10 (λJ11=>cP (s7.getD 0 undef) (s9.getD 0 undef) (.bool false) λt29=>J11 [t29] w10) λs11 _ w12=>cP t21 (.bool true) (s11.getD 0 undef) λt30=>aR t30 (K (.bool false) w12) (bU (λJ13=>aY 0 t3 λt31=>ldW false 1 t31 w12 λt32=>bU (λJ14=>aQ .eql t32 (i64 0) λt34=>aR t34 (J14 [t34] w12) (aQ .eql t32 (i64 1) λt35=>aR t35 (J14 [t35] w12) (aQ .eql t32 (i64 2) λt36=>J14 [t36] w12))) λs14 _ w15=>aR (s14.getD 0 undef) (aY 2 t3 λt37=>ldW false 1 t37 w15 λt38=>aQ .eql t38 (str []) λt39=>GdW (isB t39 true) [undef] w15 (λJ16=>aY 3 t3 λt41=>ldW false 1 t41 w15 λt42=>dC t42 λt43=>aY 4 t3 λt44=>ldW false 1 t44 w15 λt45=>dC t45 λt46=>aQ .add t43 t46 λt47=>aQ .eql t47 (i64 0) λt48=>J16 [t48] w15) λs16 _ w17=>cP t39 (s16.getD 0 undef) (.bool false) λt49=>K t49 w17) (aQ .eql t32 (i64 3) λt51=>aR t51 (aY 2 t3 λt52=>ldW false 1 t52 w15 λt53=>aC P0 75 [t53] w15 λt54 w18=>GdW (isB t54 true) [undef] w18 (λJ19=>aY 3 t3 λt56=>ldW false 1 t56 w18 λt57=>dC t57 λt58=>aY 4 t3 λt59=>ldW false 1 t59 w18 λt60=>dC t60 λt61=>aQ .add t58 t61 λt62=>aQ .eql t62 (i64 0) λt63=>J19 [t63] w18) λs19 _ w20=>cP t54 (s19.getD 0 undef) (.bool false) λt64=>K t64 w20) (aQ .eql t32 (i64 4) λt66=>aR t66 (aY 2 t3 λt67=>ldW false 1 t67 w15 λt68=>gW t68 λt69=>aQ .leq t69 (i64 16384) λt70=>GdW (isB t70 true) [undef] w15 (λJ21=>aY 3 t3 λt72=>ldW false 1 t72 w15 λt73=>dC t73 λt74=>aY 4 t3 λt75=>ldW false 1 t75 w15 λt76=>dC t76 λt77=>aQ .add t74 t77 λt78=>aQ .eql t78 (i64 0) λt79=>J21 [t79] w15) λs21 _ w22=>cP t70 (s21.getD 0 undef) (.bool false) λt80=>K t80 w22) (aQ .eql t32 (i64 5) λt82=>aR t82 (aY 4 t3 λt83=>ldW false 1 t83 w15 λt84=>dC t84 λt85=>aQ .gtr t85 (i64 0) λt86=>aR t86 (K (.bool false) w15) (J13 [] w15)) (aQ .eql t32 (i64 6) λt88=>aR t88 (aY 4 t3 λt89=>ldW false 1 t89 w15 λt90=>dC t90 λt91=>aY 3 t3 λt92=>ldW false 1 t92 w15 λt93=>dC t93 λt94=>aQ .neq t91 t94 λt95=>aR t95 (K (.bool false) w15) (aY 4 t3 λt96=>ldW false 1 t96 w15 λt97=>dC t97 λt98=>cZ [(i64 0)] w15 λs23 _ w24 L23=>aQ .lss (s23.getD 0 undef) t98 λt100=>aR t100 (dV none 1 t97 (s23.getD 0 undef) λt102=>ldW false 1 t102 w24 λt103=>gW t103 λt105=>aQ .gtr t105 (i64 16384) λt106=>GdW (isB t106 false) [undef] w24 (λJ25=>aQ .gtr (s23.getD 0 undef) (i64 0) λt109=>J25 [t109] w24) λs25 _ w26=>GdW (isB (s25.getD 0 undef) true) [undef] w26 (λJ27=>aY 4 t3 λt111=>ldW false 1 t111 w26 λt112=>aQ .sub (s23.getD 0 undef) (i64 1) λt114=>dV none 1 t112 t114 λt115=>ldW false 1 t115 w26 λt116=>aQ .geq t116 t103 λt118=>J27 [t118] w26) λs27 _ w28=>GdW (isB t106 false) [undef] w28 (λJ29=>cP (s25.getD 0 undef) (s27.getD 0 undef) (.bool false) λt119=>J29 [t119] w28) λs29 _ w30=>cP t106 (.bool true) (s29.getD 0 undef) λt120=>aR t120 (K (.bool false) w30) (aQ .add (s23.getD 0 undef) (i64 1) λt121=>L23 [t121] w30)) (J13 [] w24))) (K (.bool false) w15)))))) λs13 _ w31=>aY 2 t3 λt122=>ldW false 1 t122 w31 λt123=>aQ .eql t123 (str []) λt124=>GdW (isB t124 true) [undef] w31 (λJ32=>aY 3 t3 λt126=>ldW false 1 t126 w31 λt127=>aC P0 124 [t127,(.func (.func 136) #[] #[t4,t5])] w31 λt129 w33=>unW .not t129 λt130=>J32 [t130] w33) λs32 _ w34=>cP t124 (s32.getD 0 undef) (.bool false) λt131=>K t131 w34)
theorem Wr{K:Q0}(h:aCQ v0 v1 v2 w K):aC P0 101 [v0,v1,v2] w K:=
 tie _ 101 Tryz.f101 To _ w K 3 _ rfl mixed Tryz.func101 (by kernel_rfl) (by kernel_rfl) Tryz.call101 h
def SV:cJ:={js:=[(8,⟨[3,8],[3,5],8⟩)],ds:=[]}
def aCF(v0:Value)(w:World)(K:Q0):=dC v0 λt7=>cZ [sN,(i64 0)] w λs1 _ w2 L1=>aQ .lss (s1.getD 1 undef) t7 λt9=>aR t9 (dV none 5 v0 (s1.getD 1 undef) λt10=>ldW true 5 t10 w2 λt11=>bO 26 zL0 w2 λt5 w3=>stW 5 t5 t11 w3 λw4=>ldW true 5 t5 w4 λt13=>aC P0 88 [t13] w4 λt14 w5=>dN 26 1 [(i64 0),(.bool false),(str []),sN,sN] [(0,5,t14)] w5 λt15 w6=>dY P0 (Builtin.append_ #[23,23] 23 #[(s1.getD 0 undef),t15]) w6 λt16 w7=>aQ .add (s1.getD 1 undef) (i64 1) λt17=>L1 [t16,t17] w7) (K (s1.getD 0 undef) w2)
theorem We{K:Q0}(h:aCF v0 w K):aC P0 119 [v0] w K:=
 tie _ 119 Tryz.f119 SV _ w K 1 _ rfl mixed Tryz.func119 (by kernel_rfl) (by kernel_rfl) Tryz.call119 h
def SU:cJ:={js:=[(6004,⟨[19],[],17⟩)],ds:=[]}
def aCE(v0 v1:Value)(w:World)(K:Q0):=eL 26 v0 w λt2 w1=>bO 26 zL0 w1 λt4 w2=>aY 4 t2 λt9=>ldW false 1 t9 w2 λt10=>aC P0 153 [t10,v1] w2 λt12 w3=>dE 0 t12 λt13=>dE 1 t12 λt14=>GdW (isB t14 true) [undef] w3 (λJ4=>aY 0 t2 λt17=>ldW false 1 t17 w3 λt18=>aQ .eql t18 (i64 6) λt19=>J4 [t19] w3) λs4 _ w5=>cP t14 (s4.getD 0 undef) (.bool false) λt20=>aR t20 (aY 3 t2 λt21=>ldW false 1 t21 w5 λt22=>dV none 5 t22 t13 λt24=>ldW true 5 t24 w5 λt25=>aC P0 88 [t25] w5 λt26 w6=>stW 5 t4 t26 w6 λw7=>ldW true 5 t4 w7 λr8=>K (.tuple #[r8,(.bool true)]) w7) (dD [(i64 0),(.bool false),(str []),sN,sN] [] λc9=>stW 5 t4 (.agg c9.toArray) w5 λw10=>ldW true 5 t4 w10 λr11=>K (.tuple #[r11,(.bool false)]) w10)
theorem Wd{K:Q0}(h:aCE v0 v1 w K):aC P0 120 [v0,v1] w K:=
 tie _ 120 Tryz.f120 SU _ w K 2 _ rfl mixed Tryz.func120 (by kernel_rfl) (by kernel_rfl) Tryz.call120 h
def SR:cJ:={js:=[(6004,⟨[16],[],14⟩)],ds:=[]}
def aCC(v0:Value)(w:World)(K:Q0):=aC P0 157 [v0] w λt8 w1=>dE 0 t8 λt9=>dE 1 t8 λt10=>eqQ P0 .neq 118 false true t10 .nilIface w1 λt12=>GdW (isB t12 false) [undef] w1 (λJ2=>aC P0 75 [v0] w1 λt15 w3=>unW .not t15 λt16=>J2 [t16] w3) λs2 _ w4=>cP t12 (.bool true) (s2.getD 0 undef) λt17=>aR t17 (K (.tuple #[(i64 0),(.bool false)]) w4) (K (.tuple #[t9,(.bool true)]) w4)
theorem Wb{K:Q0}(h:aCC v0 w K):aC P0 123 [v0] w K:=
 tie _ 123 Tryz.f123 SR _ w K 1 _ rfl mixed Tryz.func123 (by kernel_rfl) (by kernel_rfl) Tryz.call123 h
def SK:cJ:={js:=[(4004,⟨[12],[],10⟩)],ds:=[]}
def aCx(v0 v1:Value)(w:World)(K:Q0):=aC P0 75 [v0] w λt7 w1=>unW .not t7 λt8=>GdW (isB t8 false) [undef] w1 (λJ2=>aC P0 75 [v1] w1 λt11 w3=>unW .not t11 λt12=>J2 [t12] w3) λs2 _ w4=>cP t8 (.bool true) (s2.getD 0 undef) λt13=>aR t13 (K (.tuple #[(str []),(i64 6)]) w4) (aC P0 186 [v0] w4 λt15 w5=>aC P0 186 [v1] w5 λt17 w6=>aC P0 187 [t17] w6 λt18 w7=>aC P0 185 [t15,t18] w7 λt19 w8=>aC P0 188 [t19] w8 λt20 w9=>dE 0 t20 λt21=>dE 1 t20 λt22=>K (.tuple #[t21,t22]) w9)
theorem VV{K:Q0}(h:aCx v0 v1 w K):aC P0 129 [v0,v1] w K:=
 tie _ 129 Tryz.f129 SK _ w K 2 _ rfl mixed Tryz.func129 (by kernel_rfl) (by kernel_rfl) Tryz.call129 h
def SJ:cJ:={js:=[],ds:=[]}
def aCw(v0:Value)(w:World)(K:Q0):=eL 26 v0 w λt1 w1=>ldW true 5 t1 w1 λt3=>aC P0 96 [t3] w1 λt4 w2=>unW .not t4 λt5=>K t5 w2
theorem VU{K:Q0}(h:aCw v0 w K):aC P0 130 [v0] w K:=
 tie _ 130 Tryz.f130 SJ _ w K 1 _ rfl mixed Tryz.func130 (by kernel_rfl) (by kernel_rfl) Tryz.call130 h
def SI:cJ:={js:=[],ds:=[(36,⟨[0,1,2,3,5,6,7,8,12],[[],[0],[],[2],[0,1,2,3],[],[5],[],[7],[0,1,2,3,4,5,6,7,8],[0,1,2,3,4,5,6,7,8,9],[0,1,2,3,4,5,6,7,8,9,10],[0,1,2,3,4,5,6,7,8,9,10,11]]⟩),(20,⟨[0,1,3,4,7],[[],[0],[0,1],[],[3],[0,1,2,3,4],[0,1,2,3,4,5],[0,1,2,3,4,5,6]]⟩)]}
def aCv(v0 v1:Value)(w:World)(K:Q0):=eL 26 v0 w λt2 w1=>eL 26 v1 w1 λt3 w2=>aY 0 t2 λt6=>ldW false 1 t6 w2 λt7=>aY 0 t3 λt8=>ldW false 1 t8 w2 λt9=>aC P0 189 [t7,t9] w2 λt10 w3=>aQ .neq t10 (i64 0) λt12=>aR t12 (K t10 w3) (aY 0 t2 λt14=>ldW false 1 t14 w3 λt15=>aQ .eql t15 (i64 2) λt17=>aR t17 (aY 1 t2 λt18=>ldW false 1 t18 w3.drew λt19=>aY 1 t3 λt21=>ldW false 1 t21 w3.drew λt22=>aC P0 191 [t19] w3.drew λt20 w4=>(ldW false 1 t21 w4 λx=>x=t22)/\aC P0 191 [t22] w4 λt23 w5=>aC P0 190 [t20,t23] w5 λt24 w6=>K t24 w6) (aQ .eql t15 (i64 3) λt26=>aR t26 (aY 2 t2 λt27=>ldW false 1 t27 w3 λt28=>aY 2 t3 λt29=>ldW false 1 t29 w3 λt30=>aC P0 132 [t28,t30] w3 λt31 w7=>K t31 w7) (aQ .eql t15 (i64 4) λt33=>aR t33 (aY 2 t2 λt34=>ldW false 1 t34 w3 λt35=>aY 2 t3 λt36=>ldW false 1 t36 w3 λt37=>aC P0 192 [t35,t37] w3 λt38 w8=>K t38 w8) (aY 4 t2 λt39=>ldW false 1 t39 w3.drew λt40=>aY 4 t3 λt41=>ldW false 1 t41 w3.drew λt42=>aY 3 t2 λt44=>ldW false 1 t44 w3.drew λt45=>aY 3 t3 λt46=>ldW false 1 t46 w3.drew λt47=>aC P0 194 [t40,t42] w3.drew λt43 w9=>(ldW false 1 t46 w9 λx=>x=t47)/\(ldW false 1 t44 w9 λx=>x=t45)/\aC P0 195 [t45,t47,(.func (.func 131) #[] #[])] w9 λt48 w10=>dN 3 2 [(i64 0),(i64 0)] [(0,1,t43),(1,1,t48)] w10 λt49 w11=>aC P0 193 [t49] w11 λt50 w12=>K t50 w12))))
theorem VS{K:Q0}(h:aCv v0 v1 w K):aC P0 131 [v0,v1] w K:=
 tie _ 131 Tryz.f131 SI _ w K 2 _ rfl mixed Tryz.func131 (by kernel_rfl) (by kernel_rfl) Tryz.call131 h
def SH:cJ:={js:=[(4004,⟨[12],[],10⟩)],ds:=[]}
def aCu(v0 v1:Value)(w:World)(K:Q0):=aC P0 75 [v0] w λt7 w1=>unW .not t7 λt8=>GdW (isB t8 false) [undef] w1 (λJ2=>aC P0 75 [v1] w1 λt11 w3=>unW .not t11 λt12=>J2 [t12] w3) λs2 _ w4=>cP t8 (.bool true) (s2.getD 0 undef) λt13=>aR t13 (K (i64 0) w4) (aC P0 186 [v0] w4 λt15 w5=>aC P0 186 [v1] w5 λt17 w6=>aC P0 187 [t17] w6 λt18 w7=>aC P0 185 [t15,t18] w7 λt19 w8=>bO 198 zL2 w8 λt5 w9=>stW 2 t5 t19 w9 λw10=>aY 1 t5 λt21=>ldW false 1 t21 w10 λt22=>dC t22 λt23=>aQ .eql t23 (i64 0) λt24=>aR t24 (K (i64 0) w10) (aY 0 t5 λt26=>ldW false 1 t26 w10 λt27=>aR t27 (K (.int .i64 (-1)) w10) (K (i64 1) w10)))
theorem VR{K:Q0}(h:aCu v0 v1 w K):aC P0 132 [v0,v1] w K:=
 tie _ 132 Tryz.f132 SH _ w K 2 _ rfl mixed Tryz.func132 (by kernel_rfl) (by kernel_rfl) Tryz.call132 h
def SG:cJ:={js:=[(4004,⟨[12],[],10⟩)],ds:=[]}
def aCt(v0 v1:Value)(w:World)(K:Q0):=aC P0 75 [v0] w λt7 w1=>unW .not t7 λt8=>GdW (isB t8 false) [undef] w1 (λJ2=>aC P0 75 [v1] w1 λt11 w3=>unW .not t11 λt12=>J2 [t12] w3) λs2 _ w4=>cP t8 (.bool true) (s2.getD 0 undef) λt13=>aR t13 (K (.tuple #[(str []),(i64 6)]) w4) (aC P0 186 [v0] w4 λt15 w5=>aC P0 186 [v1] w5 λt17 w6=>aC P0 185 [t15,t17] w6 λt18 w7=>aC P0 188 [t18] w7 λt19 w8=>dE 0 t19 λt20=>dE 1 t19 λt21=>K (.tuple #[t20,t21]) w8)
theorem VQ{K:Q0}(h:aCt v0 v1 w K):aC P0 133 [v0,v1] w K:=
 tie _ 133 Tryz.f133 SG _ w K 2 _ rfl mixed Tryz.func133 (by kernel_rfl) (by kernel_rfl) Tryz.call133 h
def SF:cJ:={js:=[(4004,⟨[12],[],10⟩)],ds:=[]}
def aCs(v0 v1:Value)(w:World)(K:Q0):=aC P0 75 [v0] w λt7 w1=>unW .not t7 λt8=>GdW (isB t8 false) [undef] w1 (λJ2=>aC P0 75 [v1] w1 λt11 w3=>unW .not t11 λt12=>J2 [t12] w3) λs2 _ w4=>cP t8 (.bool true) (s2.getD 0 undef) λt13=>aR t13 (K (.tuple #[(str []),(i64 6)]) w4) (aC P0 186 [v0] w4 λt15 w5=>aC P0 186 [v1] w5 λt17 w6=>aC P0 196 [t15,t17] w6 λt18 w7=>aC P0 188 [t18] w7 λt19 w8=>dE 0 t19 λt20=>dE 1 t19 λt21=>K (.tuple #[t20,t21]) w8)
theorem VP{K:Q0}(h:aCs v0 v1 w K):aC P0 134 [v0,v1] w K:=
 tie _ 134 Tryz.f134 SF _ w K 2 _ rfl mixed Tryz.func134 (by kernel_rfl) (by kernel_rfl) Tryz.call134 h
def SE:cJ:={js:=[(47,⟨[14],[14],42⟩),(30,⟨[11,41],[11,13,14],41⟩),(4004,⟨[26],[],24⟩)],ds:=[]}
def aCr(v0 v1:Value)(w:World)(K:Q0):=aC P0 75 [v0] w λt21 w1=>unW .not t21 λt22=>GdW (isB t22 false) [undef] w1 (λJ2=>aC P0 75 [v1] w1 λt25 w3=>unW .not t25 λt26=>J2 [t26] w3) λs2 _ w4=>cP t22 (.bool true) (s2.getD 0 undef) λt27=>aR t27 (K (.tuple #[(str []),(str []),(i64 6)]) w4) (aQ .eql v1 (str [48]) λt29=>aR t29 (K (.tuple #[(str []),(str []),(i64 10)]) w4) (aC P0 186 [v0] w4 λt31 w5=>aC P0 186 [v1] w5 λt33 w6=>bO 198 zL2 w6 λt7 w7=>bO 198 zL2 w7 λt8 w8=>stW 2 t7 t31 w8 λw9=>stW 2 t8 t33 w9 λw10=>aY 1 t8 λt34=>ldW false 1 t34 w10 λt35=>dD [(.bool false),sN] [(0,1,(.bool false)),(1,1,t35)] λc11=>bO 198 zL2 w10 λt9 w12=>stW 2 t9 (.agg c11.toArray) w12 λw13=>bO 198 zL2 w13 λt10 w14=>aC P0 107 [v0,(str [45])] w14 λt38 w15=>dY P0 (convert 9 89 t38) w15 λt39 w16=>dC t39 λt40=>cZ [sN,(i64 0)] w16 λs17 _ w18 L17=>aQ .lss (s17.getD 1 undef) t40 λt42=>aR t42 (dV none 1 t39 (s17.getD 1 undef) λt43=>ldW false 1 t43 w18 λt44=>ldW true 2 t10 w18 λt45=>dN 209 1 [(.int .u64 0)] [(0,1,(.int .u64 10))] w18 λt46 w19=>dD [(.bool false),sN] [(0,1,(.bool false)),(1,1,t46)] λc20=>aC P0 196 [t45,(.agg c20.toArray)] w19 λt48 w21=>aQ .sub t44 (.int .u8 48) λt50=>rX .u64 t50 λt51=>dN 209 1 [(.int .u64 0)] [(0,1,t51)] w21 λt52 w22=>dD [(.bool false),sN] [(0,1,(.bool false)),(1,1,t52)] λc23=>aC P0 197 [(.agg c23.toArray)] w22 λt54 w24=>aC P0 185 [t48,t54] w24 λt55 w25=>stW 2 t10 t55 w25 λw26=>cZ [(.int .u8 48)] w26 λs27 _ w28 L27=>ldW true 2 t10 w28 λt56=>ldW true 2 t9 w28 λt57=>aC P0 198 [t56,t57] w28 λt58 w29=>aQ .geq t58 (i64 0) λt59=>aR t59 (ldW true 2 t10 w29 λt60=>ldW true 2 t9 w29 λt61=>aC P0 199 [t60,t61] w29 λt62 w30=>dD [(.bool false),sN] [(0,1,(.bool false)),(1,1,t62)] λc31=>aC P0 197 [(.agg c31.toArray)] w30 λt64 w32=>stW 2 t10 t64 w32 λw33=>aQ .add (s27.getD 0 undef) (.int .u8 1) λt66=>L27 [t66] w33) (dN 5 1 [(.int .u8 0)] [(0,1,(s27.getD 0 undef))] w29 λt69 w34=>dY P0 (Builtin.append_ #[89,89] 89 #[(s17.getD 0 undef),t69]) w34 λt70 w35=>aQ .add (s17.getD 1 undef) (i64 1) λt71=>L17 [t70,t71] w35)) (mS P0 (convert 89 9 (s17.getD 0 undef)) w18 λt73=>aC P0 186 [t73] w18 λt74 w36=>bO 198 zL2 w36 λt15 w37=>stW 2 t15 t74 w37 λw38=>aY 0 t7 λt75=>ldW false 1 t75 w38 λt76=>aY 0 t8 λt77=>ldW false 1 t77 w38 λt78=>eqW .bool true t76 t78 λt79=>aY 0 t15 λt80=>stW 1 t80 t79 w38 λw39=>aY 0 t7 λt81=>ldW false 1 t81 w39 λt82=>aY 0 t10 λt83=>stW 1 t83 t82 w39 λw40=>ldW true 2 t15 w40 λt85=>aC P0 197 [t85] w40 λt86 w41=>aC P0 188 [t86] w41 λt87 w42=>dE 0 t87 λt88=>dE 1 t87 λt89=>ldW true 2 t10 w42 λt91=>aC P0 197 [t91] w42 λt92 w43=>aC P0 188 [t92] w43 λt93 w44=>dE 0 t93 λt94=>dE 1 t93 λt95=>K (.tuple #[t88,t94,(i64 0)]) w44)))
theorem VO{K:Q0}(h:aCr v0 v1 w K):aC P0 135 [v0,v1] w K:=
 tie _ 135 Tryz.f135 SE _ w K 2 _ rfl mixed Tryz.func135 (by kernel_rfl) (by kernel_rfl) Tryz.call135 h
def SD:cJ:={js:=[],ds:=[]}
def aCq(v0 v1 v2:Value)(w:World)(K:Q0):=eL 26 v0 w λt3 w1=>ldW true 5 t3 w1 λt5=>ldW false 1 v1 w1 λt6=>aQ .sub t6 (i64 1) λt7=>ldW false 1 v2 w1 λt8=>aC P0 101 [t5,t7,t8] w1 λt9 w2=>unW .not t9 λt10=>K t10 w2
theorem VN{K:Q0}(h:aCq v0 v1 v2 w K):aC P0 136 [v0,v1,v2] w K:=
 tie _ 136 Tryz.f136 SD _ w K 3 _ rfl mixed Tryz.func136 (by kernel_rfl) (by kernel_rfl) Tryz.call136 h
def Sn:cJ:={js:=[],ds:=[(18,⟨[0,1,2,3,5],[[],[0],[],[],[2,3],[0,1,2,3,4],[0,1,2,3,4,5],[0,1,2,3,4,5,6]]⟩),(14,⟨[0,1,2,3,5],[[],[0],[],[],[2,3],[0,1,2,3,4],[0,1,2,3,4,5],[0,1,2,3,4,5,6]]⟩),(8,⟨[0,1,2,3,5],[[],[0],[],[],[2,3],[0,1,2,3,4],[0,1,2,3,4,5],[0,1,2,3,4,5,6]]⟩)]}
def aCe(v0 v1:Value)(w:World)(K:Q0):=eL 198 v0 w λt2 w1=>eL 198 v1 w1 λt3 w2=>bO 198 zL2 w2 λt4 w3=>aY 0 t2 λt6=>ldW false 1 t6 w3 λt7=>aY 0 t3 λt8=>ldW false 1 t8 w3 λt9=>eqW .bool false t7 t9 λt10=>aR t10 (aY 0 t2 λt11=>ldW false 1 t11 w3.drew λt12=>ldW true 2 t2 w3.drew λt13=>ldW true 2 t3 w3.drew λt14=>aC P0 224 [t13,t14] w3.drew λt15 w4=>(ldW false 1 t11 w4 λx=>x=t12)/\dD [(.bool false),sN] [(0,1,t12),(1,1,t15)] λc5=>aC P0 197 [(.agg c5.toArray)] w4 λt17 w6=>stW 2 t4 t17 w6 λw7=>ldW true 2 t4 w7 λr8=>K r8 w7) (ldW true 2 t2 w3 λt19=>ldW true 2 t3 w3 λt20=>aC P0 198 [t19,t20] w3 λt21 w9=>aQ .geq t21 (i64 0) λt22=>aR t22 (aY 0 t2 λt23=>ldW false 1 t23 w9.drew λt24=>ldW true 2 t2 w9.drew λt25=>ldW true 2 t3 w9.drew λt26=>aC P0 199 [t25,t26] w9.drew λt27 w10=>(ldW false 1 t23 w10 λx=>x=t24)/\dD [(.bool false),sN] [(0,1,t24),(1,1,t27)] λc11=>aC P0 197 [(.agg c11.toArray)] w10 λt29 w12=>stW 2 t4 t29 w12 λw13=>ldW true 2 t4 w13 λr14=>K r14 w13) (aY 0 t3 λt30=>ldW false 1 t30 w9.drew λt31=>ldW true 2 t3 w9.drew λt32=>ldW true 2 t2 w9.drew λt33=>aC P0 199 [t32,t33] w9.drew λt34 w15=>(ldW false 1 t30 w15 λx=>x=t31)/\dD [(.bool false),sN] [(0,1,t31),(1,1,t34)] λc16=>aC P0 197 [(.agg c16.toArray)] w15 λt36 w17=>stW 2 t4 t36 w17 λw18=>ldW true 2 t4 w18 λr19=>K r19 w18))
theorem Vz{K:Q0}(h:aCe v0 v1 w K):aC P0 185 [v0,v1] w K:=
 tie _ 185 Tryz.f185 Sn _ w K 2 _ rfl mixed Tryz.func185 (by kernel_rfl) (by kernel_rfl) Tryz.call185 h
def Sm:cJ:={js:=[(10,⟨[6],[],6⟩)],ds:=[]}
def aCd(v0:Value)(w:World)(K:Q0):=bO 198 zL2 w λt2 w1=>aC P0 225 [v0,(str [45])] w1 λt11 w2=>dE 0 t11 λt12=>dE 1 t11 λt13=>dD [(.bool false),sN] [(0,1,t13)] λc3=>bO 198 zL2 w2 λt5 w4=>stW 2 t5 (.agg c3.toArray) w4 λw5=>gW t12 λt17=>cZ [t17] w5 λs6 _ w7 L6=>aQ .gtr (s6.getD 0 undef) (i64 0) λt19=>aR t19 (aQ .sub (s6.getD 0 undef) (i64 9) λt25=>Pe (i64 0) t25 λt26=>lN t12 (some t26) (some (s6.getD 0 undef)) λt28=>aC P0 226 [t28,(i64 10),(i64 64)] w7 λt29 w8=>dE 0 t29 λt30=>dE 1 t29 λt31=>aY 1 t5 λt32=>ldW false 1 t32 w8 λt33=>dN 209 1 [(.int .u64 0)] [(0,1,t30)] w8 λt35 w9=>dY P0 (Builtin.append_ #[196,196] 196 #[t33,t35]) w9 λt36 w10=>aY 1 t5 λt37=>stW 1 t37 t36 w10 λw11=>aQ .sub (s6.getD 0 undef) (i64 9) λt21=>L6 [t21] w11) (ldW true 2 t5 w7 λt38=>aC P0 197 [t38] w7 λt39 w12=>stW 2 t2 t39 w12 λw13=>ldW true 2 t2 w13 λr14=>K r14 w13)
theorem Vy{K:Q0}(h:aCd v0 w K):aC P0 186 [v0] w K:=
 tie _ 186 Tryz.f186 Sm _ w K 1 _ rfl mixed Tryz.func186 (by kernel_rfl) (by kernel_rfl) Tryz.call186 h
def Sl:cJ:={js:=[],ds:=[]}
def aCc(v0:Value)(w:World)(K:Q0):=eL 198 v0 w λt1 w1=>bO 198 zL2 w1 λt2 w2=>aY 0 t1 λt3=>ldW false 1 t3 w2 λt4=>unW .not t4 λt5=>aY 1 t1 λt6=>ldW false 1 t6 w2 λt7=>dD [(.bool false),sN] [(0,1,t5),(1,1,t7)] λc3=>aC P0 197 [(.agg c3.toArray)] w2 λt9 w4=>stW 2 t2 t9 w4 λw5=>ldW true 2 t2 w5 λr6=>K r6 w5
theorem Vx{K:Q0}(h:aCc v0 w K):aC P0 187 [v0] w K:=
 tie _ 187 Tryz.f187 Sl _ w K 1 _ rfl mixed Tryz.func187 (by kernel_rfl) (by kernel_rfl) Tryz.call187 h
def Si:cJ:={js:=[],ds:=[]}
def aB9(v0:Value)(w:World)(K:Q0):=aR v0 (K (i64 1) w) (K (i64 0) w)
theorem Vu{K:Q0}(h:aB9 v0 w K):aC P0 191 [v0] w K:=
 tie _ 191 Tryz.f191 Si _ w K 1 _ rfl mixed Tryz.func191 (by kernel_rfl) (by kernel_rfl) Tryz.call191 h
def Sd:cJ:={js:=[(35,⟨[8],[8],23⟩),(27003,⟨[34],[],33⟩),(24,⟨[8,9],[8,9],23⟩),(8,⟨[22],[6,7,8,9],22⟩)],ds:=[]}
def aB5(v0 v1:Value)(w:World)(K:Q0):=eL 198 v0 w λt2 w1=>eL 198 v1 w1 λt3 w2=>bO 198 zL2 w2 λt4 w3=>aY 1 t2 λt10=>ldW false 1 t10 w3 λt11=>dC t11 λt12=>aY 1 t3 λt13=>ldW false 1 t13 w3 λt14=>dC t14 λt15=>aQ .add t12 t15 λt16=>aQ .add t16 (i64 1) λt17=>dY P0 (Instr.makeSlice 196 t17 t17) w3 λt18 w4=>aY 1 t2 λt19=>ldW false 1 t19 w4 λt20=>dC t20 λt21=>cZ [(i64 0)] w4 λs5 _ w6 L5=>aQ .lss (s5.getD 0 undef) t21 λt23=>aR t23 (dV none 1 t20 (s5.getD 0 undef) λt25=>ldW false 1 t25 w6 λt26=>cZ [(.int .u64 0),(i64 0)] w6 λs7 _ w8 L7=>aY 1 t3 λt28=>ldW false 1 t28 w8 λt29=>dC t29 λt30=>aQ .lss (s7.getD 1 undef) t30 λt31=>GdW (isB t31 false) [undef] w8 (λJ9=>aQ .gtr (s7.getD 0 undef) (.int .u64 0) λt34=>J9 [t34] w8) λs9 _ w10=>cP t31 (.bool true) (s9.getD 0 undef) λt35=>aR t35 (aQ .add (s5.getD 0 undef) (s7.getD 1 undef) λt42=>dV none 1 t18 t42 λt43=>ldW false 1 t43 w10 λt44=>aQ .add (s7.getD 0 undef) t44 λt45=>bU (λJ11=>aY 1 t3 λt47=>ldW false 1 t47 w10 λt48=>dC t48 λt49=>aQ .lss (s7.getD 1 undef) t49 λt50=>aR t50 (aY 1 t3 λt53=>ldW false 1 t53 w10 λt54=>dV none 1 t54 (s7.getD 1 undef) λt56=>ldW false 1 t56 w10 λt57=>aQ .mul t26 t57 λt58=>aQ .add t45 t58 λt59=>J11 [t59] w10) (J11 [t45] w10)) λs11 _ w12=>aQ .add (s5.getD 0 undef) (s7.getD 1 undef) λt63=>aQ .rem (s11.getD 0 undef) (.int .u64 1000000000) λt65=>dV none 1 t18 t63 λt66=>stW 1 t66 t65 w12 λw13=>aQ .quo (s11.getD 0 undef) (.int .u64 1000000000) λt68=>aQ .add (s7.getD 1 undef) (i64 1) λt37=>L7 [t68,t37] w13) (aQ .add (s5.getD 0 undef) (i64 1) λt69=>L5 [t69] w10)) (aY 0 t2 λt70=>ldW false 1 t70 w6 λt71=>aY 0 t3 λt72=>ldW false 1 t72 w6 λt73=>eqW .bool true t71 t73 λt74=>dD [(.bool false),sN] [(0,1,t74),(1,1,t18)] λc14=>aC P0 197 [(.agg c14.toArray)] w6 λt77 w15=>stW 2 t4 t77 w15 λw16=>ldW true 2 t4 w16 λr17=>K r17 w16)
theorem Vq{K:Q0}(h:aB5 v0 v1 w K):aC P0 196 [v0,v1] w K:=
 tie _ 196 Tryz.f196 Sd _ w K 2 _ rfl mixed Tryz.func196 (by kernel_rfl) (by kernel_rfl) Tryz.call196 h
def Sc:cJ:={js:=[(14007,⟨[32],[],29⟩),(7010,⟨[16],[],8⟩),(4,⟨[],[],3⟩)],ds:=[]}
def aB4(v0:Value)(w:World)(K:Q0):=eL 198 v0 w λt1 w1=>bO 198 zL2 w1 λt2 w2=>cZ [] w2 λs3 _ w4 L3=>aY 1 t1 λt3=>ldW false 1 t3 w4 λt4=>dC t4 λt5=>aQ .gtr t5 (i64 0) λt6=>GdW (isB t6 true) [undef] w4 (λJ5=>aY 1 t1 λt8=>ldW false 1 t8 w4 λt9=>aY 1 t1 λt10=>ldW false 1 t10 w4 λt11=>dC t11 λt12=>aQ .sub t12 (i64 1) λt13=>dV none 1 t9 t13 λt14=>ldW false 1 t14 w4 λt15=>aQ .eql t15 (.int .u64 0) λt16=>J5 [t16] w4) λs5 _ w6=>cP t6 (s5.getD 0 undef) (.bool false) λt17=>aR t17 (aY 1 t1 λt18=>ldW false 1 t18 w6 λt19=>aY 1 t1 λt20=>ldW false 1 t20 w6 λt21=>dC t21 λt22=>aQ .sub t22 (i64 1) λt23=>Oi 1 t19 none (some t23) none λt24=>aY 1 t1 λt25=>stW 1 t25 t24 w6 λw7=>L3 [] w7) (aY 0 t1 λt26=>ldW false 1 t26 w6 λt27=>GdW (isB t27 true) [undef] w6 (λJ8=>aY 1 t1 λt29=>ldW false 1 t29 w6 λt30=>dC t30 λt31=>aQ .gtr t31 (i64 0) λt32=>J8 [t32] w6) λs8 _ w9=>cP t27 (s8.getD 0 undef) (.bool false) λt33=>aY 0 t1 λt34=>stW 1 t34 t33 w9 λw10=>ldW true 2 t1 w10 λt35=>stW 2 t2 t35 w10 λw11=>ldW true 2 t2 w11 λr12=>K r12 w11)
theorem Vp{K:Q0}(h:aB4 v0 w K):aC P0 197 [v0] w K:=
 tie _ 197 Tryz.f197 Sc _ w K 1 _ rfl mixed Tryz.func197 (by kernel_rfl) (by kernel_rfl) Tryz.call197 h
def Sb:cJ:={js:=[(16,⟨[6],[],4⟩)],ds:=[(26,⟨[0,1,2,3,4,5,6,7,8,9,11],[[],[0],[],[0,1,2],[0,1,2,3],[],[5],[],[5,6,7],[5,6,7,8],[0,1,2,3,4,5,6,7,8,9],[0,1,2,3,4,5,6,7,8,9,10]]⟩)]}
def aB3(v0 v1:Value)(w:World)(K:Q0):=eL 198 v0 w λt2 w1=>eL 198 v1 w1 λt3 w2=>aY 1 t2 λt8=>ldW false 1 t8 w2 λt9=>dC t9 λt10=>aY 1 t3 λt11=>ldW false 1 t11 w2 λt12=>dC t12 λt13=>aC P0 190 [t10,t13] w2 λt14 w3=>aQ .neq t14 (i64 0) λt16=>aR t16 (K t14 w3) (aY 1 t2 λt18=>ldW false 1 t18 w3 λt19=>dC t19 λt20=>aQ .sub t20 (i64 1) λt21=>cZ [t21] w3 λs4 _ w5 L4=>aQ .geq (s4.getD 0 undef) (i64 0) λt23=>aR t23 (aY 1 t2 λt26=>ldW false 1 t26 w5.drew λt27=>dV none 1 t27 (s4.getD 0 undef) λt29=>ldW false 1 t29 w5.drew λt30=>aY 1 t3 λt31=>ldW false 1 t31 w5.drew λt32=>dV none 1 t32 (s4.getD 0 undef) λt34=>ldW false 1 t34 w5.drew λt35=>aC P0 233 [t30,t35] w5.drew λt36 w6=>aQ .neq t36 (i64 0) λt38=>aR t38 (K t36 w6) (aQ .sub (s4.getD 0 undef) (i64 1) λt25=>L4 [t25] w6)) (K (i64 0) w5))
theorem Vo{K:Q0}(h:aB3 v0 v1 w K):aC P0 198 [v0,v1] w K:=
 tie _ 198 Tryz.f198 Sb _ w K 2 _ rfl mixed Tryz.func198 (by kernel_rfl) (by kernel_rfl) Tryz.call198 h
def Sa:cJ:={js:=[(31,⟨[6,8],[6,8],14⟩),(23,⟨[9],[9],14⟩),(10,⟨[5,6,13],[5,6,7,8,9],13⟩)],ds:=[]}
def aB2(v0 v1:Value)(w:World)(K:Q0):=eL 198 v0 w λt2 w1=>eL 198 v1 w1 λt3 w2=>aY 1 t2 λt10=>ldW false 1 t10 w2 λt11=>dC t11 λt12=>cZ [sN,(.int .u64 0),(i64 0)] w2 λs3 _ w4 L3=>aQ .lss (s3.getD 2 undef) t12 λt14=>aR t14 (dV none 1 t11 (s3.getD 2 undef) λt16=>ldW false 1 t16 w4 λt17=>bU (λJ5=>aY 1 t3 λt20=>ldW false 1 t20 w4 λt21=>dC t21 λt22=>aQ .lss (s3.getD 2 undef) t22 λt23=>aR t23 (aY 1 t3 λt25=>ldW false 1 t25 w4 λt26=>dV none 1 t26 (s3.getD 2 undef) λt28=>ldW false 1 t28 w4 λt29=>aQ .add (s3.getD 1 undef) t29 λt30=>J5 [t30] w4) (J5 [(s3.getD 1 undef)] w4)) λs5 _ w6=>bU (λJ7=>aQ .lss t17 (s5.getD 0 undef) λt33=>aR t33 (aQ .add t17 (.int .u64 1000000000) λt35=>J7 [(.int .u64 1),t35] w6) (J7 [(.int .u64 0),t17] w6)) λs7 _ w8=>aQ .sub (s7.getD 1 undef) (s5.getD 0 undef) λt39=>dN 209 1 [(.int .u64 0)] [(0,1,t39)] w8 λt40 w9=>dY P0 (Builtin.append_ #[196,196] 196 #[(s3.getD 0 undef),t40]) w9 λt41 w10=>aQ .add (s3.getD 2 undef) (i64 1) λt42=>L3 [t41,(s7.getD 0 undef),t42] w10) (K (s3.getD 0 undef) w4)
theorem Vn{K:Q0}(h:aB2 v0 v1 w K):aC P0 199 [v0,v1] w K:=
 tie _ 199 Tryz.f199 Sa _ w K 2 _ rfl mixed Tryz.func199 (by kernel_rfl) (by kernel_rfl) Tryz.call199 h
def RU:cJ:={js:=[],ds:=[]}
def aBY(v0:Value)(w:World)(K:Q0):=bO 26 zL0 w λt2 w1=>aC P0 246 [v0] w1 λt4 w2=>dD [(i64 0),(.bool false),(str []),sN,sN] [(0,1,(i64 3)),(2,1,t4)] λc3=>stW 5 t2 (.agg c3.toArray) w2 λw4=>ldW true 5 t2 w4 λr5=>K r5 w4
theorem Vi{K:Q0}(h:aBY v0 w K):aC P0 215 [v0] w K:=
 tie _ 215 Tryz.f215 RU _ w K 1 _ rfl mixed Tryz.func215 (by kernel_rfl) (by kernel_rfl) Tryz.call215 h
def RP:cJ:={js:=[(27,⟨[6],[6],16⟩),(21,⟨[6],[6],16⟩),(10,⟨[5,6,15],[5,6,7],15⟩)],ds:=[]}
def aBW(v0 v1:Value)(w:World)(K:Q0):=eL 198 v0 w λt2 w1=>eL 198 v1 w1 λt3 w2=>aY 1 t2 λt8=>ldW false 1 t8 w2 λt9=>dC t9 λt10=>aY 1 t3 λt11=>ldW false 1 t11 w2 λt12=>dC t12 λt13=>Pe t10 t13 λt14=>cZ [sN,(.int .u64 0),(i64 0)] w2 λs3 _ w4 L3=>aQ .lss (s3.getD 2 undef) t14 λt16=>aR t16 (bU (λJ5=>aY 1 t2 λt19=>ldW false 1 t19 w4 λt20=>dC t20 λt21=>aQ .lss (s3.getD 2 undef) t21 λt22=>aR t22 (aY 1 t2 λt24=>ldW false 1 t24 w4 λt25=>dV none 1 t25 (s3.getD 2 undef) λt27=>ldW false 1 t27 w4 λt28=>aQ .add (s3.getD 1 undef) t28 λt29=>J5 [t29] w4) (J5 [(s3.getD 1 undef)] w4)) λs5 _ w6=>bU (λJ7=>aY 1 t3 λt31=>ldW false 1 t31 w6 λt32=>dC t32 λt33=>aQ .lss (s3.getD 2 undef) t33 λt34=>aR t34 (aY 1 t3 λt36=>ldW false 1 t36 w6 λt37=>dV none 1 t37 (s3.getD 2 undef) λt39=>ldW false 1 t39 w6 λt40=>aQ .add (s5.getD 0 undef) t40 λt41=>J7 [t41] w6) (J7 [(s5.getD 0 undef)] w6)) λs7 _ w8=>aQ .rem (s7.getD 0 undef) (.int .u64 1000000000) λt44=>dN 209 1 [(.int .u64 0)] [(0,1,t44)] w8 λt45 w9=>dY P0 (Builtin.append_ #[196,196] 196 #[(s3.getD 0 undef),t45]) w9 λt46 w10=>aQ .quo (s7.getD 0 undef) (.int .u64 1000000000) λt48=>aQ .add (s3.getD 2 undef) (i64 1) λt49=>L3 [t46,t48,t49] w10) (dN 209 1 [(.int .u64 0)] [(0,1,(s3.getD 1 undef))] w4 λt52 w11=>dY P0 (Builtin.append_ #[196,196] 196 #[(s3.getD 0 undef),t52]) w11 λt53 w12=>K t53 w12)
theorem Vg{K:Q0}(h:aBW v0 v1 w K):aC P0 224 [v0,v1] w K:=
 tie _ 224 Tryz.f224 RP _ w K 2 _ rfl mixed Tryz.func224 (by kernel_rfl) (by kernel_rfl) Tryz.call224 h
def RD:cJ:={js:=[],ds:=[]}
def aBP(v0:Value)(w:World)(K:Q0):=aC P0 269 [v0] w λt4 w1=>K t4 w1
theorem UV{K:Q0}(h:aBP v0 w K):aC P0 246 [v0] w K:=
 tie _ 246 Tryz.f246 RD _ w K 1 _ rfl mixed Tryz.func246 (by kernel_rfl) (by kernel_rfl) Tryz.call246 h
def XF:cJ:={js:=[],ds:=[]}
def W94(v0 v1:Value)(w:World)(K:Q0):=bO 26 zL0 w λt4 w1=>aC P0 124 [v1,(.func (.func 125) #[] #[])] w1 λt11 w2=>aR t11 (dD [(i64 0),(.bool false),(str []),sN,sN] [] λc3=>stW 5 t4 (.agg c3.toArray) w2 λw4=>ldW true 5 t4 w4 λr5=>K (.tuple #[r5,(i64 1)]) w4) (aC P0 126 [] w2 λt14 w6=>mS P0 (Instr.lookup 164 t14 v0 true) w6 λt16=>dE 0 t16 λt17=>dE 1 t16 λt18=>bO 162 [(str []),(i64 0),.nilFunc] w6 λt6 w7=>stW 3 t6 t17 w7 λw8=>unW .not t18 λt20=>aR t20 (dD [(i64 0),(.bool false),(str []),sN,sN] [] λc9=>stW 5 t4 (.agg c9.toArray) w8 λw10=>ldW true 5 t4 w10 λr11=>K (.tuple #[r11,(i64 70)]) w10) (aC P0 124 [v1,(.func (.func 127) #[] #[])] w8 λt23 w12=>aR t23 (aC P0 97 [] w12 λt24 w13=>stW 5 t4 t24 w13 λw14=>ldW true 5 t4 w14 λr15=>K (.tuple #[r15,(i64 0)]) w14) (ldW true 3 t6 w12 λt25=>aC P0 128 [t25,v1] w12 λt27 w16=>unW .not t27 λt28=>aR t28 (dD [(i64 0),(.bool false),(str []),sN,sN] [] λc17=>stW 5 t4 (.agg c17.toArray) w16 λw18=>ldW true 5 t4 w18 λr19=>K (.tuple #[r19,(i64 71)]) w18) (aY 2 t6 λt31=>ldW false 1 t31 w16 λt32=>nU P0 t32 [v1] w16 λt34 w20=>dE 0 t34 λt35=>dE 1 t34 λt36=>bO 26 zL0 w20 λt8 w21=>stW 5 t8 t35 w21 λw22=>unW .not t36 λt38=>aR t38 (dD [(i64 0),(.bool false),(str []),sN,sN] [] λc23=>stW 5 t4 (.agg c23.toArray) w22 λw24=>ldW true 5 t4 w24 λr25=>K (.tuple #[r25,(i64 71)]) w24) (ldW true 5 t8 w22 λt40=>aC P0 61 [t40] w22 λt41 w26=>unW .not t41 λt42=>aR t42 (dD [(i64 0),(.bool false),(str []),sN,sN] [] λc27=>stW 5 t4 (.agg c27.toArray) w26 λw28=>ldW true 5 t4 w28 λr29=>K (.tuple #[r29,(i64 3)]) w28) (ldW true 5 t8 w26 λt44=>stW 5 t4 t44 w26 λw30=>ldW true 5 t4 w30 λr31=>K (.tuple #[r31,(i64 0)]) w30))))))
theorem Zw{K:Q0}(h:W94 v0 v1 w K):aC P0 94 [v0,v1] w K:=
 tie _ 94 Tryz.f94 XF _ w K 2 _ rfl mixed Tryz.func94 (by kernel_rfl) (by kernel_rfl) Tryz.call94 h
def SP:cJ:={js:=[],ds:=[]}
def aCB(v0:Value)(w:World)(K:Q0):=eL 26 v0 w λt1 w1=>ldW true 5 t1 w1 λt3=>aC P0 61 [t3] w1 λt4 w2=>unW .not t4 λt5=>K t5 w2
theorem VZ{K:Q0}(h:aCB v0 w K):aC P0 125 [v0] w K:=
 tie _ 125 Tryz.f125 SP _ w K 1 _ rfl mixed Tryz.func125 (by kernel_rfl) (by kernel_rfl) Tryz.call125 h
def SO:cJ:={js:=[],ds:=[]}
def aCA(w:World)(K:Q0):=dY P0 (Instr.makeMap 164 none) w λt1 w1=>dD [(str []),(i64 0),.nilFunc] [(0,1,(str [110])),(1,1,(i64 0)),(2,1,(.func (.func 159) #[] #[]))] λc2=>mR P0 (Instr.mapUpdate 164 t1 (str [97,98,115]) (.agg c2.toArray)) w1 λw3=>dD [(str []),(i64 0),.nilFunc] [(0,1,(str [108,46])),(1,1,(i64 0)),(2,1,(.func (.func 160) #[] #[]))] λc4=>mR P0 (Instr.mapUpdate 164 t1 (str [99,111,110,99,97,116]) (.agg c4.toArray)) w3 λw5=>dD [(str []),(i64 0),.nilFunc] [(0,1,(str [108,118])),(1,1,(i64 0)),(2,1,(.func (.func 161) #[] #[]))] λc6=>mR P0 (Instr.mapUpdate 164 t1 (str [99,111,110,116,97,105,110,115]) (.agg c6.toArray)) w5 λw7=>dD [(str []),(i64 0),.nilFunc] [(0,1,(str [115,108])),(1,1,(i64 0)),(2,1,(.func (.func 162) #[] #[]))] λc8=>mR P0 (Instr.mapUpdate 164 t1 (str [106,111,105,110]) (.agg c8.toArray)) w7 λw9=>dD [(str []),(i64 0),.nilFunc] [(0,1,(str [111])),(1,1,(i64 0)),(2,1,(.func (.func 163) #[] #[]))] λc10=>mR P0 (Instr.mapUpdate 164 t1 (str [107,101,121,115]) (.agg c10.toArray)) w9 λw11=>dD [(str []),(i64 0),.nilFunc] [(0,1,(str [118])),(1,1,(i64 0)),(2,1,(.func (.func 165) #[] #[]))] λc12=>mR P0 (Instr.mapUpdate 164 t1 (str [108,101,110,103,116,104]) (.agg c12.toArray)) w11 λw13=>dD [(str []),(i64 0),.nilFunc] [(0,1,(str [111,115,118])),(1,1,(i64 0)),(2,1,(.func (.func 166) #[] #[]))] λc14=>mR P0 (Instr.mapUpdate 164 t1 (str [108,111,111,107,117,112]) (.agg c14.toArray)) w13 λw15=>dD [(str []),(i64 0),.nilFunc] [(0,1,(str [115])),(1,1,(i64 0)),(2,1,(.func (.func 167) #[] #[]))] λc16=>mR P0 (Instr.mapUpdate 164 t1 (str [108,111,119,101,114]) (.agg c16.toArray)) w15 λw17=>dD [(str []),(i64 0),.nilFunc] [(0,1,(str [110,46])),(1,1,(i64 1)),(2,1,(.func (.func 169) #[] #[]))] λc18=>mR P0 (Instr.mapUpdate 164 t1 (str [109,97,120]) (.agg c18.toArray)) w17 λw19=>dD [(str []),(i64 0),.nilFunc] [(0,1,(str [111,46])),(1,1,(i64 0)),(2,1,(.func (.func 171) #[] #[]))] λc20=>mR P0 (Instr.mapUpdate 164 t1 (str [109,101,114,103,101]) (.agg c20.toArray)) w19 λw21=>dD [(str []),(i64 0),.nilFunc] [(0,1,(str [110,46])),(1,1,(i64 1)),(2,1,(.func (.func 172) #[] #[]))] λc22=>mR P0 (Instr.mapUpdate 164 t1 (str [109,105,110]) (.agg c22.toArray)) w21 λw23=>dD [(str []),(i64 0),.nilFunc] [(0,1,(str [110])),(1,1,(i64 0)),(2,1,(.func (.func 173) #[] #[]))] λc24=>mR P0 (Instr.mapUpdate 164 t1 (str [114,97,110,103,101]) (.agg c24.toArray)) w23 λw25=>dD [(str []),(i64 0),.nilFunc] [(0,1,(str [118])),(1,1,(i64 0)),(2,1,(.func (.func 174) #[] #[]))] λc26=>mR P0 (Instr.mapUpdate 164 t1 (str [114,101,118,101,114,115,101]) (.agg c26.toArray)) w25 λw27=>dD [(str []),(i64 0),.nilFunc] [(0,1,(str [115,115])),(1,1,(i64 0)),(2,1,(.func (.func 175) #[] #[]))] λc28=>mR P0 (Instr.mapUpdate 164 t1 (str [115,112,108,105,116]) (.agg c28.toArray)) w27 λw29=>dD [(str []),(i64 0),.nilFunc] [(0,1,(str [115,110,110])),(1,1,(i64 0)),(2,1,(.func (.func 176) #[] #[]))] λc30=>mR P0 (Instr.mapUpdate 164 t1 (str [115,117,98,115,116,114]) (.agg c30.toArray)) w29 λw31=>dD [(str []),(i64 0),.nilFunc] [(0,1,(str [118])),(1,1,(i64 0)),(2,1,(.func (.func 177) #[] #[]))] λc32=>mR P0 (Instr.mapUpdate 164 t1 (str [116,111,105,110,116]) (.agg c32.toArray)) w31 λw33=>dD [(str []),(i64 0),.nilFunc] [(0,1,(str [118])),(1,1,(i64 0)),(2,1,(.func (.func 178) #[] #[]))] λc34=>mR P0 (Instr.mapUpdate 164 t1 (str [116,111,115,116,114,105,110,103]) (.agg c34.toArray)) w33 λw35=>dD [(str []),(i64 0),.nilFunc] [(0,1,(str [115])),(1,1,(i64 0)),(2,1,(.func (.func 179) #[] #[]))] λc36=>mR P0 (Instr.mapUpdate 164 t1 (str [117,112,112,101,114]) (.agg c36.toArray)) w35 λw37=>dD [(str []),(i64 0),.nilFunc] [(0,1,(str [111])),(1,1,(i64 0)),(2,1,(.func (.func 180) #[] #[]))] λc38=>mR P0 (Instr.mapUpdate 164 t1 (str [118,97,108,117,101,115]) (.agg c38.toArray)) w37 λw39=>K t1 w39
theorem VY{K:Q0}(h:aCA w K):aC P0 126 [] w K:=
 tie _ 126 Tryz.f126 SO _ w K 0 _ rfl mixed Tryz.func126 (by kernel_rfl) (by kernel_rfl) Tryz.call126 h
def SN:cJ:={js:=[],ds:=[]}
def aCz(v0:Value)(w:World)(K:Q0):=eL 26 v0 w λt1 w1=>ldW true 5 t1 w1 λt3=>aC P0 96 [t3] w1 λt4 w2=>unW .not t4 λt5=>K t5 w2
theorem VX{K:Q0}(h:aCz v0 w K):aC P0 127 [v0] w K:=
 tie _ 127 Tryz.f127 SN _ w K 1 _ rfl mixed Tryz.func127 (by kernel_rfl) (by kernel_rfl) Tryz.call127 h
def SL:cJ:={js:=[(36005,⟨[50],[],47⟩),(22,⟨[35],[4,7,8,9],35⟩),(12006,⟨[31],[],27⟩),(4,⟨[5],[],3⟩)],ds:=[]}
def aCy(v0 v1:Value)(w:World)(K:Q0):=eL 162 v0 w λt2 w1=>aY 0 t2 λt11=>ldW false 1 t11 w1 λt12=>aC P0 182 [t12,(str [46])] w1 λt13 w2=>dE 0 t13 λt14=>dE 1 t13 λt15=>bU (λJ3=>aR t15 (dC v1 λt19=>aC P0 183 [t14,t19] w2 λt20 w4=>J3 [t20] w4) (J3 [t14] w2)) λs3 _ w5=>dC v1 λt22=>gW (s3.getD 0 undef) λt24=>aQ .neq t22 t24 λt25=>GdW (isB t25 false) [undef] w5 (λJ6=>dC v1 λt28=>aY 1 t2 λt29=>ldW false 1 t29 w5 λt30=>aQ .lss t28 t30 λt31=>J6 [t31] w5) λs6 _ w7=>cP t25 (.bool true) (s6.getD 0 undef) λt32=>aR t32 (K (.bool false) w7) (dC v1 λt34=>cZ [(i64 0)] w7 λs8 _ w9 L8=>aQ .lss (s8.getD 0 undef) t34 λt36=>aR t36 (dV none 5 v1 (s8.getD 0 undef) λt38=>ldW true 5 t38 w9 λt39=>bO 26 zL0 w9 λt8 w10=>stW 5 t8 t39 w10 λw11=>oO (s3.getD 0 undef) (s8.getD 0 undef) λt42=>aC P0 184 [t42] w11 λt43 w12=>aQ .geq t43 (i64 0) λt45=>GdW (isB t45 true) [undef] w12 (λJ13=>aY 0 t8 λt47=>ldW false 1 t47 w12 λt48=>aQ .neq t48 t43 λt50=>J13 [t50] w12) λs13 _ w14=>cP t45 (s13.getD 0 undef) (.bool false) λt51=>aR t51 (K (.bool false) w14) (aQ .add (s8.getD 0 undef) (i64 1) λt52=>L8 [t52] w14)) (K (.bool true) w9))
theorem VW{K:Q0}(h:aCy v0 v1 w K):aC P0 128 [v0,v1] w K:=
 tie _ 128 Tryz.f128 SL _ w K 2 _ rfl mixed Tryz.func128 (by kernel_rfl) (by kernel_rfl) Tryz.call128 h
def Ss:cJ:={js:=[(12,⟨[17],[],3⟩)],ds:=[]}
def aCh(v0:Value)(w:World)(K:Q0):=bO 26 zL0 w λt2 w1=>dV none 5 v0 (i64 0) λt5=>aY 0 t5 λt6=>ldW false 1 t6 w1 λt7=>aQ .eql t7 (i64 4) λt9=>aR t9 (dV none 5 v0 (i64 0) λt11=>aY 2 t11 λt12=>ldW false 1 t12 w1 λt13=>aC P0 216 [t13] w1 λt14 w2=>dC t14 λt15=>aC P0 215 [t15] w2 λt16 w3=>stW 5 t2 t16 w3 λw4=>ldW true 5 t2 w4 λr5=>K (.tuple #[r5,(.bool true)]) w4) (bU (λJ6=>aQ .eql t7 (i64 5) λt18=>aR t18 (J6 [t18] w1) (aQ .eql t7 (i64 6) λt19=>J6 [t19] w1)) λs6 _ w7=>aR (s6.getD 0 undef) (dV none 5 v0 (i64 0) λt21=>aY 3 t21 λt22=>ldW false 1 t22 w7 λt23=>dC t23 λt24=>aC P0 215 [t24] w7 λt25 w8=>stW 5 t2 t25 w8 λw9=>ldW true 5 t2 w9 λr10=>K (.tuple #[r10,(.bool true)]) w9) (dD [(i64 0),(.bool false),(str []),sN,sN] [] λc11=>stW 5 t2 (.agg c11.toArray) w7 λw12=>ldW true 5 t2 w12 λr13=>K (.tuple #[r13,(.bool false)]) w12))
theorem VC{K:Q0}(h:aCh v0 w K):aC P0 165 [v0] w K:=
 tie _ 165 Tryz.f165 Ss _ w K 1 _ rfl mixed Tryz.func165 (by kernel_rfl) (by kernel_rfl) Tryz.call165 h
def Sr:cJ:={js:=[(18,⟨[29],[7],29⟩),(6003,⟨[24],[],23⟩),(6007,⟨[20],[],19⟩)],ds:=[(29,⟨[0,1,2,6],[[],[0],[],[2],[2,3],[0,1,2,3,4],[0,1,2,3,4,5],[0,1,2,3,4,5,6]]⟩)]}
def aCg(v0:Value)(w:World)(K:Q0):=bO 26 zL0 w λt2 w1=>dV none 5 v0 (i64 0) λt10=>aY 2 t10 λt11=>ldW false 1 t11 w1 λt12=>aC P0 123 [t12] w1 λt13 w2=>dE 0 t13 λt14=>dE 1 t13 λt15=>unW .not t15 λt17=>GdW (isB t17 false) [undef] w2 (λJ3=>aQ .lss t14 (i64 0) λt20=>J3 [t20] w2) λs3 _ w4=>cP t17 (.bool true) (s3.getD 0 undef) λt21=>GdW (isB t21 false) [undef] w4 (λJ5=>aQ .gtr t14 (i64 32) λt24=>J5 [t24] w4) λs5 _ w6=>cP t21 (.bool true) (s5.getD 0 undef) λt25=>aR t25 (dD [(i64 0),(.bool false),(str []),sN,sN] [] λc7=>stW 5 t2 (.agg c7.toArray) w6 λw8=>ldW true 5 t2 w8 λr9=>K (.tuple #[r9,(.bool false)]) w8) (dD [(i64 0),(.bool false),(str []),sN,sN] [(0,1,(i64 5))] λc10=>bO 26 zL0 w6 λt6 w11=>stW 5 t6 (.agg c10.toArray) w11 λw12=>cZ [(i64 0)] w12 λs13 _ w14 L13=>aQ .lss (s13.getD 0 undef) t14 λt30=>aR t30 (aY 3 t6 λt32=>ldW false 1 t32 w14.drew λt33=>aC P0 215 [(s13.getD 0 undef)] w14.drew λt35 w15=>(ldW false 1 t32 w15 λx=>x=t33)/\dN 26 1 [(i64 0),(.bool false),(str []),sN,sN] [(0,5,t35)] w15 λt36 w16=>(ldW false 1 t32 w16 λx=>x=t33)/\dY P0 (Builtin.append_ #[23,23] 23 #[t33,t36]) w16 λt37 w17=>aY 3 t6 λt38=>stW 1 t38 t37 w17 λw18=>aQ .add (s13.getD 0 undef) (i64 1) λt39=>L13 [t39] w18) (ldW true 5 t6 w14 λt40=>stW 5 t2 t40 w14 λw19=>ldW true 5 t2 w19 λr20=>K (.tuple #[r20,(.bool true)]) w19))
theorem VB{K:Q0}(h:aCg v0 w K):aC P0 173 [v0] w K:=
 tie _ 173 Tryz.f173 Sr _ w K 1 _ rfl mixed Tryz.func173 (by kernel_rfl) (by kernel_rfl) Tryz.call173 h
def Sq:cJ:={js:=[],ds:=[]}
def aCf(v0:Value)(w:World)(K:Q0):=aQ .eql v0 (.int .u8 110) λt5=>aR t5 (K (i64 3) w) (aQ .eql v0 (.int .u8 115) λt7=>aR t7 (K (i64 4) w) (aQ .eql v0 (.int .u8 108) λt9=>aR t9 (K (i64 5) w) (aQ .eql v0 (.int .u8 111) λt11=>aR t11 (K (i64 6) w) (K (.int .i64 (-1)) w))))
theorem VA{K:Q0}(h:aCf v0 w K):aC P0 184 [v0] w K:=
 tie _ 184 Tryz.f184 Sq _ w K 1 _ rfl mixed Tryz.func184 (by kernel_rfl) (by kernel_rfl) Tryz.call184 h
def RQ:cJ:={js:=[(10,⟨[3,4],[3,4,5],8⟩)],ds:=[]}
def aBX(v0:Value)(w:World)(K:Q0):=dY P0 (Instr.range 9 v0) w λt7 w1=>cZ [sN,(i64 0)] w1 λs2 _ w3 L2=>dY P0 (Instr.next t7 true 0) w3 λt8 w4=>dE 0 t8 λt9=>aR t9 (dE 1 t8 λt10=>aQ .gtr t10 (i64 0) λt12=>aR t12 (lN v0 (some (s2.getD 1 undef)) (some t10) λt17=>dN 9 1 [(str [])] [(0,1,t17)] w4 λt18 w5=>dY P0 (Builtin.append_ #[24,24] 24 #[(s2.getD 0 undef),t18]) w5 λt19 w6=>L2 [t19,t10] w6) (L2 [(s2.getD 0 undef),(s2.getD 1 undef)] w4)) (aQ .neq v0 (str []) λt22=>aR t22 (lN v0 (some (s2.getD 1 undef)) none λt26=>dN 9 1 [(str [])] [(0,1,t26)] w4 λt27 w7=>dY P0 (Builtin.append_ #[24,24] 24 #[(s2.getD 0 undef),t27]) w7 λt28 w8=>K t28 w8) (K (s2.getD 0 undef) w4))
theorem Vh{K:Q0}(h:aBX v0 w K):aC P0 216 [v0] w K:=
 tie _ 216 Tryz.f216 RQ _ w K 1 _ rfl mixed Tryz.func216 (by kernel_rfl) (by kernel_rfl) Tryz.call216 h
def W3(v0 v1 v2:Value)(w:World)(K:Q0):=eL 26 v1 w λt4 w1=>aC P0 9 [] w1 λt16 w2=>unW .not t16 λt17=>aR t17 (K (.bool false) w2) (gW v0 λt21=>TI t21 (i64 3000) λt22=>lN v0 none (some t22) λt23=>aC P0 10 [t23] w2 λt24 w3=>dE 0 t24 λt25=>dE 1 t24 λt26=>bO 32 [sN,sN,sN] w3 λt7 w4=>stW 3 t7 t25 w4 λw5=>eqW .ptr true t26 (.pointer none) λt28=>GdW (isB t28 false) [undef] w5 (λJ6=>ldW true 5 t4 w5 λt30=>aC P0 11 [t30] w5 λt31 w7=>unW .not t31 λt32=>J6 [t32] w7) λs6 _ w8=>cP t28 (.bool true) (s6.getD 0 undef) λt33=>GdW (isB t33 false) [undef] w8 (λJ9=>gW v2 λt36=>aQ .gtr t36 (i64 16384) λt37=>J9 [t37] w8) λs9 _ w10=>cP t33 (.bool true) (s9.getD 0 undef) λt38=>aR t38 (K (.bool true) w10) (bU (λJ11=>ldW true 5 t4 w10.drew λt39=>(aC P0 13 [] w10.drew λt41 w12=>(ldW true 5 t4 w12 λx=>x=t39)/\(aC P0 12 [t39,v2,t41] w12 λt42 w13=>bO 26 zL0 w13 λt9 w14=>stW 5 t9 t42 w14 λw15=>J11 [t9] w15)/\(bO 26 zL0 w12 λt9 w16=>(ldW true 5 t4 w16 λx=>x=t39)/\aC P0 12 [t39,v2,t41] w16 λt42 w17=>stW 5 t9 t42 w17 λw18=>J11 [t9] w18))/\(bO 26 zL0 w10.drew λt9 w19=>(ldW true 5 t4 w19 λx=>x=t39)/\aC P0 13 [] w19 λt41 w20=>(ldW true 5 t4 w20 λx=>x=t39)/\aC P0 12 [t39,v2,t41] w20 λt42 w21=>stW 5 t9 t42 w21 λw22=>J11 [t9] w22)) λs11 _ w23=>cZ [(i64 0)] w23 λs24 _ w25 L24=>aY 0 t7 λt44=>ldW false 1 t44 w25 λt45=>dC t45 λt46=>aQ .lss (s24.getD 0 undef) t46 λt47=>GdW (isB t47 true) [undef] w25 (λJ26=>aQ .lss (s24.getD 0 undef) (i64 60) λt50=>J26 [t50] w25) λs26 _ w27=>cP t47 (s26.getD 0 undef) (.bool false) λt51=>aR t51 (bU (λJ28=>ldW true 3 t7 w27 λt55=>ldW true 5 (s11.getD 0 undef) w27 λt57=>aC P0 14 [t55,(s24.getD 0 undef),t57] w27 λt58 w29=>dE 0 t58 λt59=>dE 1 t58 λt60=>bO 26 zL0 w29 λt11 w30=>stW 5 t11 t59 w30 λw31=>eqW .ptr true t60 (.pointer none) λt62=>GdW (isB t62 false) [undef] w31 (λJ32=>ldW true 5 t11 w31 λt64=>aC P0 15 [t64] w31 λt65 w33=>unW .not t65 λt66=>J32 [t66] w33) λs32 _ w34=>cP t62 (.bool true) (s32.getD 0 undef) λt67=>aR t67 (J28 [] w34) (ldW true 5 t4 w34 λt69=>aC P0 16 [t69,v2] w34 λt71 w35=>dE 0 t71 λt72=>dE 1 t71 λt73=>bO 26 zL0 w35 λt13 w36=>stW 5 t13 t72 w36 λw37=>unW .not t73 λt75=>aR t75 (J28 [] w37) (ldW true 3 t7 w37 λt77=>ldW true 5 t4 w37 λt79=>aC P0 14 [t77,(s24.getD 0 undef),t79] w37 λt80 w38=>dE 0 t80 λt81=>dE 1 t80 λt82=>bO 26 zL0 w38 λt15 w39=>stW 5 t15 t81 w39 λw40=>eqW .ptr false t82 (.pointer none) λt84=>GdW (isB t84 true) [undef] w40 (λJ41=>ldW true 5 t11 w40 λt86=>ldW true 5 t15 w40 λt87=>aC P0 17 [t86,t87] w40 λt88 w42=>unW .not t88 λt89=>J41 [t89] w42) λs41 _ w43=>cP t84 (s41.getD 0 undef) (.bool false) λt90=>aR t90 (K (.bool false) w43) (J28 [] w43)))) λs28 _ w44=>aQ .add (s24.getD 0 undef) (i64 1) λt53=>L24 [t53] w44) (K (.bool true) w27)))
def aA3:cJ:={js:=[(35007,⟨[48],[],44⟩),(31007,⟨[39],[],35⟩)],ds:=[]}
def W6(v0:Value)(w:World)(K:Q0):=aC P0 9 [] w λt8 w1=>unW .not t8 λt9=>aR t9 (K (.bool false) w1) (rX .u64 v0 λt11=>aQ .rem t11 (.int .u64 33) λt12=>rX .i64 t12 λt13=>aC P0 22 [t13] w1 λt15 w2=>aQ .add (str [91,102,111,114,32,97,32,105,110,32,114,97,110,103,101,40]) t15 λt16=>aQ .add t16 (str [41,32,58,32,108,101,110,103,116,104,40,91,102,111,114,32,98,32,105,110,32,114,97,110,103,101,40,51,50,41,32,58,32,108,101,110,103,116,104,40,91,102,111,114,32,99,32,105,110,32,114,97,110,103,101,40,51,50,41,32,58,32,99,93,41,93,41,93]) λt17=>dD [(i64 0),(.bool false),(str []),sN,sN] [(0,1,(i64 6))] λc3=>aC P0 21 [t17,(.agg c3.toArray)] w2 λt21 w4=>dE 0 t21 λt22=>dE 1 t21 λt23=>dE 2 t21 λt24=>bO 26 zL0 w4 λt4 w5=>stW 5 t4 t22 w5 λw6=>aQ .mul t13 (i64 1156) λt26=>aQ .add (i64 3) t26 λt27=>unW .not t24 λt29=>aR t29 (K (.bool false) w6) (aQ .leq t27 (i64 20000) λt31=>aR t31 (eqW .ptr false t23 (.pointer none) λt33=>GdW (isB t33 true) [undef] w6 (λJ7=>aY 3 t4 λt35=>ldW false 1 t35 w6 λt36=>dC t36 λt37=>aQ .eql t37 t13 λt39=>J7 [t39] w6) λs7 _ w8=>cP t33 (s7.getD 0 undef) (.bool false) λt40=>K t40 w8) (eqW .ptr true t23 (.pointer none) λt42=>GdW (isB t42 true) [undef] w6 (λJ9=>dJ t23 λt45=>aY 0 t45 λt46=>ldW false 1 t46 w6 λt47=>aQ .eql t47 (i64 3) λt48=>J9 [t48] w6) λs9 _ w10=>cP t42 (s9.getD 0 undef) (.bool false) λt49=>K t49 w10)))
theorem aBB{K:Q0}(h:W6 v0 w K):aC P0 6 [v0] w K:=
 tie _ 6 Tryz.f6 aA3 _ w K 1 _ rfl mixed Tryz.func6 (by kernel_rfl) (by kernel_rfl) Tryz.call6 h
def aA2:cJ:={js:=[],ds:=[(7,⟨[0,3,4,7,8,9,10,11,12,14,15],[[],[],[0,1],[0,1,2],[0,1,2,3],[0,1,2,3],[0,1,2,3,4,5],[0,1,2,3,4,5,6],[0,1,2,3,4,5,6,7],[0,1,2,3,4,5,6,7,8],[0,1,2,3,4,5,6,7,8,9],[0,1,2,3,4,5,6,7,8,9,10],[0,1,2,3,4,5,6,7,8,9,10,11],[0,1,2,3,4,5,6,7,8,9,10,11,12],[0,1,2,3,4,5,6,7,8,9,10,11,12,13],[0,1,2,3,4,5,6,7,8,9,10,11,12,13,14]]⟩)]}
def W9(w:World)(K:Q0):=dD [(i64 0),(.bool false),(str []),sN,sN] [(0,1,(i64 6))] λc1=>bO 26 zL0 w λt1 w2=>stW 5 t1 (.agg c1.toArray) w2 λw3=>ldW true 5 t1 w3 λt7=>aC P0 21 [(str [49,32,47,32,48]),t7] w3 λt8 w4=>dE 0 t8 λt9=>dE 1 t8 λt10=>dE 2 t8 λt11=>bO 26 zL0 w4 λt2 w5=>stW 5 t2 t9 w5 λw6=>ldW true 5 t1 w6.drew λt12=>aC P0 18 [(i64 7)] w6.drew λt13 w7=>(ldW true 5 t1 w7 λx=>x=t12)/\aC P0 20 [(str [49,32,43,32,50,32,42,32,51]),t12,t13] w7 λt14 w8=>GqW (isB t14 true) (λk9=>ldW true 5 t1 w8 k9) λt16=>GeW (isB t14 true) w8 (λk10=>aC P0 24 [(str [97,49,116,114,117,101])] w8 k10) λt17 w11=>((isB t14 true)=true->ldW true 5 t1 w11 λx=>x=t16)/\GeW (isB t14 true) w11 (λk12=>aC P0 20 [(str [34,97,36,123,49,125,36,123,116,114,117,101,125,34]),t16,t17] w11 k12) λt18 w13=>cP t14 t18 (.bool false) λt19=>GqW (isB t19 true) (λk14=>k14 t11) λt21=>cP t19 t21 (.bool false) λt22=>GqW (isB t22 true) (λk15=>k15 t10) λt24=>GeW (isB t22 true) w13 (λk16=>aC P0 25 [t24,(i64 10),(i64 12)] w13 k16) λt25 w17=>cP t22 t25 (.bool false) λt26=>K t26 w17
theorem aBA{K:Q0}(h:W9 w K):aC P0 9 [] w K:=
 tie _ 9 Tryz.f9 aA2 _ w K 0 _ rfl mixed Tryz.func9 (by kernel_rfl) (by kernel_rfl) Tryz.call9 h
def JS:cJ:={js:=[(10,⟨[19],[9,10],19⟩)],ds:=[(21,⟨[0,1,2,3,4,5,6,7,8,9],[[],[0],[0,1],[0,1,2],[],[],[5],[],[5,6,7],[5,6,7,8],[0,1,2,3,4,5,6,7,8,9]]⟩)]}
def W14(v0 v1 v2:Value)(w:World)(K:Q0):=
 eL 32 v0 w λt3 w1=>
 eL 26 v2 w1 λt5 w2=>
 bO 26 zL0 w2 λt6 w3=>
 bO 33 [(.pointer none)] w3 λt7 w4=>
 letI:HX:=⟨λch x5=>vV P0 34 [t6,t7] (.panicking ch) x5 λw5=>
 ldW true 5 t6 w5 λr6=>
 ldW false 1 t7 w5 λr7=>
 K (.tuple #[r6,r7]) w5⟩
 ldW true 3 t3 w4 λt12=>
 dY P0 (Instr.makeMap 79 none) w4 λt13 w8=>
 dD [sN,sN,sN,(.map none),(i64 0)] [(0,3,t12),(3,1,t13),(4,1,(i64 20000))] λc9=>
 eL 81 (.agg c9.toArray) w8 λt15 w10=>
 aY 4 t5 λt16=>
 ldW false 1 t16 w10 λt17=>
 dC t17 λt18=>
 cZ [(i64 0)] w10 λs11 _ w12 L11=>
 aQ .lss (s11.getD 0 undef) t18 λt20=>
 aR t20 (
 dV none 1 t17 (s11.getD 0 undef) λt22=>
 ldW false 1 t22 w12 λt23=>
 dJ t15 λt25=>
 aY 3 t25 λt26=>
 ldW false 1 t26 w12.drew λt27=>
 aY 3 t5 λt29=>
 ldW false 1 t29 w12.drew λt30=>
 dV none 5 t30 (s11.getD 0 undef) λt32=>
 ldW true 5 t32 w12.drew λt33=>
 mR P0 (Instr.mapUpdate 79 t27 t23 t33) w12.drew λw13=>
 aQ .add (s11.getD 0 undef) (i64 1) λt34=>
 L11 [t34] w13) (
 aC P0 35 [t15,v1] w12 λt37 w14=>
 stW 5 t6 t37 w14 λw15=>
 stW 1 t7 (.pointer none) w15 λw16=>
 vV P0 34 [t6,t7] .returning w16 λw17=>
 ldW true 5 t6 w17 λr18=>
 ldW false 1 t7 w17 λr19=>
 K (.tuple #[r18,r19]) w17)
theorem aAA(v0 v1 v2:Value)(w:World)(K:Q0):PN P0 Tryz.f14 JS 1 [v0,v1,v2] w (Et K)=W14 v0 v1 v2 w K:=by kernel_rfl
theorem VK:As P0 Tryz.f14 JS 8 34 1 3=true:=by kernel_rfl
theorem aAz{K:Q0}(h:W14 v0 v1 v2 w K):aC P0 14 [v0,v1,v2] w K:=
 aAR P0 14 Tryz.f14 JS [v0,v1,v2] w K 8 34 1 3 (W14 v0 v1 v2 w K) rfl mixed Tryz.func14 VK (aAA v0 v1 v2 w K) Tryz.call14 Tryz.call34 h
def YF:cJ:={js:=[(5005,⟨[25],[],23⟩),(5009,⟨[20],[],19⟩)],ds:=[]}
def W20(v0 v1 v2:Value)(w:World)(K:Q0):=eL 26 v1 w λt4 w1=>eL 26 v2 w1 λt5 w2=>ldW true 5 t4 w2 λt12=>aC P0 21 [v0,t12] w2 λt13 w3=>dE 0 t13 λt14=>dE 1 t13 λt15=>dE 2 t13 λt16=>bO 26 zL0 w3 λt7 w4=>stW 5 t7 t14 w4 λw5=>GdW (isB t16 true) [undef] w5 (λJ6=>eqW .ptr false t15 (.pointer none) λt20=>J6 [t20] w5) λs6 _ w7=>cP t16 (s6.getD 0 undef) (.bool false) λt21=>GdW (isB t21 true) [undef] w7 (λJ8=>ldW true 5 t7 w7 λt23=>ldW true 5 t5 w7 λt24=>aC P0 17 [t23,t24] w7 λt25 w9=>J8 [t25] w9) λs8 _ w10=>cP t21 (s8.getD 0 undef) (.bool false) λt26=>K t26 w10
theorem aAw{K:Q0}(h:W20 v0 v1 v2 w K):aC P0 20 [v0,v1,v2] w K:=
 tie _ 20 Tryz.f20 YF _ w K 3 _ rfl mixed Tryz.func20 (by kernel_rfl) (by kernel_rfl) Tryz.call20 h
def YE:cJ:={js:=[(12,⟨[8,9],[],5⟩),(6008,⟨[32],[],26⟩),(6014,⟨[23],[],20⟩)],ds:=[(13,⟨[0,1,2,3,4,5,6,7,8,9,11,12,13,16],[[],[],[1],[1,2],[1,2,3],[1,2,3,4],[1,2,3,4,5],[1,2,3,4,5,6],[1,2,3,4,5,6,7],[],[0,1,2,3,4,5,6,7,8,9],[0,1,2,3,4,5,6,7,8,9,10],[0,1,2,3,4,5,6,7,8,9,10,11],[0,1,2,3,4,5,6,7,8,9,10,11],[],[0,1,2,3,4,5,6,7,8,9,10,11,12,14],[0,1,2,3,4,5,6,7,8,9,10,11,12,13,14,15]]⟩)]}
def W21(v0 v1:Value)(w:World)(K:Q0):=eL 26 v1 w λt3 w1=>bO 26 zL0 w1 λt4 w2=>aQ .add (str [97,32,123,10,32,32,120,32,61,32]) v0 λt12=>aQ .add t12 (str [10,125]) λt13=>aC P0 10 [t13] w2 λt14 w3=>dE 0 t14 λt15=>dE 1 t14 λt16=>bO 32 [sN,sN,sN] w3 λt7 w4=>stW 3 t7 t15 w4 λw5=>eqW .ptr true t16 (.pointer none) λt18=>GdW (isB t18 false) [undef] w5 (λJ6=>aY 1 t7 λt20=>ldW false 1 t20 w5 λt21=>dC t21 λt22=>aQ .neq t22 (i64 1) λt23=>J6 [t23] w5) λs6 _ w7=>cP t18 (.bool true) (s6.getD 0 undef) λt24=>GdW (isB t24 false) [undef] w7 (λJ8=>aY 1 t7 λt26=>ldW false 1 t26 w7 λt27=>dV none 5 t27 (i64 0) λt28=>aY 2 t28 λt29=>ldW false 1 t29 w7 λt30=>dC t30 λt31=>aQ .neq t31 (i64 1) λt32=>J8 [t32] w7) λs8 _ w9=>cP t24 (.bool true) (s8.getD 0 undef) λt33=>aR t33 (dD [(i64 0),(.bool false),(str []),sN,sN] [] λc10=>stW 5 t4 (.agg c10.toArray) w9 λw11=>ldW true 5 t4 w11 λr12=>K (.tuple #[r12,(.pointer none),(.bool false)]) w11) (bU (λJ13=>ldW true 3 t7 w9.drew λt36=>aY 1 t7 λt37=>ldW false 1 t37 w9.drew λt38=>dV none 5 t38 (i64 0) λt39=>aY 2 t39 λt40=>ldW false 1 t40 w9.drew λt41=>dV none 3 t41 (i64 0) λt42=>aY 1 t42 λt43=>ldW false 1 t43 w9.drew λt44=>ldW true 5 t3 w9.drew λt45=>(aC P0 14 [t36,t44,t45] w9.drew λt46 w14=>dE 0 t46 λt47=>dE 1 t46 λt48=>bO 26 zL0 w14 λt9 w15=>stW 5 t9 t47 w15 λw16=>J13 [t48,t9] w16)/\(bO 26 zL0 w9.drew λt9 w17=>(ldW true 5 t3 w17 λx=>x=t45)/\(ldW false 1 t43 w17 λx=>x=t44)/\(ldW false 1 t40 w17 λx=>x=t41)/\(ldW false 1 t37 w17 λx=>x=t38)/\(ldW true 3 t7 w17 λx=>x=t36)/\aC P0 14 [t36,t44,t45] w17 λt46 w18=>dE 0 t46 λt47=>dE 1 t46 λt48=>stW 5 t9 t47 w18 λw19=>J13 [t48,t9] w19)) λs13 _ w20=>ldW true 5 (s13.getD 1 undef) w20 λt49=>stW 5 t4 t49 w20 λw21=>ldW true 5 t4 w21 λr22=>K (.tuple #[r22,(s13.getD 0 undef),(.bool true)]) w21)
theorem aAv{K:Q0}(h:W21 v0 v1 w K):aC P0 21 [v0,v1] w K:=
 tie _ 21 Tryz.f21 YE _ w K 2 _ rfl mixed Tryz.func21 (by kernel_rfl) (by kernel_rfl) Tryz.call21 h
def OJ:cJ:={js:=[],ds:=[(5,⟨[0,1,2],[[],[],[1],[0],[0,1,2,3]]⟩)]}
def R34(v0 v1:Value)(x:Value)(w:World)(K:World->Prop):Prop:=
 letI:HX:=noX
 eqQ P0 .neq 20 false true x .nilIface w λt5=>
 aR t5 (
 dD [(i64 0),(.bool false),(str []),sN,sN] [] λc1=>
 mS P0 (Instr.typeAssert x 20 33 false) w.drew λt8=>
 stW 5 v0 (.agg c1.toArray) w.drew λw2=>
 (mS P0 (Instr.typeAssert x 20 33 false) w2 λx=>x=t8)/\
 stW 1 v1 t8 w2 λw3=>
 K w3) (
 K w)
theorem aAE(v0 v1:Value)(x:Value)(w:World)(K:World->Prop):Ug P0 Tryz.f34 OJ [v0,v1] x w K=R34 v0 v1 x w K:=by kernel_rfl
theorem Wv:Cv P0 Tryz.f34 OJ 2=true:=by kernel_rfl
theorem Qz{v0 v1:Value}{x:Value}{u:FrameMode}{K:World->Prop}(hu:Finds u x)(h:R34 v0 v1 x w K):vV P0 34 [v0,v1] u w K:=
 DC (args:=[v0,v1]) mixed Tryz.func34 Wv hu (by rw[aAE];exact h)
def Yv:cJ:={js:=[(46,⟨[],[],7⟩),(14,⟨[],[],7⟩),(32,⟨[7,38],[7,9],38⟩),(4,⟨[],[],6⟩)],ds:=[]}
def W35(v0 v1:Value)(w:World)(K:Q0):=bO 26 zL0 w λt4 w1=>dJ v0 λt11=>aY 0 t11 λt12=>aY 0 t12 λt13=>ldW false 1 t13 w1 λt14=>dV none 5 t14 v1 λt16=>ldW true 5 t16 w1 λt17=>bO 93 zL4 w1 λt5 w2=>stW 5 t5 t17 w2 λw3=>bU (λJ4=>dJ v0 λt19=>aY 4 t19 λt20=>ldW false 1 t20 w3 λt21=>aQ .eql t21 (i64 0) λt22=>aR t22 (aY 4 t5 λt23=>ldW false 1 t23 w3 λt24=>aC P0 57 [(i64 3),t24] w3 λt25 w5=>J4 [] w5) (J4 [] w3)) λs4 _ w6=>dJ v0 λt27=>aY 4 t27 λt28=>ldW false 1 t28 w6 λt29=>aQ .sub t29 (i64 1) λt30=>dJ v0 λt31=>aY 4 t31 λt32=>stW 1 t32 t30 w6 λw7=>bO 26 zL0 w7 λt6 w8=>bU (λJ9=>aY 0 t5 λt33=>ldW false 1 t33 w8 λt34=>aQ .eql t34 (i64 28) λt54=>aR t54 (ldW true 5 t5 w8 λt56=>aC P0 58 [v0,t56] w8 λt57 w10=>stW 5 t6 t57 w10 λw11=>J9 [] w11) (aQ .eql t34 (i64 29) λt59=>aR t59 (ldW true 5 t5 w8 λt61=>aC P0 59 [v0,t61] w8 λt62 w12=>stW 5 t6 t62 w12 λw13=>J9 [] w13) (aY 2 t5 λt35=>ldW false 1 t35 w8 λt36=>dC t36 λt37=>cZ [sN,(i64 0)] w8 λs14 _ w15 L14=>aQ .lss (s14.getD 1 undef) t37 λt39=>aR t39 (dV none 1 t36 (s14.getD 1 undef) λt40=>ldW false 1 t40 w15 λt41=>aC P0 35 [v0,t41] w15 λt45 w16=>dN 26 1 [(i64 0),(.bool false),(str []),sN,sN] [(0,5,t45)] w16 λt46 w17=>dY P0 (Builtin.append_ #[23,23] 23 #[(s14.getD 0 undef),t46]) w17 λt47 w18=>aQ .add (s14.getD 1 undef) (i64 1) λt48=>L14 [t47,t48] w18) (ldW true 5 t5 w15 λt50=>aC P0 60 [v0,t50,(s14.getD 0 undef)] w15 λt52 w19=>stW 5 t6 t52 w19 λw20=>J9 [] w20)))) λs9 _ w21=>bU (λJ22=>ldW true 5 t6 w21 λt63=>aC P0 61 [t63] w21 λt64 w23=>unW .not t64 λt65=>aR t65 (aY 4 t5 λt66=>ldW false 1 t66 w23 λt67=>aC P0 57 [(i64 3),t67] w23 λt68 w24=>J22 [] w24) (J22 [] w23)) λs22 _ w25=>ldW true 5 t6 w25 λt69=>stW 5 t4 t69 w25 λw26=>ldW true 5 t4 w26 λr27=>K r27 w26
theorem aAm{K:Q0}(h:W35 v0 v1 w K):aC P0 35 [v0,v1] w K:=
 tie _ 35 Tryz.f35 Yv _ w K 2 _ rfl mixed Tryz.func35 (by kernel_rfl) (by kernel_rfl) Tryz.call35 h
def Yi:cJ:={js:=[],ds:=[]}
def W57(v0 v1:Value)(w:World)(K:Q0):=dD [(i64 0),(str []),(i64 0)] [(0,1,v0),(2,1,v1)] λc1=>eL 53 (.agg c1.toArray) w λt7 w2=>MK (.iface 33 t7) w2
theorem ZZ{K:Q0}(h:W57 v0 v1 w K):aC P0 57 [v0,v1] w K:=
 tie _ 57 Tryz.f57 Yi _ w K 2 _ rfl mixed Tryz.func57 (by kernel_rfl) (by kernel_rfl) Tryz.call57 h
def Yh:cJ:={js:=[(40,⟨[],[],9⟩),(25,⟨[42],[10],42⟩),(4,⟨[],[],6⟩)],ds:=[(46,⟨[0,1,2,3,4,5,6],[[],[0],[0,1],[0,1,2],[],[4],[],[0,1,2,3,4,5,6]]⟩),(42,⟨[0,1,2,3,4,5],[[],[0],[0,1],[0,1,2],[],[4],[0,1,2,3,4,5]]⟩),(38,⟨[0,1,2,3,4,5,6,10],[[],[0],[],[],[3],[3,4],[3,4,5],[2,3,4,5,6],[2,3,4,5,6,7],[0,1,2,3,4,5,6,7,8],[0,1,2,3,4,5,6,7,8,9],[0,1,2,3,4,5,6,7,8,9,10]]⟩),(37,⟨[0,1,2,3,4,5,6],[[],[0],[0,1],[0,1,2],[],[4],[],[0,1,2,3,4,5,6]]⟩),(18,⟨[0,1,2,3,4,5,6,7,8,9,12],[[],[0],[0,1],[0,1,2],[],[4],[0,1,2,3,4,5],[0,1,2,3,4,5,6],[0,1,2,3,4,5,6,7],[0,1,2,3,4,5,6,7],[],[0,1,2,3,4,5,6,7,8,10],[0,1,2,3,4,5,6,7,8,9,10,11]]⟩)]}
def W59(v0 v1:Value)(w:World)(K:Q0):=eL 93 v1 w λt3 w1=>bO 26 zL0 w1 λt4 w2=>aY 2 t3 λt12=>ldW false 1 t12 w2 λt13=>dV none 1 t13 (i64 0) λt14=>ldW false 1 t14 w2 λt15=>aC P0 35 [v0,t15] w2 λt16 w3=>bO 26 zL0 w3 λt5 w4=>stW 5 t5 t16 w4 λw5=>bU (λJ6=>ldW true 5 t5 w5 λt18=>aC P0 84 [t18] w5 λt19 w7=>aR t19 (ldW true 5 t5 w7 λt20=>stW 5 t4 t20 w7 λw8=>ldW true 5 t4 w8 λr9=>K r9 w8) (aY 0 t5 λt22=>ldW false 1 t22 w7 λt23=>aQ .neq t23 (i64 5) λt24=>aR t24 (aY 4 t3 λt25=>ldW false 1 t25 w7 λt26=>aC P0 57 [(i64 81),t26] w7 λt27 w10=>J6 [] w10) (J6 [] w7))) λs6 _ w11=>dJ v0 λt30=>aY 3 t30 λt31=>ldW false 1 t31 w11.drew λt32=>aY 1 t3 λt33=>ldW false 1 t33 w11.drew λt34=>mS P0 (Instr.lookup 79 t32 t34 true) w11.drew λt35=>dE 0 t35 λt36=>dE 1 t35 λt37=>bO 26 zL0 w11.drew λt6 w12=>(mS P0 (Instr.lookup 79 t32 t34 true) w12 λx=>x=t35)/\(ldW false 1 t33 w12 λx=>x=t34)/\(ldW false 1 t31 w12 λx=>x=t32)/\stW 5 t6 t36 w12 λw13=>dD [(i64 0),(.bool false),(str []),sN,sN] [(0,1,(i64 5))] λc14=>bO 26 zL0 w13 λt8 w15=>stW 5 t8 (.agg c14.toArray) w15 λw16=>aY 3 t5 λt39=>ldW false 1 t39 w16 λt40=>dC t40 λt41=>cZ [(i64 0)] w16 λs17 _ w18 L17=>aQ .lss (s17.getD 0 undef) t41 λt43=>aR t43 (dV none 5 t40 (s17.getD 0 undef) λt44=>ldW true 5 t44 w18 λt45=>bO 26 zL0 w18 λt10 w19=>stW 5 t10 t45 w19 λw20=>dJ v0 λt47=>aY 3 t47 λt48=>ldW false 1 t48 w20.drew λt49=>aY 1 t3 λt50=>ldW false 1 t50 w20.drew λt51=>ldW true 5 t10 w20.drew λt52=>mR P0 (Instr.mapUpdate 79 t49 t51 t52) w20.drew λw21=>aY 3 t8 λt53=>ldW false 1 t53 w21.drew λt54=>aY 2 t3 λt56=>ldW false 1 t56 w21.drew λt57=>dV none 1 t57 (i64 1) λt58=>ldW false 1 t58 w21.drew λt59=>aC P0 35 [v0,t59] w21.drew λt60 w22=>(ldW false 1 t53 w22 λx=>x=t54)/\dN 26 1 [(i64 0),(.bool false),(str []),sN,sN] [(0,5,t60)] w22 λt61 w23=>(ldW false 1 t53 w23 λx=>x=t54)/\dY P0 (Builtin.append_ #[23,23] 23 #[t54,t61]) w23 λt62 w24=>aY 3 t8 λt63=>stW 1 t63 t62 w24 λw25=>aQ .add (s17.getD 0 undef) (i64 1) λt64=>L17 [t64] w25) (bU (λJ26=>dJ v0 λt66=>aY 3 t66 λt67=>ldW false 1 t67 w18.drew λt68=>aY 1 t3 λt69=>ldW false 1 t69 w18.drew λt70=>dY P0 (Builtin.delete_ #[79,9] 0 #[t68,t70]) w18.drew λ_ w27=>aR t37 (dJ v0 λt73=>aY 3 t73 λt74=>ldW false 1 t74 w27.drew λt75=>aY 1 t3 λt76=>ldW false 1 t76 w27.drew λt77=>ldW true 5 t6 w27.drew λt78=>mR P0 (Instr.mapUpdate 79 t75 t77 t78) w27.drew λw28=>J26 [] w28) (J26 [] w27)) λs26 _ w29=>ldW true 5 t8 w29 λt79=>stW 5 t4 t79 w29 λw30=>ldW true 5 t4 w30 λr31=>K r31 w30)
theorem ZY{K:Q0}(h:W59 v0 v1 w K):aC P0 59 [v0,v1] w K:=
 tie _ 59 Tryz.f59 Yh _ w K 2 _ rfl mixed Tryz.func59 (by kernel_rfl) (by kernel_rfl) Tryz.call59 h
def Yg:cJ:={js:=[(128,⟨[150],[],7⟩),(119006,⟨[135],[],131⟩),(110,⟨[122],[],15⟩),(100,⟨[114],[],15⟩),(91,⟨[],[],12⟩),(39,⟨[],[],8⟩),(12,⟨[18],[],15⟩)],ds:=[(140,⟨[0,1,2,3,4,5,6],[[],[],[1],[1,2],[],[4],[4,5],[0,1,2,3,4,5,6],[0,1,2,3,4,5,6,7]]⟩),(136,⟨[0,1,2,3,4,5,6],[[],[],[1],[1,2],[],[4],[4,5],[0,1,2,3,4,5,6],[0,1,2,3,4,5,6,7]]⟩),(126,⟨[0,1,2,3,4,5,7,8,9,10],[[],[0],[0,1],[],[3],[3,4],[0,1,2,3,4,5],[],[7],[7,8],[0,1,2,3,4,5,6,7,8,9],[0,1,2,3,4,5,6,7,8,9,10],[0,1,2,3,4,5,6,7,8,9,10,11]]⟩),(108,⟨[0,1,2,3],[[],[],[1],[1,2],[0,1,2,3],[0,1,2,3,4]]⟩),(84,⟨[0,1,2,3,4,5,6],[[],[],[1],[1,2],[],[4],[4,5],[0,1,2,3,4,5,6],[0,1,2,3,4,5,6,7]]⟩),(78,⟨[0,1,2,3],[[],[],[1],[1,2],[0,1,2,3],[0,1,2,3,4]]⟩),(72,⟨[0,1,2,3],[[],[],[1],[1,2],[0,1,2,3],[0,1,2,3,4]]⟩),(38,⟨[0,1,2,3,4,5,6,7,8,9,12],[[],[0],[0,1],[0,1,2],[],[4],[0,1,2,3,4,5],[0,1,2,3,4,5,6],[0,1,2,3,4,5,6,7],[0,1,2,3,4,5,6,7],[],[0,1,2,3,4,5,6,7,8,10],[0,1,2,3,4,5,6,7,8,9,10,11]]⟩)]}
def W60(v0 v1 v2:Value)(w:World)(K:Q0):=eL 93 v1 w λt4 w1=>bO 26 zL0 w1 λt6 w2=>aY 0 t4 λt13=>ldW false 1 t13 w2 λt14=>aQ .eql t14 (i64 1) λt16=>aR t16 (aC P0 85 [] w2 λt17 w3=>stW 5 t6 t17 w3 λw4=>ldW true 5 t6 w4 λr5=>K r5 w4) (bU (λJ6=>aQ .eql t14 (i64 2) λt19=>aR t19 (J6 [t19] w2) (aQ .eql t14 (i64 3) λt20=>J6 [t20] w2)) λs6 _ w7=>aR (s6.getD 0 undef) (aY 0 t4 λt21=>ldW false 1 t21 w7 λt22=>aQ .eql t22 (i64 2) λt23=>aC P0 86 [t23] w7 λt24 w8=>stW 5 t6 t24 w8 λw9=>ldW true 5 t6 w9 λr10=>K r10 w9) (aQ .eql t14 (i64 4) λt26=>aR t26 (aY 1 t4 λt27=>ldW false 1 t27 w7 λt28=>dD [(i64 0),(.bool false),(str []),sN,sN] [(0,1,(i64 3)),(2,1,t28)] λc11=>stW 5 t6 (.agg c11.toArray) w7 λw12=>ldW true 5 t6 w12 λr13=>K r13 w12) (aQ .eql t14 (i64 5) λt31=>aR t31 (aY 1 t4 λt32=>ldW false 1 t32 w7 λt33=>aC P0 87 [t33] w7 λt34 w14=>stW 5 t6 t34 w14 λw15=>ldW true 5 t6 w15 λr16=>K r16 w15) (aQ .eql t14 (i64 9) λt36=>aR t36 (dJ v0 λt39=>aY 3 t39 λt40=>ldW false 1 t40 w7.drew λt41=>aY 1 t4 λt42=>ldW false 1 t42 w7.drew λt43=>mS P0 (Instr.lookup 79 t41 t43 true) w7.drew λt44=>dE 0 t44 λt45=>dE 1 t44 λt46=>bO 26 zL0 w7.drew λt7 w17=>(mS P0 (Instr.lookup 79 t41 t43 true) w17 λx=>x=t44)/\(ldW false 1 t42 w17 λx=>x=t43)/\(ldW false 1 t40 w17 λx=>x=t41)/\stW 5 t7 t45 w17 λw18=>bU (λJ19=>unW .not t46 λt48=>aR t48 (aY 4 t4 λt49=>ldW false 1 t49 w18 λt50=>aC P0 57 [(i64 80),t50] w18 λt51 w20=>J19 [] w20) (J19 [] w18)) λs19 _ w21=>ldW true 5 t7 w21 λt52=>aC P0 88 [t52] w21 λt53 w22=>stW 5 t6 t53 w22 λw23=>ldW true 5 t6 w23 λr24=>K r24 w23) (aQ .eql t14 (i64 6) λt55=>aR t55 (ldW true 5 t4 w7 λt57=>aC P0 89 [v0,t57,v2] w7 λt59 w25=>stW 5 t6 t59 w25 λw26=>ldW true 5 t6 w26 λr27=>K r27 w26) (aQ .eql t14 (i64 7) λt61=>aR t61 (dD [(i64 0),(.bool false),(str []),sN,sN] [(0,1,(i64 5)),(3,1,v2)] λc28=>stW 5 t6 (.agg c28.toArray) w7 λw29=>ldW true 5 t6 w29 λr30=>K r30 w29) (aQ .eql t14 (i64 8) λt65=>aR t65 (aY 3 t4 λt67=>ldW false 1 t67 w7 λt68=>aC P0 90 [t68,v2] w7 λt70 w31=>dE 0 t70 λt71=>dE 1 t70 λt72=>bO 26 zL0 w31 λt9 w32=>stW 5 t9 t71 w32 λw33=>ldW true 5 t9 w33 λt73=>stW 5 t6 t73 w33 λw34=>ldW true 5 t6 w34 λr35=>K r35 w34) (aQ .eql t14 (i64 10) λt75=>aR t75 (ldW true 5 t4 w7.drew λt76=>dV none 5 v2 (i64 0) λt78=>ldW true 5 t78 w7.drew λt79=>aC P0 91 [t76,t79] w7.drew λt80 w36=>stW 5 t6 t80 w36 λw37=>ldW true 5 t6 w37 λr38=>K r38 w37) (aQ .eql t14 (i64 30) λt82=>aR t82 (ldW true 5 t4 w7.drew λt83=>dV none 5 v2 (i64 0) λt85=>ldW true 5 t85 w7.drew λt86=>aC P0 92 [t83,t86] w7.drew λt87 w39=>stW 5 t6 t87 w39 λw40=>ldW true 5 t6 w40 λr41=>K r41 w40) (aQ .eql t14 (i64 11) λt89=>aR t89 (ldW true 5 t4 w7.drew λt90=>dV none 5 v2 (i64 0) λt92=>ldW true 5 t92 w7.drew λt93=>dV none 5 v2 (i64 1) λt95=>ldW true 5 t95 w7.drew λt96=>aC P0 93 [t90,t93,t96] w7.drew λt97 w42=>stW 5 t6 t97 w42 λw43=>ldW true 5 t6 w43 λr44=>K r44 w43) (aQ .eql t14 (i64 12) λt99=>aR t99 (aY 1 t4 λt101=>ldW false 1 t101 w7 λt102=>aC P0 94 [t102,v2] w7 λt104 w45=>dE 0 t104 λt105=>dE 1 t104 λt106=>bO 26 zL0 w45 λt11 w46=>stW 5 t11 t105 w46 λw47=>bU (λJ48=>aQ .neq t106 (i64 0) λt108=>aR t108 (aY 4 t4 λt110=>ldW false 1 t110 w47 λt111=>aC P0 57 [t106,t111] w47 λt112 w49=>J48 [] w49) (J48 [] w47)) λs48 _ w50=>ldW true 5 t11 w50 λt113=>stW 5 t6 t113 w50 λw51=>ldW true 5 t6 w51 λr52=>K r52 w51) (bU (λJ53=>aQ .eql t14 (i64 13) λt115=>aR t115 (J53 [t115] w7) (aQ .eql t14 (i64 14) λt116=>J53 [t116] w7)) λs53 _ w54=>aR (s53.getD 0 undef) (ldW true 5 t4 w54.drew λt117=>dV none 5 v2 (i64 0) λt119=>ldW true 5 t119 w54.drew λt120=>aC P0 95 [t117,t120] w54.drew λt121 w55=>stW 5 t6 t121 w55 λw56=>ldW true 5 t6 w56 λr57=>K r57 w56) (bU (λJ58=>aQ .eql t14 (i64 20) λt123=>aR t123 (J58 [t123] w54) (aQ .eql t14 (i64 21) λt124=>J58 [t124] w54)) λs58 _ w59=>aR (s58.getD 0 undef) (dV none 5 v2 (i64 0) λt126=>ldW true 5 t126 w59 λt127=>aC P0 96 [t127] w59 λt128 w60=>unW .not t128 λt129=>GdW (isB t129 false) [undef] w60 (λJ61=>dV none 5 v2 (i64 1) λt132=>ldW true 5 t132 w60 λt133=>aC P0 96 [t133] w60 λt134 w62=>unW .not t134 λt135=>J61 [t135] w62) λs61 _ w63=>cP t129 (.bool true) (s61.getD 0 undef) λt136=>aR t136 (aC P0 97 [] w63 λt137 w64=>stW 5 t6 t137 w64 λw65=>ldW true 5 t6 w65 λr66=>K r66 w65) (dV none 5 v2 (i64 0) λt139=>ldW true 5 t139 w63.drew λt140=>dV none 5 v2 (i64 1) λt142=>ldW true 5 t142 w63.drew λt143=>aY 0 t4 λt145=>ldW false 1 t145 w63.drew λt146=>aQ .eql t146 (i64 20) λt147=>aC P0 98 [t140,t143] w63.drew λt144 w67=>(ldW false 1 t145 w67 λx=>x=t146)/\eqW .bool false t144 t147 λt148=>aC P0 86 [t148] w67 λt149 w68=>stW 5 t6 t149 w68 λw69=>ldW true 5 t6 w69 λr70=>K r70 w69)) (bU (λJ71=>aQ .eql t14 (i64 26) λt151=>aR t151 (J71 [t151] w59) (aQ .eql t14 (i64 27) λt152=>J71 [t152] w59)) λs71 _ w72=>aR (s71.getD 0 undef) (ldW true 5 t4 w72.drew λt153=>dV none 5 v2 (i64 0) λt155=>ldW true 5 t155 w72.drew λt156=>dV none 5 v2 (i64 1) λt158=>ldW true 5 t158 w72.drew λt159=>aC P0 99 [t153,t156,t159] w72.drew λt160 w73=>stW 5 t6 t160 w73 λw74=>ldW true 5 t6 w74 λr75=>K r75 w74) (ldW true 5 t4 w72.drew λt161=>dV none 5 v2 (i64 0) λt163=>ldW true 5 t163 w72.drew λt164=>dV none 5 v2 (i64 1) λt166=>ldW true 5 t166 w72.drew λt167=>aC P0 100 [t161,t164,t167] w72.drew λt168 w76=>stW 5 t6 t168 w76 λw77=>ldW true 5 t6 w77 λr78=>K r78 w77)))))))))))))))
theorem ZX{K:Q0}(h:W60 v0 v1 v2 w K):aC P0 60 [v0,v1,v2] w K:=
 tie _ 60 Tryz.f60 Yg _ w K 3 _ rfl mixed Tryz.func60 (by kernel_rfl) (by kernel_rfl) Tryz.call60 h
def XO:cJ:={js:=[],ds:=[]}
def W84(v0:Value)(w:World)(K:Q0):=eL 26 v0 w λt1 w1=>aY 0 t1 λt3=>ldW false 1 t3 w1 λt4=>aQ .eql t4 (i64 1) λt5=>K t5 w1
theorem ZF{K:Q0}(h:W84 v0 w K):aC P0 84 [v0] w K:=
 tie _ 84 Tryz.f84 XO _ w K 1 _ rfl mixed Tryz.func84 (by kernel_rfl) (by kernel_rfl) Tryz.call84 h
def XJ:cJ:={js:=[(17,⟨[8],[8,9,10,11],15⟩),(41,⟨[11],[11],15⟩),(28,⟨[37],[],21⟩),(10,⟨[8,14],[8,9,10,11],14⟩)],ds:=[(48,⟨[0,1,2,3,4,5,6,7,8,9,10,11,12],[[],[0],[0,1],[0,1,2],[0,1,2,3],[],[5],[],[5,6,7],[5,6,7,8],[0,1,2,3,4,5,6,7,8,9],[0,1,2,3,4,5,6,7,8,9,10],[0,1,2,3,4,5,6,7,8,9,10,11],[0,1,2,3,4,5,6,7,8,9,10,11,12]]⟩)]}
def W89(v0 v1 v2:Value)(w:World)(K:Q0):=eL 93 v1 w λt4 w1=>bO 26 zL0 w1 λt6 w2=>bO 116 [(.pointer none),sN] w2 λt7 w3=>dC v2 λt13=>cZ [(.bool true),(i64 0)] w3 λs4 _ w5 L4=>aQ .lss (s4.getD 1 undef) t13 λt15=>aR t15 (bU (λJ6=>dV none 5 v2 (s4.getD 1 undef) λt17=>ldW true 5 t17 w5 λt18=>bO 26 zL0 w5 λt10 w7=>stW 5 t10 t18 w7 λw8=>aY 0 t10 λt19=>ldW false 1 t19 w8 λt20=>aQ .eql t20 (i64 1) λt36=>aR t36 (J6 [(.bool false)] w8) (bU (λJ9=>aQ .eql t20 (i64 4) λt38=>aR t38 (J9 [t38] w8) (aQ .eql t20 (i64 3) λt39=>J9 [t39] w8)) λs9 _ w10=>aR (s9.getD 0 undef) (aY 2 t10 λt40=>ldW false 1 t40 w10 λt41=>aC P0 66 [t7,t41] w10 λt42 w11=>J6 [(s4.getD 0 undef)] w11) (aQ .eql t20 (i64 2) λt44=>aR t44 (bU (λJ12=>aY 1 t10 λt45=>ldW false 1 t45 w10 λt46=>aR t46 (J12 [(str [116,114,117,101])] w10) (J12 [(str [102,97,108,115,101])] w10)) λs12 _ w13=>aC P0 66 [t7,(s12.getD 0 undef)] w13 λt48 w14=>J6 [(s4.getD 0 undef)] w14) (dJ v0 λt22=>aY 0 t22 λt23=>aY 0 t23 λt24=>ldW false 1 t24 w10.drew λt25=>aY 2 t4 λt26=>ldW false 1 t26 w10.drew λt27=>dV none 1 t27 (s4.getD 1 undef) λt29=>ldW false 1 t29 w10.drew λt30=>dV none 5 t25 t30 λt31=>aY 4 t31 λt32=>ldW false 1 t32 w10.drew λt33=>aC P0 57 [(i64 81),t33] w10.drew λt34 w15=>J6 [(s4.getD 0 undef)] w15)))) λs6 _ w16=>aQ .add (s4.getD 1 undef) (i64 1) λt49=>L4 [(s6.getD 0 undef),t49] w16) (unW .not (s4.getD 0 undef) λt51=>aR t51 (aC P0 97 [] w5 λt52 w17=>stW 5 t6 t52 w17 λw18=>ldW true 5 t6 w18 λr19=>K r19 w18) (aC P0 64 [t7] w5 λt53 w20=>aC P0 87 [t53] w20 λt54 w21=>stW 5 t6 t54 w21 λw22=>ldW true 5 t6 w22 λr23=>K r23 w22))
theorem ZA{K:Q0}(h:W89 v0 v1 v2 w K):aC P0 89 [v0,v1,v2] w K:=
 tie _ 89 Tryz.f89 XJ _ w K 3 _ rfl mixed Tryz.func89 (by kernel_rfl) (by kernel_rfl) Tryz.call89 h
def XI:cJ:={js:=[(18,⟨[],[],6⟩),(10,⟨[],[],5⟩)],ds:=[]}
def W91(v0 v1:Value)(w:World)(K:Q0):=eL 93 v0 w λt2 w1=>eL 26 v1 w1 λt3 w2=>bO 26 zL0 w2 λt4 w3=>ldW true 5 t3 w3 λt7=>aC P0 84 [t7] w3 λt8 w4=>aR t8 (ldW true 5 t3 w4 λt9=>stW 5 t4 t9 w4 λw5=>ldW true 5 t4 w5 λr6=>K r6 w5) (bU (λJ7=>aY 0 t3 λt10=>ldW false 1 t10 w4 λt11=>aQ .neq t11 (i64 6) λt12=>aR t12 (aY 4 t2 λt13=>ldW false 1 t13 w4 λt14=>aC P0 57 [(i64 81),t14] w4 λt15 w8=>J7 [] w8) (J7 [] w4)) λs7 _ w9=>ldW true 5 t3 w9 λt17=>aY 1 t2 λt18=>ldW false 1 t18 w9 λt19=>aC P0 120 [t17,t19] w9 λt20 w10=>dE 0 t20 λt21=>dE 1 t20 λt22=>bO 26 zL0 w10 λt5 w11=>stW 5 t5 t21 w11 λw12=>bU (λJ13=>unW .not t22 λt24=>aR t24 (aY 4 t2 λt25=>ldW false 1 t25 w12 λt26=>aC P0 57 [(i64 82),t26] w12 λt27 w14=>J13 [] w14) (J13 [] w12)) λs13 _ w15=>ldW true 5 t5 w15 λt28=>stW 5 t4 t28 w15 λw16=>ldW true 5 t4 w16 λr17=>K r17 w16)
theorem Zz{K:Q0}(h:W91 v0 v1 w K):aC P0 91 [v0,v1] w K:=
 tie _ 91 Tryz.f91 XI _ w K 2 _ rfl mixed Tryz.func91 (by kernel_rfl) (by kernel_rfl) Tryz.call91 h
def XH:cJ:={js:=[(22,⟨[21],[7],21⟩),(10,⟨[],[],5⟩)],ds:=[(33,⟨[0,1,2,3,7],[[],[0],[],[],[2,3],[2,3,4],[0,1,2,3,4,5],[0,1,2,3,4,5,6],[0,1,2,3,4,5,6,7]]⟩)]}
def W92(v0 v1:Value)(w:World)(K:Q0):=eL 93 v0 w λt2 w1=>eL 26 v1 w1 λt3 w2=>bO 26 zL0 w2 λt4 w3=>ldW true 5 t3 w3 λt8=>aC P0 84 [t8] w3 λt9 w4=>aR t9 (ldW true 5 t3 w4 λt10=>stW 5 t4 t10 w4 λw5=>ldW true 5 t4 w5 λr6=>K r6 w5) (bU (λJ7=>aY 0 t3 λt11=>ldW false 1 t11 w4 λt12=>aQ .neq t12 (i64 5) λt13=>aR t13 (aY 4 t2 λt14=>ldW false 1 t14 w4 λt15=>aC P0 57 [(i64 81),t15] w4 λt16 w8=>J7 [] w8) (J7 [] w4)) λs7 _ w9=>dD [(i64 0),(.bool false),(str []),sN,sN] [(0,1,(i64 5))] λc10=>bO 26 zL0 w9 λt5 w11=>stW 5 t5 (.agg c10.toArray) w11 λw12=>aY 3 t3 λt18=>ldW false 1 t18 w12 λt19=>dC t19 λt20=>cZ [(i64 0)] w12 λs13 _ w14 L13=>aQ .lss (s13.getD 0 undef) t20 λt22=>aR t22 (dV none 5 t19 (s13.getD 0 undef) λt23=>ldW true 5 t23 w14 λt24=>bO 26 zL0 w14 λt7 w15=>stW 5 t7 t24 w15 λw16=>aY 3 t5 λt25=>ldW false 1 t25 w16.drew λt26=>ldW true 5 t2 w16.drew λt27=>ldW true 5 t7 w16.drew λt28=>aC P0 91 [t27,t28] w16.drew λt29 w17=>(ldW false 1 t25 w17 λx=>x=t26)/\dN 26 1 [(i64 0),(.bool false),(str []),sN,sN] [(0,5,t29)] w17 λt30 w18=>(ldW false 1 t25 w18 λx=>x=t26)/\dY P0 (Builtin.append_ #[23,23] 23 #[t26,t30]) w18 λt31 w19=>aY 3 t5 λt32=>stW 1 t32 t31 w19 λw20=>aQ .add (s13.getD 0 undef) (i64 1) λt33=>L13 [t33] w20) (ldW true 5 t5 w14 λt34=>stW 5 t4 t34 w14 λw21=>ldW true 5 t4 w21 λr22=>K r22 w21))
theorem Zy{K:Q0}(h:W92 v0 v1 w K):aC P0 92 [v0,v1] w K:=
 tie _ 92 Tryz.f92 XH _ w K 2 _ rfl mixed Tryz.func92 (by kernel_rfl) (by kernel_rfl) Tryz.call92 h
def XG:cJ:={js:=[(45,⟨[],[],9⟩),(47006,⟨[70],[],66⟩),(47010,⟨[63],[],62⟩),(29003,⟨[40],[],39⟩),(21,⟨[],[],7⟩),(4,⟨[7],[],7⟩),(11005,⟨[19],[],17⟩)],ds:=[]}
def W93(v0 v1 v2:Value)(w:World)(K:Q0):=eL 93 v0 w λt3 w1=>eL 26 v1 w1 λt4 w2=>eL 26 v2 w2 λt5 w3=>bO 26 zL0 w3 λt6 w4=>bU (λJ5=>aY 0 t4 λt9=>ldW false 1 t9 w4 λt10=>aQ .eql t10 (i64 1) λt12=>aR t12 (ldW true 5 t5 w4 λt13=>dN 26 1 [(i64 0),(.bool false),(str []),sN,sN] [(0,5,t13)] w4 λt14 w6=>aC P0 122 [(i64 3),t14] w6 λt15 w7=>GdW (isB t15 false) [undef] w7 (λJ8=>ldW true 5 t5 w7 λt17=>dN 26 1 [(i64 0),(.bool false),(str []),sN,sN] [(0,5,t17)] w7 λt18 w9=>aC P0 122 [(i64 4),t18] w9 λt19 w10=>J8 [t19] w10) λs8 _ w11=>cP t15 (.bool true) (s8.getD 0 undef) λt20=>J5 [t20] w11) (aQ .eql t10 (i64 5) λt22=>aR t22 (ldW true 5 t5 w4 λt23=>dN 26 1 [(i64 0),(.bool false),(str []),sN,sN] [(0,5,t23)] w4 λt24 w12=>aC P0 122 [(i64 3),t24] w12 λt25 w13=>J5 [t25] w13) (aQ .eql t10 (i64 6) λt27=>aR t27 (ldW true 5 t5 w4 λt28=>dN 26 1 [(i64 0),(.bool false),(str []),sN,sN] [(0,5,t28)] w4 λt29 w14=>aC P0 122 [(i64 4),t29] w14 λt30 w15=>J5 [t30] w15) (J5 [(.bool false)] w4)))) λs5 _ w16=>bU (λJ17=>unW .not (s5.getD 0 undef) λt32=>aR t32 (aY 4 t3 λt33=>ldW false 1 t33 w16 λt34=>aC P0 57 [(i64 81),t34] w16 λt35 w18=>J17 [] w18) (J17 [] w16)) λs17 _ w19=>ldW true 5 t4 w19 λt36=>aC P0 84 [t36] w19 λt37 w20=>GdW (isB t37 false) [undef] w20 (λJ21=>ldW true 5 t5 w20 λt39=>aC P0 84 [t39] w20 λt40 w22=>J21 [t40] w22) λs21 _ w23=>cP t37 (.bool true) (s21.getD 0 undef) λt41=>aR t41 (aC P0 97 [] w23 λt42 w24=>stW 5 t6 t42 w24 λw25=>ldW true 5 t6 w25 λr26=>K r26 w25) (aY 0 t4 λt43=>ldW false 1 t43 w23 λt44=>aQ .eql t44 (i64 6) λt45=>aR t45 (aY 2 t5 λt46=>ldW false 1 t46 w23 λt47=>aY 4 t3 λt48=>ldW false 1 t48 w23 λt49=>dD [(i64 0),(str []),sN,sN,(i64 0)] [(1,1,t47),(4,1,t49)] λc27=>ldW true 5 t4 w23 λt51=>aC P0 91 [(.agg c27.toArray),t51] w23 λt52 w28=>stW 5 t6 t52 w28 λw29=>ldW true 5 t6 w29 λr30=>K r30 w29) (aY 2 t5 λt54=>ldW false 1 t54 w23 λt55=>aC P0 123 [t55] w23 λt56 w31=>dE 0 t56 λt57=>dE 1 t56 λt58=>bU (λJ32=>unW .not t58 λt60=>GdW (isB t60 false) [undef] w31 (λJ33=>aQ .lss t57 (i64 0) λt63=>J33 [t63] w31) λs33 _ w34=>cP t60 (.bool true) (s33.getD 0 undef) λt64=>GdW (isB t64 false) [undef] w34 (λJ35=>aY 3 t4 λt67=>ldW false 1 t67 w34 λt68=>dC t68 λt69=>aQ .geq t57 t69 λt70=>J35 [t70] w34) λs35 _ w36=>cP t64 (.bool true) (s35.getD 0 undef) λt71=>aR t71 (aY 4 t3 λt72=>ldW false 1 t72 w36 λt73=>aC P0 57 [(i64 82),t73] w36 λt74 w37=>J32 [] w37) (J32 [] w36)) λs32 _ w38=>aY 3 t4 λt75=>ldW false 1 t75 w38 λt76=>dV none 5 t76 t57 λt78=>ldW true 5 t78 w38 λt79=>stW 5 t6 t79 w38 λw39=>ldW true 5 t6 w39 λr40=>K r40 w39))
theorem Zx{K:Q0}(h:W93 v0 v1 v2 w K):aC P0 93 [v0,v1,v2] w K:=
 tie _ 93 Tryz.f93 XG _ w K 3 _ rfl mixed Tryz.func93 (by kernel_rfl) (by kernel_rfl) Tryz.call93 h
def XE:cJ:={js:=[(19005,⟨[33],[],31⟩),(11005,⟨[16],[],14⟩)],ds:=[]}
def W95(v0 v1:Value)(w:World)(K:Q0):=eL 93 v0 w λt2 w1=>eL 26 v1 w1 λt3 w2=>bO 26 zL0 w2 λt4 w3=>ldW true 5 t3 w3 λt6=>aC P0 84 [t6] w3 λt7 w4=>aR t7 (ldW true 5 t3 w4 λt8=>stW 5 t4 t8 w4 λw5=>ldW true 5 t4 w5 λr6=>K r6 w5) (aY 0 t3 λt10=>ldW false 1 t10 w4 λt11=>aQ .eql t11 (i64 3) λt12=>GdW (isB t12 true) [undef] w4 (λJ7=>aY 0 t2 λt14=>ldW false 1 t14 w4 λt15=>aQ .eql t15 (i64 13) λt16=>J7 [t16] w4) λs7 _ w8=>cP t12 (s7.getD 0 undef) (.bool false) λt17=>aR t17 (aY 2 t3 λt19=>ldW false 1 t19 w8 λt20=>aC P0 129 [(str [48]),t20] w8 λt21 w9=>dE 0 t21 λt22=>dE 1 t21 λt23=>aY 2 t3 λt24=>stW 1 t24 t22 w9 λw10=>ldW true 5 t3 w10 λt25=>stW 5 t4 t25 w10 λw11=>ldW true 5 t4 w11 λr12=>K r12 w11) (aY 0 t3 λt27=>ldW false 1 t27 w8 λt28=>aQ .eql t28 (i64 2) λt29=>GdW (isB t29 true) [undef] w8 (λJ13=>aY 0 t2 λt31=>ldW false 1 t31 w8 λt32=>aQ .eql t32 (i64 14) λt33=>J13 [t33] w8) λs13 _ w14=>cP t29 (s13.getD 0 undef) (.bool false) λt34=>aR t34 (aY 1 t3 λt35=>ldW false 1 t35 w14 λt36=>unW .not t36 λt37=>aC P0 86 [t37] w14 λt38 w15=>stW 5 t4 t38 w15 λw16=>ldW true 5 t4 w16 λr17=>K r17 w16) (aY 4 t2 λt39=>ldW false 1 t39 w14 λt40=>aC P0 57 [(i64 81),t40] w14 λt41 w18=>ldW true 5 t3 w18 λt42=>stW 5 t4 t42 w18 λw19=>ldW true 5 t4 w19 λr20=>K r20 w19)))
theorem Zv{K:Q0}(h:W95 v0 v1 w K):aC P0 95 [v0,v1] w K:=
 tie _ 95 Tryz.f95 XE _ w K 2 _ rfl mixed Tryz.func95 (by kernel_rfl) (by kernel_rfl) Tryz.call95 h
def XA:cJ:={js:=[(35003,⟨[45],[],44⟩),(26005,⟨[36],[],33⟩),(14,⟨[25],[9],25⟩),(2,⟨[],[],7⟩)],ds:=[]}
def W99(v0 v1 v2:Value)(w:World)(K:Q0):=eL 93 v0 w λt3 w1=>eL 26 v1 w1 λt4 w2=>eL 26 v2 w2 λt5 w3=>bO 26 zL0 w3 λt6 w4=>bU (λJ5=>ldW true 5 t4 w4 λt10=>ldW true 5 t5 w4 λt11=>dN 26 2 [(i64 0),(.bool false),(str []),sN,sN,(i64 0),(.bool false),(str []),sN,sN] [(0,5,t10),(5,5,t11)] w4 λt12 w6=>aC P0 122 [(i64 2),t12] w6 λt13 w7=>unW .not t13 λt14=>aR t14 (aY 4 t3 λt15=>ldW false 1 t15 w7 λt16=>aC P0 57 [(i64 81),t16] w7 λt17 w8=>J5 [] w8) (J5 [] w7)) λs5 _ w9=>aY 0 t3 λt18=>ldW false 1 t18 w9 λt19=>aQ .eql t19 (i64 27) λt20=>ldW true 5 t4 w9 λt21=>ldW true 5 t5 w9 λt22=>dN 26 2 [(i64 0),(.bool false),(str []),sN,sN,(i64 0),(.bool false),(str []),sN,sN] [(0,5,t21),(5,5,t22)] w9 λt23 w10=>dC t23 λt24=>cZ [(i64 0)] w10 λs11 _ w12 L11=>aQ .lss (s11.getD 0 undef) t24 λt26=>aR t26 (dV none 5 t23 (s11.getD 0 undef) λt27=>ldW true 5 t27 w12 λt28=>bO 26 zL0 w12 λt9 w13=>stW 5 t9 t28 w13 λw14=>ldW true 5 t9 w14 λt29=>aC P0 84 [t29] w14 λt30 w15=>unW .not t30 λt31=>GdW (isB t31 true) [undef] w15 (λJ16=>aY 1 t9 λt33=>ldW false 1 t33 w15 λt34=>eqW .bool false t34 t20 λt36=>J16 [t36] w15) λs16 _ w17=>cP t31 (s16.getD 0 undef) (.bool false) λt37=>aR t37 (aC P0 86 [t20] w17 λt39 w18=>stW 5 t6 t39 w18 λw19=>ldW true 5 t6 w19 λr20=>K r20 w19) (aQ .add (s11.getD 0 undef) (i64 1) λt40=>L11 [t40] w17)) (ldW true 5 t4 w12 λt41=>aC P0 84 [t41] w12 λt42 w21=>GdW (isB t42 false) [undef] w21 (λJ22=>ldW true 5 t5 w21 λt44=>aC P0 84 [t44] w21 λt45 w23=>J22 [t45] w23) λs22 _ w24=>cP t42 (.bool true) (s22.getD 0 undef) λt46=>aR t46 (aC P0 97 [] w24 λt47 w25=>stW 5 t6 t47 w25 λw26=>ldW true 5 t6 w26 λr27=>K r27 w26) (unW .not t20 λt49=>aC P0 86 [t49] w24 λt50 w28=>stW 5 t6 t50 w28 λw29=>ldW true 5 t6 w29 λr30=>K r30 w29))
theorem Zr{K:Q0}(h:W99 v0 v1 v2 w K):aC P0 99 [v0,v1,v2] w K:=
 tie _ 99 Tryz.f99 XA _ w K 3 _ rfl mixed Tryz.func99 (by kernel_rfl) (by kernel_rfl) Tryz.call99 h
def Tp:cJ:={js:=[(69,⟨[],[],8⟩),(20,⟨[7,8],[],7⟩),(10003,⟨[22],[],21⟩),(2,⟨[],[],7⟩)],ds:=[]}
def aCR(v0 v1 v2:Value)(w:World)(K:Q0):=eL 93 v0 w λt3 w1=>eL 26 v1 w1 λt4 w2=>eL 26 v2 w2 λt5 w3=>bO 26 zL0 w3 λt6 w4=>bU (λJ5=>ldW true 5 t4 w4 λt10=>ldW true 5 t5 w4 λt11=>dN 26 2 [(i64 0),(.bool false),(str []),sN,sN,(i64 0),(.bool false),(str []),sN,sN] [(0,5,t10),(5,5,t11)] w4 λt12 w6=>aC P0 122 [(i64 3),t12] w6 λt13 w7=>unW .not t13 λt14=>aR t14 (aY 4 t3 λt15=>ldW false 1 t15 w7 λt16=>aC P0 57 [(i64 81),t16] w7 λt17 w8=>J5 [] w8) (J5 [] w7)) λs5 _ w9=>ldW true 5 t4 w9 λt18=>aC P0 84 [t18] w9 λt19 w10=>GdW (isB t19 false) [undef] w10 (λJ11=>ldW true 5 t5 w10 λt21=>aC P0 84 [t21] w10 λt22 w12=>J11 [t22] w12) λs11 _ w13=>cP t19 (.bool true) (s11.getD 0 undef) λt23=>aR t23 (aC P0 97 [] w13 λt24 w14=>stW 5 t6 t24 w14 λw15=>ldW true 5 t6 w15 λr16=>K r16 w15) (aY 2 t4 λt25=>ldW false 1 t25 w13 λt26=>aY 2 t5 λt27=>ldW false 1 t27 w13 λt28=>aC P0 132 [t26,t28] w13 λt29 w17=>bU (λJ18=>aY 0 t3 λt30=>ldW false 1 t30 w17 λt31=>aQ .eql t31 (i64 22) λt33=>aR t33 (aQ .lss t29 (i64 0) λt35=>aC P0 86 [t35] w17 λt36 w19=>stW 5 t6 t36 w19 λw20=>ldW true 5 t6 w20 λr21=>K r21 w20) (aQ .eql t31 (i64 23) λt38=>aR t38 (aQ .gtr t29 (i64 0) λt40=>aC P0 86 [t40] w17 λt41 w22=>stW 5 t6 t41 w22 λw23=>ldW true 5 t6 w23 λr24=>K r24 w23) (aQ .eql t31 (i64 24) λt43=>aR t43 (aQ .leq t29 (i64 0) λt45=>aC P0 86 [t45] w17 λt46 w25=>stW 5 t6 t46 w25 λw26=>ldW true 5 t6 w26 λr27=>K r27 w26) (aQ .eql t31 (i64 25) λt48=>aR t48 (aQ .geq t29 (i64 0) λt50=>aC P0 86 [t50] w17 λt51 w28=>stW 5 t6 t51 w28 λw29=>ldW true 5 t6 w29 λr30=>K r30 w29) (aQ .eql t31 (i64 15) λt53=>aR t53 (aY 2 t4 λt55=>ldW false 1 t55 w17 λt56=>aY 2 t5 λt57=>ldW false 1 t57 w17 λt58=>aC P0 133 [t56,t58] w17 λt59 w31=>dE 0 t59 λt60=>dE 1 t59 λt61=>J18 [t60,t61] w31) (aQ .eql t31 (i64 16) λt63=>aR t63 (aY 2 t4 λt65=>ldW false 1 t65 w17 λt66=>aY 2 t5 λt67=>ldW false 1 t67 w17 λt68=>aC P0 129 [t66,t68] w17 λt69 w32=>dE 0 t69 λt70=>dE 1 t69 λt71=>J18 [t70,t71] w32) (aQ .eql t31 (i64 17) λt73=>aR t73 (aY 2 t4 λt75=>ldW false 1 t75 w17 λt76=>aY 2 t5 λt77=>ldW false 1 t77 w17 λt78=>aC P0 134 [t76,t78] w17 λt79 w33=>dE 0 t79 λt80=>dE 1 t79 λt81=>J18 [t80,t81] w33) (aQ .eql t31 (i64 18) λt83=>aR t83 (aY 2 t4 λt85=>ldW false 1 t85 w17 λt86=>aY 2 t5 λt87=>ldW false 1 t87 w17 λt88=>aC P0 135 [t86,t88] w17 λt89 w34=>dE 0 t89 λt90=>dE 1 t89 λt91=>dE 2 t89 λt92=>J18 [t90,t92] w34) (aQ .eql t31 (i64 19) λt94=>aR t94 (aY 2 t4 λt96=>ldW false 1 t96 w17 λt97=>aY 2 t5 λt98=>ldW false 1 t98 w17 λt99=>aC P0 135 [t97,t99] w17 λt100 w35=>dE 0 t100 λt101=>dE 1 t100 λt102=>dE 2 t100 λt103=>J18 [t102,t103] w35) (J18 [(str []),(i64 0)] w17)))))))))) λs18 _ w36=>bU (λJ37=>aQ .neq (s18.getD 1 undef) (i64 0) λt105=>aR t105 (aY 4 t3 λt107=>ldW false 1 t107 w36 λt108=>aC P0 57 [(s18.getD 1 undef),t108] w36 λt109 w38=>J37 [] w38) (J37 [] w36)) λs37 _ w39=>dD [(i64 0),(.bool false),(str []),sN,sN] [(0,1,(i64 3)),(2,1,(s18.getD 0 undef))] λc40=>stW 5 t6 (.agg c40.toArray) w39 λw41=>ldW true 5 t6 w41 λr42=>K r42 w41)
theorem Ws{K:Q0}(h:aCR v0 v1 v2 w K):aC P0 100 [v0,v1,v2] w K:=
 tie _ 100 Tryz.f100 Tp _ w K 3 _ rfl mixed Tryz.func100 (by kernel_rfl) (by kernel_rfl) Tryz.call100 h
def SS:cJ:={js:=[],ds:=[]}
def aCD(v0 v1:Value)(w:World)(K:Q0):=eL 22 v0 w λt2 w1=>aC P0 124 [v1,(.func (.func 156) #[] #[t2])] w1 λt7 w2=>unW .not t7 λt8=>K t8 w2
theorem Wc{K:Q0}(h:aCD v0 v1 w K):aC P0 122 [v0,v1] w K:=
 tie _ 122 Tryz.f122 SS _ w K 2 _ rfl mixed Tryz.func122 (by kernel_rfl) (by kernel_rfl) Tryz.call122 h
def Sw:cJ:={js:=[(3005,⟨[11],[],9⟩)],ds:=[]}
def aCj(v0 v1:Value)(w:World)(K:Q0):=eL 26 v0 w λt2 w1=>aY 0 t2 λt4=>ldW false 1 t4 w1 λt5=>ldW false 1 v1 w1 λt6=>aQ .neq t5 t6 λt7=>GdW (isB t7 true) [undef] w1 (λJ2=>ldW true 5 t2 w1 λt9=>aC P0 84 [t9] w1 λt10 w3=>unW .not t10 λt11=>J2 [t11] w3) λs2 _ w4=>cP t7 (s2.getD 0 undef) (.bool false) λt12=>K t12 w4
theorem VF{K:Q0}(h:aCj v0 v1 w K):aC P0 156 [v0,v1] w K:=
 tie _ 156 Tryz.f156 Sw _ w K 2 _ rfl mixed Tryz.func156 (by kernel_rfl) (by kernel_rfl) Tryz.call156 h
def YH:cJ:={js:=[(14,⟨[45],[4,5],45⟩),(4008,⟨[40],[],34⟩),(4016,⟨[31],[],26⟩),(4023,⟨[23],[],19⟩),(4030,⟨[16],[],12⟩)],ds:=[(26,⟨[0,1,2,3,4,5,6,7,8,9,11],[[],[0],[],[0,1,2],[0,1,2,3],[],[5],[],[5,6,7],[5,6,7,8],[0,1,2,3,4,5,6,7,8,9],[0,1,2,3,4,5,6,7,8,9,10]]⟩)]}
def W17(v0 v1:Value)(w:World)(K:Q0):=eL 26 v0 w λt2 w1=>eL 26 v1 w1 λt3 w2=>aY 0 t2 λt6=>ldW false 1 t6 w2 λt7=>aY 0 t3 λt8=>ldW false 1 t8 w2 λt9=>aQ .neq t7 t9 λt10=>GdW (isB t10 false) [undef] w2 (λJ3=>aY 1 t2 λt12=>ldW false 1 t12 w2 λt13=>aY 1 t3 λt14=>ldW false 1 t14 w2 λt15=>eqW .bool true t13 t15 λt16=>J3 [t16] w2) λs3 _ w4=>cP t10 (.bool true) (s3.getD 0 undef) λt17=>GdW (isB t17 false) [undef] w4 (λJ5=>aY 2 t2 λt19=>ldW false 1 t19 w4 λt20=>aY 2 t3 λt21=>ldW false 1 t21 w4 λt22=>aQ .neq t20 t22 λt23=>J5 [t23] w4) λs5 _ w6=>cP t17 (.bool true) (s5.getD 0 undef) λt24=>GdW (isB t24 false) [undef] w6 (λJ7=>aY 4 t2 λt26=>ldW false 1 t26 w6 λt27=>aY 4 t3 λt28=>ldW false 1 t28 w6 λt29=>aC P0 37 [t27,t29] w6 λt30 w8=>unW .not t30 λt31=>J7 [t31] w8) λs7 _ w9=>cP t24 (.bool true) (s7.getD 0 undef) λt32=>GdW (isB t32 false) [undef] w9 (λJ10=>aY 3 t2 λt34=>ldW false 1 t34 w9 λt35=>dC t35 λt36=>aY 3 t3 λt37=>ldW false 1 t37 w9 λt38=>dC t38 λt39=>aQ .neq t36 t39 λt40=>J10 [t40] w9) λs10 _ w11=>cP t32 (.bool true) (s10.getD 0 undef) λt41=>aR t41 (K (.bool false) w11) (aY 3 t2 λt42=>ldW false 1 t42 w11 λt43=>dC t43 λt44=>cZ [(i64 0)] w11 λs12 _ w13 L12=>aQ .lss (s12.getD 0 undef) t44 λt46=>aR t46 (aY 3 t2 λt48=>ldW false 1 t48 w13.drew λt49=>dV none 5 t49 (s12.getD 0 undef) λt51=>ldW true 5 t51 w13.drew λt52=>aY 3 t3 λt53=>ldW false 1 t53 w13.drew λt54=>dV none 5 t54 (s12.getD 0 undef) λt56=>ldW true 5 t56 w13.drew λt57=>aC P0 17 [t52,t57] w13.drew λt58 w14=>unW .not t58 λt59=>aR t59 (K (.bool false) w14) (aQ .add (s12.getD 0 undef) (i64 1) λt60=>L12 [t60] w14)) (K (.bool true) w13))
theorem aAy{K:Q0}(h:W17 v0 v1 w K):aC P0 17 [v0,v1] w K:=
 tie _ 17 Tryz.f17 YH _ w K 2 _ rfl mixed Tryz.func17 (by kernel_rfl) (by kernel_rfl) Tryz.call17 h
def YG:cJ:={js:=[],ds:=[]}
def W18(v0:Value)(w:World)(K:Q0):=bO 26 zL0 w λt2 w1=>aC P0 22 [v0] w1 λt4 w2=>dD [(i64 0),(.bool false),(str []),sN,sN] [(0,1,(i64 3)),(2,1,t4)] λc3=>stW 5 t2 (.agg c3.toArray) w2 λw4=>ldW true 5 t2 w4 λr5=>K r5 w4
theorem aAx{K:Q0}(h:W18 v0 w K):aC P0 18 [v0] w K:=
 tie _ 18 Tryz.f18 YG _ w K 1 _ rfl mixed Tryz.func18 (by kernel_rfl) (by kernel_rfl) Tryz.call18 h
def YD:cJ:={js:=[(27,⟨[5],[],5⟩),(16,⟨[3,4],[],1⟩)],ds:=[]}
def W22(v0:Value)(w:World)(K:Q0):=aQ .eql v0 (i64 0) λt7=>aR t7 (K (str [48]) w) (cZ [(str []),v0] w λs1 _ w2 L1=>aQ .neq (s1.getD 1 undef) (i64 0) λt10=>aR t10 (aQ .rem (s1.getD 1 undef) (i64 10) λt14=>bU (λJ3=>aQ .lss t14 (i64 0) λt16=>aR t16 (unW .neg t14 λt18=>J3 [t18] w2) (J3 [t14] w2)) λs3 _ w4=>aQ .add (i64 48) (s3.getD 0 undef) λt20=>rX .u8 t20 λt21=>dN 5 1 [(.int .u8 0)] [(0,1,t21)] w4 λt22 w5=>mS P0 (convert 89 9 t22) w5 λt23=>aQ .add t23 (s1.getD 0 undef) λt25=>aQ .quo (s1.getD 1 undef) (i64 10) λt12=>L1 [t25,t12] w5) (aQ .lss v0 (i64 0) λt27=>aC P0 38 [t27,(s1.getD 0 undef)] w2 λt29 w6=>K t29 w6))
theorem aAu{K:Q0}(h:W22 v0 w K):aC P0 22 [v0] w K:=
 tie _ 22 Tryz.f22 YD _ w K 1 _ rfl mixed Tryz.func22 (by kernel_rfl) (by kernel_rfl) Tryz.call22 h
def YC:cJ:={js:=[],ds:=[]}
def W24(v0:Value)(w:World)(K:Q0):=bO 26 zL0 w λt2 w1=>dD [(i64 0),(.bool false),(str []),sN,sN] [(0,1,(i64 4)),(2,1,v0)] λc2=>stW 5 t2 (.agg c2.toArray) w1 λw3=>ldW true 5 t2 w3 λr4=>K r4 w3
theorem aAt{K:Q0}(h:W24 v0 w K):aC P0 24 [v0] w K:=
 tie _ 24 Tryz.f24 YC _ w K 1 _ rfl mixed Tryz.func24 (by kernel_rfl) (by kernel_rfl) Tryz.call24 h
def YB:cJ:={js:=[(11007,⟨[34],[],30⟩),(11015,⟨[27],[],22⟩),(11023,⟨[19],[],14⟩)],ds:=[]}
def W25(v0 v1 v2:Value)(w:World)(K:Q0):=aQ .eql v1 (i64 0) λt8=>aR t8 (eqW .ptr false v0 (.pointer none) λt10=>K t10 w) (eqW .ptr true v0 (.pointer none) λt12=>GdW (isB t12 true) [undef] w (λJ1=>dJ v0 λt15=>aY 0 t15 λt16=>ldW false 1 t16 w λt17=>aQ .eql t17 v1 λt19=>J1 [t19] w) λs1 _ w2=>cP t12 (s1.getD 0 undef) (.bool false) λt20=>GdW (isB t20 true) [undef] w2 (λJ3=>dJ v0 λt23=>aY 2 t23 λt24=>ldW false 1 t24 w2 λt25=>aQ .eql t25 v2 λt27=>J3 [t27] w2) λs3 _ w4=>cP t20 (s3.getD 0 undef) (.bool false) λt28=>GdW (isB t28 true) [undef] w4 (λJ5=>dJ v0 λt31=>aY 1 t31 λt32=>ldW false 1 t32 w4 λt33=>aQ .eql t33 (str []) λt34=>J5 [t34] w4) λs5 _ w6=>cP t28 (s5.getD 0 undef) (.bool false) λt35=>K t35 w6)
theorem aAs{K:Q0}(h:W25 v0 v1 v2 w K):aC P0 25 [v0,v1,v2] w K:=
 tie _ 25 Tryz.f25 YB _ w K 3 _ rfl mixed Tryz.func25 (by kernel_rfl) (by kernel_rfl) Tryz.call25 h
def Yu:cJ:={js:=[(14,⟨[13],[4,5],13⟩)],ds:=[(26,⟨[0,1,2,3,4,5,6,7,8],[[],[],[0,1],[0,1,2],[],[],[4,5],[4,5,6],[0,1,2,3,4,5,6,7]]⟩)]}
def W37(v0 v1:Value)(w:World)(K:Q0):=dC v0 λt7=>dC v1 λt9=>aQ .neq t7 t9 λt10=>aR t10 (K (.bool false) w) (dC v0 λt12=>cZ [(i64 0)] w λs1 _ w2 L1=>aQ .lss (s1.getD 0 undef) t12 λt14=>aR t14 (dV none 1 v0 (s1.getD 0 undef) λt18=>ldW false 1 t18 w2.drew λt19=>dV none 1 v1 (s1.getD 0 undef) λt22=>ldW false 1 t22 w2.drew λt23=>aQ .neq t19 t23 λt24=>aR t24 (K (.bool false) w2.drew) (aQ .add (s1.getD 0 undef) (i64 1) λt25=>L1 [t25] w2.drew)) (K (.bool true) w2))
theorem aAl{K:Q0}(h:W37 v0 v1 w K):aC P0 37 [v0,v1] w K:=
 tie _ 37 Tryz.f37 Yu _ w K 2 _ rfl mixed Tryz.func37 (by kernel_rfl) (by kernel_rfl) Tryz.call37 h
def Yt:cJ:={js:=[(4003,⟨[8],[],7⟩)],ds:=[]}
def W38(v0 v1:Value)(w:World)(K:Q0):=GdW (isB v0 true) [undef] w (λJ1=>aQ .neq v1 (str [48]) λt8=>J1 [t8] w) λs1 _ w2=>cP v0 (s1.getD 0 undef) (.bool false) λt9=>aR t9 (aQ .add (str [45]) v1 λt11=>K t11 w2) (K v1 w2)
theorem aAk{K:Q0}(h:W38 v0 v1 w K):aC P0 38 [v0,v1] w K:=
 tie _ 38 Tryz.f38 Yt _ w K 2 _ rfl mixed Tryz.func38 (by kernel_rfl) (by kernel_rfl) Tryz.call38 h
def Ye:cJ:={js:=[],ds:=[]}
def W62(v0 v1:Value)(w:World)(K:Q0):=aC P0 102 [v0] w λt6 w1=>dJ v0 λt9=>aY 1 t9 λt10=>ldW false 1 t10 w1 λt11=>dN 5 1 [(.int .u8 0)] [(0,1,v1)] w1 λt13 w2=>dY P0 (Builtin.append_ #[89,89] 89 #[t11,t13]) w2 λt14 w3=>dJ v0 λt15=>aY 1 t15 λt16=>stW 1 t16 t14 w3 λw4=>K .nilIface w4
theorem ZV{K:Q0}(h:W62 v0 v1 w K):aC P0 62 [v0,v1] w K:=
 tie _ 62 Tryz.f62 Ye _ w K 2 _ rfl mixed Tryz.func62 (by kernel_rfl) (by kernel_rfl) Tryz.call62 h
def Yd:cJ:={js:=[],ds:=[]}
def W63(v0 v1:Value)(w:World)(K:Q0):=aC P0 102 [v0] w λt8 w1=>dJ v0 λt10=>aY 1 t10 λt11=>ldW false 1 t11 w1 λt12=>dC t12 λt13=>dJ v0 λt16=>aY 1 t16 λt17=>ldW false 1 t17 w1 λt18=>aC P0 103 [t18,v1] w1 λt20 w2=>dJ v0 λt21=>aY 1 t21 λt22=>stW 1 t22 t20 w2 λw3=>dJ v0 λt24=>aY 1 t24 λt25=>ldW false 1 t25 w3 λt26=>dC t26 λt27=>aQ .sub t27 t13 λt29=>K (.tuple #[t29,.nilIface]) w3
theorem ZU{K:Q0}(h:W63 v0 v1 w K):aC P0 63 [v0,v1] w K:=
 tie _ 63 Tryz.f63 Yd _ w K 2 _ rfl mixed Tryz.func63 (by kernel_rfl) (by kernel_rfl) Tryz.call63 h
def Yc:cJ:={js:=[],ds:=[]}
def W66(v0 v1:Value)(w:World)(K:Q0):=aC P0 102 [v0] w λt7 w1=>dJ v0 λt10=>aY 1 t10 λt11=>ldW false 1 t11 w1 λt12=>dY P0 (Builtin.append_ #[89,9] 89 #[t12,v1]) w1 λt14 w2=>dJ v0 λt15=>aY 1 t15 λt16=>stW 1 t16 t14 w2 λw3=>gW v1 λt18=>K (.tuple #[t18,.nilIface]) w3
theorem ZT{K:Q0}(h:W66 v0 v1 w K):aC P0 66 [v0,v1] w K:=
 tie _ 66 Tryz.f66 Yc _ w K 2 _ rfl mixed Tryz.func66 (by kernel_rfl) (by kernel_rfl) Tryz.call66 h
def XQ:cJ:={js:=[],ds:=[]}
def W81(v0 v1:Value)(w:World)(K:Q0):=aC P0 113 [v0,v1] w λt7 w1=>aQ .geq t7 (i64 0) λt8=>K t8 w1
theorem ZH{K:Q0}(h:W81 v0 v1 w K):aC P0 81 [v0,v1] w K:=
 tie _ 81 Tryz.f81 XQ _ w K 2 _ rfl mixed Tryz.func81 (by kernel_rfl) (by kernel_rfl) Tryz.call81 h
def Tm:cJ:={js:=[],ds:=[]}
def aCP(v0 v1:Value)(w:World)(K:Q0):=rX .u32 v1 λt6=>aQ .leq t6 (.int .u32 127) λt7=>aR t7 (rX .u8 v1 λt10=>dN 5 1 [(.int .u8 0)] [(0,1,t10)] w λt11 w1=>dY P0 (Builtin.append_ #[89,89] 89 #[v0,t11]) w1 λt12 w2=>K t12 w2) (aC P0 138 [v0,v1] w λt15 w3=>K t15 w3)
theorem Wq{K:Q0}(h:aCP v0 v1 w K):aC P0 103 [v0,v1] w K:=
 tie _ 103 Tryz.f103 Tm _ w K 2 _ rfl mixed Tryz.func103 (by kernel_rfl) (by kernel_rfl) Tryz.call103 h
def Tl:cJ:={js:=[],ds:=[]}
def aCO(v0 v1:Value)(w:World)(K:Q0):=aC P0 144 [v0,v1] w λt7 w1=>K t7 w1
theorem Wp{K:Q0}(h:aCO v0 v1 w K):aC P0 107 [v0,v1] w K:=
 tie _ 107 Tryz.f107 Tl _ w K 2 _ rfl mixed Tryz.func107 (by kernel_rfl) (by kernel_rfl) Tryz.call107 h
def Te:cJ:={js:=[(6,⟨[8],[4,5],8⟩)],ds:=[]}
def aCK(v0 v1:Value)(w:World)(K:Q0):=dC v0 λt7=>cZ [(i64 0)] w λs1 _ w2 L1=>aQ .lss (s1.getD 0 undef) t7 λt9=>aR t9 (dV none 1 v0 (s1.getD 0 undef) λt14=>ldW false 1 t14 w2 λt15=>aQ .eql v1 t15 λt16=>aR t16 (K (s1.getD 0 undef) w2) (aQ .add (s1.getD 0 undef) (i64 1) λt18=>L1 [t18] w2)) (K (.int .i64 (-1)) w2)
theorem Wk{K:Q0}(h:aCK v0 v1 w K):aC P0 113 [v0,v1] w K:=
 tie _ 113 Tryz.f113 Te _ w K 2 _ rfl mixed Tryz.func113 (by kernel_rfl) (by kernel_rfl) Tryz.call113 h
def SX:cJ:={js:=[],ds:=[]}
def aCG(v0:Value)(w:World)(K:Q0):=eqW .slice false v0 sN λt4=>aR t4 (K sN w) (dN 9 0 [] [] w λt5 w1=>dY P0 (Builtin.append_ #[24,24] 24 #[t5,v0]) w1 λt7 w2=>K t7 w2)
theorem Wg{K:Q0}(h:aCG v0 w K):aC P0 118 [v0] w K:=
 tie _ 118 Tryz.f118 SX _ w K 1 _ rfl mixed Tryz.func118 (by kernel_rfl) (by kernel_rfl) Tryz.call118 h
def SQ:cJ:={js:=[],ds:=[]}
def Wa(v0 v1:Value)(w:World)(K:Q0):=aC P0 158 [v0,v1] w λt7 w1=>aQ .geq t7 (i64 0) λt8=>K t8 w1
theorem He{K:Q0}(h:Wa v0 v1 w K):aC P0 124 [v0,v1] w K:=
 tie _ 124 Tryz.f124 SQ _ w K 2 _ rfl mixed Tryz.func124 (by kernel_rfl) (by kernel_rfl) Tryz.call124 h
def SC:cJ:={js:=[(22004,⟨[55],[],54⟩),(11,⟨[25],[],6⟩),(16004,⟨[32],[],31⟩)],ds:=[]}
def aCp(v0 v1:Value)(w:World)(K:Q0):=rX .u32 v1 λt7=>aQ .leq t7 (.int .u32 2047) λt13=>aR t13 (aQ .shr v1 (.int .u64 6) λt16=>rX .u8 t16 λt17=>aQ .or (.int .u8 192) t17 λt18=>rX .u8 v1 λt20=>aQ .and t20 (.int .u8 63) λt21=>aQ .or (.int .u8 128) t21 λt22=>dN 5 2 [(.int .u8 0),(.int .u8 0)] [(0,1,t18),(1,1,t22)] w λt23 w1=>dY P0 (Builtin.append_ #[89,89] 89 #[v0,t23]) w1 λt24 w2=>K t24 w2) (bU (λJ3=>aQ .lss t7 (.int .u32 55296) λt27=>aR t27 (J3 [t27] w) (aQ .lss (.int .u32 57343) t7 λt29=>GdW (isB t29 true) [undef] w (λJ4=>aQ .leq t7 (.int .u32 65535) λt32=>J4 [t32] w) λs4 _ w5=>cP t29 (s4.getD 0 undef) (.bool false) λt33=>J3 [t33] w5)) λs3 _ w6=>aR (s3.getD 0 undef) (aQ .shr v1 (.int .u64 12) λt36=>rX .u8 t36 λt37=>aQ .or (.int .u8 224) t37 λt38=>aQ .shr v1 (.int .u64 6) λt40=>rX .u8 t40 λt41=>aQ .and t41 (.int .u8 63) λt42=>aQ .or (.int .u8 128) t42 λt43=>rX .u8 v1 λt45=>aQ .and t45 (.int .u8 63) λt46=>aQ .or (.int .u8 128) t46 λt47=>dN 5 3 [(.int .u8 0),(.int .u8 0),(.int .u8 0)] [(0,1,t38),(1,1,t43),(2,1,t47)] w6 λt48 w7=>dY P0 (Builtin.append_ #[89,89] 89 #[v0,t48]) w7 λt49 w8=>K t49 w8) (aQ .gtr t7 (.int .u32 65535) λt52=>GdW (isB t52 true) [undef] w6 (λJ9=>aQ .leq t7 (.int .u32 1114111) λt55=>J9 [t55] w6) λs9 _ w10=>cP t52 (s9.getD 0 undef) (.bool false) λt56=>aR t56 (aQ .shr v1 (.int .u64 18) λt59=>rX .u8 t59 λt60=>aQ .or (.int .u8 240) t60 λt61=>aQ .shr v1 (.int .u64 12) λt63=>rX .u8 t63 λt64=>aQ .and t64 (.int .u8 63) λt65=>aQ .or (.int .u8 128) t65 λt66=>aQ .shr v1 (.int .u64 6) λt68=>rX .u8 t68 λt69=>aQ .and t69 (.int .u8 63) λt70=>aQ .or (.int .u8 128) t70 λt71=>rX .u8 v1 λt73=>aQ .and t73 (.int .u8 63) λt74=>aQ .or (.int .u8 128) t74 λt75=>dN 5 4 [(.int .u8 0),(.int .u8 0),(.int .u8 0),(.int .u8 0)] [(0,1,t61),(1,1,t66),(2,1,t71),(3,1,t75)] w10 λt76 w11=>dY P0 (Builtin.append_ #[89,89] 89 #[v0,t76]) w11 λt77 w12=>K t77 w12) (dN 5 3 [(.int .u8 0),(.int .u8 0),(.int .u8 0)] [(0,1,(.int .u8 239)),(1,1,(.int .u8 191)),(2,1,(.int .u8 189))] w10 λt9 w13=>dY P0 (Builtin.append_ #[89,89] 89 #[v0,t9]) w13 λt10 w14=>K t10 w14)))
theorem VM{K:Q0}(h:aCp v0 v1 w K):aC P0 138 [v0,v1] w K:=
 tie _ 138 Tryz.f138 SC _ w K 2 _ rfl mixed Tryz.func138 (by kernel_rfl) (by kernel_rfl) Tryz.call138 h
def SB:cJ:={js:=[],ds:=[]}
def aCo(v0 v1:Value)(w:World)(K:Q0):=aC P0 67 [v0,v1] w λt7 w1=>aR t7 (gW v1 λt10=>lN v0 (some t10) none λt11=>K t11 w1) (K v0 w1)
theorem VL{K:Q0}(h:aCo v0 v1 w K):aC P0 144 [v0,v1] w K:=
 tie _ 144 Tryz.f144 SB _ w K 2 _ rfl mixed Tryz.func144 (by kernel_rfl) (by kernel_rfl) Tryz.call144 h
def Sx:cJ:={js:=[(24004,⟨[52],[],36⟩),(24005,⟨[51],[],43⟩),(24007,⟨[50],[],49⟩),(24013,⟨[48],[],43⟩),(24020,⟨[42],[],36⟩),(8,⟨[7,8],[],7⟩)],ds:=[]}
def aCk(v0 v1:Value)(w:World)(K:Q0):=dC v0 λt11=>cZ [(i64 0),t11] w λs1 _ w2 L1=>aQ .lss (s1.getD 0 undef) (s1.getD 1 undef) λt15=>aR t15 (aQ .add (s1.getD 0 undef) (s1.getD 1 undef) λt18=>rX .u64 t18 λt19=>aQ .shr t19 (.int .u64 1) λt20=>rX .i64 t20 λt21=>dV none 1 v0 t21 λt24=>ldW false 1 t24 w2 λt25=>aC P0 206 [t25,v1] w2 λt27 w3=>aR t27 (aQ .add t21 (i64 1) λt29=>L1 [t29,(s1.getD 1 undef)] w3) (L1 [(s1.getD 0 undef),t21] w3)) (aQ .lss (s1.getD 0 undef) t11 λt34=>GdW (isB t34 true) [undef] w2 (λJ4=>dV none 1 v0 (s1.getD 0 undef) λt38=>ldW false 1 t38 w2 λt39=>aQ .eql t39 v1 λt41=>J4 [t41] w2) λs4 _ w5=>GdW (isB (s4.getD 0 undef) false) [undef] w5 (λJ6=>dV none 1 v0 (s1.getD 0 undef) λt45=>ldW false 1 t45 w5 λt46=>aC P0 207 [t46] w5 λt47 w7=>J6 [t47] w7) λs6 _ w8=>GdW (isB (s6.getD 0 undef) true) [undef] w8 (λJ9=>aC P0 207 [v1] w8 λt50 w10=>J9 [t50] w10) λs9 _ w11=>GdW (isB (s4.getD 0 undef) false) [undef] w11 (λJ12=>cP (s6.getD 0 undef) (s9.getD 0 undef) (.bool false) λt51=>J12 [t51] w11) λs12 _ w13=>GdW (isB t34 true) [undef] w13 (λJ14=>cP (s4.getD 0 undef) (.bool true) (s12.getD 0 undef) λt52=>J14 [t52] w13) λs14 _ w15=>cP t34 (s14.getD 0 undef) (.bool false) λt53=>K (.tuple #[(s1.getD 0 undef),t53]) w15)
theorem VG{K:Q0}(h:aCk v0 v1 w K):aC P0 153 [v0,v1] w K:=
 tie _ 153 Tryz.f153 Sx _ w K 2 _ rfl mixed Tryz.func153 (by kernel_rfl) (by kernel_rfl) Tryz.call153 h
def Sv:cJ:={js:=[],ds:=[]}
def aCi(v0:Value)(w:World)(K:Q0):=aC P0 212 [v0] w λt8 w1=>dE 0 t8 λt9=>dE 1 t8 λt10=>eqQ P0 .neq 118 false true t10 .nilIface w1 λt12=>aR t12 (aC P0 213 [(str [65,116,111,105]),v0,(i64 0),(i64 0),t10] w1 λt16 w2=>K (.tuple #[t9,t16]) w2) (K (.tuple #[t9,.nilIface]) w1)
theorem VE{K:Q0}(h:aCi v0 w K):aC P0 157 [v0] w K:=
 tie _ 157 Tryz.f157 Sv _ w K 1 _ rfl mixed Tryz.func157 (by kernel_rfl) (by kernel_rfl) Tryz.call157 h
def Su:cJ:={js:=[(6,⟨[8],[4,5],8⟩)],ds:=[]}
def VD(v0 v1:Value)(w:World)(K:Q0):=dC v0 λt7=>cZ [(i64 0)] w λs1 _ w2 L1=>aQ .lss (s1.getD 0 undef) t7 λt9=>aR t9 (dV none 5 v0 (s1.getD 0 undef) λt14=>ldW true 5 t14 w2 λt15=>nU P0 v1 [t15] w2 λt16 w3=>aR t16 (K (s1.getD 0 undef) w3) (aQ .add (s1.getD 0 undef) (i64 1) λt18=>L1 [t18] w3)) (K (.int .i64 (-1)) w2)
theorem Hd{K:Q0}(h:VD v0 v1 w K):aC P0 158 [v0,v1] w K:=
 tie _ 158 Tryz.f158 Su _ w K 2 _ rfl mixed Tryz.func158 (by kernel_rfl) (by kernel_rfl) Tryz.call158 h
def Sk:cJ:={js:=[],ds:=[]}
def aCb(v0 v1:Value)(w:World)(K:Q0):=aC P0 229 [v0] w λt8 w1=>aC P0 229 [v1] w1 λt10 w2=>aR t8 (aR t10 (K (i64 0) w2) (K (.int .i64 (-1)) w2)) (aR t10 (K (i64 1) w2) (aQ .lss v0 v1 λt16=>aR t16 (K (.int .i64 (-1)) w2) (aQ .gtr v0 v1 λt19=>aR t19 (K (i64 1) w2) (K (i64 0) w2))))
theorem Vw{K:Q0}(h:aCb v0 v1 w K):aC P0 189 [v0,v1] w K:=
 tie _ 189 Tryz.f189 Sk _ w K 2 _ rfl mixed Tryz.func189 (by kernel_rfl) (by kernel_rfl) Tryz.call189 h
def Sj:cJ:={js:=[],ds:=[]}
def aCa(v0 v1:Value)(w:World)(K:Q0):=aC P0 230 [v0] w λt8 w1=>aC P0 230 [v1] w1 λt10 w2=>aR t8 (aR t10 (K (i64 0) w2) (K (.int .i64 (-1)) w2)) (aR t10 (K (i64 1) w2) (aQ .lss v0 v1 λt16=>aR t16 (K (.int .i64 (-1)) w2) (aQ .gtr v0 v1 λt19=>aR t19 (K (i64 1) w2) (K (i64 0) w2))))
theorem Vv{K:Q0}(h:aCa v0 v1 w K):aC P0 190 [v0,v1] w K:=
 tie _ 190 Tryz.f190 Sj _ w K 2 _ rfl mixed Tryz.func190 (by kernel_rfl) (by kernel_rfl) Tryz.call190 h
def Sg:cJ:={js:=[(8,⟨[8],[2,5],8⟩)],ds:=[]}
def aB8(v0:Value)(w:World)(K:Q0):=dC v0 λt7=>cZ [(i64 0)] w λs1 _ w2 L1=>aQ .lss (s1.getD 0 undef) t7 λt9=>aR t9 (dV none 1 v0 (s1.getD 0 undef) λt10=>ldW false 1 t10 w2 λt11=>aQ .neq t11 (i64 0) λt14=>aR t14 (K t11 w2) (aQ .add (s1.getD 0 undef) (i64 1) λt16=>L1 [t16] w2)) (K (i64 0) w2)
theorem Vt{K:Q0}(h:aB8 v0 w K):aC P0 193 [v0] w K:=
 tie _ 193 Tryz.f193 Sg _ w K 1 _ rfl mixed Tryz.func193 (by kernel_rfl) (by kernel_rfl) Tryz.call193 h
def Sf:cJ:={js:=[(6,⟨[11],[4,5,6,7,8],11⟩)],ds:=[]}
def aB7(v0 v1:Value)(w:World)(K:Q0):=dC v0 λt10=>cZ [(i64 0)] w λs1 _ w2 L1=>aQ .lss (s1.getD 0 undef) t10 λt12=>aR t12 (dV none 1 v0 (s1.getD 0 undef) λt14=>ldW false 1 t14 w2 λt15=>dC v1 λt18=>aQ .geq (s1.getD 0 undef) t18 λt19=>aR t19 (K (i64 1) w2) (dV none 1 v1 (s1.getD 0 undef) λt22=>ldW false 1 t22 w2 λt23=>aC P0 232 [t15,t23] w2 λt26 w3=>aQ .neq t26 (i64 0) λt28=>aR t28 (K t26 w3) (aQ .add (s1.getD 0 undef) (i64 1) λt30=>L1 [t30] w3))) (dC v0 λt32=>dC v1 λt34=>aQ .lss t32 t34 λt35=>aR t35 (K (.int .i64 (-1)) w2) (K (i64 0) w2))
theorem Vs{K:Q0}(h:aB7 v0 v1 w K):aC P0 194 [v0,v1] w K:=
 tie _ 194 Tryz.f194 Sf _ w K 2 _ rfl mixed Tryz.func194 (by kernel_rfl) (by kernel_rfl) Tryz.call194 h
def Se:cJ:={js:=[(6,⟨[13],[6,7,8,9,10],13⟩)],ds:=[]}
def aB6(v0 v1 v2:Value)(w:World)(K:Q0):=dC v0 λt12=>cZ [(i64 0)] w λs1 _ w2 L1=>aQ .lss (s1.getD 0 undef) t12 λt14=>aR t14 (dV none 5 v0 (s1.getD 0 undef) λt16=>ldW true 5 t16 w2 λt17=>bO 26 zL0 w2 λt8 w3=>stW 5 t8 t17 w3 λw4=>dC v1 λt20=>aQ .geq (s1.getD 0 undef) t20 λt21=>aR t21 (K (i64 1) w4) (dV none 5 v1 (s1.getD 0 undef) λt24=>ldW true 5 t24 w4 λt25=>bO 26 zL0 w4 λt9 w5=>stW 5 t9 t25 w5 λw6=>ldW true 5 t8 w6 λt27=>ldW true 5 t9 w6 λt28=>nU P0 v2 [t27,t28] w6 λt29 w7=>aQ .neq t29 (i64 0) λt31=>aR t31 (K t29 w7) (aQ .add (s1.getD 0 undef) (i64 1) λt33=>L1 [t33] w7))) (dC v0 λt35=>dC v1 λt37=>aQ .lss t35 t37 λt38=>aR t38 (K (.int .i64 (-1)) w2) (K (i64 0) w2))
theorem Vr{K:Q0}(h:aB6 v0 v1 v2 w K):aC P0 195 [v0,v1,v2] w K:=
 tie _ 195 Tryz.f195 Se _ w K 3 _ rfl mixed Tryz.func195 (by kernel_rfl) (by kernel_rfl) Tryz.call195 h
def RX:cJ:={js:=[(3005,⟨[15],[],13⟩),(3010,⟨[10],[],8⟩)],ds:=[]}
def aBZ(v0 v1:Value)(w:World)(K:Q0):=aC P0 238 [v0] w λt6 w1=>GdW (isB t6 true) [undef] w1 (λJ2=>aC P0 238 [v1] w1 λt9 w3=>unW .not t9 λt10=>J2 [t10] w3) λs2 _ w4=>cP t6 (s2.getD 0 undef) (.bool false) λt11=>GdW (isB t11 false) [undef] w4 (λJ5=>aQ .lss v0 v1 λt15=>J5 [t15] w4) λs5 _ w6=>cP t11 (.bool true) (s5.getD 0 undef) λt16=>K t16 w6
theorem Vk{K:Q0}(h:aBZ v0 v1 w K):aC P0 206 [v0,v1] w K:=
 tie _ 206 Tryz.f206 RX _ w K 2 _ rfl mixed Tryz.func206 (by kernel_rfl) (by kernel_rfl) Tryz.call206 h
def RV:cJ:={js:=[],ds:=[]}
def aC6(v0:Value)(w:World)(K:Q0):=aQ .neq v0 v0 λt5=>K t5 w
theorem Vj{K:Q0}(h:aC6 v0 w K):aC P0 207 [v0] w K:=
 tie _ 207 Tryz.f207 RV _ w K 1 _ rfl mixed Tryz.func207 (by kernel_rfl) (by kernel_rfl) Tryz.call207 h
def RO:cJ:={js:=[],ds:=[]}
def aBV(v0 v1:Value)(w:World)(K:Q0):=aC P0 251 [v0,v1] w λt8 w1=>dE 0 t8 λt9=>dE 1 t8 λt10=>K (.tuple #[t9,t10]) w1
theorem Vf{K:Q0}(h:aBV v0 v1 w K):aC P0 225 [v0,v1] w K:=
 tie _ 225 Tryz.f225 RO _ w K 2 _ rfl mixed Tryz.func225 (by kernel_rfl) (by kernel_rfl) Tryz.call225 h
def RN:cJ:={js:=[],ds:=[]}
def aBU(v0 v1:Value)(w:World)(K:Q0):=aC P0 254 [v0,v1] w λt7 w1=>K t7 w1
theorem Ve{K:Q0}(h:aBU v0 v1 w K):aC P0 228 [v0,v1] w K:=
 tie _ 228 Tryz.f228 RN _ w K 2 _ rfl mixed Tryz.func228 (by kernel_rfl) (by kernel_rfl) Tryz.call228 h
def RL:cJ:={js:=[],ds:=[]}
def aC5(v0:Value)(w:World)(K:Q0):=aQ .neq v0 v0 λt5=>K t5 w
theorem Vd{K:Q0}(h:aC5 v0 w K):aC P0 229 [v0] w K:=
 tie _ 229 Tryz.f229 RL _ w K 1 _ rfl mixed Tryz.func229 (by kernel_rfl) (by kernel_rfl) Tryz.call229 h
def RJ:cJ:={js:=[],ds:=[]}
def aC4(v0:Value)(w:World)(K:Q0):=aQ .neq v0 v0 λt5=>K t5 w
theorem Vb{K:Q0}(h:aC4 v0 w K):aC P0 230 [v0] w K:=
 tie _ 230 Tryz.f230 RJ _ w K 1 _ rfl mixed Tryz.func230 (by kernel_rfl) (by kernel_rfl) Tryz.call230 h
def RI:cJ:={js:=[],ds:=[]}
def aBT(v0 v1:Value)(w:World)(K:Q0):=aC P0 238 [v0] w λt8 w1=>aC P0 238 [v1] w1 λt10 w2=>aR t8 (aR t10 (K (i64 0) w2) (K (.int .i64 (-1)) w2)) (aR t10 (K (i64 1) w2) (aQ .lss v0 v1 λt16=>aR t16 (K (.int .i64 (-1)) w2) (aQ .gtr v0 v1 λt19=>aR t19 (K (i64 1) w2) (K (i64 0) w2))))
theorem Va{K:Q0}(h:aBT v0 v1 w K):aC P0 232 [v0,v1] w K:=
 tie _ 232 Tryz.f232 RI _ w K 2 _ rfl mixed Tryz.func232 (by kernel_rfl) (by kernel_rfl) Tryz.call232 h
def RH:cJ:={js:=[],ds:=[]}
def aBS(v0 v1:Value)(w:World)(K:Q0):=aC P0 256 [v0] w λt8 w1=>aC P0 256 [v1] w1 λt10 w2=>aR t8 (aR t10 (K (i64 0) w2) (K (.int .i64 (-1)) w2)) (aR t10 (K (i64 1) w2) (aQ .lss v0 v1 λt16=>aR t16 (K (.int .i64 (-1)) w2) (aQ .gtr v0 v1 λt19=>aR t19 (K (i64 1) w2) (K (i64 0) w2))))
theorem UZ{K:Q0}(h:aBS v0 v1 w K):aC P0 233 [v0,v1] w K:=
 tie _ 233 Tryz.f233 RH _ w K 2 _ rfl mixed Tryz.func233 (by kernel_rfl) (by kernel_rfl) Tryz.call233 h
def RE:cJ:={js:=[],ds:=[]}
def aC3(v0:Value)(w:World)(K:Q0):=aQ .neq v0 v0 λt5=>K t5 w
theorem UW{K:Q0}(h:aC3 v0 w K):aC P0 238 [v0] w K:=
 tie _ 238 Tryz.f238 RE _ w K 1 _ rfl mixed Tryz.func238 (by kernel_rfl) (by kernel_rfl) Tryz.call238 h
def RB:cJ:={js:=[],ds:=[]}
def aBO(v0 v1:Value)(w:World)(K:Q0):=aC P0 67 [v0,v1] w λt8 w1=>unW .not t8 λt9=>aR t9 (K (.tuple #[v0,(.bool false)]) w1) (gW v1 λt13=>lN v0 (some t13) none λt14=>K (.tuple #[t14,(.bool true)]) w1)
theorem UU{K:Q0}(h:aBO v0 v1 w K):aC P0 251 [v0,v1] w K:=
 tie _ 251 Tryz.f251 RB _ w K 2 _ rfl mixed Tryz.func251 (by kernel_rfl) (by kernel_rfl) Tryz.call251 h
def RA:cJ:={js:=[],ds:=[]}
def aBN(v0 v1:Value)(w:World)(K:Q0):=aQ .eql v1 (i64 10) λt10=>aR t10 (aQ .lss v0 (.int .u64 100) λt12=>aR t12 (rX .i64 v0 λt14=>aC P0 274 [t14] w λt15 w1=>K t15 w1) (bO 262 (List.replicate 24 (.int .u8 0)) w λt5 w2=>aC P0 275 [v0] w2 λt17 w3=>Mv 24 1 t5 none (some t17) none λt19=>aC P0 276 [t19,v0] w3 λt21 w4=>Mv 24 1 t5 none (some t17) none λt23=>mS P0 (convert 89 9 t23) w4 λt24=>K t24 w4)) (aC P0 277 [sN,v0,v1,(.bool false),(.bool false)] w λt28 w5=>dE 0 t28 λt29=>dE 1 t28 λt30=>K t30 w5)
theorem UT{K:Q0}(h:aBN v0 v1 w K):aC P0 254 [v0,v1] w K:=
 tie _ 254 Tryz.f254 RA _ w K 2 _ rfl mixed Tryz.func254 (by kernel_rfl) (by kernel_rfl) Tryz.call254 h
def Rz:cJ:={js:=[],ds:=[]}
def aC2(v0:Value)(w:World)(K:Q0):=aQ .neq v0 v0 λt5=>K t5 w
theorem US{K:Q0}(h:aC2 v0 w K):aC P0 256 [v0] w K:=
 tie _ 256 Tryz.f256 Rz _ w K 1 _ rfl mixed Tryz.func256 (by kernel_rfl) (by kernel_rfl) Tryz.call256 h
end
section
open Go Go.Eng Go.Num
variable{w:World}{K:Q0}{cs:List Value}{G:Nat->Prop}{T:TypeId}{i:Nat}{n:Nat}{v:Value}{w':World}{P:Program}{c:UInt8}{S:Nat->Prop}
abbrev VT:TypeId:=26
structure vM(w:World)(a:Nat)(v:JV)(sv kv:Value):Prop where
 hb:w.heap[a]?=some (.cells [i64 v.k,.bool v.b,str v.t,sv,kv].toArray VT (0,0))
 items:∃T L,SlAt w T sv v.xs.length L/\gI w v.xs L
 keys:∃T,SlAt w T kv v.ks.length (v.ks.map str)
 fits:Fits v.xs.length v.ks v.t
theorem vM.ext{a:Nat}{v:JV}{sv kv:Value}(h:vM w a v sv kv)(hx:Ext w w'):vM w' a v sv kv:=
 ⟨hx.at h.hb id,let⟨T,L,h1,h2⟩:=h.items;⟨T,L,h1.ext hx,h2.ext hx⟩,let⟨T,h1⟩:=h.keys;⟨T,h1.ext hx⟩,h.fits⟩
theorem vM.rep{a:Nat}{v:JV}{sv kv:Value}(h:vM w a v sv kv):fV w v [i64 v.k,.bool v.b,str v.t,sv,kv]:=by
 obtain⟨T,L,h1,h2⟩:=h.items;obtain⟨T',h3⟩:=h.keys;exact fV.mk h1 h2 h3 h.fits
theorem vM.ld{a:Nat}{v:JV}{sv kv:Value}{K:Value->Prop}(h:vM w a v sv kv)(hK:∀cs,fV w v cs->K (.agg cs.toArray)):ldW true 5 (.pointer (some ⟨a,0,none⟩)) w K:=bX h.hb rfl (hK _ h.rep)
theorem vM.lenx{a:Nat}{v:JV}{sv kv:Value}(h:vM w a v sv kv)(K:Value->Prop):dC sv K↔K (i64 v.xs.length):=by obtain⟨T,L,h1,_⟩:=h.items;exact fR h1 K
theorem vM.lenk{a:Nat}{v:JV}{sv kv:Value}(h:vM w a v sv kv)(K:Value->Prop):dC kv K↔K (i64 v.ks.length):=by obtain⟨T,h1⟩:=h.keys;exact fR h1 K
theorem vM.item{a:Nat}{v:JV}{sv kv:Value}{k:IntKind}{x:JV}{K:Value->Prop}(h:vM w a v sv kv)(hi:v.xs[i]?=some x)(hK:∀cs,fV w x cs->K (.agg cs.toArray)):dV none 5 sv (.int k i) λp=>ldW true 5 p w K:=by
 obtain⟨T,L,h1,h2⟩:=h.items;exact GK h1 h2 hi hK
theorem jV{v:JV}{K:Q0}(h:fV w v cs)(hK:∀a w' sv kv,vM w' a v sv kv->Ext w w'->w.heap.size<=a->K (.pointer (some ⟨a,0,none⟩)) w'):eL VT (.agg cs.toArray) w K:=by
 obtain⟨sv,kv,T1,T2,L,rfl,h1,h2,h3,h4⟩:=h.out;refine fS λa w' ha hz hb hx=>hK a w' sv kv ⟨hb,⟨T1,L,h1.ext hx,h2.ext hx⟩,⟨T2,h3.ext hx⟩,h4⟩ hx (by omega)
theorem oI(n:Nat){w1:World}{B:List Value->Fr->World->(List Value->World->Prop)->Prop}(R:Nat->World->Prop)(h0:R 0 w1)
  (step:∀i w g L,i<n->R i w->(∀w',R (i+1) w'->L [i64 ((i+1:Nat):Int)] w')->B [i64 (i:Nat)] g w L)
  (fin:∀w g L,R n w->B [i64 (n:Nat)] g w L):cZ [i64 0] w1 B:=by
 refine⟨λs w=>∃i,i<=n/\s=[i64 (i:Nat)]/\R i w,λs _=>match s with|[.int _ i]=>n-i.toNat|_=>0,⟨0,fW _,rfl,h0⟩,?_⟩;rintro s g w ⟨i,hi,rfl,hR⟩;rcases dK i n with hlt|hge
 ·exact step i w g _ hlt hR λw' h'=>⟨⟨i+1,hlt,rfl,h'⟩,by simp only[aV];omega⟩
 ·obtain rfl:i=n:=by omega
  exact fin w g _ hR
theorem up1(h:(i:Int)<9223372036854775807):IntKind.i64.wrap ((i:Int)+1)=((i+1:Nat):Int):=by rw[cK (by omega) (by omega)];simp
section
variable [HX]
theorem Mq{a b:List Str}{x y:Value}{T1 T2:TypeId}{K:Q0}(h1:SlAt w T1 x a.length (a.map str))(h2:SlAt w T2 y b.length (b.map str))(ha:a.length<=9223372036854775807)
  (hK:∀w',Ext w w'->K (.bool (decide (a=b))) w'):aC P0 37 [x,y] w K:=by
 refine aAl ?_;unfold W37;rw[fR h1,fR h2];simp only[wsv,wsg,wsh,wsl,aO,aN,aE,fE,Nat.reduceAdd,Nat.reduceLT,aG,aB,aK,aI,bT,reduceCtorEq,aM];refine⟨λhne=>?_,λhe=>?_⟩
 ·have:a≠b:=by rintro rfl;exact hne rfl
  have:=hK w (Chg.refl _ _);rw[bZ ‹a≠b›]at this;exact this
 ·have hl:a.length=b.length:=by omega
  rw[fR h1];refine oI a.length (λi w'=>Ext w w'/\a.take i=b.take i) ⟨Chg.refl _ _,rfl⟩ ?_ ?_
  ·rintro i w2 g L hi ⟨hx2,htk⟩ hL;have hx3:=hx2.trans (Chg.drew (Chg.refl (λ_=>False) w2));obtain⟨u,hu⟩:∃u,a[i]?=some u:=⟨_,List.getElem?_eq_getElem hi⟩;obtain⟨v,hv⟩:∃v,b[i]?=some v:=⟨_,List.getElem?_eq_getElem (by omega)⟩;have hlt:((i:Int)<(a.length:Int)):=by omega
   simp only[wsv,wsg,wsh,wsl,aO,aN,aE,fE,Nat.reduceAdd,Nat.reduceLT,aG,aB,aK,aI,bT,reduceCtorEq,hlt];refine pG (h1.ext hx3) hu ?_;refine pG (h2.ext hx3) hv ?_;simp only[wsv,wsg,wsh,wsl,aO,aN,aE,fE,Nat.reduceAdd,Nat.reduceLT,aG,aB,aK,aI,bT,reduceCtorEq,aM];refine⟨λhne=>?_,λhe=>?_⟩
   ·have:=hK _ hx3;rw[bZ (QT hu hv hne)]at this;exact this
   ·rw[up1 (by omega)];have he:u=v:=by simpa using he
    exact hL _ ⟨hx3,Lb htk hu (by rw[he];exact hv)⟩
  ·rintro w2 g L ⟨hx2,htk⟩;simp only[wsv,wsg,wsh,wsl,aO,aN,aE,fE,Nat.reduceAdd,Nat.reduceLT,aG,aB,aK,aI,bT,reduceCtorEq,gJ];rw[bM,hl,bM]at htk;have:=hK w2 hx2;rw[bF htk]at this;exact this
end
section
variable [HX]
theorem Na(c:UInt8):(decide (((c.toNat:Nat):Int)<48)||decide ((57:Int)<((c.toNat:Nat):Int)))=!Num.isDig c:=by
 unfold Num.isDig;rcases dK c.toNat 48 with h|h
 ·rw[bF (by omega),bZ (show¬48<=c.toNat by omega)];rfl
 ·rw[bZ (show¬((c.toNat:Nat):Int)<48 by omega),bF (show 48<=c.toNat by omega)];rcases dK 57 c.toNat with h2|h2
  ·rw[bF (by omega),bZ (show¬c.toNat<=57 by omega)];rfl
  ·rw[bZ (by omega),bF (show c.toNat<=57 by omega)];rfl
theorem aAQ(c:UInt8)(m:Int)(d:UInt8)(hm:m=(d.toNat:Nat)):decide (((c.toNat:Nat):Int)=m)=(c==d):=by
 rw[lD,bB,fI,hm];constructor
 ·intro h;exact iR.1 (by omega)
 ·intro h;rw[h]
theorem Ki{ks:List Str}{a b:Str}(ha:ks[i]?=some a)(hb:ks[i+1]?=some b)(h:Op.bytesLess a b=false):iQ ks=false:=by
 induction ks generalizing i with
 |nil=>simp at ha
 |cons x r ih=>
  cases r with
  |nil=>simp at hb
  |cons y r=>
   cases i with
   |zero=>simp only[List.getElem?_cons_zero,bD,aX,List.getElem?_cons_succ]at ha hb;subst ha hb;simp[iQ,h]
   |succ i=>
    simp only[List.getElem?_cons_succ]at ha hb;rw[iQ,ih (by simpa using ha) (by simpa using hb)];simp
theorem Io{ks:List Str}{a:Str}(ha:ks[i]?=some a)(h:16384<a.length):iQ ks=false:=by
 induction ks generalizing i with
 |nil=>simp at ha
 |cons x r ih=>
  cases i with
  |zero=>
   simp only[List.getElem?_cons_zero,bD]at ha;subst ha;cases r with
   |nil=>simp only[iQ,decide_eq_false_iff_not];omega
   |cons y r=>rw[iQ,bZ (by omega)];rfl
  |succ i=>
   simp only[List.getElem?_cons_succ]at ha;cases r with
   |nil=>simp at ha
   |cons y r=>rw[iQ,ih ha];simp
theorem MY{ks:List Str}(h1:∀(i:Nat) (a:Str),ks[i]?=some a->a.length<=16384)(h2:∀(i:Nat) (a b:Str),ks[i]?=some a->ks[i+1]?=some b->Op.bytesLess a b=true):iQ ks=true:=by
 induction ks with
 |nil=>rfl
 |cons x r ih=>
  have:=ih (λi a h=>h1 (i+1) a (by rw[List.getElem?_cons_succ];exact h)) (λi a b ha hb=>h2 (i+1) a b (by rw[List.getElem?_cons_succ];exact ha) (by rw[List.getElem?_cons_succ];exact hb));cases r with
  |nil=>simp only[iQ,bB];exact h1 0 x rfl
  |cons y r=>rw[iQ,this,h2 0 x y rfl rfl,bF (h1 0 x rfl)];rfl
theorem Ox(a:JV):∀{b:JV} {cs ds:List Value} {w:World} {K:Q0},fV w a cs->fV w b ds->(∀w',Ext w w'->K (.bool (BE a b)) w')->aC P0 17 [.agg cs.toArray,.agg ds.toArray] w K:=by
 induction a using JV.ind' with
 |h v ih=>
  intro b cs ds w K h h' hK;refine aAy ?_;unfold W17;refine jV h λx w1 sv kv hB hx _=>?_;refine jV (h'.ext hx) λy w2 sv' kv' hC hx2 _=>?_;have hB:=hB.ext hx2;have hx:=hx.trans hx2;clear hx2;rw[Oy]at hK;simp only[wsv,wsg,wsh,wsl,aO,aN,aE,fE,Nat.reduceAdd,Nat.reduceLT,aG,aB,aK,aI,bT,reduceCtorEq,wsh,hB.hb,hC.hb,WU,aBa];intros;refine GdW.act (!decide (v.ks=b.ks)) (λw'=>Ext w2 w') (λ_=>Chg.refl _ _) ?_ ?_
  ·intro hc J hJ;obtain⟨T1,k1⟩:=hB.keys;obtain⟨T2,k2⟩:=hC.keys;refine Mq k1 k2 hB.fits.2.1 λw3 hx3=>?_;simp only[wsv,wsg,wsh,wsl,aO,aN,aE,fE,Nat.reduceAdd,Nat.reduceLT,aG,aB,aK,aI,bT,reduceCtorEq];exact hJ w3 hx3
  intro g w3 hx3;have hB:=hB.ext hx3;have hC:=hC.ext hx3;have hx:=hx.trans hx3;clear hx3;simp only[wsv,wsg,wsh,wsl,aO,aN,aE,fE,Nat.reduceAdd,Nat.reduceLT,aG,aB,aK,aI,bT,reduceCtorEq,wsh,hB.hb,hC.hb,hB.lenx,hC.lenx];intros;have e1:(!v.b==b.b)=!decide (v.b=b.b):=by cases v.b<;>cases b.b<;>rfl
  have e2:decide (¬(v.xs.length:Int)=(b.xs.length:Int))=!decide (v.xs.length=b.xs.length):=by rw[<-vU];exact decide_eq_decide.2 (by omega)
  rw[e2];simp only[vU];have hsl:v.xs.length≠b.xs.length->sT v.xs b.xs=false:=ME;by_cases hl:v.xs.length=b.xs.length
  ·rw[bF hl,bS];refine⟨λhne=>?_,λheq=>?_⟩
   ·have:=hK w3 hx;have e:(decide (v.k=b.k)&&decide (v.b=b.b)&&decide (v.t=b.t)&&decide (v.ks=b.ks)&&sT v.xs b.xs)=false:=by
     have e1:(v.b==b.b)=decide (v.b=b.b):=by cases v.b<;>cases b.b<;>rfl
     rw[e1]at hne;revert hne;cases decide (v.k=b.k)<;>cases decide (v.b=b.b)<;>cases decide (v.t=b.t)<;>cases decide (v.ks=b.ks)<;>simp
    rw[e]at this;exact this
   ·have e:(decide (v.k=b.k)&&decide (v.b=b.b)&&decide (v.t=b.t)&&decide (v.ks=b.ks))=true:=by
     have e1:(v.b==b.b)=decide (v.b=b.b):=by cases v.b<;>cases b.b<;>rfl
     rw[e1]at heq;revert heq;cases decide (v.k=b.k)<;>cases decide (v.b=b.b)<;>cases decide (v.t=b.t)<;>cases decide (v.ks=b.ks)<;>simp
    rw[e]at hK;refine oI v.xs.length (λi w'=>Ext w3 w'/\v.xs.take i=b.xs.take i) ⟨Chg.refl _ _,rfl⟩ ?_ ?_
    ·rintro i w4 g L hi ⟨hx4,hall⟩ hL;have hxd:Ext w3 w4.drew:=hx4.trans (Chg.drew (Chg.refl (λ_=>False) w4));have hB4:=hB.ext hx4;have hC4:=hC.ext hx4;have hB:=hB.ext hxd;have hC:=hC.ext hxd;obtain⟨p,hp⟩:∃p,v.xs[i]?=some p:=⟨_,List.getElem?_eq_getElem hi⟩;obtain⟨q,hq⟩:∃q,b.xs[i]?=some q:=⟨_,List.getElem?_eq_getElem (by omega)⟩;have hlt:((i:Int)<(v.xs.length:Int)):=by omega
     simp only[wsv,wsg,wsh,wsl,aO,aN,aE,fE,Nat.reduceAdd,Nat.reduceLT,aG,aB,aK,aI,bT,reduceCtorEq,wsh,hB4.hb,hC4.hb,hlt];refine hB.item hp λcs1 h1=>?_;refine hC.item hq λcs2 h2=>?_;refine ih p (bK hp) h1 h2 λw5 hx5=>?_;simp only[wsv,wsg,wsh,wsl,aO,aN,aE,fE,Nat.reduceAdd,Nat.reduceLT,aG,aB,aK,aI,bT,reduceCtorEq,bS];refine⟨λhf=>?_,λht=>?_⟩
     ·have hf:BE p q=false:=by simpa using hf
      have:=hK w5 (hx.trans (hxd.trans hx5));rw[JK hl hp hq hf]at this;exact this
     ·have ht:BE p q=true:=by simpa using ht
      have:=(same_iff p q).1 ht;subst this;rw[up1 (by have:=hB.fits.1;omega)];exact hL w5 ⟨hxd.trans hx5,Lb hall hp hq⟩
    ·rintro w4 g L ⟨hx4,hall⟩;simp only[wsv,wsg,wsh,wsl,aO,aN,aE,fE,Nat.reduceAdd,Nat.reduceLT,aG,aB,aK,aI,bT,reduceCtorEq,gJ];rw[bM,hl,bM]at hall;have:=hK w4 (hx.trans hx4);rw[(uC _ _).2 hall]at this;exact this
  ·rw[bZ hl,kK,Bool.or_true,dR];have:=hK w3 hx;rw[hsl hl,Bool.and_false]at this;exact this
end
abbrev ST:TypeId:=9
theorem KC:sF P0 24 ST 1 16:=⟨by kernel_rfl,by kernel_rfl,by decide⟩
theorem KB:sF P0 23 VT 5 80:=⟨by kernel_rfl,by kernel_rfl,by decide⟩
abbrev zv:List Value:=[i64 0,.bool false,str [],.slice none 0 0,.slice none 0 0]
abbrev ptr(b:Nat):Value:=.pointer (some ⟨b,0,none⟩)
theorem uW{base:Nat}{e:TypeId}{size:Nat}{xs:List Value}(h:Own w base e size v n xs){k:Nat}(hk:v.ownBlock=some k):base<=k/\∃c,w.heap[k]?=some (.cells c e (0,0)):=h.block k hk
theorem WI{x:Str}{K:Q0}(hK:∀t w',SlAt w' ST t 1 [str x]->Ext w w'->K t w'):dN ST 1 [.string (ofL [])] [(0,1,str x)] w K:=by
 unfold dN;simp only[wsv,wsg,wsh,wsl,aO,aN,aE,fE,Nat.reduceAdd,Nat.reduceLT,aG,aB,aK,aI,bT,reduceCtorEq];exact hK _ _ (xL (w:=w) (base:=w.heap.size) (e:=ST) (size:=1) (n:=1) (cs:=[str x]) (aU _) rfl (by omega)).sl (by repeat (first|assumption|exact Chg.refl _ _|refine Chg.drew ?_|refine Chg.alloc ?_ _|refine Chg.set ?_ (by first|exact .inl rfl|exact .inr (by omega)|exact .inr (by simp only[qZ,size_alloc,size_drew];omega)|(left;simp;done)) _|exact Chg.of_ext (by assumption)))
theorem EO{K:Q0}(hc:cs.length=5)(hK:∀t w',SlAt w' VT t 1 cs->Ext w w'->K t w'):dN VT 1 [(.int .i64 0),(.bool false),(.string (ofL [])),(.slice none 0 0),(.slice none 0 0)] [(0,5,.agg cs.toArray)] w K:=by
 unfold dN;have hp:∀K:List Value->Prop,K cs->dD [(.int .i64 0),(.bool false),(.string (ofL [])),(.slice none 0 0),(.slice none 0 0)] [(0,5,.agg cs.toArray)] K:=by
  intro K hK;refine⟨by simp[Value.cells,hc],by simp,?_⟩;have:List.take 0 [(Value.int .i64 0),(.bool false),(.string (ofL [])),(.slice none 0 0),(.slice none 0 0)]++((Value.agg cs.toArray).cells.toList++List.drop (0+5) [(Value.int .i64 0),(.bool false),(.string (ofL [])),(.slice none 0 0),(.slice none 0 0)])=cs:=by simp[Value.cells]
  rw[this];exact hK
 refine hp _ ?_;exact hK _ _ (xL (w:=w) (base:=w.heap.size) (e:=VT) (size:=5) (n:=1) (cs:=cs) (aU _) (by omega) (by omega)).sl (by repeat (first|assumption|exact Chg.refl _ _|refine Chg.drew ?_|refine Chg.alloc ?_ _|refine Chg.set ?_ (by first|exact .inl rfl|exact .inr (by omega)|exact .inr (by simp only[qZ,size_alloc,size_drew];omega)|(left;simp;done)) _|exact Chg.of_ext (by assumption)))
section
variable [HX]
theorem vM.item_old{w0:World}{a:Nat}{v:JV}{sv kv:Value}{k:IntKind}{x:JV}{K:Value->Prop}(h:vM w0 a v sv kv)(hx:Ext w0 w)(hi:v.xs[i]?=some x)(hK:∀cs,fV w0 x cs->K (.agg cs.toArray)):dV none 5 sv (.int k i) λp=>ldW true 5 p w K:=by
 obtain⟨T,L,h1,h2⟩:=h.items;obtain⟨cs,hc,hg⟩:=h2.get hi;refine tO (size:=5) (h1.ext hx) h2.len (by omega) (List.getElem?_eq_some_iff.1 hi).1 λb o c fr hb hcc=>?_;exact Af hb hc.len (λj hj=>(hcc j hj).trans (hg j hj)) (hK cs hc)
theorem TA{k:Int}{b:Bool}{t:Str}{sv kv:Value}(h1:gH sv=true)(h2:gH kv=true):([i64 k,.bool b,str t,sv,kv]:List Value).all gH=true:=by
 simp only[fK,List.all_nil,h1,h2,kI];rfl
end
section
variable [HX]
theorem Ar{v:JV}{K:Q0}(h:fV w v cs)(hK:∀a w' sv kv,vM w' a v sv kv->Ext w w'->K (ptr a) w'):
  bO VT [(.int .i64 0),(.bool false),(.string (ofL [])),(.slice none 0 0),(.slice none 0 0)] w λt w1=>stW 5 t (.agg cs.toArray) w1 λw2=>K t w2:=by
 obtain⟨sv,kv,T1,T2,L,rfl,h1,h2,h3,h4⟩:=h.out;refine bG λa w1 ha hz hb hx=>?_;refine cG hb rfl rfl h.all_one λw2 hz2 hb2 hc2=>?_;have hx':=hx.new hc2 (by omega);exact hK a w2 sv kv ⟨hb2,⟨T1,L,h1.ext hx',h2.ext hx'⟩,⟨T2,h3.ext hx'⟩,h4⟩ hx'
theorem Jm{α:Type}{p:α->Bool}{xs:List α}{x:α}(hi:xs[i]?=some x):(xs.take (i+1)).any p=((xs.take i).any p||p x):=by
 rw[eP,hi];simp
end
end
end Go.Proofs.YtghhmpppnmoeoaaGreatDoor
namespace Go.Proofs
section
open Go.Shelf
variable{w:World}{K:Q0}{cs:List Value}{G:Nat->Prop}{T:TypeId}{i:Nat}{n:Nat}{v:Value}{w':World}{P:Program}{c:UInt8}{S:Nat->Prop}
def Tryz.lays170_ren:Go.Shelf.Ren:=⟨λ|170=>223|n=>n,λ|70=>114|3=>3|0=>0|72=>116|37=>89|5=>5|n=>n,λ|n=>n⟩
theorem Tryz.lays170:Go.Proofs.Lays.n170 P0 Tryz.lays170_ren:={
 mixed:=by kernel_rfl
 f170:=Tryz.func223.trans (congrArg some (by kernel_rfl))
 t0:=Tryz.underlying0
 a0:=Tryz.isAgg0
 z0:=Tryz.sizeOf0
 v0:=Tryz.zeroValue0
 t3:=Tryz.underlying3
 a3:=Tryz.isAgg3
 z3:=Tryz.sizeOf3
 v3:=Tryz.zeroValue3
 t37:=Tryz.underlying89
 a37:=Tryz.isAgg89
 z37:=Tryz.sizeOf89
 v37:=Tryz.zeroValue89
 t70:=Tryz.underlying114
 a70:=Tryz.isAgg114
 z70:=Tryz.sizeOf114
 v70:=Tryz.zeroValue114
 t72:=Tryz.underlying116
 a72:=Tryz.isAgg116
 z72:=Tryz.sizeOf116
 v72:=Tryz.zeroValue116}
def Tryz.lays169_ren:Go.Shelf.Ren:=⟨λ|169=>64|n=>n,λ|70=>114|9=>9|0=>0|72=>116|37=>89|127=>145|3=>3|5=>5|n=>n,λ|n=>n⟩
theorem Tryz.lays169:Go.Proofs.Lays.n169 P0 Tryz.lays169_ren:={
 mixed:=by kernel_rfl
 f169:=Tryz.func64.trans (congrArg some (by kernel_rfl))
 t0:=Tryz.underlying0
 a0:=Tryz.isAgg0
 z0:=Tryz.sizeOf0
 v0:=Tryz.zeroValue0
 t3:=Tryz.underlying3
 a3:=Tryz.isAgg3
 z3:=Tryz.sizeOf3
 v3:=Tryz.zeroValue3
 t9:=Tryz.underlying9
 a9:=Tryz.isAgg9
 z9:=Tryz.sizeOf9
 v9:=Tryz.zeroValue9
 t37:=Tryz.underlying89
 a37:=Tryz.isAgg89
 z37:=Tryz.sizeOf89
 v37:=Tryz.zeroValue89
 t70:=Tryz.underlying114
 a70:=Tryz.isAgg114
 z70:=Tryz.sizeOf114
 v70:=Tryz.zeroValue114
 t72:=Tryz.underlying116
 a72:=Tryz.isAgg116
 z72:=Tryz.sizeOf116
 v72:=Tryz.zeroValue116
 t127:=Tryz.underlying145
 a127:=Tryz.isAgg145
 z127:=Tryz.sizeOf145
 v127:=Tryz.zeroValue145}
theorem Tryz.Builder_Extra_169:Builder.Extra P0 Tryz.lays169_ren:={
 sizeBuilder:=by kernel_rfl
 liesBuilder:=by kernel_rfl
 t5:=Tryz.underlying5
 a5:=Tryz.isAgg5
 z5:=Tryz.sizeOf5
 v5:=Tryz.zeroValue5
 infoByte:=by kernel_rfl
 cellsByte:=by kernel_rfl
 sizeByte:=by kernel_rfl
 neB5:=by decide}
def Tryz.lays161_ren:Go.Shelf.Ren:=⟨λ|161=>111|231=>146|227=>147|233=>148|235=>149|228=>201|197=>202|151=>203|260=>234|152=>235|137=>68|119=>257|224=>142|225=>141|217=>105|266=>140|n=>n,λ|9=>9|4=>4|3=>3|5=>5|117=>179|116=>178|0=>0|124=>182|105=>214|21=>21|119=>248|46=>54|139=>251|138=>250|n=>n,λ|3=>1|4=>2|n=>n⟩
theorem Tryz.lays161:Go.Proofs.Lays.n161 P0 Tryz.lays161_ren:={
 mixed:=by kernel_rfl
 f119:=Tryz.func257.trans (congrArg some (by kernel_rfl))
 f137:=Tryz.func68.trans (congrArg some (by kernel_rfl))
 f151:=Tryz.func203.trans (congrArg some (by kernel_rfl))
 f152:=Tryz.func235.trans (congrArg some (by kernel_rfl))
 f161:=Tryz.func111.trans (congrArg some (by kernel_rfl))
 f197:=Tryz.func202.trans (congrArg some (by kernel_rfl))
 f217:=Tryz.func105.trans (congrArg some (by kernel_rfl))
 f224:=Tryz.func142.trans (congrArg some (by kernel_rfl))
 f225:=Tryz.func141.trans (congrArg some (by kernel_rfl))
 f227:=Tryz.func147.trans (congrArg some (by kernel_rfl))
 f228:=Tryz.func201.trans (congrArg some (by kernel_rfl))
 f231:=Tryz.func146.trans (congrArg some (by kernel_rfl))
 f233:=Tryz.func148.trans (congrArg some (by kernel_rfl))
 f235:=Tryz.func149.trans (congrArg some (by kernel_rfl))
 f260:=Tryz.func234.trans (congrArg some (by kernel_rfl))
 f266:=Tryz.func140.trans (congrArg some (by kernel_rfl))
 t0:=Tryz.underlying0
 a0:=Tryz.isAgg0
 z0:=Tryz.sizeOf0
 v0:=Tryz.zeroValue0
 t3:=Tryz.underlying3
 a3:=Tryz.isAgg3
 z3:=Tryz.sizeOf3
 v3:=Tryz.zeroValue3
 t4:=Tryz.underlying4
 a4:=Tryz.isAgg4
 z4:=Tryz.sizeOf4
 v4:=Tryz.zeroValue4
 t5:=Tryz.underlying5
 a5:=Tryz.isAgg5
 z5:=Tryz.sizeOf5
 v5:=Tryz.zeroValue5
 t9:=Tryz.underlying9
 a9:=Tryz.isAgg9
 z9:=Tryz.sizeOf9
 v9:=Tryz.zeroValue9
 t21:=Tryz.underlying21
 a21:=Tryz.isAgg21
 z21:=Tryz.sizeOf21
 v21:=Tryz.zeroValue21
 t46:=Tryz.underlying54
 a46:=Tryz.isAgg54
 z46:=Tryz.sizeOf54
 v46:=Tryz.zeroValue54
 t105:=Tryz.underlying214
 a105:=Tryz.isAgg214
 z105:=Tryz.sizeOf214
 v105:=Tryz.zeroValue214
 t116:=Tryz.underlying178
 a116:=Tryz.isAgg178
 z116:=Tryz.sizeOf178
 t117:=Tryz.underlying179
 a117:=Tryz.isAgg179
 z117:=Tryz.sizeOf179
 v117:=Tryz.zeroValue179
 t119:=Tryz.underlying248
 a119:=Tryz.isAgg248
 z119:=Tryz.sizeOf248
 t124:=Tryz.underlying182
 a124:=Tryz.isAgg182
 z124:=Tryz.sizeOf182
 v124:=Tryz.zeroValue182
 t138:=Tryz.underlying250
 a138:=Tryz.isAgg250
 z138:=Tryz.sizeOf250
 v138:=Tryz.zeroValue250
 t139:=Tryz.underlying251
 a139:=Tryz.isAgg251
 z139:=Tryz.sizeOf251
 v139:=Tryz.zeroValue251
 g3:=by kernel_rfl
 g4:=by kernel_rfl}
def Tryz.lays106_ren:Go.Shelf.Ren:=⟨λ|106=>192|213=>231|265=>255|n=>n,λ|9=>9|3=>3|n=>n,λ|n=>n⟩
theorem Tryz.lays106:Go.Proofs.Lays.n106 P0 Tryz.lays106_ren:={
 mixed:=by kernel_rfl
 f106:=Tryz.func192.trans (congrArg some (by kernel_rfl))
 f213:=Tryz.func231.trans (congrArg some (by kernel_rfl))
 f265:=Tryz.func255.trans (congrArg some (by kernel_rfl))
 t3:=Tryz.underlying3
 a3:=Tryz.isAgg3
 z3:=Tryz.sizeOf3
 v3:=Tryz.zeroValue3
 t9:=Tryz.underlying9
 a9:=Tryz.isAgg9
 z9:=Tryz.sizeOf9
 v9:=Tryz.zeroValue9}
open Go.RowKit in
theorem Tryz.strings_Compare(a b:ByteArray)(w:World):
 Calls P0 192 #[.string a,.string b] w λe w'=>e=.returned (.int .i64 (Lib.compareBytes a.data.toList b.data.toList))/\w'=w:=Any.strings_Compare Tryz.lays106 a b w
def Tryz.lays137_ren:Go.Shelf.Ren:=⟨λ|137=>68|217=>105|266=>140|n=>n,λ|9=>9|5=>5|3=>3|n=>n,λ|n=>n⟩
theorem Tryz.lays137:Go.Proofs.Lays.n137 P0 Tryz.lays137_ren:={
 mixed:=by kernel_rfl
 f137:=Tryz.func68.trans (congrArg some (by kernel_rfl))
 f217:=Tryz.func105.trans (congrArg some (by kernel_rfl))
 f266:=Tryz.func140.trans (congrArg some (by kernel_rfl))
 t3:=Tryz.underlying3
 a3:=Tryz.isAgg3
 z3:=Tryz.sizeOf3
 v3:=Tryz.zeroValue3
 t5:=Tryz.underlying5
 a5:=Tryz.isAgg5
 z5:=Tryz.sizeOf5
 v5:=Tryz.zeroValue5
 t9:=Tryz.underlying9
 a9:=Tryz.isAgg9
 z9:=Tryz.sizeOf9
 v9:=Tryz.zeroValue9}
open Go.RowKit in
theorem Tryz.strings_IndexByte(s:ByteArray)(c:Int)(w:World):
 Calls P0 68 #[.string s,.int .u8 c] w λe w'=>e=.returned (.int .i64 (Lib.indexByte s.data.toList c.toNat.toUInt8))/\w'=w:=Any.strings_IndexByte Tryz.lays137 s c w
def Tryz.lays104_ren:Go.Shelf.Ren:=⟨λ|104=>182|211=>221|207=>248|n=>n,λ|9=>9|4=>4|24=>192|3=>3|n=>n,λ|n=>n⟩
theorem Tryz.lays104:Go.Proofs.Lays.n104 P0 Tryz.lays104_ren:={
 mixed:=by kernel_rfl
 f104:=Tryz.func182.trans (congrArg some (by kernel_rfl))
 f207:=Tryz.func248.trans (congrArg some (by kernel_rfl))
 f211:=Tryz.func221.trans (congrArg some (by kernel_rfl))
 t3:=Tryz.underlying3
 a3:=Tryz.isAgg3
 z3:=Tryz.sizeOf3
 v3:=Tryz.zeroValue3
 t4:=Tryz.underlying4
 a4:=Tryz.isAgg4
 z4:=Tryz.sizeOf4
 v4:=Tryz.zeroValue4
 t9:=Tryz.underlying9
 a9:=Tryz.isAgg9
 z9:=Tryz.sizeOf9
 v9:=Tryz.zeroValue9
 t24:=Tryz.underlying192
 a24:=Tryz.isAgg192
 z24:=Tryz.sizeOf192
 v24:=Tryz.zeroValue192}
open Go.RowKit in
theorem Tryz.strings_CutSuffix(s p:ByteArray)(w:World)(hs:s.size<=9223372036854775807):
 Calls P0 182 #[.string s,.string p] w λe w'=>e=.returned (.tuple #[.string ⟨(Lib.trimSuffix s.data.toList p.data.toList).toArray⟩,.bool (Lib.hasSuffix s.data.toList p.data.toList)])/\w'=w:=Any.strings_CutSuffix Tryz.lays104 s p w hs
open Go.RowKit in
theorem Tryz.Builder_Len_f(B b:Nat)(bs:List Value)(w:World)(h:Lib.IsBuilderF 116 5 B b bs w):
 Calls P0 223 #[.pointer (some ⟨b,0,none⟩)] w λe w'=>e=.returned (.int .i64 bs.length)/\w'=w:=Any.Builder_Len_f Tryz.lays170 B b bs w h
open Go.RowKit in
theorem Tryz.Builder_String_any_k(B b:Nat)(l:List UInt8)(w:World)(h:Lib.IsBuilderF 116 5 B b (Lib.byteCells l) w)(hBw:B<=w.heap.size):
 Calls P0 64 #[.pointer (some ⟨b,0,none⟩)] w λe w'=>e=.returned (.string ⟨l.toArray⟩)/\(Lib.IsBuilderF 116 5 B b (Lib.byteCells l) w'/\Below B w w'/\Lib.OthersKept 5 (some b) w w'):=Any.Builder_String_any_k Tryz.lays169 Tryz.Builder_Extra_169 B b l w h hBw
def Tryz.lays283_ren:Go.Shelf.Ren:=⟨λ|283=>274|n=>n,λ|3=>3|9=>9|4=>4|n=>n,λ|n=>n⟩
theorem Tryz.lays283:Go.Proofs.Lays.n283 P0 Tryz.lays283_ren:={
 mixed:=by kernel_rfl
 f283:=Tryz.func274.trans (congrArg some (by kernel_rfl))
 t3:=Tryz.underlying3
 a3:=Tryz.isAgg3
 z3:=Tryz.sizeOf3
 v3:=Tryz.zeroValue3
 t4:=Tryz.underlying4
 a4:=Tryz.isAgg4
 z4:=Tryz.sizeOf4
 v4:=Tryz.zeroValue4
 t9:=Tryz.underlying9
 a9:=Tryz.isAgg9
 z9:=Tryz.sizeOf9
 v9:=Tryz.zeroValue9}
open Go.Lib in
theorem Tryz.internal_strconv_small(i:Nat)(h:i<100)(w:World):
 Calls P0 274 #[.int .i64 i] w λe w'=>e=.returned (.string ⟨(Lib.decDigits i).toArray⟩)/\w'=w:=Any.internal_strconv_small Tryz.lays283 i h w
def Tryz.laysM284_ren:Go.Shelf.Ren:=⟨λ|284=>275|129=>284|317=>283|318=>285|n=>n,λ|53=>209|3=>3|212=>271|0=>0|4=>4|46=>54|5=>5|9=>9|n=>n,λ|17=>5|n=>n⟩
theorem Tryz.laysM284:Go.Proofs.LaysM.n284 P0 Tryz.laysM284_ren:={
 mixed:=by kernel_rfl
 f129:=Tryz.func284.trans (congrArg some (by kernel_rfl))
 f284:=Tryz.func275.trans (congrArg some (by kernel_rfl))
 f317:=Tryz.func283.trans (congrArg some (by kernel_rfl))
 f318:=Tryz.func285.trans (congrArg some (by kernel_rfl))
 t0:=Tryz.underlying0
 a0:=Tryz.isAgg0
 z0:=Tryz.sizeOf0
 v0:=Tryz.zeroValue0
 t3:=Tryz.underlying3
 a3:=Tryz.isAgg3
 z3:=Tryz.sizeOf3
 v3:=Tryz.zeroValue3
 t4:=Tryz.underlying4
 a4:=Tryz.isAgg4
 z4:=Tryz.sizeOf4
 v4:=Tryz.zeroValue4
 t5:=Tryz.underlying5
 a5:=Tryz.isAgg5
 z5:=Tryz.sizeOf5
 v5:=Tryz.zeroValue5
 t9:=Tryz.underlying9
 a9:=Tryz.isAgg9
 z9:=Tryz.sizeOf9
 v9:=Tryz.zeroValue9
 t46:=Tryz.underlying54
 a46:=Tryz.isAgg54
 z46:=Tryz.sizeOf54
 v46:=Tryz.zeroValue54
 t53:=Tryz.underlying209
 a53:=Tryz.isAgg209
 z53:=Tryz.sizeOf209
 v53:=Tryz.zeroValue209
 t212:=Tryz.underlying271
 a212:=Tryz.isAgg271
 z212:=Tryz.sizeOf271
 v212:=Tryz.zeroValue271
 g17:=by kernel_rfl
 i0:=by kernel_rfl
 i3:=by kernel_rfl
 i4:=by kernel_rfl
 i5:=by kernel_rfl
 i9:=by kernel_rfl
 i46:=by kernel_rfl
 i53:=by kernel_rfl
 i212:=by kernel_rfl
 m17:=by kernel_rfl}
open Go.Lib in
theorem Tryz.internal_strconv_numDigits(u:Nat)(h1:1<=u)(h2:u<18446744073709551616)(w:World)(htab:Lib.TabIs P0 w "internal/strconv.uint64pow10" .u64 Lib.pow10Tab):
 Calls P0 275 #[.int .u64 u] w λe w'=>e=.returned (.int .i64 (Lib.nDigits u))/\w'=w:=Any.internal_strconv_numDigits Tryz.laysM284 u h1 h2 w htab
def Tryz.lays285_ren:Go.Shelf.Ren:=⟨λ|285=>276|n=>n,λ|37=>89|53=>209|3=>3|4=>4|51=>174|9=>9|5=>5|0=>0|n=>n,λ|n=>n⟩
theorem Tryz.lays285:Go.Proofs.Lays.n285 P0 Tryz.lays285_ren:={
 mixed:=by kernel_rfl
 f285:=Tryz.func276.trans (congrArg some (by kernel_rfl))
 t0:=Tryz.underlying0
 a0:=Tryz.isAgg0
 z0:=Tryz.sizeOf0
 v0:=Tryz.zeroValue0
 t3:=Tryz.underlying3
 a3:=Tryz.isAgg3
 z3:=Tryz.sizeOf3
 v3:=Tryz.zeroValue3
 t4:=Tryz.underlying4
 a4:=Tryz.isAgg4
 z4:=Tryz.sizeOf4
 v4:=Tryz.zeroValue4
 t5:=Tryz.underlying5
 a5:=Tryz.isAgg5
 z5:=Tryz.sizeOf5
 v5:=Tryz.zeroValue5
 t9:=Tryz.underlying9
 a9:=Tryz.isAgg9
 z9:=Tryz.sizeOf9
 v9:=Tryz.zeroValue9
 t37:=Tryz.underlying89
 a37:=Tryz.isAgg89
 z37:=Tryz.sizeOf89
 v37:=Tryz.zeroValue89
 t51:=Tryz.underlying174
 a51:=Tryz.isAgg174
 z51:=Tryz.sizeOf174
 v51:=Tryz.zeroValue174
 t53:=Tryz.underlying209
 a53:=Tryz.isAgg209
 z53:=Tryz.sizeOf209
 v53:=Tryz.zeroValue209}
open Go.RowKit Go.Sort Go.Lib in
theorem Tryz.internal_strconv_formatBase10(blk off cap:Nat)(u:Nat)(d:Array UInt8)(w:World)(hH:Holds (λ(b:UInt8)=>Value.int .u8 (b.toNat:Int)) w blk off d)(hu:u<10^d.size)(hu64:u<18446744073709551616)(hsz:d.size<4611686018427387904):
 Calls P0 276 #[.slice (some ⟨blk,off,none⟩) d.size cap,.int .u64 u] w λe w'=>
  e=.returned (.tuple #[])/\∃(n v':Nat) (dk:Array UInt8),w'=(putRow (λ(b:UInt8)=>Value.int .u8 (b.toNat:Int)) w blk off dk).drewN n/\FmtInv d.size u 0 v' dk:=Any.internal_strconv_formatBase10 Tryz.lays285 blk off cap u d w hH hu hu64 hsz
def Tryz.laysM171_ren:Go.Shelf.Ren:=⟨λ|171=>269|243=>280|246=>288|283=>274|284=>275|285=>276|286=>277|129=>284|317=>283|318=>285|319=>286|320=>287|337=>289|338=>290|n=>n,λ|3=>3|9=>9|2=>2|4=>4|171=>262|0=>0|53=>209|37=>89|5=>5|173=>265|212=>271|51=>174|20=>20|213=>272|46=>54|232=>276|233=>277|n=>n,λ|17=>5|18=>6|19=>7|n=>n⟩
theorem Tryz.laysM171:Go.Proofs.LaysM.n171 P0 Tryz.laysM171_ren:={
 mixed:=by kernel_rfl
 f129:=Tryz.func284.trans (congrArg some (by kernel_rfl))
 f171:=Tryz.func269.trans (congrArg some (by kernel_rfl))
 f243:=Tryz.func280.trans (congrArg some (by kernel_rfl))
 f246:=Tryz.func288.trans (congrArg some (by kernel_rfl))
 f283:=Tryz.func274.trans (congrArg some (by kernel_rfl))
 f284:=Tryz.func275.trans (congrArg some (by kernel_rfl))
 f285:=Tryz.func276.trans (congrArg some (by kernel_rfl))
 f286:=Tryz.func277.trans (congrArg some (by kernel_rfl))
 f317:=Tryz.func283.trans (congrArg some (by kernel_rfl))
 f318:=Tryz.func285.trans (congrArg some (by kernel_rfl))
 f319:=Tryz.func286.trans (congrArg some (by kernel_rfl))
 f320:=Tryz.func287.trans (congrArg some (by kernel_rfl))
 f337:=Tryz.func289.trans (congrArg some (by kernel_rfl))
 f338:=Tryz.func290.trans (congrArg some (by kernel_rfl))
 t0:=Tryz.underlying0
 a0:=Tryz.isAgg0
 z0:=Tryz.sizeOf0
 v0:=Tryz.zeroValue0
 t2:=Tryz.underlying2
 a2:=Tryz.isAgg2
 z2:=Tryz.sizeOf2
 v2:=Tryz.zeroValue2
 t3:=Tryz.underlying3
 a3:=Tryz.isAgg3
 z3:=Tryz.sizeOf3
 v3:=Tryz.zeroValue3
 t4:=Tryz.underlying4
 a4:=Tryz.isAgg4
 z4:=Tryz.sizeOf4
 v4:=Tryz.zeroValue4
 t5:=Tryz.underlying5
 a5:=Tryz.isAgg5
 z5:=Tryz.sizeOf5
 v5:=Tryz.zeroValue5
 t9:=Tryz.underlying9
 a9:=Tryz.isAgg9
 z9:=Tryz.sizeOf9
 v9:=Tryz.zeroValue9
 t20:=Tryz.underlying20
 a20:=Tryz.isAgg20
 z20:=Tryz.sizeOf20
 v20:=Tryz.zeroValue20
 t37:=Tryz.underlying89
 a37:=Tryz.isAgg89
 z37:=Tryz.sizeOf89
 v37:=Tryz.zeroValue89
 t46:=Tryz.underlying54
 a46:=Tryz.isAgg54
 z46:=Tryz.sizeOf54
 v46:=Tryz.zeroValue54
 t51:=Tryz.underlying174
 a51:=Tryz.isAgg174
 z51:=Tryz.sizeOf174
 v51:=Tryz.zeroValue174
 t53:=Tryz.underlying209
 a53:=Tryz.isAgg209
 z53:=Tryz.sizeOf209
 v53:=Tryz.zeroValue209
 t171:=Tryz.underlying262
 a171:=Tryz.isAgg262
 z171:=Tryz.sizeOf262
 v171:=Tryz.zeroValue262
 t173:=Tryz.underlying265
 a173:=Tryz.isAgg265
 z173:=Tryz.sizeOf265
 v173:=Tryz.zeroValue265
 t212:=Tryz.underlying271
 a212:=Tryz.isAgg271
 z212:=Tryz.sizeOf271
 v212:=Tryz.zeroValue271
 t213:=Tryz.underlying272
 a213:=Tryz.isAgg272
 z213:=Tryz.sizeOf272
 t232:=Tryz.underlying276
 a232:=Tryz.isAgg276
 z232:=Tryz.sizeOf276
 v232:=Tryz.zeroValue276
 t233:=Tryz.underlying277
 a233:=Tryz.isAgg277
 z233:=Tryz.sizeOf277
 v233:=Tryz.zeroValue277
 g17:=by kernel_rfl
 g18:=by kernel_rfl
 g19:=by kernel_rfl
 i0:=by kernel_rfl
 i2:=by kernel_rfl
 i3:=by kernel_rfl
 i4:=by kernel_rfl
 i5:=by kernel_rfl
 i9:=by kernel_rfl
 i20:=by kernel_rfl
 i37:=by kernel_rfl
 i46:=by kernel_rfl
 i51:=by kernel_rfl
 i53:=by kernel_rfl
 i171:=by kernel_rfl
 i173:=by kernel_rfl
 i212:=by kernel_rfl
 i232:=by kernel_rfl
 i233:=by kernel_rfl
 m17:=by kernel_rfl
 m18:=by kernel_rfl
 m19:=by kernel_rfl}
open Go.RowKit Go.Sort Go.Lib in
theorem Tryz.strconv_Itoa(n:Int)(h0:-9223372036854775808<=n)(h1:n<=9223372036854775807)(w:World)(htab:Lib.TabIs P0 w "internal/strconv.uint64pow10" .u64 Lib.pow10Tab):
 Calls P0 269 #[.int .i64 n] w λe w'=>e=.returned (.string ⟨(Lib.itoa n).toArray⟩)/\∃k os,w'=grow (w.drewN k) os:=Any.strconv_Itoa Tryz.laysM171 n h0 h1 w htab
def Tryz.laysC245_ren:Go.Shelf.Ren:=⟨λ|245=>213|279=>242|280=>243|281=>244|282=>245|316=>267|171=>269|205=>268|243=>280|246=>288|283=>274|284=>275|285=>276|286=>277|129=>284|317=>283|318=>285|319=>286|320=>287|337=>289|338=>290|n=>n,λ|9=>9|3=>3|75=>118|167=>236|4=>4|168=>239|210=>258|37=>89|0=>0|127=>145|145=>270|143=>268|2=>2|171=>262|53=>209|5=>5|173=>265|212=>271|51=>174|20=>20|213=>272|46=>54|232=>276|233=>277|80=>122|n=>n,λ|15=>3|16=>4|17=>5|18=>6|19=>7|n=>n⟩
theorem Tryz.laysC245:Go.Proofs.LaysC.n245 P0 Tryz.laysC245_ren:={
 mixed:=by kernel_rfl
 f129:=Tryz.func284.trans (congrArg some (by kernel_rfl))
 f171:=Tryz.func269.trans (congrArg some (by kernel_rfl))
 f205:=Tryz.func268.trans (congrArg some (by kernel_rfl))
 f243:=Tryz.func280.trans (congrArg some (by kernel_rfl))
 f245:=Tryz.func213.trans (congrArg some (by kernel_rfl))
 f246:=Tryz.func288.trans (congrArg some (by kernel_rfl))
 f279:=Tryz.func242.trans (congrArg some (by kernel_rfl))
 f280:=Tryz.func243.trans (congrArg some (by kernel_rfl))
 f281:=Tryz.func244.trans (congrArg some (by kernel_rfl))
 f282:=Tryz.func245.trans (congrArg some (by kernel_rfl))
 f283:=Tryz.func274.trans (congrArg some (by kernel_rfl))
 f284:=Tryz.func275.trans (congrArg some (by kernel_rfl))
 f285:=Tryz.func276.trans (congrArg some (by kernel_rfl))
 f286:=Tryz.func277.trans (congrArg some (by kernel_rfl))
 f316:=Tryz.func267.trans (congrArg some (by kernel_rfl))
 f317:=Tryz.func283.trans (congrArg some (by kernel_rfl))
 f318:=Tryz.func285.trans (congrArg some (by kernel_rfl))
 f319:=Tryz.func286.trans (congrArg some (by kernel_rfl))
 f320:=Tryz.func287.trans (congrArg some (by kernel_rfl))
 f337:=Tryz.func289.trans (congrArg some (by kernel_rfl))
 f338:=Tryz.func290.trans (congrArg some (by kernel_rfl))
 t0:=Tryz.underlying0
 a0:=Tryz.isAgg0
 z0:=Tryz.sizeOf0
 v0:=Tryz.zeroValue0
 t2:=Tryz.underlying2
 a2:=Tryz.isAgg2
 z2:=Tryz.sizeOf2
 v2:=Tryz.zeroValue2
 t3:=Tryz.underlying3
 a3:=Tryz.isAgg3
 z3:=Tryz.sizeOf3
 v3:=Tryz.zeroValue3
 t4:=Tryz.underlying4
 a4:=Tryz.isAgg4
 z4:=Tryz.sizeOf4
 v4:=Tryz.zeroValue4
 t5:=Tryz.underlying5
 a5:=Tryz.isAgg5
 z5:=Tryz.sizeOf5
 v5:=Tryz.zeroValue5
 t9:=Tryz.underlying9
 a9:=Tryz.isAgg9
 z9:=Tryz.sizeOf9
 v9:=Tryz.zeroValue9
 t20:=Tryz.underlying20
 a20:=Tryz.isAgg20
 z20:=Tryz.sizeOf20
 v20:=Tryz.zeroValue20
 t37:=Tryz.underlying89
 a37:=Tryz.isAgg89
 z37:=Tryz.sizeOf89
 v37:=Tryz.zeroValue89
 t46:=Tryz.underlying54
 a46:=Tryz.isAgg54
 z46:=Tryz.sizeOf54
 v46:=Tryz.zeroValue54
 t51:=Tryz.underlying174
 a51:=Tryz.isAgg174
 z51:=Tryz.sizeOf174
 v51:=Tryz.zeroValue174
 t53:=Tryz.underlying209
 a53:=Tryz.isAgg209
 z53:=Tryz.sizeOf209
 v53:=Tryz.zeroValue209
 t75:=Tryz.underlying118
 a75:=Tryz.isAgg118
 z75:=Tryz.sizeOf118
 v75:=Tryz.zeroValue118
 t127:=Tryz.underlying145
 a127:=Tryz.isAgg145
 z127:=Tryz.sizeOf145
 v127:=Tryz.zeroValue145
 t143:=Tryz.underlying268
 a143:=Tryz.isAgg268
 z143:=Tryz.sizeOf268
 v143:=Tryz.zeroValue268
 t145:=Tryz.underlying270
 a145:=Tryz.isAgg270
 z145:=Tryz.sizeOf270
 v145:=Tryz.zeroValue270
 t167:=Tryz.underlying236
 a167:=Tryz.isAgg236
 z167:=Tryz.sizeOf236
 v167:=Tryz.zeroValue236
 t168:=Tryz.underlying239
 a168:=Tryz.isAgg239
 z168:=Tryz.sizeOf239
 v168:=Tryz.zeroValue239
 t171:=Tryz.underlying262
 a171:=Tryz.isAgg262
 z171:=Tryz.sizeOf262
 v171:=Tryz.zeroValue262
 t173:=Tryz.underlying265
 a173:=Tryz.isAgg265
 z173:=Tryz.sizeOf265
 v173:=Tryz.zeroValue265
 t210:=Tryz.underlying258
 a210:=Tryz.isAgg258
 z210:=Tryz.sizeOf258
 v210:=Tryz.zeroValue258
 t212:=Tryz.underlying271
 a212:=Tryz.isAgg271
 z212:=Tryz.sizeOf271
 v212:=Tryz.zeroValue271
 t213:=Tryz.underlying272
 a213:=Tryz.isAgg272
 z213:=Tryz.sizeOf272
 t232:=Tryz.underlying276
 a232:=Tryz.isAgg276
 z232:=Tryz.sizeOf276
 v232:=Tryz.zeroValue276
 t233:=Tryz.underlying277
 a233:=Tryz.isAgg277
 z233:=Tryz.sizeOf277
 v233:=Tryz.zeroValue277
 g15:=by kernel_rfl
 g16:=by kernel_rfl
 g17:=by kernel_rfl
 g18:=by kernel_rfl
 g19:=by kernel_rfl
 t80:=Tryz.underlying122
 a80:=Tryz.isAgg122
 z80:=Tryz.sizeOf122
 v80:=Tryz.zeroValue122
 i0:=by kernel_rfl
 i2:=by kernel_rfl
 i3:=by kernel_rfl
 i4:=by kernel_rfl
 i5:=by kernel_rfl
 i9:=by kernel_rfl
 i20:=by kernel_rfl
 i37:=by kernel_rfl
 i46:=by kernel_rfl
 i51:=by kernel_rfl
 i53:=by kernel_rfl
 i75:=by kernel_rfl
 i80:=by kernel_rfl
 i127:=by kernel_rfl
 i143:=by kernel_rfl
 i145:=by kernel_rfl
 i167:=by kernel_rfl
 i168:=by kernel_rfl
 i171:=by kernel_rfl
 i173:=by kernel_rfl
 i210:=by kernel_rfl
 i212:=by kernel_rfl
 i232:=by kernel_rfl
 i233:=by kernel_rfl
 m15:=by kernel_rfl
 m16:=by kernel_rfl
 m17:=by kernel_rfl
 m18:=by kernel_rfl
 m19:=by kernel_rfl
 c0:=by kernel_rfl
 c2:=by kernel_rfl
 c3:=by kernel_rfl
 c4:=by kernel_rfl
 c5:=by kernel_rfl
 c9:=by kernel_rfl
 c20:=by kernel_rfl
 c37:=by kernel_rfl
 c46:=by kernel_rfl
 c51:=by kernel_rfl
 c53:=by kernel_rfl
 c75:=by kernel_rfl
 c80:=by kernel_rfl
 c127:=by kernel_rfl
 c143:=by kernel_rfl
 c145:=by kernel_rfl
 c167:=by kernel_rfl
 c168:=by kernel_rfl
 c171:=by kernel_rfl
 c173:=by kernel_rfl
 c210:=by kernel_rfl
 c212:=by kernel_rfl
 c213:=by kernel_rfl
 c232:=by kernel_rfl
 c233:=by kernel_rfl}
open Go.RowKit in
theorem Tryz.strconv_toError_syntax(fn s:ByteArray)(base bits:Int)(ev:Value)(w:World)(hlim:s.size<=281474976710656)(hv:w.cell? ⟨3,0,none⟩=some ev)(hev:ev=.nilIface\/∃te pe,ev=.iface te pe):
 Calls P0 213 #[.string fn,.string s,.int .i64 base,.int .i64 bits,.iface 236 (.int .i64 2)] w λe w'=>∃N,e=.returned (.iface 239 (.pointer (some ⟨N,0,none⟩)))/\w.heap.size<=N/\w'.heap[N]?=some (.cells #[.string fn,.string s,ev] 258 (0,0))/\Below w.heap.size w w':=Any.strconv_toError_syntax Tryz.laysC245 fn s base bits ev w hlim hv hev
def Tryz.laysC244_ren:Go.Shelf.Ren:=⟨λ|244=>212|247=>241|287=>252|321=>272|322=>273|n=>n,λ|9=>9|3=>3|75=>118|4=>4|5=>5|167=>236|37=>89|0=>0|85=>237|2=>2|53=>209|175=>227|46=>54|21=>21|80=>122|n=>n,λ|n=>n⟩
theorem Tryz.laysC244:Go.Proofs.LaysC.n244 P0 Tryz.laysC244_ren:={
 mixed:=by kernel_rfl
 f244:=Tryz.func212.trans (congrArg some (by kernel_rfl))
 f247:=Tryz.func241.trans (congrArg some (by kernel_rfl))
 f287:=Tryz.func252.trans (congrArg some (by kernel_rfl))
 f321:=Tryz.func272.trans (congrArg some (by kernel_rfl))
 f322:=Tryz.func273.trans (congrArg some (by kernel_rfl))
 t0:=Tryz.underlying0
 a0:=Tryz.isAgg0
 z0:=Tryz.sizeOf0
 v0:=Tryz.zeroValue0
 t2:=Tryz.underlying2
 a2:=Tryz.isAgg2
 z2:=Tryz.sizeOf2
 v2:=Tryz.zeroValue2
 t3:=Tryz.underlying3
 a3:=Tryz.isAgg3
 z3:=Tryz.sizeOf3
 v3:=Tryz.zeroValue3
 t4:=Tryz.underlying4
 a4:=Tryz.isAgg4
 z4:=Tryz.sizeOf4
 v4:=Tryz.zeroValue4
 t5:=Tryz.underlying5
 a5:=Tryz.isAgg5
 z5:=Tryz.sizeOf5
 v5:=Tryz.zeroValue5
 t9:=Tryz.underlying9
 a9:=Tryz.isAgg9
 z9:=Tryz.sizeOf9
 v9:=Tryz.zeroValue9
 t21:=Tryz.underlying21
 a21:=Tryz.isAgg21
 z21:=Tryz.sizeOf21
 v21:=Tryz.zeroValue21
 t37:=Tryz.underlying89
 a37:=Tryz.isAgg89
 z37:=Tryz.sizeOf89
 v37:=Tryz.zeroValue89
 t46:=Tryz.underlying54
 a46:=Tryz.isAgg54
 z46:=Tryz.sizeOf54
 v46:=Tryz.zeroValue54
 t53:=Tryz.underlying209
 a53:=Tryz.isAgg209
 z53:=Tryz.sizeOf209
 v53:=Tryz.zeroValue209
 t75:=Tryz.underlying118
 a75:=Tryz.isAgg118
 z75:=Tryz.sizeOf118
 v75:=Tryz.zeroValue118
 t85:=Tryz.underlying237
 a85:=Tryz.isAgg237
 z85:=Tryz.sizeOf237
 v85:=Tryz.zeroValue237
 t167:=Tryz.underlying236
 a167:=Tryz.isAgg236
 z167:=Tryz.sizeOf236
 v167:=Tryz.zeroValue236
 t175:=Tryz.underlying227
 a175:=Tryz.isAgg227
 z175:=Tryz.sizeOf227
 v175:=Tryz.zeroValue227
 t80:=Tryz.underlying122
 a80:=Tryz.isAgg122
 z80:=Tryz.sizeOf122
 v80:=Tryz.zeroValue122
 i0:=by kernel_rfl
 i2:=by kernel_rfl
 i3:=by kernel_rfl
 i4:=by kernel_rfl
 i5:=by kernel_rfl
 i9:=by kernel_rfl
 i21:=by kernel_rfl
 i37:=by kernel_rfl
 i46:=by kernel_rfl
 i53:=by kernel_rfl
 i75:=by kernel_rfl
 i80:=by kernel_rfl
 i85:=by kernel_rfl
 i167:=by kernel_rfl
 i175:=by kernel_rfl
 c0:=by kernel_rfl
 c2:=by kernel_rfl
 c3:=by kernel_rfl
 c4:=by kernel_rfl
 c5:=by kernel_rfl
 c9:=by kernel_rfl
 c21:=by kernel_rfl
 c37:=by kernel_rfl
 c46:=by kernel_rfl
 c53:=by kernel_rfl
 c75:=by kernel_rfl
 c80:=by kernel_rfl
 c85:=by kernel_rfl
 c167:=by kernel_rfl
 c175:=by kernel_rfl}
open Go.RowKit in
theorem Tryz.internal_strconv_Atoi_all(s:ByteArray)(hmax:s.size<=9223372036854775806)(w:World):
 Calls P0 212 #[.string s] w λe w'=>e=.returned (Lib.intTuple 236 (Lib.atoiSat s.data.toList) (Lib.atoiAll s.data.toList))/\(w'=w\/∃t,w'=Lib.bytesWorld w 5 t):=Any.internal_strconv_Atoi_all Tryz.laysC244 s hmax w
open Go.RowKit in
theorem Tryz.strconv_toError_range(fn s:ByteArray)(base bits:Int)(ev:Value)(w:World)(hlim:s.size<=281474976710656)(hv:w.cell? ⟨4,0,none⟩=some ev)(hev:ev=.nilIface\/∃te pe,ev=.iface te pe):
 Calls P0 213 #[.string fn,.string s,.int .i64 base,.int .i64 bits,.iface 236 (.int .i64 1)] w λe w'=>∃N,e=.returned (.iface 239 (.pointer (some ⟨N,0,none⟩)))/\w.heap.size<=N/\w'.heap[N]?=some (.cells #[.string fn,.string s,ev] 258 (0,0))/\Below w.heap.size w w':=Any.strconv_toError_range Tryz.laysC245 fn s base bits ev w hlim hv hev
def Tryz.laysPu14_ren:Go.Shelf.Ren:=⟨λ|14=>226|16=>252|17=>213|19=>272|20=>273|21=>242|22=>243|23=>244|24=>245|25=>267|27=>269|26=>268|28=>280|29=>288|30=>274|31=>275|32=>276|33=>277|35=>284|34=>283|36=>285|37=>286|38=>287|39=>289|40=>290|n=>n,λ|9=>9|3=>3|22=>209|24=>118|25=>227|4=>4|34=>236|5=>5|36=>54|37=>89|0=>0|39=>239|21=>21|44=>258|47=>145|50=>270|48=>268|2=>2|52=>262|55=>265|59=>271|60=>174|20=>20|61=>272|65=>276|66=>277|67=>122|n=>n,λ|0=>3|1=>4|2=>5|3=>6|4=>7|n=>n⟩
theorem Tryz.laysPu14:Go.Proofs.LaysPu.n14 P0 Tryz.laysPu14_ren:={
 mixed:=by kernel_rfl
 f14:=Tryz.func226.trans (congrArg some (by kernel_rfl))
 f16:=Tryz.func252.trans (congrArg some (by kernel_rfl))
 f17:=Tryz.func213.trans (congrArg some (by kernel_rfl))
 f19:=Tryz.func272.trans (congrArg some (by kernel_rfl))
 f20:=Tryz.func273.trans (congrArg some (by kernel_rfl))
 f21:=Tryz.func242.trans (congrArg some (by kernel_rfl))
 f22:=Tryz.func243.trans (congrArg some (by kernel_rfl))
 f23:=Tryz.func244.trans (congrArg some (by kernel_rfl))
 f24:=Tryz.func245.trans (congrArg some (by kernel_rfl))
 f25:=Tryz.func267.trans (congrArg some (by kernel_rfl))
 f26:=Tryz.func268.trans (congrArg some (by kernel_rfl))
 f27:=Tryz.func269.trans (congrArg some (by kernel_rfl))
 f28:=Tryz.func280.trans (congrArg some (by kernel_rfl))
 f29:=Tryz.func288.trans (congrArg some (by kernel_rfl))
 f30:=Tryz.func274.trans (congrArg some (by kernel_rfl))
 f31:=Tryz.func275.trans (congrArg some (by kernel_rfl))
 f32:=Tryz.func276.trans (congrArg some (by kernel_rfl))
 f33:=Tryz.func277.trans (congrArg some (by kernel_rfl))
 f34:=Tryz.func283.trans (congrArg some (by kernel_rfl))
 f35:=Tryz.func284.trans (congrArg some (by kernel_rfl))
 f36:=Tryz.func285.trans (congrArg some (by kernel_rfl))
 f37:=Tryz.func286.trans (congrArg some (by kernel_rfl))
 f38:=Tryz.func287.trans (congrArg some (by kernel_rfl))
 f39:=Tryz.func289.trans (congrArg some (by kernel_rfl))
 f40:=Tryz.func290.trans (congrArg some (by kernel_rfl))
 t0:=Tryz.underlying0
 a0:=Tryz.isAgg0
 z0:=Tryz.sizeOf0
 v0:=Tryz.zeroValue0
 i0:=by kernel_rfl
 t2:=Tryz.underlying2
 a2:=Tryz.isAgg2
 z2:=Tryz.sizeOf2
 v2:=Tryz.zeroValue2
 i2:=by kernel_rfl
 t3:=Tryz.underlying3
 a3:=Tryz.isAgg3
 z3:=Tryz.sizeOf3
 v3:=Tryz.zeroValue3
 i3:=by kernel_rfl
 t4:=Tryz.underlying4
 a4:=Tryz.isAgg4
 z4:=Tryz.sizeOf4
 v4:=Tryz.zeroValue4
 i4:=by kernel_rfl
 t5:=Tryz.underlying5
 a5:=Tryz.isAgg5
 z5:=Tryz.sizeOf5
 v5:=Tryz.zeroValue5
 i5:=by kernel_rfl
 t9:=Tryz.underlying9
 a9:=Tryz.isAgg9
 z9:=Tryz.sizeOf9
 v9:=Tryz.zeroValue9
 i9:=by kernel_rfl
 t20:=Tryz.underlying20
 a20:=Tryz.isAgg20
 z20:=Tryz.sizeOf20
 v20:=Tryz.zeroValue20
 i20:=by kernel_rfl
 t21:=Tryz.underlying21
 a21:=Tryz.isAgg21
 z21:=Tryz.sizeOf21
 v21:=Tryz.zeroValue21
 i21:=by kernel_rfl
 t22:=Tryz.underlying209
 a22:=Tryz.isAgg209
 z22:=Tryz.sizeOf209
 v22:=Tryz.zeroValue209
 i22:=by kernel_rfl
 t24:=Tryz.underlying118
 a24:=Tryz.isAgg118
 z24:=Tryz.sizeOf118
 v24:=Tryz.zeroValue118
 i24:=by kernel_rfl
 t25:=Tryz.underlying227
 a25:=Tryz.isAgg227
 z25:=Tryz.sizeOf227
 v25:=Tryz.zeroValue227
 i25:=by kernel_rfl
 t34:=Tryz.underlying236
 a34:=Tryz.isAgg236
 z34:=Tryz.sizeOf236
 v34:=Tryz.zeroValue236
 i34:=by kernel_rfl
 c34:=by kernel_rfl
 t36:=Tryz.underlying54
 a36:=Tryz.isAgg54
 z36:=Tryz.sizeOf54
 v36:=Tryz.zeroValue54
 i36:=by kernel_rfl
 t37:=Tryz.underlying89
 a37:=Tryz.isAgg89
 z37:=Tryz.sizeOf89
 v37:=Tryz.zeroValue89
 i37:=by kernel_rfl
 t39:=Tryz.underlying239
 a39:=Tryz.isAgg239
 z39:=Tryz.sizeOf239
 v39:=Tryz.zeroValue239
 i39:=by kernel_rfl
 t44:=Tryz.underlying258
 a44:=Tryz.isAgg258
 z44:=Tryz.sizeOf258
 v44:=Tryz.zeroValue258
 i44:=by kernel_rfl
 t47:=Tryz.underlying145
 a47:=Tryz.isAgg145
 z47:=Tryz.sizeOf145
 v47:=Tryz.zeroValue145
 i47:=by kernel_rfl
 t48:=Tryz.underlying268
 a48:=Tryz.isAgg268
 z48:=Tryz.sizeOf268
 v48:=Tryz.zeroValue268
 i48:=by kernel_rfl
 t50:=Tryz.underlying270
 a50:=Tryz.isAgg270
 z50:=Tryz.sizeOf270
 v50:=Tryz.zeroValue270
 i50:=by kernel_rfl
 t52:=Tryz.underlying262
 a52:=Tryz.isAgg262
 z52:=Tryz.sizeOf262
 v52:=Tryz.zeroValue262
 i52:=by kernel_rfl
 t55:=Tryz.underlying265
 a55:=Tryz.isAgg265
 z55:=Tryz.sizeOf265
 v55:=Tryz.zeroValue265
 i55:=by kernel_rfl
 t59:=Tryz.underlying271
 a59:=Tryz.isAgg271
 z59:=Tryz.sizeOf271
 v59:=Tryz.zeroValue271
 i59:=by kernel_rfl
 t60:=Tryz.underlying174
 a60:=Tryz.isAgg174
 z60:=Tryz.sizeOf174
 v60:=Tryz.zeroValue174
 i60:=by kernel_rfl
 t61:=Tryz.underlying272
 a61:=Tryz.isAgg272
 z61:=Tryz.sizeOf272
 t65:=Tryz.underlying276
 a65:=Tryz.isAgg276
 z65:=Tryz.sizeOf276
 v65:=Tryz.zeroValue276
 i65:=by kernel_rfl
 t66:=Tryz.underlying277
 a66:=Tryz.isAgg277
 z66:=Tryz.sizeOf277
 v66:=Tryz.zeroValue277
 i66:=by kernel_rfl
 t67:=Tryz.underlying122
 a67:=Tryz.isAgg122
 z67:=Tryz.sizeOf122
 v67:=Tryz.zeroValue122
 i67:=by kernel_rfl
 g0:=by kernel_rfl
 m0:=by kernel_rfl
 g1:=by kernel_rfl
 m1:=by kernel_rfl
 g2:=by kernel_rfl
 m2:=by kernel_rfl
 g3:=by kernel_rfl
 m3:=by kernel_rfl
 g4:=by kernel_rfl
 m4:=by kernel_rfl}
open Go.RowKit in
theorem Tryz.strconv_ParseUint_10_at64_ok(s:ByteArray)(hmax:s.size<=9223372036854775806)(u:Nat)(h:Lib.parseUintB 64 s.data.toList=.ok u)(w:World):
 Calls P0 226 #[.string s,.int .i64 10,.int .i64 64] w λe w'=>e=.returned (.tuple #[.int .u64 u,.nilIface])/\(w'=w\/w'=Lib.bytesWorld w 5 s):=Any.strconv_ParseUint_10_at64_ok Tryz.laysPu14 s hmax u h w
def Tryz.lays143_ren:Go.Shelf.Ren:=⟨λ|143=>71|219=>106|217=>105|225=>141|224=>142|267=>143|266=>140|314=>200|n=>n,λ|9=>9|3=>3|4=>4|5=>5|46=>54|146=>212|51=>174|n=>n,λ|1=>0|n=>n⟩
theorem Tryz.lays143:Go.Proofs.Lays.n143 P0 Tryz.lays143_ren:={
 mixed:=by kernel_rfl
 f143:=Tryz.func71.trans (congrArg some (by kernel_rfl))
 f217:=Tryz.func105.trans (congrArg some (by kernel_rfl))
 f219:=Tryz.func106.trans (congrArg some (by kernel_rfl))
 f224:=Tryz.func142.trans (congrArg some (by kernel_rfl))
 f225:=Tryz.func141.trans (congrArg some (by kernel_rfl))
 f266:=Tryz.func140.trans (congrArg some (by kernel_rfl))
 f267:=Tryz.func143.trans (congrArg some (by kernel_rfl))
 f314:=Tryz.func200.trans (congrArg some (by kernel_rfl))
 t3:=Tryz.underlying3
 a3:=Tryz.isAgg3
 z3:=Tryz.sizeOf3
 v3:=Tryz.zeroValue3
 t4:=Tryz.underlying4
 a4:=Tryz.isAgg4
 z4:=Tryz.sizeOf4
 v4:=Tryz.zeroValue4
 t5:=Tryz.underlying5
 a5:=Tryz.isAgg5
 z5:=Tryz.sizeOf5
 v5:=Tryz.zeroValue5
 t9:=Tryz.underlying9
 a9:=Tryz.isAgg9
 z9:=Tryz.sizeOf9
 v9:=Tryz.zeroValue9
 t46:=Tryz.underlying54
 a46:=Tryz.isAgg54
 z46:=Tryz.sizeOf54
 v46:=Tryz.zeroValue54
 t51:=Tryz.underlying174
 a51:=Tryz.isAgg174
 z51:=Tryz.sizeOf174
 v51:=Tryz.zeroValue174
 t146:=Tryz.underlying212
 a146:=Tryz.isAgg212
 z146:=Tryz.sizeOf212
 v146:=Tryz.zeroValue212
 g1:=by kernel_rfl}
open Go.RowKit Go.Lib in
theorem Tryz.strings_Index(s sub:ByteArray)(m:Int)(w:World)(hs:s.size<4294967281)(hm:w.cell? ⟨0,0,none⟩=some (.int .i64 m)):
 Calls P0 71 #[.string s,.string sub] w λe w'=>e=.returned (.int .i64 (Lib.index s.data.toList sub.data.toList))/\w'=w:=Any.strings_Index Tryz.lays143 s sub m w hs hm
def Tryz.lays145_ren:Go.Shelf.Ren:=⟨λ|145=>110|220=>145|219=>106|217=>105|225=>141|224=>142|267=>143|266=>140|314=>200|n=>n,λ|9=>9|4=>4|59=>147|3=>3|5=>5|46=>54|146=>212|51=>174|n=>n,λ|1=>0|n=>n⟩
theorem Tryz.lays145:Go.Proofs.Lays.n145 P0 Tryz.lays145_ren:={
 mixed:=by kernel_rfl
 f145:=Tryz.func110.trans (congrArg some (by kernel_rfl))
 f217:=Tryz.func105.trans (congrArg some (by kernel_rfl))
 f219:=Tryz.func106.trans (congrArg some (by kernel_rfl))
 f220:=Tryz.func145.trans (congrArg some (by kernel_rfl))
 f224:=Tryz.func142.trans (congrArg some (by kernel_rfl))
 f225:=Tryz.func141.trans (congrArg some (by kernel_rfl))
 f266:=Tryz.func140.trans (congrArg some (by kernel_rfl))
 f267:=Tryz.func143.trans (congrArg some (by kernel_rfl))
 f314:=Tryz.func200.trans (congrArg some (by kernel_rfl))
 t3:=Tryz.underlying3
 a3:=Tryz.isAgg3
 z3:=Tryz.sizeOf3
 v3:=Tryz.zeroValue3
 t4:=Tryz.underlying4
 a4:=Tryz.isAgg4
 z4:=Tryz.sizeOf4
 v4:=Tryz.zeroValue4
 t5:=Tryz.underlying5
 a5:=Tryz.isAgg5
 z5:=Tryz.sizeOf5
 v5:=Tryz.zeroValue5
 t9:=Tryz.underlying9
 a9:=Tryz.isAgg9
 z9:=Tryz.sizeOf9
 v9:=Tryz.zeroValue9
 t46:=Tryz.underlying54
 a46:=Tryz.isAgg54
 z46:=Tryz.sizeOf54
 v46:=Tryz.zeroValue54
 t51:=Tryz.underlying174
 a51:=Tryz.isAgg174
 z51:=Tryz.sizeOf174
 v51:=Tryz.zeroValue174
 t59:=Tryz.underlying147
 a59:=Tryz.isAgg147
 z59:=Tryz.sizeOf147
 v59:=Tryz.zeroValue147
 t146:=Tryz.underlying212
 a146:=Tryz.isAgg212
 z146:=Tryz.sizeOf212
 v146:=Tryz.zeroValue212
 g1:=by kernel_rfl}
open Go.RowKit Go.Lib in
theorem Tryz.strings_Cut(s sep:ByteArray)(m:Int)(w:World)(hs:s.size<4294967281)(hm:w.cell? ⟨0,0,none⟩=some (.int .i64 m)):
 Calls P0 110 #[.string s,.string sep] w λe w'=>e=.returned (.tuple #[.string ⟨(Lib.cut s.data.toList sep.data.toList).1.toArray⟩,.string ⟨(Lib.cut s.data.toList sep.data.toList).2.1.toArray⟩,.bool (Lib.cut s.data.toList sep.data.toList).2.2])/\∃n,w'=w.drewN n:=Any.strings_Cut Tryz.lays145 s sep m w hs hm
def Tryz.lays206_ren:Go.Shelf.Ren:=⟨λ|206=>67|n=>n,λ|9=>9|4=>4|3=>3|n=>n,λ|n=>n⟩
theorem Tryz.lays206:Go.Proofs.Lays.n206 P0 Tryz.lays206_ren:={
 mixed:=by kernel_rfl
 f206:=Tryz.func67.trans (congrArg some (by kernel_rfl))
 t3:=Tryz.underlying3
 a3:=Tryz.isAgg3
 z3:=Tryz.sizeOf3
 v3:=Tryz.zeroValue3
 t4:=Tryz.underlying4
 a4:=Tryz.isAgg4
 z4:=Tryz.sizeOf4
 v4:=Tryz.zeroValue4
 t9:=Tryz.underlying9
 a9:=Tryz.isAgg9
 z9:=Tryz.sizeOf9
 v9:=Tryz.zeroValue9}
open Go.RowKit Go.Lib in
theorem Tryz.stringslite_HasPrefix(s p:ByteArray)(w:World):
 Calls P0 67 #[.string s,.string p] w λe w'=>e=.returned (.bool (Lib.hasPrefix s.data.toList p.data.toList))/\w'=w:=Any.stringslite_HasPrefix Tryz.lays206 s p w
def Tryz.lays99_ren:Go.Shelf.Ren:=⟨λ|99=>43|206=>67|n=>n,λ|9=>9|4=>4|3=>3|n=>n,λ|n=>n⟩
theorem Tryz.lays99:Go.Proofs.Lays.n99 P0 Tryz.lays99_ren:={
 mixed:=by kernel_rfl
 f99:=Tryz.func43.trans (congrArg some (by kernel_rfl))
 f206:=Tryz.func67.trans (congrArg some (by kernel_rfl))
 t3:=Tryz.underlying3
 a3:=Tryz.isAgg3
 z3:=Tryz.sizeOf3
 v3:=Tryz.zeroValue3
 t4:=Tryz.underlying4
 a4:=Tryz.isAgg4
 z4:=Tryz.sizeOf4
 v4:=Tryz.zeroValue4
 t9:=Tryz.underlying9
 a9:=Tryz.isAgg9
 z9:=Tryz.sizeOf9
 v9:=Tryz.zeroValue9}
open Go.RowKit Go.Lib in
theorem Tryz.strings_HasPrefix(s p:ByteArray)(w:World):
 Calls P0 43 #[.string s,.string p] w λe w'=>e=.returned (.bool (Lib.hasPrefix s.data.toList p.data.toList))/\w'=w:=Any.strings_HasPrefix Tryz.lays99 s p w
def Tryz.lays105_ren:Go.Shelf.Ren:=⟨λ|105=>183|212=>222|99=>43|165=>65|166=>66|170=>223|169=>64|263=>249|264=>250|206=>67|240=>102|241=>104|276=>137|277=>139|n=>n,λ|9=>9|3=>3|4=>4|20=>20|0=>0|46=>54|109=>225|5=>5|72=>116|76=>120|51=>174|146=>212|53=>209|148=>244|70=>114|37=>89|75=>118|127=>145|164=>172|80=>122|n=>n,λ|n=>n⟩
theorem Tryz.lays105:Go.Proofs.Lays.n105 P0 Tryz.lays105_ren:={
 mixed:=by kernel_rfl
 f99:=Tryz.func43.trans (congrArg some (by kernel_rfl))
 f105:=Tryz.func183.trans (congrArg some (by kernel_rfl))
 f165:=Tryz.func65.trans (congrArg some (by kernel_rfl))
 f166:=Tryz.func66.trans (congrArg some (by kernel_rfl))
 f169:=Tryz.func64.trans (congrArg some (by kernel_rfl))
 f170:=Tryz.func223.trans (congrArg some (by kernel_rfl))
 f206:=Tryz.func67.trans (congrArg some (by kernel_rfl))
 f212:=Tryz.func222.trans (congrArg some (by kernel_rfl))
 f240:=Tryz.func102.trans (congrArg some (by kernel_rfl))
 f241:=Tryz.func104.trans (congrArg some (by kernel_rfl))
 f263:=Tryz.func249.trans (congrArg some (by kernel_rfl))
 f264:=Tryz.func250.trans (congrArg some (by kernel_rfl))
 f276:=Tryz.func137.trans (congrArg some (by kernel_rfl))
 f277:=Tryz.func139.trans (congrArg some (by kernel_rfl))
 t0:=Tryz.underlying0
 a0:=Tryz.isAgg0
 z0:=Tryz.sizeOf0
 v0:=Tryz.zeroValue0
 t3:=Tryz.underlying3
 a3:=Tryz.isAgg3
 z3:=Tryz.sizeOf3
 v3:=Tryz.zeroValue3
 t4:=Tryz.underlying4
 a4:=Tryz.isAgg4
 z4:=Tryz.sizeOf4
 v4:=Tryz.zeroValue4
 t5:=Tryz.underlying5
 a5:=Tryz.isAgg5
 z5:=Tryz.sizeOf5
 v5:=Tryz.zeroValue5
 t9:=Tryz.underlying9
 a9:=Tryz.isAgg9
 z9:=Tryz.sizeOf9
 v9:=Tryz.zeroValue9
 t20:=Tryz.underlying20
 a20:=Tryz.isAgg20
 z20:=Tryz.sizeOf20
 v20:=Tryz.zeroValue20
 t37:=Tryz.underlying89
 a37:=Tryz.isAgg89
 z37:=Tryz.sizeOf89
 v37:=Tryz.zeroValue89
 t46:=Tryz.underlying54
 a46:=Tryz.isAgg54
 z46:=Tryz.sizeOf54
 v46:=Tryz.zeroValue54
 t51:=Tryz.underlying174
 a51:=Tryz.isAgg174
 z51:=Tryz.sizeOf174
 v51:=Tryz.zeroValue174
 t53:=Tryz.underlying209
 a53:=Tryz.isAgg209
 z53:=Tryz.sizeOf209
 v53:=Tryz.zeroValue209
 t70:=Tryz.underlying114
 a70:=Tryz.isAgg114
 z70:=Tryz.sizeOf114
 v70:=Tryz.zeroValue114
 t72:=Tryz.underlying116
 a72:=Tryz.isAgg116
 z72:=Tryz.sizeOf116
 v72:=Tryz.zeroValue116
 t75:=Tryz.underlying118
 a75:=Tryz.isAgg118
 z75:=Tryz.sizeOf118
 v75:=Tryz.zeroValue118
 t76:=Tryz.underlying120
 a76:=Tryz.isAgg120
 z76:=Tryz.sizeOf120
 v76:=Tryz.zeroValue120
 t109:=Tryz.underlying225
 a109:=Tryz.isAgg225
 z109:=Tryz.sizeOf225
 v109:=Tryz.zeroValue225
 t127:=Tryz.underlying145
 a127:=Tryz.isAgg145
 z127:=Tryz.sizeOf145
 v127:=Tryz.zeroValue145
 t146:=Tryz.underlying212
 a146:=Tryz.isAgg212
 z146:=Tryz.sizeOf212
 v146:=Tryz.zeroValue212
 t148:=Tryz.underlying244
 a148:=Tryz.isAgg244
 z148:=Tryz.sizeOf244
 v148:=Tryz.zeroValue244
 t164:=Tryz.underlying172
 a164:=Tryz.isAgg172
 z164:=Tryz.sizeOf172
 v164:=Tryz.zeroValue172}
theorem Tryz.Builder_Extra_105:Builder.Extra P0 Tryz.lays105_ren:={
 sizeBuilder:=by kernel_rfl
 liesBuilder:=by kernel_rfl
 t5:=Tryz.underlying5
 a5:=Tryz.isAgg5
 z5:=Tryz.sizeOf5
 v5:=Tryz.zeroValue5
 infoByte:=by kernel_rfl
 cellsByte:=by kernel_rfl
 sizeByte:=by kernel_rfl
 neB5:=by decide}
open Go.RowKit Go.Lib in
theorem Tryz.strings_Repeat(s:ByteArray)(c:Nat)(w:World)(hc:c<=9223372036854775807)(hlen:s.size*c<=140737488355328):
 Calls P0 183 #[.string s,.int .i64 c] w λe w'=>e=.returned (.string ⟨(Lib.repeatL s.data.toList c).toArray⟩)/\Below w.heap.size w w':=Any.strings_Repeat Tryz.lays105 Tryz.Builder_Extra_105 s c w hc hlen
open Go.RowKit Go.Lib in
theorem Tryz.strings_TrimLeft_laid(s cutset:ByteArray)(w:World)(hcs:cutset.size<4294967281)(hascii:∀(j:Nat) b,cutset.data.toList[j]?=some b->b.toNat<128):
 Calls P0 111 #[.string s,.string cutset] w λe w'=>e=.returned (.string ⟨(Lib.trimLeftS s.data.toList cutset.data.toList).toArray⟩)/\Below w.heap.size w w':=Any.strings_TrimLeft_laid Tryz.lays161 (by kernel_rfl) s cutset w hcs hascii
end
end Go.Proofs
namespace Go.Proofs.YtghhmpppnmoeoaaGreatDoor
section
open Go Go.Eng Go.Num
variable{w:World}{K:Q0}{cs:List Value}{G:Nat->Prop}{T:TypeId}{i:Nat}{n:Nat}{v:Value}{w':World}{P:Program}{c:UInt8}{S:Nat->Prop}
abbrev u64(n:Nat):Value:=.int .u64 (n:Int)
abbrev U8:TypeId:=5
theorem Bp(w:World)(e:TypeId)(s:ByteArray):Ext w (Lib.bytesWorld w e s):=
 ⟨rfl,rfl,rfl,by rw[Lib.bytesWorld_size];omega,λk hk _=>Lib.bytesWorld_at_old w e s k hk⟩
theorem Hl{l:Str}{src dst:TypeId}{K:Q0}(hs:Tryz.prog.underlying src=some .string)(hd:Tryz.prog.underlying dst=some (.slice U8))(he:Tryz.prog.underlying U8=some (.int .u8))
  (hK:∀v w',Byt w' U8 v l->Ext w w'->K v w'):dY P0 (convert src dst (str l)) w K:=by
 unfold dY;rw[Lib.run_convert_string_bytes w src dst U8 (ofL l) hs hd he];refine hK _ _ ?_ (Bp _ _ _);have hle:(ofL l).size<=grownCap w (ofL l).size 0 U8:=by
  exact grownCap_ge w (ofL l).size 0 U8
 refine⟨some ⟨w.heap.size,0,none⟩,grownCap w (ofL l).size 0 U8,by rw[eV],by rw[<-eV];exact hle,(λe=>by cases e),λ_=>⟨w.heap.size,0,_,_,rfl,Lib.bytesWorld_at_new w U8 (ofL l),λi hi=>?_⟩⟩;have hi:i<(ofL l).size:=by rw[eV];simpa[oS]using hi
 have:=Lib.bytesWorld_cell w U8 (ofL l) i hi;rw[cC,Lib.bytesWorld_at_new,cN]at this;rw[aX,this,Cj,eG];have hi':i<l.length:=by rw[eV]at hi;exact hi
 simp[List.getD_eq_getElem?_getD,List.getElem?_eq_getElem hi']
theorem gF[HX]{g:FuncId}{args:Array Value}{K:Q0}(hr:∀(ar:Array Value) (w:World),(callFunc g ar).run P0 w=.ok (.enter g ar) w)
  (h:Calls P0 g args w λe w'=>∃v,e=.returned v/\K v w'):aC P0 g args.toList w K:=by
 unfold aC;rw[show args.toList.toArray=args from by simp,hr];refine h.mono ?_;rintro e w' ⟨v,rfl,hk⟩;exact hk
section
variable [HX]
theorem WL(n:Int)(KK:Value->Prop)(h:KK (.bool false)):aQ .neq (i64 n) (i64 n) KK:=by rw[fL];simpa using h
theorem aBb(n:Nat)(KK:Value->Prop)(h:KK (.bool false)):aQ .neq (u64 n) (u64 n) KK:=by rw[fL];simpa using h
theorem WK(s:Str)(KK:Value->Prop)(h:KK (.bool false)):aQ .neq (str s) (str s) KK:=by rw[tH];simpa using h
theorem Lv{n:Int}{K:Q0}(hK:K (.bool false) w):aC P0 229 [i64 n] w K:=by
 refine Vd ?_;exact WL n _ hK
theorem Lw{n:Int}{K:Q0}(hK:K (.bool false) w):aC P0 230 [i64 n] w K:=by
 refine Vb ?_;exact WL n _ hK
theorem Lu{K:Q0}(hK:K (.bool false) w):aC P0 256 [u64 n] w K:=by
 refine US ?_;exact aBb n _ hK
theorem GL{s:Str}{K:Q0}(hK:K (.bool false) w):aC P0 238 [str s] w K:=by
 refine UW ?_;exact WK s _ hK
theorem Pt{s:Str}{K:Q0}(hK:K (.bool false) w):aC P0 207 [str s] w K:=by
 refine Vj ?_;exact WK s _ hK
theorem KL{a b:Int}{K:Q0}(hK:K (i64 (Cd a b)) w):(a<b->K (i64 (-1)) w)/\(¬a<b->(b<a->K (i64 1) w)/\(¬b<a->K (i64 0) w)):=by
 unfold Cd at hK;refine⟨λh=>?_,λh=>⟨λh2=>?_,λh2=>?_⟩⟩
 ·rw[aH h]at hK;exact hK
 ·rw[aD h,aH h2]at hK;exact hK
 ·rw[aD h,aD h2]at hK;exact hK
theorem aBr{a b:Int}{K:Q0}(hK:K (i64 (Cd a b)) w):aC P0 189 [i64 a,i64 b] w K:=by
 refine Vw ?_;unfold aCb;refine Lv (Lv ?_);simp only[wsv,wsg,wsh,wsl,aO,aN,aE,fE,Nat.reduceAdd,Nat.reduceLT,aG,aB,aK,aI,bT,reduceCtorEq,aM];exact KL hK
theorem WY{a b:Int}{K:Q0}(hK:K (i64 (Cd a b)) w):aC P0 190 [i64 a,i64 b] w K:=by
 refine Vv ?_;unfold aCa;refine Lw (Lw ?_);simp only[wsv,wsg,wsh,wsl,aO,aN,aE,fE,Nat.reduceAdd,Nat.reduceLT,aG,aB,aK,aI,bT,reduceCtorEq,aM];exact KL hK
theorem aBo{a b:Nat}{K:Q0}(hK:K (i64 (sJ a b)) w):aC P0 233 [u64 a,u64 b] w K:=by
 refine UZ ?_;unfold aBS;refine Lu (Lu ?_);simp only[wsv,wsg,wsh,wsl,aO,aN,aE,fE,Nat.reduceAdd,Nat.reduceLT,aG,aB,aK,aI,bT,reduceCtorEq,aM];have e:sJ a b=Cd a b:=by unfold sJ Cd;simp only[Int.ofNat_lt]
 rw[e]at hK;exact KL hK
theorem Kh{a b:Str}(h1:Op.bytesLess a b=false)(h2:(!(Op.bytesLess a b||decide (a=b)))=false):a=b:=by
 rw[h1]at h2;simpa using h2
theorem aBp{a b:Str}{K:Q0}(hK:K (i64 (Ej a b)) w):aC P0 232 [str a,str b] w K:=by
 refine Va ?_;unfold aBT;refine GL (GL ?_);simp only[wsv,wsg,wsh,wsl,aO,aN,aE,fE,Nat.reduceAdd,Nat.reduceLT,aG,aB,aK,aI,bT,reduceCtorEq];simp only[bS];unfold Ej at hK;refine⟨λh=>?_,λh=>⟨λh2=>?_,λh2=>?_⟩⟩
 ·rw[aH h]at hK;exact hK
 ·have hne:a≠b:=by rintro rfl;simp at h2
  rw[aD (by rw[h];simp),aD hne]at hK;exact hK
 ·rw[aD (by rw[h];simp),aH (Kh h h2)]at hK;exact hK
theorem Qk{a b:Str}{K:Q0}(hK:K (.bool (Op.bytesLess a b)) w):aC P0 206 [str a,str b] w K:=by
 refine Vk ?_;unfold aBZ;refine GL ?_;simp only[wsv,wsg,wsh,wsl,aO,aN,aE,fE,Nat.reduceAdd,Nat.reduceLT,aG,aB,aK,aI,bT,reduceCtorEq];intros;exact hK
theorem Cc(a b:Str):Lib.compareBytes a b=Ej a b:=by
 induction a generalizing b with
 |nil=>cases b<;>simp[Lib.compareBytes,Ej,Op.bytesLess]
 |cons x a ih=>
  cases b with
  |nil=>simp[Lib.compareBytes,Ej,Op.bytesLess]
  |cons y b=>
   simp only[Lib.compareBytes,ih,Ej,Op.bytesLess];by_cases h1:x<y
   ·simp[h1]
   ·by_cases h2:y<x
    ·have:x≠y:=by rintro rfl;exact h1 h2
     simp[h1,h2,this]
    ·have:x=y:=UInt8.le_antisymm (UInt8.not_lt.1 h2) (UInt8.not_lt.1 h1);subst this;simp
theorem Xo{a b:Str}{K:Q0}(hK:K (i64 (Ej a b)) w):aC P0 192 [str a,str b] w K:=by
 refine gF (args:=#[str a,str b]) Tryz.call192 ((Tryz.strings_Compare (ofL a) (ofL b) w).mono ?_);rintro e w' ⟨rfl,rfl⟩;refine⟨_,rfl,?_⟩;rw[eG,eG];rw[Cc];exact hK
theorem Lh{s p:Str}{K:Q0}(hs:s.length<=9223372036854775807)(hK:K (.bool (p.isPrefixOf s)) w):aC P0 67 [str s,str p] w K:=by
 refine gF (args:=#[str s,str p]) Tryz.call67 ((Tryz.stringslite_HasPrefix (ofL s) (ofL p) w).mono ?_);rintro e w' ⟨rfl,rfl⟩;refine⟨_,rfl,?_⟩;rw[eG,eG];exact hK
theorem BC{a:Str}{K:Q0}(hs:a.length<=9223372036854775807)(hK:K (str (dig a)) w):aC P0 107 [str a,str [45]] w K:=by
 refine Wp ?_;unfold aCO;refine VL ?_;unfold aCo;refine Lh hs ?_;cases a with
 |nil=>
  rw[show([45]:Str).isPrefixOf []=false from rfl];simp only[wsv,wsg,wsh,wsl,aO,aN,aE,fE,Nat.reduceAdd,Nat.reduceLT,aG,aB,aK,aI,bT,reduceCtorEq];exact hK
 |cons c r=>
  by_cases hc:c=45
  ·subst hc;have e:([45]:Str).isPrefixOf (45::r)=true:=by simp[List.isPrefixOf]
   have ed:dig (45::r)=r:=by simp[dig]
   rw[ed]at hK;rw[e];have e1:((0+1:Nat):Int).toNat=1:=rfl;simp only[wsv,wsg,wsh,wsl,aO,aN,aE,fE,Nat.reduceAdd,Nat.reduceLT,aG,aB,aK,aI,bT,reduceCtorEq,e1];refine⟨by omega,by omega,?_⟩;rw[<-aA (a:=(45:UInt8)),bM];exact hK
  ·have e:([45]:Str).isPrefixOf (c::r)=false:=by simp[List.isPrefixOf,tS hc]
   have ed:dig (c::r)=c::r:=by simp[dig,hc]
   rw[ed]at hK;rw[e];simp only[wsv,wsg,wsh,wsl,aO,aN,aE,fE,Nat.reduceAdd,Nat.reduceLT,aG,aB,aK,aI,bT,reduceCtorEq];exact hK
theorem KH{a:Str}{K:Q0}(hs:a.length<=9223372036854775807)(hK:K (.tuple #[str (dig a),.bool (neg a)]) w):aC P0 225 [str a,str [45]] w K:=by
 refine Vf ?_;unfold aBV;refine UU ?_;unfold aBO;refine Lh hs ?_;cases a with
 |nil=>
  rw[show([45]:Str).isPrefixOf []=false from rfl];simp only[wsv,wsg,wsh,wsl,aO,aN,aE,fE,Nat.reduceAdd,Nat.reduceLT,aG,aB,aK,aI,bT,reduceCtorEq];exact hK
 |cons c r=>
  by_cases hc:c=45
  ·subst hc;have e:([45]:Str).isPrefixOf (45::r)=true:=by simp[List.isPrefixOf]
   have ed:dig (45::r)=r:=by simp[dig]
   have en:neg (45::r)=true:=by simp[neg]
   rw[ed,en]at hK;rw[e];have e1:((0+1:Nat):Int).toNat=1:=rfl;simp only[wsv,wsg,wsh,wsl,aO,aN,aE,fE,Nat.reduceAdd,Nat.reduceLT,aG,aB,aK,aI,bT,reduceCtorEq,e1];refine⟨by omega,by omega,?_⟩;rw[<-aA (a:=(45:UInt8)),bM];exact hK
  ·have e:([45]:Str).isPrefixOf (c::r)=false:=by simp[List.isPrefixOf,tS hc]
   have ed:dig (c::r)=c::r:=by simp[dig,hc]
   have en:neg (c::r)=false:=by simp[neg,hc]
   rw[ed,en]at hK;rw[e];simp only[wsv,wsg,wsh,wsl,aO,aN,aE,fE,Nat.reduceAdd,Nat.reduceLT,aG,aB,aK,aI,bT,reduceCtorEq];exact hK
theorem lT{a:Str}{K:Q0}(ha:a.length<=9223372036854775807)(hK:∀w',Ext w w'->K (.bool (goodN a)) w'):aC P0 75 [str a] w K:=by
 refine ZN ?_;unfold W75;refine BC ha ?_;have hg:goodN a=(!decide ((dig a).length<1)&&!decide (100<(dig a).length)&&!((dig a).head?==some 48&&!decide (a=[48]))&&(dig a).all Num.isDig):=by
  unfold goodN;have e1:decide (1<=(dig a).length)=!decide ((dig a).length<1):=by rw[<-vU];exact decide_eq_decide.2 (by omega)
  have e2:decide ((dig a).length<=100)=!decide (100<(dig a).length):=by rw[<-vU];exact decide_eq_decide.2 (by omega)
  rw[e1,e2];cases((dig a).head?==some 48)<;>cases decide (a=[48])<;>simp
 rw[hg]at hK;have hdl:(dig a).length<=a.length:=by
  cases a with
  |nil=>simp[dig]
  |cons c r=>simp only[dig];split<;>simp
 cases hd:dig a with
 |nil=>
  rw[hd]at hK;have hz:decide (((0:Nat):Int)<1)=true:=by decide
  simp only[wsv,wsg,wsh,wsl,aO,aN,aE,fE,Nat.reduceAdd,Nat.reduceLT,aG,aB,aK,aI,bT,reduceCtorEq,hz];intros;exact hK _ (Chg.refl _ _)
 |cons c r=>
  rw[hd]at hK hdl;have hz:decide (((r.length+1:Nat):Int)<1)=false:=bZ (by omega);simp only[wsv,wsg,wsh,wsl,aO,aN,aE,fE,Nat.reduceAdd,Nat.reduceLT,aG,aB,aK,aI,bT,reduceCtorEq,nM,Int.toNat_zero,aAQ c 48 48 rfl,hz];intros;rw[bS];have e1:decide ((100:Int)<((r.length+1:Nat):Int))=decide (100<(c::r).length):=decide_eq_decide.2 (by simp only[aA];omega);have e4:decide ((c::r).length<1)=false:=bZ (by simp);have e5:((c::r).head?==some 48)=(c==48):=by simp
  rw[e1];rw[e4,e5]at hK;simp only[vU];generalize decide (100<(c::r).length)=b1 at*
  generalize ((c==48)&&!decide (a=[48]))=b2 at*
  refine⟨λh=>?_,λh=>?_⟩
  ·have:=hK _ (Chg.refl _ _);have e:(!false&&!b1&&!b2&&(c::r).all Num.isDig)=false:=by
    cases b1<;>cases b2<;>simp at h⊢
   rw[e]at this;exact this
  ·have hb:b1=false/\b2=false:=by simpa using h
   rw[hb.1,hb.2]at hK;refine Hl (l:=c::r) (by kernel_rfl) (by kernel_rfl) (by kernel_rfl) λv w1 hv hx1=>?_;rw[fR hv];generalize c::r=D at*
   refine oI D.length (λi w2=>Ext w1 w2/\(D.take i).all Num.isDig=true) ⟨Chg.refl _ _,rfl⟩ ?_ ?_
   ·rintro i w2 g L hi ⟨hx2,hall⟩ hL;obtain⟨e,he⟩:∃e,D[i]?=some e:=⟨_,List.getElem?_eq_getElem hi⟩;have hlt:((i:Int)<((D.length:Nat):Int)):=by omega
    simp only[wsv,wsg,wsh,wsl,aO,aN,aE,fE,Nat.reduceAdd,Nat.reduceLT,aG,aB,aK,aI,bT,reduceCtorEq,hlt];refine rO (hv.ext hx2) (by rw[oS]) (by rw[Cj,he];rfl) ?_;simp only[wsv,wsg,wsh,wsl,aO,aN,aE,fE,Nat.reduceAdd,Nat.reduceLT,aG,aB,aK,aI,bT,reduceCtorEq,Na];intros;rw[bS];refine⟨λhf=>?_,λht=>?_⟩
    ·have hf:Num.isDig e=false:=by simpa using hf
     have:=hK _ (hx1.trans hx2);rw[Zq he hf]at this;exact this
    ·have ht:Num.isDig e=true:=by simpa using ht
     rw[up1 (by omega)];exact hL _ ⟨hx2,by rw[uM he,hall,ht];rfl⟩
   ·rintro w2 g L ⟨hx2,hall⟩;simp only[wsv,wsg,wsh,wsl,aO,aN,aE,fE,Nat.reduceAdd,Nat.reduceLT,aG,aB,aK,aI,bT,reduceCtorEq,gJ];rw[bM]at hall;have:=hK w2 (hx1.trans hx2);rw[hall]at this;exact this
end
abbrev BT:TypeId:=198
abbrev U64:TypeId:=209
theorem PY:sF P0 196 U64 1 8:=⟨by kernel_rfl,by kernel_rfl,by decide⟩
def iL(w:World)(x:Big)(cs:List Value):Prop:=∃(sv:Value) (_:TypeId),cs=[.bool x.below,sv]/\SlAt w U64 sv x.l.length (x.l.map u64)/\x.l.length<=1000/\Lim x.l
theorem iL.ext{x:Big}(h:iL w x cs)(hx:Ext w w'):iL w' x cs:=by
 obtain⟨sv,T,rfl,h1,h2,h3⟩:=h;exact⟨sv,T,rfl,h1.ext hx,h2,h3⟩
theorem iL.one{x:Big}(h:iL w x cs):cs.all gH=true:=by
 obtain⟨sv,T,rfl,h1,_⟩:=h;obtain⟨p,c,rfl,_⟩:=h1.shape;rfl
theorem iL.len{x:Big}(h:iL w x cs):cs.length=2:=by obtain⟨sv,T,rfl,_⟩:=h;rfl
structure Ch(w:World)(a:Nat)(x:Big)(sv:Value):Prop where
 hb:w.heap[a]?=some (.cells [.bool x.below,sv].toArray BT (0,0))
 l:∃_:TypeId,SlAt w U64 sv x.l.length (x.l.map u64)
 few:x.l.length<=1000
 lim:Lim x.l
theorem Ch.ext{a:Nat}{x:Big}{sv:Value}(h:Ch w a x sv)(hx:Ext w w'):Ch w' a x sv:=⟨hx.at h.hb id,let⟨T,h1⟩:=h.l;⟨T,h1.ext hx⟩,h.few,h.lim⟩
theorem Ch.rep{a:Nat}{x:Big}{sv:Value}(h:Ch w a x sv):iL w x [.bool x.below,sv]:=by obtain⟨T,h1⟩:=h.l;exact⟨sv,T,rfl,h1,h.few,h.lim⟩
theorem Ch.ld{a:Nat}{x:Big}{sv:Value}{K:Value->Prop}(h:Ch w a x sv)(hK:∀cs,iL w x cs->K (.agg cs.toArray)):ldW true 2 (ptr a) w K:=bX h.hb rfl (hK _ h.rep)
theorem Ch.len{a:Nat}{x:Big}{sv:Value}(h:Ch w a x sv)(K:Value->Prop):dC sv K↔K (i64 x.l.length):=by obtain⟨T,h1⟩:=h.l;exact fR h1 K
theorem Ch.at{a:Nat}{x:Big}{sv:Value}{k:IntKind}{K:Value->Prop}(h:Ch w a x sv)(hi:x.l[i]?=some n)(hK:K (u64 n)):dV none 1 sv (.int k i) λp=>ldW false 1 p w K:=by
 obtain⟨T,h1⟩:=h.l;exact rO h1 (by simp) (by simp[hi]) hK
theorem oM{x:Big}{K:Q0}(h:iL w x cs)(hK:∀a w' sv,Ch w' a x sv->Ext w w'->a=w.heap.size->w'.heap.size=a+1->K (ptr a) w'):eL BT (.agg cs.toArray) w K:=by
 obtain⟨sv,T,rfl,h1,h2,h3⟩:=h;refine fS λa w' ha hz hb hx=>hK a w' sv ⟨hb,⟨T,h1.ext hx⟩,h2,h3⟩ hx ha (by omega)
theorem Lf{w0:World}{b:Nat}{ds:List Value}{K:Q0}(hb:w.heap[b]?=some (.cells ds.toArray BT (0,0)))(hd:ds.length=2)(hl:w0.heap.size<=b)(hx:Ext w0 w)(h1:cs.all gH=true)(h2:cs.length=2)
  (hK:∀w',Ext w0 w'->Chg (λk=>k=b) w w'->K (.agg cs.toArray) w'):stW 2 (ptr b) (.agg cs.toArray) w λw5=>ldW true 2 (ptr b) w5 λr6=>K r6 w5:=
 jA hb h2 hd h1 λw' hc=>hK w' (hx.new hc hl) hc
theorem iL.keep{b:Nat}{x:Big}{p:Bool}{q:Value}{T0:TypeId}(h:iL w x cs)(hb:w.heap[b]?=some (.cells [.bool p,q].toArray T0 (0,0)))(hq:∀n,q≠u64 n)(hc:Chg (λk=>k=b) w w'):iL w' x cs:=by
 obtain⟨sv,T,rfl,⟨p',cap,hv,h1,h2,h3⟩,h4,h5⟩:=h;refine⟨sv,T,rfl,⟨p',cap,hv,h1,h2,λhne=>?_⟩,h4,h5⟩;obtain⟨k,off,c,fr,hp,hk,hcs⟩:=h3 hne;have hkb:k≠b:=by
  rintro rfl;rw[hb]at hk;cases hk;obtain⟨n,r,e⟩:∃n r,x.l=n::r:=by
   cases hx:x.l with
   |nil=>rw[hx]at hne;simp at hne
   |cons n r=>exact⟨n,r,rfl⟩
  have:=hcs 0 (by rw[e];simp);rw[e]at this;simp only[fA,dT,List.getElem?_cons_zero,List.getElem?_toArray]at this;rcases off with _|_|off
  ·simp at this
  ·simp only[aX,List.getElem?_cons_succ,List.getElem?_cons_zero,bD]at this;exact hq n this
  ·simp at this
 exact⟨k,off,c,fr,hp,hc.at hk hkb,hcs⟩
theorem oA{n:Int}(h1:0<=n)(h2:n<18446744073709551616):IntKind.u64.wrap n=n:=by
 simp only[IntKind.wrap,IntKind.signed,IntKind.bits,IntKind.max,IntKind.min];simp;omega
theorem WH{K:Q0}(hK:∀t w',SlAt w' U64 t 1 [u64 n]->Ext w w'->K t w'):dN U64 1 [(.int .u64 0)] [(0,1,u64 n)] w K:=by
 unfold dN;simp only[wsv,wsg,wsh,wsl,aO,aN,aE,fE,Nat.reduceAdd,Nat.reduceLT,aG,aB,aK,aI,bT,reduceCtorEq];exact hK _ _ (xL (w:=w) (base:=w.heap.size) (e:=U64) (size:=1) (n:=1) (cs:=[u64 n]) (aU _) rfl (by omega)).sl (by repeat (first|assumption|exact Chg.refl _ _|refine Chg.drew ?_|refine Chg.alloc ?_ _|refine Chg.set ?_ (by first|exact .inl rfl|exact .inr (by omega)|exact .inr (by simp only[qZ,size_alloc,size_drew];omega)|(left;simp;done)) _|exact Chg.of_ext (by assumption)))
theorem Mg{base:Nat}{l:List Nat}{K:Q0}(h:Own w base U64 1 v l.length (l.map u64))(hb:base<=w.heap.size)(hl:l.length<=100000)
  (hK:∀v' w',Own w' base U64 1 v' (l++[n]).length ((l++[n]).map u64)->Chg (λk=>base<=k) w w'->K v' w'):
  dN U64 1 [(.int .u64 0)] [(0,1,u64 n)] w λt w1=>dY P0 (Builtin.append_ #[196,196] 196 #[v,t]) w1 K:=by
 refine WH λt w1 ht hx=>?_;refine kM PY (h.ext hx) ht (m:=1) rfl (λu hu=>by simp only[bR]at hu;subst hu;rfl) (by omega) (by omega) (cH hb hx.size) λv' w' h' hc _=>?_;refine hK v' w' (by simpa using h') ((Chg.of_ext hx).trans ?_);refine hc.mono λk _ e=>(uW (h.ext hx) e).1
 done
section
variable [HX]
theorem Oh{k:Nat}{K:Value->Prop}(h:SlAt w T v n cs)(hl:cs.length=n)(hk:k<=n)(hK:∀v',SlAt w T v' k (cs.take k)->K v'):Oi 1 v none (some (i64 (k:Nat))) none K:=by
 obtain⟨p,cap,rfl,h1,h2,h3⟩:=h;rw[Xs];simp only[fT,eM];refine⟨by omega,by omega,?_⟩;have e:(if cap=0 then p else p.map (·.add (0*1)))=p:=by
  split
  ·rfl
  ·cases p with
   |none=>rfl
   |some a=>simp[Addr.add]
 rw[e];refine hK _ ⟨p,cap-0,by simp,by omega,λe=>?_,λhne=>?_⟩
 ·have:=h2 e;omega
 ·obtain⟨b,off,c,fr,hp,hb,hcs⟩:=h3 λe=>hne (by rw[e];simp);refine⟨b,off,c,fr,hp,hb,λi hi=>?_⟩;rw[cI]at hi;rw[hcs i (by omega),List.getElem?_take,aH (by omega)]
def Im(w:World)(a:Nat):Nat:=match LZ w.heap[a]? 1 with|some (Value.slice _ n _)=>n|_=>0
theorem pI{x:Big}{K:Q0}(h:iL w x cs)(hK:∀cs' w',Ext w w'->iL w' x.trim cs'->K (.agg cs'.toArray) w'):aC P0 197 [.agg cs.toArray] w K:=by
 refine Vp ?_;unfold aB4;obtain⟨sv,T,rfl,h1,h2,h3⟩:=h;refine fS λa w1 ha hz hba hx=>?_;refine bG λb w2 hb hz2 hbb hx2=>?_;have hba:=hx2.at hba id;have hx12:=hx.trans hx2;refine⟨λs w'=>s=[]/\∃m sv',m<=x.l.length/\w'.heap[a]?=some (.cells [.bool x.below,sv'].toArray BT (0,0))/\SlAt w U64 sv' m ((x.l.take m).map u64)/\gP (x.l.take m)=gP x.l/\Chg (λk=>k=a) w2 w',
  λ_ w'=>Im w' a,⟨rfl,x.l.length,sv,aU _,hba,by rw[bM];exact h1,by rw[bM],Chg.refl _ _⟩,?_⟩
 rintro s g w3 ⟨rfl,m,sv',hm,hba3,hs,htr,hc3⟩;have hx3:Ext w w3:=hx12.new hc3 (by omega);have hs3:=hs.ext hx3;obtain⟨p,cap,rfl,hcap⟩:=hs.shape;simp only[wsv,wsg,wsh,wsl,aO,aN,aE,fE,Nat.reduceAdd,Nat.reduceLT,aG,aB,aK,aI,bT,reduceCtorEq,wsh,hba3];have hlen3:Im w3 a=m:=by unfold Im;rw[hba3];rfl
 rw[hlen3];clear hlen3;refine GdW.look (decide (x.l[m-1]?=some 0)) ?_ ?_
 ·intro hc J hJ;obtain⟨k,rfl⟩:∃k,m=k+1:=⟨m-1,by simp only[bB]at hc;omega⟩;have hw:IntKind.i64.wrap (((k+1:Nat):Int)-1)=((k:Nat):Int):=by rw[cK (by omega) (by omega)];omega
  obtain⟨y,hy⟩:∃y,x.l[k]?=some y:=⟨_,List.getElem?_eq_getElem (by omega)⟩;simp only[wsv,wsg,wsh,wsl,aO,aN,aE,fE,Nat.reduceAdd,Nat.reduceLT,aG,aB,aK,aI,bT,reduceCtorEq,hw];refine rO hs3 (by simp;omega) (by simp[hy];rfl) ?_;simp only[wsv,wsg,wsh,wsl,aO,aN,aE,fE,Nat.reduceAdd,Nat.reduceLT,aG,aB,aK,aI,bT,reduceCtorEq];have e:decide ((y:Int)=0)=decide (x.l[k+1-1]?=some 0):=decide_eq_decide.2 (by rw[Ep,hy,bD];omega);rw[e];exact hJ
 ·intro gd;simp only[wsv,wsg,wsh,wsl,aO,aN,aE,fE,Nat.reduceAdd,Nat.reduceLT,aG,aB,aK,aI,bT,reduceCtorEq,wsh,hba3];rw[bS];refine⟨λhc=>?_,λhc=>?_⟩
  ·simp only[aJ,bB]at hc;obtain⟨k,rfl⟩:∃k,m=k+1:=⟨m-1,by omega⟩;have hw:IntKind.i64.wrap (((k+1:Nat):Int)-1)=((k:Nat):Int):=by rw[cK (by omega) (by omega)];omega
   rw[hw];refine Oh (k:=k) hs (by simp;omega) (by omega) λv' hv'=>?_;obtain⟨p',cap',rfl,_⟩:=hv'.shape;refine iT hba3 rfl (by simp) λw4 hz4 hb4 hc4=>?_;have hb4:w4.heap[a]?=some (.cells [.bool x.below,.slice p' k cap'].toArray BT (0,0)):=by rw[hb4];simp
   refine⟨⟨k,_,by omega,hb4,?_,?_,hc3.trans hc4⟩,?_⟩
   ·have e:(x.l.take k).map u64=((x.l.take (k+1)).map u64).take k:=by rw[<-List.map_take,List.take_take,nC (by omega)]
    rw[e];exact hv'
   ·have e:x.l.take (k+1)=x.l.take k++[0]:=by
     rw[eP];have:=hc.2;rw[Ep]at this;rw[this];rfl
    rw[<-htr,e,oU]
   ·have:Im w4 a=k:=by unfold Im;rw[hb4];rfl
    rw[this];omega
  ·have hT:gP x.l=x.l.take m:=by
    rw[<-htr];rcases mG m with h0|h0
    ·subst h0;rw[List.take_zero,qO]
    ·obtain⟨k,rfl⟩:∃k,m=k+1:=⟨m-1,by omega⟩;obtain⟨y,hy⟩:∃y,x.l[k]?=some y:=⟨_,List.getElem?_eq_getElem (by omega)⟩;have hy0:y≠0:=by
      rintro rfl;rw[bF (show((0:Int)<((k+1:Nat):Int))by omega),Ep,hy]at hc;simp at hc
     have e:x.l.take (k+1)=x.l.take k++[y]:=by rw[eP,hy];rfl
     rw[e,tW hy0]
   have hlt:(gP x.l).length=m:=by rw[hT,cI];omega
   have hbel:(x.below&&decide ((0:Int)<(m:Int)))=x.trim.below:=by
    show _=(x.below&&!(gP x.l).isEmpty);congr 1;cases hT2:gP x.l with
    |nil=>rw[hT2]at hlt;simp at hlt;subst hlt;simp
    |cons y r=>rw[hT2]at hlt;simp at hlt;simp;omega
   (try simp only[wsv,wsg,wsh,wsl,aO,aN,aE,fE,Nat.reduceAdd,Nat.reduceLT,aG,aB,aK,aI,bT,reduceCtorEq,wsh,hba3])
   intros;rw[hbel];refine iT hba3 rfl (by simp) λw4 hz4 hb4 hc4=>?_;have hb4:w4.heap[a]?=some (.cells [.bool x.trim.below,.slice p m cap].toArray BT (0,0)):=by rw[hb4];simp
   refine bX hb4 rfl ?_;have hbb4:=hc4.at (hc3.at hbb (by omega)) (by omega);have hx4:Ext w w4:=hx3.new hc4 (by omega);refine Lf (w0:=w) hbb4 rfl (by have:=hx.size;omega) hx4 rfl rfl λw5 hx5 _=>?_;refine hK _ w5 hx5 ⟨_,T,rfl,?_,?_,?_⟩
   ·show SlAt w5 U64 _ (gP x.l).length ((gP x.l).map u64);rw[hlt,hT];exact hs.ext hx5
   ·show(gP x.l).length<=1000;rw[hlt];omega
   ·exact(lR x.l).2.2 h3
theorem zB(l:List Nat)(i:Nat):(l.drop i).headD 0=l.getD i 0:=by
 induction l generalizing i with
 |nil=>simp
 |cons x l ih=>cases i<;>simp_all
theorem JR{x y:List Nat}{c:Nat}(h:x≠[]\/y≠[]):iB x y c=(c+x.headD 0+y.headD 0)%1000000000::iB x.tail y.tail ((c+x.headD 0+y.headD 0)/1000000000):=by
 cases x with
 |nil=>cases y with
  |nil=>simp at h
  |cons b y=>simp[iB]
 |cons a x=>cases y with
  |nil=>simp[iB]
  |cons b y=>simp[iB]
theorem Dm{l:List Nat}(h:Lim l)(i:Nat):l.getD i 0<1000000000:=by
 rw[List.getD_eq_getElem?_getD];cases hi:l[i]? with
 |none=>simp
 |some x=>exact h x (bK hi)
theorem OI{x y:Big}{ds:List Value}{K:Q0}(h:iL w x cs)(h':iL w y ds)(hK:∀v w',Ext w w'->SlAt w' U64 v (iB x.l y.l 0).length ((iB x.l y.l 0).map u64)->K v w'):aC P0 224 [.agg cs.toArray,.agg ds.toArray] w K:=by
 refine Vg ?_;unfold aBW;refine oM h λa w1 sv hB hx ha hz1=>?_;refine oM (h'.ext hx) λb w2 sv' hC hx2 hb hz2=>?_;have hB:=hB.ext hx2;have hx:=hx.trans hx2;clear hx2;simp only[wsv,wsg,wsh,wsl,aO,aN,aE,fE,Nat.reduceAdd,Nat.reduceLT,aG,aB,aK,aI,bT,reduceCtorEq,wsh,hB.hb,hC.hb,hB.len,hC.len];have hmax:(if(x.l.length:Int)<(y.l.length:Int)then(y.l.length:Int)else(x.l.length:Int))=((max x.l.length y.l.length:Nat):Int):=by split<;>omega
 rw[hmax];generalize hM:max x.l.length y.l.length=M;have hM1:M<=1000:=by have:=hB.few;have:=hC.few;omega
 refine⟨λs w'=>∃i c v l,i<=M/\c<=1/\s=[v,u64 c,i64 (i:Nat)]/\Ext w2 w'/\Own w' w2.heap.size U64 1 v l.length (l.map u64)/\l.length=i/\l++iB (x.l.drop i) (y.l.drop i) c=iB x.l y.l 0,
  λs _=>match s with|[_,_,.int _ i]=>M-i.toNat|_=>0,⟨0,0,_,[],by omega,by omega,rfl,Chg.refl _ _,⟨rfl,.inl ⟨rfl,rfl⟩⟩,rfl,by simp⟩,?_⟩
 rintro s g w3 ⟨i,c,v,l,hi,hc,rfl,hx3,hO,hl,he⟩;have hB3:=hB.ext hx3;have hC3:=hC.ext hx3;rcases dK i M with hlt|hge
 ·have hltI:(i:Int)<(M:Int):=by omega
  have hxi:=Dm hB.lim i;have hyi:=Dm hC.lim i;simp only[wsv,wsg,wsh,wsl,aO,aN,aE,fE,Nat.reduceAdd,Nat.reduceLT,aG,aB,aK,aI,bT,reduceCtorEq,hltI];refine bU.cut (λs w'=>s=[u64 (c+x.l.getD i 0)]/\w'=w3) ?_ ?_
  ·(try simp only[wsv,wsg,wsh,wsl,aO,aN,aE,fE,Nat.reduceAdd,Nat.reduceLT,aG,aB,aK,aI,bT,reduceCtorEq,wsh,hB3.hb,hB3.len])
   rw[aM];refine⟨λhi1=>?_,λhi1=>?_⟩
   ·obtain⟨n,hn⟩:∃n,x.l[i]?=some n:=⟨_,List.getElem?_eq_getElem (by omega)⟩;have hgd:x.l.getD i 0=n:=by rw[List.getD_eq_getElem?_getD,hn];rfl
    (try simp only[wsv,wsg,wsh,wsl,aO,aN,aE,fE,Nat.reduceAdd,Nat.reduceLT,aG,aB,aK,aI,bT,reduceCtorEq,wsh,hB3.hb])
    refine hB3.at hn ?_;simp only[wsv,wsg,wsh,wsl,aO,aN,aE,fE,Nat.reduceAdd,Nat.reduceLT,aG,aB,aK,aI,bT,reduceCtorEq];rw[hgd]at hxi⊢;rw[oA (by omega) (by omega)];simp only[u64,Int.natCast_add]
   ·have hgd:x.l.getD i 0=0:=by rw[List.getD_eq_getElem?_getD,List.getElem?_eq_none (by omega)];rfl
    rw[hgd];first|exact⟨rfl,rfl⟩|rfl
  ·rintro s gg w4 ⟨rfl,rfl⟩;refine bU.cut (λs w'=>s=[u64 (c+x.l.getD i 0+y.l.getD i 0)]/\w'=w4) ?_ ?_
   ·(try simp only[wsv,wsg,wsh,wsl,aO,aN,aE,fE,Nat.reduceAdd,Nat.reduceLT,aG,aB,aK,aI,bT,reduceCtorEq,wsh,hC3.hb,hC3.len])
    rw[aM];refine⟨λhi1=>?_,λhi1=>?_⟩
    ·obtain⟨n,hn⟩:∃n,y.l[i]?=some n:=⟨_,List.getElem?_eq_getElem (by omega)⟩;have hgd:y.l.getD i 0=n:=by rw[List.getD_eq_getElem?_getD,hn];rfl
     (try simp only[wsv,wsg,wsh,wsl,aO,aN,aE,fE,Nat.reduceAdd,Nat.reduceLT,aG,aB,aK,aI,bT,reduceCtorEq,wsh,hC3.hb])
     refine hC3.at hn ?_;simp only[wsv,wsg,wsh,wsl,aO,aN,aE,fE,Nat.reduceAdd,Nat.reduceLT,aG,aB,aK,aI,bT,reduceCtorEq];rw[hgd]at hyi⊢;rw[oA (by omega) (by omega)];simp only[u64,Int.natCast_add]
    ·have hgd:y.l.getD i 0=0:=by rw[List.getD_eq_getElem?_getD,List.getElem?_eq_none (by omega)];rfl
     rw[hgd];first|exact⟨rfl,rfl⟩|rfl
   ·rintro s gg w5 ⟨rfl,rfl⟩;have hst:=JR (x:=x.l.drop i) (y:=y.l.drop i) (c:=c) (by
     rcases dK i x.l.length with h1|h1
     ·left;intro e;have:=dS.1 e;omega
     ·right;intro e;have:=dS.1 e;omega)
    rw[zB,zB,List.tail_drop,List.tail_drop]at hst;have hn:c+x.l.getD i 0+y.l.getD i 0<2000000000:=by omega
    generalize c+x.l.getD i 0+y.l.getD i 0=n at*
    have e1:((n:Int).tmod 1000000000)=((n%1000000000:Nat):Int):=by simp[Int.natCast_emod,sM]
    have e2:IntKind.u64.wrap ((n:Int).tdiv 1000000000)=((n/1000000000:Nat):Int):=by
     rw[Int.tdiv_eq_ediv_of_nonneg (by omega),oA (by omega) (by omega)];omega
    have hne:¬(1000000000:Int)=0:=by decide
    simp only[wsv,wsg,wsh,wsl,aO,aN,aE,fE,Nat.reduceAdd,Nat.reduceLT,aG,aB,aK,aI,bT,reduceCtorEq,e1,e2,hne,not_false_eq_true];refine Mg hO hx3.size (by omega) λv' w' h' hc'=>?_;rw[up1 (by omega)];refine⟨⟨i+1,n/1000000000,v',l++[n%1000000000],hlt,by omega,rfl,hx3.then hc' λk hk e=>by omega,h',by simp[hl],?_⟩,by simp only[aV];omega⟩;rw[<-he,hst];simp
 ·obtain rfl:i=M:=by omega
  simp only[wsv,wsg,wsh,wsl,aO,aN,aE,fE,Nat.reduceAdd,Nat.reduceLT,aG,aB,aK,aI,bT,reduceCtorEq,gJ];refine Mg hO hx3.size (by omega) λv' w' h' hc'=>?_;have e1:x.l.drop i=[]:=dS.2 (by omega);have e2:y.l.drop i=[]:=dS.2 (by omega);rw[e1,e2]at he;simp only[iB]at he;have:=hK v' w' (hx.trans (hx3.then hc' λk hk e=>by omega));rw[<-he]at this;exact this h'.sl
theorem sZ{a:Nat}{x y:List Nat}{c:Nat}:gG (a::x) y c=(if a<c+y.headD 0 then a+1000000000-(c+y.headD 0)else a-(c+y.headD 0))::gG x y.tail (if a<c+y.headD 0 then 1 else 0):=by
 simp only[gG];split<;>rfl
theorem AU{x y:Big}{ds:List Value}{K:Q0}(h:iL w x cs)(h':iL w y ds)(hK:∀v w',Ext w w'->SlAt w' U64 v (gG x.l y.l 0).length ((gG x.l y.l 0).map u64)->K v w'):aC P0 199 [.agg cs.toArray,.agg ds.toArray] w K:=by
 refine Vn ?_;unfold aB2;refine oM h λa w1 sv hB hx ha hz1=>?_;refine oM (h'.ext hx) λb w2 sv' hC hx2 hb hz2=>?_;have hB:=hB.ext hx2;have hx:=hx.trans hx2;clear hx2;simp only[wsv,wsg,wsh,wsl,aO,aN,aE,fE,Nat.reduceAdd,Nat.reduceLT,aG,aB,aK,aI,bT,reduceCtorEq,wsh,hB.hb,hC.hb,hB.len,hC.len];have hM1:x.l.length<=1000:=hB.few;refine⟨λs w'=>∃i c v l,i<=x.l.length/\c<=1/\s=[v,u64 c,i64 (i:Nat)]/\Ext w2 w'/\Own w' w2.heap.size U64 1 v l.length (l.map u64)/\l.length=i/\l++gG (x.l.drop i) (y.l.drop i) c=gG x.l y.l 0,
  λs _=>match s with|[_,_,.int _ i]=>x.l.length-i.toNat|_=>0,⟨0,0,_,[],by omega,by omega,rfl,Chg.refl _ _,⟨rfl,.inl ⟨rfl,rfl⟩⟩,rfl,by simp⟩,?_⟩
 rintro s g w3 ⟨i,c,v,l,hi,hc,rfl,hx3,hO,hl,he⟩;have hB3:=hB.ext hx3;have hC3:=hC.ext hx3;rcases dK i x.l.length with hlt|hge
 ·have hltI:(i:Int)<(x.l.length:Int):=by omega
  have hyi:=Dm hC.lim i;obtain⟨n,hn⟩:∃n,x.l[i]?=some n:=⟨_,List.getElem?_eq_getElem hlt⟩;have hnl:=hB.lim n (bK hn);simp only[wsv,wsg,wsh,wsl,aO,aN,aE,fE,Nat.reduceAdd,Nat.reduceLT,aG,aB,aK,aI,bT,reduceCtorEq,hltI];refine hB3.at hn ?_;refine bU.cut (λs w'=>s=[u64 (c+y.l.getD i 0)]/\w'=w3) ?_ ?_
  ·(try simp only[wsv,wsg,wsh,wsl,aO,aN,aE,fE,Nat.reduceAdd,Nat.reduceLT,aG,aB,aK,aI,bT,reduceCtorEq,wsh,hC3.hb,hC3.len])
   rw[aM];refine⟨λhi1=>?_,λhi1=>?_⟩
   ·obtain⟨m,hm⟩:∃n,y.l[i]?=some n:=⟨_,List.getElem?_eq_getElem (by omega)⟩;have hgd:y.l.getD i 0=m:=by rw[List.getD_eq_getElem?_getD,hm];rfl
    (try simp only[wsv,wsg,wsh,wsl,aO,aN,aE,fE,Nat.reduceAdd,Nat.reduceLT,aG,aB,aK,aI,bT,reduceCtorEq,wsh,hC3.hb])
    refine hC3.at hm ?_;simp only[wsv,wsg,wsh,wsl,aO,aN,aE,fE,Nat.reduceAdd,Nat.reduceLT,aG,aB,aK,aI,bT,reduceCtorEq];rw[hgd]at hyi⊢;rw[oA (by omega) (by omega)];simp only[u64,Int.natCast_add]
   ·have hgd:y.l.getD i 0=0:=by rw[List.getD_eq_getElem?_getD,List.getElem?_eq_none (by omega)];rfl
    rw[hgd];first|exact⟨rfl,rfl⟩|rfl
  ·rintro s gg w4 ⟨rfl,rfl⟩;have hdx:x.l.drop i=n::x.l.drop (i+1):=by
    rw[cD hlt];congr 1;exact fO ((List.getElem?_eq_getElem hlt).symm.trans hn)
   rw[hdx,sZ,zB,List.tail_drop]at he;have ht:c+y.l.getD i 0<=1000000000:=by omega
   generalize c+y.l.getD i 0=t at*
   refine bU.cut (λs w'=>s=[u64 (if n<t then 1 else 0),u64 (if n<t then n+1000000000 else n)]/\w'=w4) ?_ ?_
   ·simp only[wsv,wsg,wsh,wsl,aO,aN,aE,fE,Nat.reduceAdd,Nat.reduceLT,aG,aB,aK,aI,bT,reduceCtorEq,aM];refine⟨λh1=>?_,λh1=>?_⟩
    ·rw[aH (by omega),aH (by omega),oA (by omega) (by omega)];simp only[u64,Int.natCast_add];rfl
    ·rw[aD (by omega),aD (by omega)];rfl
   ·rintro s gg w5 ⟨rfl,rfl⟩;have e1:IntKind.u64.wrap (((if n<t then n+1000000000 else n:Nat):Int)-(t:Int))=(((if n<t then n+1000000000-t else n-t:Nat)):Int):=by
     split
     ·rw[oA (by omega) (by omega)];omega
     ·rw[oA (by omega) (by omega)];omega
    simp only[wsv,wsg,wsh,wsl,aO,aN,aE,fE,Nat.reduceAdd,Nat.reduceLT,aG,aB,aK,aI,bT,reduceCtorEq,e1];refine Mg hO hx3.size (by omega) λv' w' h' hc'=>?_;rw[up1 (by omega)];refine⟨⟨i+1,if n<t then 1 else 0,v',l++[if n<t then n+1000000000-t else n-t],hlt,by split<;>omega,rfl,hx3.then hc' λk hk e=>by omega,h',by simp[hl],?_⟩,by simp only[aV];omega⟩;rw[<-he];simp
 ·obtain rfl:i=x.l.length:=by omega
  simp only[wsv,wsg,wsh,wsl,aO,aN,aE,fE,Nat.reduceAdd,Nat.reduceLT,aG,aB,aK,aI,bT,reduceCtorEq,gJ];rw[dQ]at he;simp only[gG,eA]at he;have:=hK v w3 (hx.trans hx3);rw[<-he]at this;exact this hO.sl
theorem Zj(a b:Nat):Cd (a:Int) (b:Int)=sJ a b:=by unfold sJ Cd;simp only[Int.ofNat_lt]
theorem Hn{x y:Big}{ds:List Value}{K:Q0}(h:iL w x cs)(h':iL w y ds)(hK:∀w',Ext w w'->K (i64 (Ho x.l y.l)) w'):aC P0 198 [.agg cs.toArray,.agg ds.toArray] w K:=by
 refine Vo ?_;unfold aB3;refine oM h λa w1 sv hB hx ha hz1=>?_;refine oM (h'.ext hx) λb w2 sv' hC hx2 hb hz2=>?_;have hB:=hB.ext hx2;have hx:=hx.trans hx2;clear hx2;simp only[wsv,wsg,wsh,wsl,aO,aN,aE,fE,Nat.reduceAdd,Nat.reduceLT,aG,aB,aK,aI,bT,reduceCtorEq,wsh,hB.hb,hC.hb,hB.len,hC.len];refine WY ?_;rw[Zj];unfold Ho at hK;simp only[wsv,wsg,wsh,wsl,aO,aN,aE,fE,Nat.reduceAdd,Nat.reduceLT,aG,aB,aK,aI,bT,reduceCtorEq,aM];refine⟨λh0=>?_,λh0=>?_⟩
 ·have:=hK w2 hx;rw[aH h0]at this;exact this
 ·have h0:sJ x.l.length y.l.length=0:=nN.1 h0;rw[aD (by rw[h0];simp)]at hK;have hl:x.l.length=y.l.length:=by
   rcases iF x.l.length y.l.length with⟨_,e⟩|⟨e,_⟩|⟨_,e⟩
   ·rw[h0]at e;cases e
   ·exact e
   ·rw[h0]at e;cases e
  have hf:=hB.few;simp only[wsv,wsg,wsh,wsl,aO,aN,aE,fE,Nat.reduceAdd,Nat.reduceLT,aG,aB,aK,aI,bT,reduceCtorEq,wsh,hB.hb,hB.len];refine⟨λs w'=>∃m:Nat,m<=x.l.length/\s=[i64 ((m:Int)-1)]/\Ext w2 w'/\sS ((x.l.zip y.l).take m).reverse=sS (x.l.zip y.l).reverse,
   λs _=>match s with|[.int _ i]=>(i+1).toNat|_=>0,⟨x.l.length,aU _,by rw[cK (by omega) (by omega)],Chg.refl _ _,by rw[fB (by rw[List.length_zip];omega)]⟩,?_⟩
  rintro s g w3 ⟨m,hm,rfl,hx3,he⟩;have hxd:=hx3.trans (Chg.drew (Chg.refl (λ_=>False) w3));have hB3:=hB.ext hx3;have hC3:=hC.ext hx3;have hBd:=hB.ext hxd;have hCd:=hC.ext hxd;rcases mG m with h1|h1
  ·subst h1;have e0:¬(0:Int)<=((0:Nat):Int)-1:=by omega
   simp only[wsv,wsg,wsh,wsl,aO,aN,aE,fE,Nat.reduceAdd,Nat.reduceLT,aG,aB,aK,aI,bT,reduceCtorEq,e0];have:=hK w3 (hx.trans hx3);rw[<-he]at this;exact this
  ·obtain⟨k,rfl⟩:∃k,m=k+1:=⟨m-1,by omega⟩;obtain⟨p,hp⟩:∃p,x.l[k]?=some p:=⟨_,List.getElem?_eq_getElem (by omega)⟩;obtain⟨q,hq⟩:∃q,y.l[k]?=some q:=⟨_,List.getElem?_eq_getElem (by omega)⟩;have hk:((k+1:Nat):Int)-1=((k:Nat):Int):=by omega
   have e0:(0:Int)<=((k:Nat):Int):=by omega
   rw[hk];simp only[wsv,wsg,wsh,wsl,aO,aN,aE,fE,Nat.reduceAdd,Nat.reduceLT,aG,aB,aK,aI,bT,reduceCtorEq,e0,wsh,hB3.hb,hC3.hb];refine hBd.at hp ?_;refine hCd.at hq ?_;refine aBo ?_;have hz:(x.l.zip y.l).take (k+1)=(x.l.zip y.l).take k++[(p,q)]:=by
    rw[eP,(List.getElem?_zip_eq_some (z:=(p,q))).2 ⟨hp,hq⟩];rfl
   rw[hz,List.reverse_append]at he;simp only[List.reverse_cons,List.reverse_nil,eQ,List.singleton_append,sS]at he;simp only[wsv,wsg,wsh,wsl,aO,aN,aE,fE,Nat.reduceAdd,Nat.reduceLT,aG,aB,aK,aI,bT,reduceCtorEq,aM];refine⟨λh2=>?_,λh2=>?_⟩
   ·rw[aH h2]at he;have:=hK w3.drew (hx.trans hxd);rw[<-he]at this;exact this
   ·rw[aD h2]at he;rw[cK (by omega) (by omega)];exact⟨⟨k,by omega,rfl,hxd,he⟩,by omega⟩
theorem CF{x:Big}{K:Q0}(h:iL w x cs)(hK:∀cs' w',Ext w w'->iL w' (zQ x) cs'->K (.agg cs'.toArray) w'):aC P0 187 [.agg cs.toArray] w K:=by
 refine Vx ?_;unfold aCc;refine oM h λa w1 sv hB hx ha hz1=>?_;refine bG λb w2 hb hz2 hbb hx2=>?_;have hB:=hB.ext hx2;have hx:=hx.trans hx2;obtain⟨T,hs⟩:=hB.l;obtain⟨p,cap,rfl,_⟩:=hs.shape;simp only[wsv,wsg,wsh,wsl,aO,aN,aE,fE,Nat.reduceAdd,Nat.reduceLT,aG,aB,aK,aI,bT,reduceCtorEq,wsh,hB.hb];refine pI (x:=⟨!x.below,x.l⟩) ⟨_,T,rfl,hs,hB.few,hB.lim⟩ λcs' w3 hx3 hr=>?_;have hbb:=hx3.at hbb id;refine jA hbb hr.len rfl hr.one λw4 hc4=>?_;exact hK _ w4 ((hx.trans hx3).new hc4 (by have:=hx.size;have:=hx2.size;omega)) (hr.keep hbb (by intro n e;cases e) hc4)
theorem Lc{x y:Big}{ds:List Value}{K:Q0}(h:iL w x cs)(h':iL w y ds)(hfew:x.l.length+y.l.length<900)(hK:∀cs' w',Ext w w'->iL w' (Ed x y) cs'->K (.agg cs'.toArray) w'):aC P0 185 [.agg cs.toArray,.agg ds.toArray] w K:=by
 refine Vz ?_;unfold aCe;refine oM h λa w1 sv hB hx ha hz1=>?_;refine oM (h'.ext hx) λb w2 sv' hC hx2 hb hz2=>?_;have hB:=hB.ext hx2;have hx:=hx.trans hx2;refine bG λg w3 hg hz3 hgg hx3=>?_;have hB:=hB.ext hx3;have hC:=hC.ext hx3;have hs2:=hx2.size;have hs:=hx.size;have hx:=hx.trans hx3;have mN:∀(z:Big) (w4:World) (v:Value),Ext w3 w4->SlAt w4 U64 v z.l.length (z.l.map u64)->z.l.length<=1000->Lim z.l->Ed x y=z.trim->
   aC P0 197 [.agg [.bool z.below,v].toArray] w4 λt w6=>stW 2 (ptr g) t w6 λw7=>ldW true 2 (ptr g) w7 λr=>K r w7:=by
  intro z w4 v hx4 hv hf hl he;refine pI (x:=z) ⟨v,U64,rfl,hv,hf,hl⟩ λcs' w5 hx5 hr=>?_;have hgg:=hx5.at (hx4.at hgg id) id;refine jA hgg hr.len rfl hr.one λw6 hc6=>?_;rw[he]at hK;exact hK _ w6 ((hx.trans (hx4.trans hx5)).new hc6 (by omega)) (hr.keep hgg (by intro n e;cases e) hc6)
 have hxd:Ext w3 w3.drew:=Chg.drew (Chg.refl (λ_=>False) w3);have hBd:=hB.ext hxd;have hCd:=hC.ext hxd;have hpl:∀(x y:List Nat) (c:Nat),(iB x y c).length<=x.length+y.length+1:=by
  intro x;induction x with
  |nil=>intro y;induction y with
   |nil=>intro c;simp[iB]
   |cons b y ih=>intro c;simp only[iB,aA];have:=ih ((c+b)/1000000000);simp only[aL]at this⊢;omega
  |cons a x ih=>
   intro y c;cases y with
   |nil=>simp only[iB,aA,aL];have:=ih [] ((c+a)/1000000000);simp only[aL]at this;omega
   |cons b y=>simp only[iB,aA];have:=ih y ((c+a+b)/1000000000);omega
 have hml:∀(x y:List Nat) (c:Nat),(gG x y c).length=x.length:=by
  intro x;induction x with
  |nil=>intro y c;simp[gG]
  |cons a x ih=>intro y c;rw[sZ,aA,ih,aA]
 have hmlim:∀(x y:List Nat) (c:Nat),Lim x->Lim y->c<=1->Lim (gG x y c):=by
  intro x;induction x with
  |nil=>intro y c _ _ _;simp[gG,Lim]
  |cons a x ih=>
   intro y c h1 h2 h3;rw[sZ];have ha:=h1 a bC;have hy:y.headD 0<1000000000:=by
    cases y with
    |nil=>simp
    |cons b y=>exact h2 b bC
   have:=ih y.tail (if a<c+y.headD 0 then 1 else 0) (λu hu=>h1 u (aS _ hu)) (λu hu=>h2 u (List.mem_of_mem_tail hu)) (by split<;>omega);intro u hu;rcases bW.1 hu with rfl|hu
   ·split<;>omega
   ·exact this u hu
 simp only[wsv,wsg,wsh,wsl,aO,aN,aE,fE,Nat.reduceAdd,Nat.reduceLT,aG,aB,aK,aI,bT,reduceCtorEq,wsh,hB.hb,hC.hb,WU];rw[bS];unfold Ed at mN;refine⟨λhe=>?_,λhne=>?_⟩
 ·have he:x.below=y.below:=by simpa using he
  refine hBd.ld λcs1 h1=>?_;refine hCd.ld λcs2 h2=>?_;refine OI h1 h2 λv w4 hx4 hv=>?_;have hB4:=hBd.ext hx4;obtain⟨p,c,rfl,_⟩:=hv.shape;simp only[wsv,wsg,wsh,wsl,aO,aN,aE,fE,Nat.reduceAdd,Nat.reduceLT,aG,aB,aK,aI,bT,reduceCtorEq,wsh,hB4.hb];rw[aH he]at mN;refine mN ⟨x.below,iB x.l y.l 0⟩ w4 _ (hxd.trans hx4) hv ?_ (uE _ _ _ hB.lim hC.lim (by omega)) rfl;have:=hpl x.l y.l 0;show(iB x.l y.l 0).length<=1000;omega
 ·have hne:x.below≠y.below:=by simpa using hne
  rw[aD hne]at mN;refine hB.ld λcs1 h1=>?_;refine hC.ld λcs2 h2=>?_;refine Hn h1 h2 λw4 hx4=>?_;have hB4:=hB.ext hx4;have hC4:=hC.ext hx4;have hxd4:Ext w4 w4.drew:=Chg.drew (Chg.refl (λ_=>False) w4);have hBd:=hB4.ext hxd4;have hCd:=hC4.ext hxd4;simp only[wsv,wsg,wsh,wsl,aO,aN,aE,fE,Nat.reduceAdd,Nat.reduceLT,aG,aB,aK,aI,bT,reduceCtorEq,aM];refine⟨λhs=>?_,λhs=>?_⟩
  ·rw[aH hs]at mN
   (try simp only[wsv,wsg,wsh,wsl,aO,aN,aE,fE,Nat.reduceAdd,Nat.reduceLT,aG,aB,aK,aI,bT,reduceCtorEq,wsh,hB4.hb])
   refine hBd.ld λcs3 h3=>?_;refine hCd.ld λcs4 h4=>?_;refine AU h3 h4 λv w5 hx5 hv=>?_;have hB5:=hBd.ext hx5;obtain⟨p,c,rfl,_⟩:=hv.shape;simp only[wsv,wsg,wsh,wsl,aO,aN,aE,fE,Nat.reduceAdd,Nat.reduceLT,aG,aB,aK,aI,bT,reduceCtorEq,wsh,hB5.hb];refine mN ⟨x.below,gG x.l y.l 0⟩ w5 _ (hx4.trans (hxd4.trans hx5)) hv ?_ (hmlim _ _ _ hB.lim hC.lim (by omega)) rfl;show(gG x.l y.l 0).length<=1000;rw[hml];omega
  ·rw[aD hs]at mN
   (try simp only[wsv,wsg,wsh,wsl,aO,aN,aE,fE,Nat.reduceAdd,Nat.reduceLT,aG,aB,aK,aI,bT,reduceCtorEq,wsh,hC4.hb])
   refine hCd.ld λcs3 h3=>?_;refine hBd.ld λcs4 h4=>?_;refine AU h3 h4 λv w5 hx5 hv=>?_;have hC5:=hCd.ext hx5;obtain⟨p,c,rfl,_⟩:=hv.shape;simp only[wsv,wsg,wsh,wsl,aO,aN,aE,fE,Nat.reduceAdd,Nat.reduceLT,aG,aB,aK,aI,bT,reduceCtorEq,wsh,hC5.hb];refine mN ⟨y.below,gG y.l x.l 0⟩ w5 _ (hx4.trans (hxd4.trans hx5)) hv ?_ (hmlim _ _ _ hC.lim hB.lim (by omega)) rfl;show(gG y.l x.l 0).length<=1000;rw[hml];omega
end
theorem Fh:∀(l:Str) (acc:Nat),l.all Num.isDig=true->acc*10^l.length+dec l<1000000000000000000->Lib.parseUintM (2^64-1) acc l=.ok (acc*10^l.length+dec l)
 |[],acc,_,_=>by simp[Lib.parseUintM,dec]
 |c::r,acc,h,hb=>by
  simp only[fK,aJ]at h
  have hc:=h.1
  simp only[Num.isDig,aJ,bB]at hc
  have e:acc*10^(c::r).length+dec (c::r)=(acc*10+(c.toNat-48))*10^r.length+dec r:=by
   rw[dec_cons,aA,nI,lP,<-Nat.add_assoc];congr 2;rw[kG (10^r.length) 10,Nat.mul_assoc]
  rw[e]at hb⊢;have hp:1<=10^r.length:=Bt (by omega);have h1:acc*10+(c.toNat-48)<=(acc*10+(c.toNat-48))*10^r.length:=Nat.le_mul_of_pos_right _ hp;simp only[Lib.parseUintM];rw[aH hc,aD (by omega),aD (by omega)];exact Fh r _ h.2 hb
section
variable [HX]
theorem MJ{l:Str}{K:Q0}(h0:l≠[])(hl:l.length<=9)(hd:l.all Num.isDig=true)(hK:∀w',Ext w w'->K (.tuple #[u64 (dec l),.nilIface]) w'):aC P0 226 [str l,i64 10,i64 64] w K:=by
 have hlt:=aBm hd hl;have hp:Lib.parseUintB 64 l=.ok (dec l):=by
  unfold Lib.parseUintB;rw[aD h0];have:=Fh l 0 hd (by rw[yA,aX];omega);rw[yA,aX]at this;exact this
 refine gF (args:=#[str l,i64 10,i64 64]) Tryz.call226 ((Tryz.strconv_ParseUint_10_at64_ok (ofL l) (by rw[eV];omega) (dec l) (by rw[eG];exact hp) w).mono ?_);rintro e w' ⟨rfl,rfl|rfl⟩
 ·exact⟨_,rfl,hK _ (Chg.refl _ _)⟩
 ·exact⟨_,rfl,hK _ (Bp _ _ _)⟩
theorem xN:∀(n:Nat) (d:Str),d.length<=n->(kX d).length<=d.length
 |n,[],_=>by rw[AV];simp
 |0,_::_,h=>by simp at h
 |n+1,c::d,hn=>by
  rw[Dl (by simp)]
  generalize hD:c::d=D at*
  have hpos:0<D.length:=by rw[<-hD];simp
  have:=xN n (D.take (D.length-9)) (by rw[cI];omega)
  rw[cI]at this
  simp only[aA];omega
theorem HI{a:Str}{K:Q0}(g2:(dig a).length<=100)(g4:(dig a).all Num.isDig=true)(ha:a.length<=9223372036854775807)(hK:∀cs' w',Ext w w'->iL w' (gR a) cs'->K (.agg cs'.toArray) w'):aC P0 186 [str a] w K:=by
 refine Vy ?_;unfold aCd;refine bG λb w1 hb hz1 hbb hx1=>?_;refine KH ha ?_;simp only[wsv,wsg,wsh,wsl,aO,aN,aE,fE,Nat.reduceAdd,Nat.reduceLT,aG,aB,aK,aI,bT,reduceCtorEq];generalize hd:dig a=d at*
 refine bG λg w2 hgz hz2 hgg hx2=>?_;refine cG (l:=[.bool (neg a),.slice none 0 0]) hgg rfl rfl rfl λw3 hz3 hg3 hc3=>?_;have hx3:Ext w w3:=(hx1.trans hx2).new hc3 (by omega);have hbb:=hc3.at (hx2.at hbb id) (by omega);refine⟨λs w'=>∃(z:Int) (v:Value) (l:List Nat),s=[i64 z]/\z<=d.length/\-9<=z/\l++kX (d.take z.toNat)=kX d/\Own w' (g+1) U64 1 v l.length (l.map u64)/\w'.heap[g]?=some (.cells [.bool (neg a),v].toArray BT (0,0))/\w'.heap[b]?=some (.cells [.bool false,.slice none 0 0].toArray BT (0,0))/\Chg (λk=>k=g\/g+1<=k) w3 w'/\l.length+z.toNat<=100,
  λs _=>match s with|[.int _ z]=>z.toNat|_=>0,⟨d.length,_,[],rfl,by omega,by omega,by rw[aV,bM];rfl,⟨rfl,.inl ⟨rfl,rfl⟩⟩,hg3,hbb,Chg.refl _ _,by simp;omega⟩,?_⟩
 rintro s gg w4 ⟨z,v,l,rfl,hzl,hz9,hll,hO,hg4,hb4,hc4,hcnt⟩;have hsz:=hc4.size;rcases Int.lt_or_le 0 z with hpos|hneg
 ·obtain⟨e,rfl⟩:∃e:Nat,z=(e:Int):=⟨z.toNat,by omega⟩;rw[aV]at hll hcnt;have hlo:(if(0:Int)<IntKind.i64.wrap ((e:Int)-9)then IntKind.i64.wrap ((e:Int)-9)else 0)=((e-9:Nat):Int):=by
   rw[cK (by omega) (by omega)];split<;>omega
  have hlen:(d.take e).length=e:=by rw[cI];omega
  simp only[wsv,wsg,wsh,wsl,aO,aN,aE,fE,Nat.reduceAdd,Nat.reduceLT,aG,aB,aK,aI,bT,reduceCtorEq,hpos,hlo,aV];refine⟨by omega,by omega,by omega,by omega,?_⟩;have hne:d.take e≠[]:=λh=>by rw[h]at hlen;simp at hlen;omega
  have hchunk:=Dl hne;rw[hlen,List.take_take,nC (by omega)]at hchunk;have hcl:((d.take e).drop (e-9)).length<=9:=by rw[aP,hlen];omega
  have hcn:(d.take e).drop (e-9)≠[]:=λh=>by have:=dS.1 h;omega
  refine MJ hcn hcl (Jn _ (uM _ g4)) λw5 hx5=>?_;have hg5:=hx5.at hg4 id;have hs5:=hx5.size;simp only[wsv,wsg,wsh,wsl,aO,aN,aE,fE,Nat.reduceAdd,Nat.reduceLT,aG,aB,aK,aI,bT,reduceCtorEq,wsh,hg5];refine Mg (hO.ext hx5) (by have:=eW hg3;omega) (by omega) λv' w6 h6 hc6=>?_;have hg6:=hc6.at hg5 (by omega);have h1v:gH v'=true:=by obtain⟨p,c,rfl,_⟩:=h6.sl.shape;rfl
  refine iT hg6 h1v (by simp) λw7 hz7 hg7 hc7=>?_;rw[cK (by omega) (by omega)];have hg7:w7.heap[g]?=some (.cells [.bool (neg a),v'].toArray BT (0,0)):=by rw[hg7];simp
  have ht:((e:Int)-9).toNat=e-9:=by omega
  refine⟨⟨_,v',l++[dec ((d.take e).drop (e-9))],rfl,by omega,by omega,?_,h6.chg hc7 λk hk e=>by have:=hk.1;omega,hg7,hc7.at (hc6.at (hx5.at hb4 id) (by omega)) (by omega),?_,?_⟩,?_⟩
  ·rw[ht,<-hll,hchunk,fD];rfl
  ·exact((hc4.trans (Chg.of_ext hx5)).trans (hc6.mono λk _ e=>.inr e)).trans (hc7.mono λk _ e=>.inl e)
  ·rw[ht];simp;omega
  ·simp only[ht];omega
 ·have h0:¬(0:Int)<z:=by omega
  have hz0:z.toNat=0:=by omega
  rw[hz0,List.take_zero,AV,eA]at hll;subst hll;simp only[wsv,wsg,wsh,wsl,aO,aN,aE,fE,Nat.reduceAdd,Nat.reduceLT,aG,aB,aK,aI,bT,reduceCtorEq,h0];refine bX hg4 rfl ?_;have hlim:=(qT _ d (aU _) g4).2;refine pI (x:=⟨neg a,kX d⟩) ⟨v,U64,rfl,hO.sl,by simp at hcnt⊢;omega,hlim⟩ λcs' w5 hx5 hr=>?_;have hb5:=hx5.at hb4 id;refine jA hb5 hr.len rfl hr.one λw6 hc6=>?_;have e:gR a=(⟨neg a,kX d⟩:Big).trim:=by unfold gR;rw[hd]
  rw[e]at hK;have hx4:Ext w w4:=hx3.then hc4 λk hk h=>by have:=hx1.size;omega
  exact hK _ w6 ((hx4.trans hx5).new hc6 (by omega)) (hr.keep hb5 (by intro n e;cases e) hc6)
theorem mT{a:Str}{K:Q0}(hg:goodN a=true)(ha:a.length<=9223372036854775807)(hK:∀cs' w',Ext w w'->iL w' (gR a) cs'->K (.agg cs'.toArray) w'):aC P0 186 [str a] w K:=
 HI (iE hg).2.1 (iE hg).2.2.2 ha hK
theorem Dc{a b:Str}{K:Q0}(ha:a.length<=9223372036854775807)(hb:b.length<=9223372036854775807)(hK:∀w',Ext w w'->K (i64 (wV a b)) w'):aC P0 132 [str a,str b] w K:=by
 refine VR ?_;unfold aCu;unfold wV at hK;refine lT ha λw1 hx1=>?_;simp only[wsv,wsg,wsh,wsl,aO,aN,aE,fE,Nat.reduceAdd,Nat.reduceLT,aG,aB,aK,aI,bT,reduceCtorEq];refine GdW.act (!goodN b) (λw'=>Ext w1 w') (λ_=>Chg.refl _ _) ?_ ?_
 ·intro hc J hJ;refine lT hb λw2 hx2=>?_;simp only[wsv,wsg,wsh,wsl,aO,aN,aE,fE,Nat.reduceAdd,Nat.reduceLT,aG,aB,aK,aI,bT,reduceCtorEq];exact hJ w2 hx2
 intro g w2 hx2;have hx:=hx1.trans hx2;simp only[wsv,wsg,wsh,wsl,aO,aN,aE,fE,Nat.reduceAdd,Nat.reduceLT,aG,aB,aK,aI,bT,reduceCtorEq];rw[bS];refine⟨λhn=>?_,λhy=>?_⟩
 ·have:=hK w2 hx;have e:(goodN a&&goodN b)=false:=by revert hn;cases goodN a<;>cases goodN b<;>simp
  rw[e]at this;exact this
 ·have hga:goodN a=true:=by revert hy;cases goodN a<;>simp
  have hgb:goodN b=true:=by revert hy;cases goodN b<;>simp
  rw[hga,hgb]at hK;simp only[Bool.and_self,gU]at hK;have lenR:∀{a:Str},goodN a=true->(gR a).l.length<=100:=by
   intro a h;obtain⟨_,h2,_,_⟩:=iE h;have h3:=xN _ (dig a) (aU _);show(gP (kX (dig a))).length<=100;have:∀l:List Nat,(gP l).length<=l.length:=λl=>by
    induction l using wE with
    |h0=>rw[qO];simp
    |h1 l x ih=>
     by_cases h:x=0
     ·subst h;rw[oU];simp;omega
     ·rw[tW h];simp
   have:=this (kX (dig a));omega
  refine mT hga ha λcs1 w3 hx3 h1=>?_;refine mT hgb hb λcs2 w4 hx4 h2=>?_;refine CF h2 λcs3 w5 hx5 h3=>?_;have hl3:(zQ (gR b)).l.length<=100:=by
   have:=lenR hgb;have:∀l:List Nat,(gP l).length<=l.length:=λl=>by
    induction l using wE with
    |h0=>rw[qO];simp
    |h1 l x ih=>
     by_cases h:x=0
     ·subst h;rw[oU];simp;omega
     ·rw[tW h];simp
   have:=this (gR b).l;show(gP (gR b).l).length<=100;omega
  refine Lc (h1.ext (hx4.trans hx5)) h3 (by have:=lenR hga;omega) λcs4 w6 hx6 h4=>?_;generalize Ed (gR a) (zQ (gR b))=D at*
  obtain⟨sv,T,rfl,hs,hf,hlim⟩:=h4;refine bG λc w7 hc hz7 hcc hx7=>?_;obtain⟨p,cap,rfl,_⟩:=hs.shape;refine cG (l:=[.bool D.below,.slice p D.l.length cap]) hcc rfl rfl rfl λw8 hz8 hb8 hc8=>?_;have hx8:Ext w w8:=(hx.trans (hx3.trans (hx4.trans (hx5.trans (hx6.trans hx7))))).new hc8 (by
   have:=(hx.trans (hx3.trans (hx4.trans (hx5.trans hx6)))).size;omega)
  have:=hK w8 hx8;simp only[wsv,wsg,wsh,wsl,aO,aN,aE,fE,Nat.reduceAdd,Nat.reduceLT,aG,aB,aK,aI,bT,reduceCtorEq,wsh,hb8];simp only[aM];refine⟨λh0=>?_,λh0=>?_⟩
  ·have hl:D.l=[]:=bI (by omega);rw[aH hl]at this;exact this
  ·have hl:D.l≠[]:=λe=>by rw[e]at h0;simp at h0
   rw[aD hl]at this;rw[bS];refine⟨λhb=>?_,λhb=>?_⟩
   ·rw[aH hb]at this;exact this
   ·rw[aD (by rw[hb];simp)]at this;exact this
end
section
variable [HX]
theorem wX{g:FuncId}{args:List Value}{K:Q0}(h:aC P g args w K):nU P (.func (.func g) #[] #[]) args w K:=by
 unfold nU Oq;unfold aC at h;have:(do let d<-(Deferred.ofValue (.func (.func g) #[] #[]) args.toArray);invoke d.target d.args:Sem Next)=callFunc g args.toArray:=by
  show callFunc g (#[]++args.toArray++#[])=_;simp
 rw[this];exact h
structure dU(w:World)(sv:Value)(xs:List JV):Prop where
 it:∃T L,SlAt w T sv xs.length L/\gI w xs L
 few:xs.length<=9223372036854775807
theorem dU.ext{sv:Value}{xs:List JV}(h:dU w sv xs)(hx:Ext w w'):dU w' sv xs:=⟨let⟨T,L,h1,h2⟩:=h.it;⟨T,L,h1.ext hx,h2.ext hx⟩,h.few⟩
theorem vM.itemsAt{a:Nat}{v:JV}{sv kv:Value}(h:vM w a v sv kv):dU w sv v.xs:=⟨h.items,h.fits.1⟩
theorem dU.len{sv:Value}{xs:List JV}(h:dU w sv xs)(K:Value->Prop):dC sv K↔K (i64 xs.length):=by obtain⟨T,L,h1,_⟩:=h.it;exact fR h1 K
theorem dU.at{sv:Value}{xs:List JV}{k:IntKind}{x:JV}{K:Value->Prop}(h:dU w sv xs)(hi:xs[i]?=some x)(hK:∀cs,fV w x cs->K (.agg cs.toArray)):dV none 5 sv (.int k i) λp=>ldW true 5 p w K:=by
 obtain⟨T,L,h1,h2⟩:=h.it;exact GK h1 h2 hi hK
def BR{α:Type}(p:α->Bool)(xs:List α):Int:=match xs.findIdx? p with|some i=>i|none=>-1
theorem ID{α:Type}(p:α->Bool)(xs:List α):decide ((0:Int)<=BR p xs)=xs.any p:=by
 unfold BR;cases h:xs.findIdx? p with
 |none=>
  have:=List.findIdx?_eq_none_iff.1 h;have:xs.any p=false:=nL.2 λx hx=>by simp[this x hx]
  rw[this];decide
 |some i=>
  obtain⟨hi,hp,_⟩:=List.findIdx?_eq_some_iff_getElem.1 h;rw[List.any_eq_true.2 ⟨_,AB hi,hp⟩];exact bF (by simp)
theorem BQ{α:Type}{p:α->Bool}{xs:List α}{x:α}(h:(xs.take i).any p=false)(hi:xs[i]?=some x)(hx:p x=true):xs.findIdx? p=some i:=by
 obtain⟨hl,e⟩:=List.getElem?_eq_some_iff.1 hi;rw[List.findIdx?_eq_some_iff_getElem];refine⟨hl,by rw[e];exact hx,λj hj=>?_⟩;have:=nL.1 h xs[j] (bK (i:=j) (by rw[List.getElem?_take,aH hj];exact List.getElem?_eq_getElem _));simpa using this
theorem Ub{sv f:Value}{xs:List JV}{p:JV->Bool}{K:Q0}(h:dU w sv xs)
  (hf:∀x∈xs,∀{cs:List Value} {w:World} {K:Q0},fV w x cs->(∀w',Ext w w'->K (.bool (p x)) w')->nU P0 f [.agg cs.toArray] w K)
  (hK:∀w',Ext w w'->K (i64 (BR p xs)) w'):aC P0 158 [sv,f] w K:=by
 refine Hd ?_;unfold VD;rw[h.len];refine oI xs.length (λi w'=>Ext w w'/\(xs.take i).any p=false) ⟨Chg.refl _ _,by simp⟩ ?_ ?_
 ·rintro i w2 g L hi ⟨hx2,hno⟩ hL;obtain⟨x,hxi⟩:∃x,xs[i]?=some x:=⟨_,List.getElem?_eq_getElem hi⟩;have hlt:((i:Int)<(xs.length:Int)):=by omega
  simp only[wsv,wsg,wsh,wsl,aO,aN,aE,fE,Nat.reduceAdd,Nat.reduceLT,aG,aB,aK,aI,bT,reduceCtorEq,hlt];refine(h.ext hx2).at hxi λcs hcs=>?_;refine hf x (bK hxi) hcs λw3 hx3=>?_;rw[bS];refine⟨λht=>?_,λhn=>?_⟩
  ·have:=hK w3 (hx2.trans hx3);unfold BR at this;rw[BQ hno hxi ht]at this;exact this
  ·have:=h.few;rw[up1 (by omega)];exact hL w3 ⟨hx2.trans hx3,by rw[Jm hxi,hno,hn];rfl⟩
 ·rintro w2 g L ⟨hx2,hno⟩;simp only[wsv,wsg,wsh,wsl,aO,aN,aE,fE,Nat.reduceAdd,Nat.reduceLT,aG,aB,aK,aI,bT,reduceCtorEq,gJ];rw[bM]at hno;have:=hK w2 hx2;unfold BR at this;rw[List.findIdx?_eq_none_iff.2 λx hx=>by simpa using nL.1 hno x hx]at this;exact this
theorem KI{sv f:Value}{xs:List JV}{p:JV->Bool}{K:Q0}(h:dU w sv xs)
  (hf:∀x∈xs,∀{cs:List Value} {w:World} {K:Q0},fV w x cs->(∀w',Ext w w'->K (.bool (p x)) w')->nU P0 f [.agg cs.toArray] w K)
  (hK:∀w',Ext w w'->K (.bool (xs.any p)) w'):aC P0 124 [sv,f] w K:=by
 refine He ?_;unfold Wa;refine Ub h hf λw1 hx1=>?_;simp only[wsv,wsg,wsh,wsl,aO,aN,aE,fE,Nat.reduceAdd,Nat.reduceLT,aG,aB,aK,aI,bT,reduceCtorEq,ID];exact hK w1 hx1
theorem Ua{sv f:Value}{xs:List JV}{p:JV->Bool}{K:Q0}(h:dU w sv xs)
  (hf:∀x∈xs,∀{cs:List Value} {w1:World} {K:Q0},Ext w w1->fV w1 x cs->(∀w',Ext w1 w'->K (.bool (p x)) w')->nU P0 f [.agg cs.toArray] w1 K)
  (hK:∀w',Ext w w'->K (i64 (BR p xs)) w'):aC P0 158 [sv,f] w K:=by
 refine Hd ?_;unfold VD;rw[h.len];refine oI xs.length (λi w'=>Ext w w'/\(xs.take i).any p=false) ⟨Chg.refl _ _,by simp⟩ ?_ ?_
 ·rintro i w2 g L hi ⟨hx2,hno⟩ hL;obtain⟨x,hxi⟩:∃x,xs[i]?=some x:=⟨_,List.getElem?_eq_getElem hi⟩;have hlt:((i:Int)<(xs.length:Int)):=by omega
  simp only[wsv,wsg,wsh,wsl,aO,aN,aE,fE,Nat.reduceAdd,Nat.reduceLT,aG,aB,aK,aI,bT,reduceCtorEq,hlt];refine(h.ext hx2).at hxi λcs hcs=>?_;refine hf x (bK hxi) hx2 hcs λw3 hx3=>?_;rw[bS];refine⟨λht=>?_,λhn=>?_⟩
  ·have:=hK w3 (hx2.trans hx3);unfold BR at this;rw[BQ hno hxi ht]at this;exact this
  ·have:=h.few;rw[up1 (by omega)];exact hL w3 ⟨hx2.trans hx3,by rw[Jm hxi,hno,hn];rfl⟩
 ·rintro w2 g L ⟨hx2,hno⟩;simp only[wsv,wsg,wsh,wsl,aO,aN,aE,fE,Nat.reduceAdd,Nat.reduceLT,aG,aB,aK,aI,bT,reduceCtorEq,gJ];rw[bM]at hno;have:=hK w2 hx2;unfold BR at this;rw[List.findIdx?_eq_none_iff.2 λx hx=>by simpa using nL.1 hno x hx]at this;exact this
theorem zG{sv f:Value}{xs:List JV}{p:JV->Bool}{K:Q0}(h:dU w sv xs)
  (hf:∀x∈xs,∀{cs:List Value} {w1:World} {K:Q0},Ext w w1->fV w1 x cs->(∀w',Ext w1 w'->K (.bool (p x)) w')->nU P0 f [.agg cs.toArray] w1 K)
  (hK:∀w',Ext w w'->K (.bool (xs.any p)) w'):aC P0 124 [sv,f] w K:=by
 refine He ?_;unfold Wa;refine Ua h hf λw1 hx1=>?_;simp only[wsv,wsg,wsh,wsl,aO,aN,aE,fE,Nat.reduceAdd,Nat.reduceLT,aG,aB,aK,aI,bT,reduceCtorEq,ID];exact hK w1 hx1
theorem Em(xs:List JV):(!xs.any λx=> !iP x)=zA xs:=by
 rw[Dq];induction xs with
 |nil=>rfl
 |cons x xs ih=>simp only[List.any_cons,fK,Bool.not_or,Bool.not_not,ih]
theorem GI(v:JV):∀{cs:List Value} {w:World} {K:Q0},fV w v cs->(∀w',Ext w w'->K (.bool (iP v)) w')->aC P0 96 [.agg cs.toArray] w K:=by
 induction v using JV.ind' with
 |h v ih=>
  intro cs w K h hK;refine Zu ?_;unfold W96;refine jV h λa w1 sv kv hB hx _=>?_;rw[AX]at hK;simp only[wsv,wsg,wsh,wsl,aO,aN,aE,fE,Nat.reduceAdd,Nat.reduceLT,aG,aB,aK,aI,bT,reduceCtorEq,wsh,hB.hb];refine GdW.act (zA v.xs) (λw'=>Ext w1 w') (λ_=>Chg.refl _ _) ?_ ?_
  ·intro hc J hJ;refine KI (p:=λx=> !iP x) hB.itemsAt ?_ λw2 hx2=>?_
   ·intro x hx cs w K hr hK;refine wX ?_;refine VU ?_;unfold aCw;refine jV hr λb w1 sv kv hB hx1 _=>?_;refine hB.ld λcs2 h2=>?_;refine ih x hx h2 λw2 hx2=>?_;simp only[wsv,wsg,wsh,wsl,aO,aN,aE,fE,Nat.reduceAdd,Nat.reduceLT,aG,aB,aK,aI,bT,reduceCtorEq];exact hK w2 (hx1.trans hx2)
   ·simp only[wsv,wsg,wsh,wsl,aO,aN,aE,fE,Nat.reduceAdd,Nat.reduceLT,aG,aB,aK,aI,bT,reduceCtorEq,Em];exact hJ w2 hx2
  ·intro g w2 hx2;have:=hK w2 (hx.trans hx2);simp only[wsv,wsg,wsh,wsl,aO,aN,aE,fE,Nat.reduceAdd,Nat.reduceLT,aG,aB,aK,aI,bT,reduceCtorEq];simpa only[vU]using this
theorem KZ{b:Bool}{K:Q0}(hK:K (i64 (AD b)) w):aC P0 191 [.bool b] w K:=by
 refine Vu ?_;unfold aB9;rw[bS];unfold AD at hK;exact⟨λh=>by rw[aH h]at hK;exact hK,λh=>by rw[aD (by rw[h];simp)]at hK;exact hK⟩
theorem Uu{a b:List Str}{x y:Value}{T1 T2:TypeId}{K:Q0}(h1:SlAt w T1 x a.length (a.map str))(h2:SlAt w T2 y b.length (b.map str))(ha:a.length<=9223372036854775807)
  (hK:∀w',Ext w w'->K (i64 (yP a b)) w'):aC P0 194 [x,y] w K:=by
 refine Vs ?_;unfold aB7;rw[fR h1];refine oI a.length (λi w'=>Ext w w'/\i<=b.length/\yP (a.drop i) (b.drop i)=yP a b) ⟨Chg.refl _ _,by omega,rfl⟩ ?_ ?_
 ·rintro i w2 g L hi ⟨hx2,hib,he⟩ hL;obtain⟨u,hu⟩:∃u,a[i]?=some u:=⟨_,List.getElem?_eq_getElem hi⟩;have hlt:((i:Int)<(a.length:Int)):=by omega
  have hda:a.drop i=u::a.drop (i+1):=by
   rw[cD hi];congr 1;exact fO ((List.getElem?_eq_getElem hi).symm.trans hu)
  simp only[wsv,wsg,wsh,wsl,aO,aN,aE,fE,Nat.reduceAdd,Nat.reduceLT,aG,aB,aK,aI,bT,reduceCtorEq,hlt];refine pG (h1.ext hx2) hu ?_;rw[fR h2];simp only[wsv,wsg,wsh,wsl,aO,aN,aE,fE,Nat.reduceAdd,Nat.reduceLT,aG,aB,aK,aI,bT,reduceCtorEq,aM];refine⟨λhge=>?_,λhltb=>?_⟩
  ·have hdb:b.drop i=[]:=dS.2 (by omega);rw[hda,hdb]at he;have:=hK w2 hx2;rw[<-he]at this;exact this
  ·have hib2:i<b.length:=by omega
   obtain⟨v,hv⟩:∃v,b[i]?=some v:=⟨_,List.getElem?_eq_getElem hib2⟩;have hdb:b.drop i=v::b.drop (i+1):=by
    rw[cD hib2];congr 1;exact fO ((List.getElem?_eq_getElem hib2).symm.trans hv)
   rw[hda,hdb]at he;simp only[yP,orI]at he;refine pG (h2.ext hx2) hv ?_;refine aBp ?_;simp only[wsv,wsg,wsh,wsl,aO,aN,aE,fE,Nat.reduceAdd,Nat.reduceLT,aG,aB,aK,aI,bT,reduceCtorEq,aM];refine⟨λhne=>?_,λh0=>?_⟩
   ·rw[aD hne]at he;have:=hK w2 hx2;rw[<-he]at this;exact this
   ·rw[aH (nN.1 h0)]at he;rw[up1 (by omega)];exact hL w2 ⟨hx2,hib2,he⟩
 ·rintro w2 g L ⟨hx2,hib,he⟩;simp only[wsv,wsg,wsh,wsl,aO,aN,aE,fE,Nat.reduceAdd,Nat.reduceLT,aG,aB,aK,aI,bT,reduceCtorEq,gJ];rw[fR h1,fR h2];rw[dQ]at he;simp only[wsv,wsg,wsh,wsl,aO,aN,aE,fE,Nat.reduceAdd,Nat.reduceLT,aG,aB,aK,aI,bT,reduceCtorEq,aM];have:=hK w2 hx2;rw[<-he]at this;refine⟨λhlt=>?_,λhge=>?_⟩
  ·obtain⟨v,r,e⟩:∃v r,b.drop a.length=v::r:=by
    cases hd:b.drop a.length with
    |nil=>have:=dS.1 hd;omega
    |cons v r=>exact⟨v,r,rfl⟩
   rw[e]at this;exact this
  ·rw[dS.2 (show b.length<=a.length by omega)]at this;exact this
theorem aA4{a b:Int}{K:Q0}(hv:SlAt w 3 v 2 [i64 a,i64 b])(hK:∀w',Ext w w'->K (i64 (orI a b)) w'):aC P0 193 [v] w K:=by
 refine Vt ?_;unfold aB8;rw[fR hv];unfold orI at hK;refine oI 2 (λi w'=>Ext w w'/\(1<=i->a=0)/\(2<=i->b=0)) ⟨Chg.refl _ _,by omega,by omega⟩ ?_ ?_
 ·rintro i w2 g L hi ⟨hx2,h1,h2⟩ hL;have hlt:((i:Int)<((2:Nat):Int)):=by omega
  simp only[wsv,wsg,wsh,wsl,aO,aN,aE,fE,Nat.reduceAdd,Nat.reduceLT,aG,aB,aK,aI,bT,reduceCtorEq,hlt];have hc:i=0\/i=1:=by omega
  rcases hc with rfl|rfl
  ·refine rO (hv.ext hx2) rfl (show [i64 a,i64 b][0]?=some (i64 a)from rfl) ?_;simp only[wsv,wsg,wsh,wsl,aO,aN,aE,fE,Nat.reduceAdd,Nat.reduceLT,aG,aB,aK,aI,bT,reduceCtorEq,aM];refine⟨λhne=>?_,λh0=>?_⟩
   ·have:=hK w2 hx2;rw[aD hne]at this;exact this
   ·rw[up1 (by omega)];exact hL w2 ⟨hx2,λ_=>nN.1 h0,λh=>by omega⟩
  ·have ha:=h1 (aU _);refine rO (hv.ext hx2) rfl (show [i64 a,i64 b][1]?=some (i64 b)from rfl) ?_;simp only[wsv,wsg,wsh,wsl,aO,aN,aE,fE,Nat.reduceAdd,Nat.reduceLT,aG,aB,aK,aI,bT,reduceCtorEq,aM];refine⟨λhne=>?_,λh0=>?_⟩
   ·have:=hK w2 hx2;rw[aH ha]at this;exact this
   ·rw[up1 (by omega)];exact hL w2 ⟨hx2,λ_=>ha,λ_=>nN.1 h0⟩
 ·rintro w2 g L ⟨hx2,h1,h2⟩;simp only[wsv,wsg,wsh,wsl,aO,aN,aE,fE,Nat.reduceAdd,Nat.reduceLT,aG,aB,aK,aI,bT,reduceCtorEq,gJ];have:=hK w2 hx2;rw[aH (h1 (by omega)),h2 (aU _)]at this;exact this
theorem NB{sv tv f:Value}{xs ys:List JV}{K:Q0}(h:dU w sv xs)(h':dU w tv ys)
  (hf:∀x∈xs,∀y∈ys,∀{cs ds:List Value} {w:World} {K:Q0},fV w x cs->fV w y ds->(∀w',Ext w w'->K (i64 (KJ x y)) w')->nU P0 f [.agg cs.toArray,.agg ds.toArray] w K)
  (hK:∀w',Ext w w'->K (i64 (cmpL xs ys)) w'):aC P0 195 [sv,tv,f] w K:=by
 refine Vr ?_;unfold aB6;rw[h.len];refine oI xs.length (λi w'=>Ext w w'/\i<=ys.length/\cmpL (xs.drop i) (ys.drop i)=cmpL xs ys) ⟨Chg.refl _ _,by omega,rfl⟩ ?_ ?_
 ·rintro i w2 g L hi ⟨hx2,hib,he⟩ hL;obtain⟨u,hu⟩:∃u,xs[i]?=some u:=⟨_,List.getElem?_eq_getElem hi⟩;have hlt:((i:Int)<(xs.length:Int)):=by omega
  have hda:xs.drop i=u::xs.drop (i+1):=by
   rw[cD hi];congr 1;exact fO ((List.getElem?_eq_getElem hi).symm.trans hu)
  simp only[wsv,wsg,wsh,wsl,aO,aN,aE,fE,Nat.reduceAdd,Nat.reduceLT,aG,aB,aK,aI,bT,reduceCtorEq,hlt];refine(h.ext hx2).at hu λcs hcs=>?_;refine Ar hcs λp w3 sp kp hP hx3=>?_;rw[h'.len];simp only[wsv,wsg,wsh,wsl,aO,aN,aE,fE,Nat.reduceAdd,Nat.reduceLT,aG,aB,aK,aI,bT,reduceCtorEq,aM];refine⟨λhge=>?_,λhltb=>?_⟩
  ·have hdb:ys.drop i=[]:=dS.2 (by omega);rw[hda,hdb]at he;have:=hK w3 (hx2.trans hx3);rw[<-he]at this;exact this
  ·have hib2:i<ys.length:=by omega
   obtain⟨v,hv⟩:∃v,ys[i]?=some v:=⟨_,List.getElem?_eq_getElem hib2⟩;have hdb:ys.drop i=v::ys.drop (i+1):=by
    rw[cD hib2];congr 1;exact fO ((List.getElem?_eq_getElem hib2).symm.trans hv)
   rw[hda,hdb]at he;simp only[cmpL,orI]at he;refine(h'.ext (hx2.trans hx3)).at hv λds hds=>?_;refine Ar hds λq w4 sq kq hQ hx4=>?_;refine(hP.ext hx4).ld λcs2 hc2=>?_;refine hQ.ld λds2 hd2=>?_;refine hf u (bK hu) v (bK hv) hc2 hd2 λw5 hx5=>?_;have hx:=hx2.trans (hx3.trans (hx4.trans hx5));simp only[wsv,wsg,wsh,wsl,aO,aN,aE,fE,Nat.reduceAdd,Nat.reduceLT,aG,aB,aK,aI,bT,reduceCtorEq,aM];refine⟨λhne=>?_,λh0=>?_⟩
   ·rw[aD hne]at he;have:=hK w5 hx;rw[<-he]at this;exact this
   ·rw[aH (nN.1 h0)]at he;have:=h.few;rw[up1 (by omega)];exact hL w5 ⟨hx,hib2,he⟩
 ·rintro w2 g L ⟨hx2,hib,he⟩;simp only[wsv,wsg,wsh,wsl,aO,aN,aE,fE,Nat.reduceAdd,Nat.reduceLT,aG,aB,aK,aI,bT,reduceCtorEq,gJ];rw[h.len,h'.len];rw[dQ]at he;simp only[wsv,wsg,wsh,wsl,aO,aN,aE,fE,Nat.reduceAdd,Nat.reduceLT,aG,aB,aK,aI,bT,reduceCtorEq,aM];have:=hK w2 hx2;rw[<-he]at this;refine⟨λhlt=>?_,λhge=>?_⟩
  ·obtain⟨v,r,e⟩:∃v r,ys.drop xs.length=v::r:=by
    cases hd:ys.drop xs.length with
    |nil=>have:=dS.1 hd;omega
    |cons v r=>exact⟨v,r,rfl⟩
   rw[e]at this;exact this
  ·rw[dS.2 (show ys.length<=xs.length by omega)]at this;exact this
theorem aBq(v:JV):∀{b:JV} {cs ds:List Value} {w:World} {K:Q0},fV w v cs->fV w b ds->(∀w',Ext w w'->K (i64 (KJ v b)) w')->aC P0 131 [.agg cs.toArray,.agg ds.toArray] w K:=by
 induction v using JV.ind' with
 |h v ih=>
  intro b cs ds w K h h' hK;refine VS ?_;unfold aCv;refine jV h λx w1 sv kv hB hx _=>?_;refine jV (h'.ext hx) λy w2 sv' kv' hC hx2 _=>?_;have hB:=hB.ext hx2;have hx:=hx.trans hx2;clear hx2;rw[Uv]at hK;unfold orI at hK;simp only[wsv,wsg,wsh,wsl,aO,aN,aE,fE,Nat.reduceAdd,Nat.reduceLT,aG,aB,aK,aI,bT,reduceCtorEq,wsh,hB.hb,hC.hb];refine aBr ?_;simp only[wsv,wsg,wsh,wsl,aO,aN,aE,fE,Nat.reduceAdd,Nat.reduceLT,aG,aB,aK,aI,bT,reduceCtorEq,aM];refine⟨λhne=>?_,λh0=>?_⟩
  ·have:=hK w2 hx;rw[aD hne]at this;exact this
  ·rw[aH (nN.1 h0)]at hK;have hxd:Ext w2 w2.drew:=Chg.drew (Chg.refl (λ_=>False) w2);have hBd:=hB.ext hxd;have hCd:=hC.ext hxd
   (try simp only[wsv,wsg,wsh,wsl,aO,aN,aE,fE,Nat.reduceAdd,Nat.reduceLT,aG,aB,aK,aI,bT,reduceCtorEq,wsh,hB.hb,hC.hb])
   refine⟨λh2=>?_,λh2=>?_⟩
   ·rw[aH (show v.k=2 by simpa using h2)]at hK
    (try simp only[wsv,wsg,wsh,wsl,aO,aN,aE,fE,Nat.reduceAdd,Nat.reduceLT,aG,aB,aK,aI,bT,reduceCtorEq,wsh,hB.hb,hC.hb])
    refine KZ ?_
    (try simp only[wsv,wsg,wsh,wsl,aO,aN,aE,fE,Nat.reduceAdd,Nat.reduceLT,aG,aB,aK,aI,bT,reduceCtorEq,wsh,hC.hb])
    refine KZ (WY ?_);exact hK _ (hx.trans hxd)
   ·rw[aD (show¬v.k=2 by simpa using h2)]at hK
    (try simp only[wsv,wsg,wsh,wsl,aO,aN,aE,fE,Nat.reduceAdd,Nat.reduceLT,aG,aB,aK,aI,bT,reduceCtorEq,aM])
    refine⟨λh3=>?_,λh3=>?_⟩
    ·rw[aH (show v.k=3 by simpa using h3)]at hK
     (try simp only[wsv,wsg,wsh,wsl,aO,aN,aE,fE,Nat.reduceAdd,Nat.reduceLT,aG,aB,aK,aI,bT,reduceCtorEq,wsh,hB.hb,hC.hb])
     exact Dc hB.fits.2.2.1 hC.fits.2.2.1 λw3 hx3=>hK w3 (hx.trans hx3)
    ·rw[aD (show¬v.k=3 by simpa using h3)]at hK
     (try simp only[wsv,wsg,wsh,wsl,aO,aN,aE,fE,Nat.reduceAdd,Nat.reduceLT,aG,aB,aK,aI,bT,reduceCtorEq,aM])
     refine⟨λh4=>?_,λh4=>?_⟩
     ·rw[aH (show v.k=4 by simpa using h4)]at hK
      (try simp only[wsv,wsg,wsh,wsl,aO,aN,aE,fE,Nat.reduceAdd,Nat.reduceLT,aG,aB,aK,aI,bT,reduceCtorEq,wsh,hB.hb,hC.hb])
      exact Xo (hK w2 hx)
     ·rw[aD (show¬v.k=4 by simpa using h4)]at hK
      (try simp only[wsv,wsg,wsh,wsl,aO,aN,aE,fE,Nat.reduceAdd,Nat.reduceLT,aG,aB,aK,aI,bT,reduceCtorEq,wsh,hB.hb,hC.hb])
      obtain⟨T1,k1⟩:=hBd.keys;obtain⟨T2,k2⟩:=hCd.keys;refine Uu k1 k2 hB.fits.2.1 λw3 hx3=>?_;have hB3:=hBd.ext hx3;have hC3:=hCd.ext hx3;simp only[wsv,wsg,wsh,wsl,aO,aN,aE,fE,Nat.reduceAdd,Nat.reduceLT,aG,aB,aK,aI,bT,reduceCtorEq,wsh,hB3.hb,hC3.hb];refine NB hB3.itemsAt hC3.itemsAt ?_ λw4 hx4=>?_
      ·intro p hp q hq cs ds w K hc hd hK;exact wX (ih p hp hc hd hK)
      unfold dN;simp only[wsv,wsg,wsh,wsl,aO,aN,aE,fE,Nat.reduceAdd,Nat.reduceLT,aG,aB,aK,aI,bT,reduceCtorEq];have hs:SlAt (w4.alloc (.cells [i64 (yP v.ks b.ks),i64 (cmpL v.xs b.xs)].toArray 3)) 3 (.slice (some ⟨w4.heap.size,0,none⟩) 2 2) 2 [i64 (yP v.ks b.ks),i64 (cmpL v.xs b.xs)]:=
       (xL (w:=w4) (base:=w4.heap.size) (e:=3) (size:=1) (n:=2) (cs:=[i64 (yP v.ks b.ks),i64 (cmpL v.xs b.xs)]) (aU _) rfl (by omega)).sl
      refine aA4 hs λw5 hx5=>?_;have hx':=hx.trans (hxd.trans (hx3.trans (hx4.trans ((Chg.alloc (Chg.refl _ _) _:Ext w4 _).trans hx5))));exact hK w5 hx'
theorem Um{a b:JV}{ds:List Value}{K:Q0}(h:fV w a cs)(h':fV w b ds)(hK:∀w',Ext w w'->K (.bool (decide (KJ a b=0))) w'):aC P0 98 [.agg cs.toArray,.agg ds.toArray] w K:=by
 refine Zs ?_;unfold W98;refine jV h λx w1 sv kv hB hx _=>?_;refine jV (h'.ext hx) λy w2 sv' kv' hC hx2 _=>?_;have hB:=hB.ext hx2;refine hB.ld λcs1 h1=>?_;refine hC.ld λcs2 h2=>?_;refine aBq a h1 h2 λw3 hx3=>?_;simp only[wsv,wsg,wsh,wsl,aO,aN,aE,fE,Nat.reduceAdd,Nat.reduceLT,aG,aB,aK,aI,bT,reduceCtorEq];exact hK w3 (hx.trans (hx2.trans hx3))
end
def inG(G:Nat->Prop)(v:Value):Prop:=∀k,v.ownBlock=some k->G k
mutual
def cO(G:Nat->Prop)(w:World):JV->List Value->Prop
 |.mk k b t xs ks,cs=>∃sv kv T1 T2 L,cs=[i64 k,.bool b,str t,sv,kv]/\SlAt w T1 sv xs.length L/\dB G w xs L/\SlAt w T2 kv ks.length (ks.map str)/\Fits xs.length ks t/\(L≠[]->inG G sv)/\(ks.map str≠[]->inG G kv)
def dB(G:Nat->Prop)(w:World):List JV->List Value->Prop
 |[],L=>L=[]
 |x::xs,L=>∃c r,L=c++r/\cO G w x c/\dB G w xs r
end
theorem tZ(h:SlAt w T v n cs)(hg:cs≠[]->inG G v)(hc:Chg S w w')(hS:∀k,G k->k<w.heap.size->¬S k):SlAt w' T v n cs:=by
 obtain⟨p,cap,rfl,h1,h2,h3⟩:=h;refine⟨p,cap,rfl,h1,h2,λhne=>?_⟩;obtain⟨b,off,c,fr,rfl,hb,hcs⟩:=h3 hne;exact⟨b,off,c,fr,rfl,hc.at hb (hS b (hg hne b rfl) (eW hb)),hcs⟩
theorem Gn(h:SlAt w T v n cs)(hne:cs≠[]):inG (λk=>k<w.heap.size) v:=by
 obtain⟨p,cap,rfl,h1,h2,h3⟩:=h;obtain⟨b,off,c,fr,rfl,hb,hcs⟩:=h3 hne;intro k hk;cases hk;exact eW hb
mutual
theorem cO.chg{S G:Nat->Prop}{w w':World}(hc:Chg S w w')(hS:∀k,G k->k<w.heap.size->¬S k):∀{v:JV} {cs:List Value},cO G w v cs->cO G w' v cs
 |.mk k b t xs ks,cs,h=>by
  simp only[cO]at h⊢
  obtain⟨sv,kv,T1,T2,L,rfl,h1,h2,h3,h4,h5,h6⟩:=h
  exact⟨sv,kv,T1,T2,L,rfl,tZ h1 h5 hc hS,dB.chg hc hS h2,tZ h3 h6 hc hS,h4,h5,h6⟩
theorem dB.chg{S G:Nat->Prop}{w w':World}(hc:Chg S w w')(hS:∀k,G k->k<w.heap.size->¬S k):∀{xs:List JV} {L:List Value},dB G w xs L->dB G w' xs L
 |[],L,h=>by simp only[dB]at h⊢;exact h
 |x::xs,L,h=>by
  simp only[dB]at h⊢
  obtain⟨c,r,rfl,h1,h2⟩:=h
  exact⟨c,r,rfl,cO.chg hc hS h1,dB.chg hc hS h2⟩
end
mutual
theorem cO.mono{G G':Nat->Prop}{w:World}(hG:∀k,k<w.heap.size->G k->G' k):∀{v:JV} {cs:List Value},cO G w v cs->cO G' w v cs
 |.mk k b t xs ks,cs,h=>by
  simp only[cO]at h⊢
  obtain⟨sv,kv,T1,T2,L,rfl,h1,h2,h3,h4,h5,h6⟩:=h
  exact⟨sv,kv,T1,T2,L,rfl,h1,dB.mono hG h2,h3,h4,λhne k hk=>hG k (Gn h1 hne k hk) (h5 hne k hk),λhne k hk=>hG k (Gn h3 hne k hk) (h6 hne k hk)⟩
theorem dB.mono{G G':Nat->Prop}{w:World}(hG:∀k,k<w.heap.size->G k->G' k):∀{xs:List JV} {L:List Value},dB G w xs L->dB G' w xs L
 |[],L,h=>by simp only[dB]at h⊢;exact h
 |x::xs,L,h=>by
  simp only[dB]at h⊢
  obtain⟨c,r,rfl,h1,h2⟩:=h
  exact⟨c,r,rfl,cO.mono hG h1,dB.mono hG h2⟩
end
mutual
theorem cO.rep{G:Nat->Prop}{w:World}:∀{v:JV} {cs:List Value},cO G w v cs->fV w v cs
 |.mk k b t xs ks,cs,h=>by
  simp only[cO]at h
  simp only[fV]
  obtain⟨sv,kv,T1,T2,L,rfl,h1,h2,h3,h4,h5,h6⟩:=h
  exact⟨sv,kv,T1,T2,L,rfl,h1,dB.rep h2,h3,h4⟩
theorem dB.rep{G:Nat->Prop}{w:World}:∀{xs:List JV} {L:List Value},dB G w xs L->gI w xs L
 |[],L,h=>by simp only[dB]at h;simp only[gI];exact h
 |x::xs,L,h=>by
  simp only[dB]at h
  simp only[gI]
  obtain⟨c,r,rfl,h1,h2⟩:=h
  exact⟨c,r,rfl,cO.rep h1,dB.rep h2⟩
end
theorem dB.snoc{G:Nat->Prop}{w:World}:∀{xs:List JV} {x:JV} {L cs:List Value},dB G w xs L->cO G w x cs->dB G w (xs++[x]) (L++cs)
 |[],x,L,cs,h,hx=>by
  simp only[dB]at h
  subst h
  simp only[eQ,dB]
  exact⟨cs,[],by simp,hx,rfl⟩
 |y::xs,x,L,cs,h,hx=>by
  simp only[dB]at h
  obtain⟨c,r,rfl,h1,h2⟩:=h
  simp only[dG,dB]
  exact⟨c,r++cs,by simp,h1,dB.snoc h2 hx⟩
theorem cO.mk{v:JV}{sv kv:Value}{T1 T2:TypeId}{L:List Value}(h1:SlAt w T1 sv v.xs.length L)(h2:dB G w v.xs L)(h3:SlAt w T2 kv v.ks.length (v.ks.map str))(h4:Fits v.xs.length v.ks v.t)(h5:L≠[]->inG G sv)(h6:v.ks.map str≠[]->inG G kv):cO G w v [i64 v.k,.bool v.b,str v.t,sv,kv]:=by
 cases v with
 |mk k b t xs ks=>simp only[cO];exact⟨sv,kv,T1,T2,L,rfl,h1,h2,h3,h4,h5,h6⟩
abbrev yD(n:Nat):Nat->Prop:=λk=>n<=k
section
variable [HX]
theorem Uw{l:List Str}{K:Q0}(h:SlAt w T v l.length (l.map str))(hl:l.length<=1000000)
  (hK:∀v' w',Ext w w'->SlAt w' ST v' l.length (l.map str)->inG (yD w.heap.size) v'->K v' w'):aC P0 118 [v] w K:=by
 refine Wg ?_;unfold aCG;obtain⟨p,cap,rfl,hcap,hp,hc⟩:=h;cases p with
 |none=>
  obtain⟨h0,rfl⟩:=hp rfl;have:l=[]:=bI h0;subst this;have e:∀K:Value->Prop,eqW .slice false (.slice none ([]:List Str).length 0) (.slice none 0 0) K↔K (.bool true):=λK=>iD;rw[e];simp only[wsv,wsg,wsh,wsl,aO,aN,aE,fE,Nat.reduceAdd,Nat.reduceLT,aG,aB,aK,aI,bT,reduceCtorEq];exact hK _ w (Chg.refl _ _) (SlAt.nil _ _) (by intro k hk;cases hk)
 |some a=>
  have e:∀K:Value->Prop,eqW .slice false (.slice (some a) l.length cap) (.slice none 0 0) K↔K (.bool false):=λK=>iD;rw[e];unfold dN;simp only[wsv,wsg,wsh,wsl,aO,aN,aE,fE,Nat.reduceAdd,Nat.reduceLT,aG,aB,aK,aI,bT,reduceCtorEq];refine jG KC (base:=w.heap.size) (xL (w:=w) (base:=w.heap.size) (e:=ST) (size:=1) (n:=0) (cs:=[]) (aU _) rfl (by omega)) (x:=.slice (some a) l.length cap) (T:=T) (m:=l.length) (news:=l.map str) ?_ (by simp) ?_ (by omega) (by omega) (by rw[size_alloc];omega) λv' w' h' hc' hb'=>?_
  ·have hx:Ext w (w.alloc (.cells ([]:List Value).toArray ST)):=(by repeat (first|assumption|exact Chg.refl _ _|refine Chg.drew ?_|refine Chg.alloc ?_ _|refine Chg.set ?_ (by first|exact .inl rfl|exact .inr (by omega)|exact .inr (by simp only[qZ,size_alloc,size_drew];omega)|(left;simp;done)) _|exact Chg.of_ext (by assumption)));exact SlAt.ext ⟨some a,cap,rfl,hcap,hp,hc⟩ hx
  ·intro u hu;obtain⟨s,_,rfl⟩:=kH.1 hu;rfl
  ·have hx:Ext w (w.alloc (.cells ([]:List Value).toArray ST)):=(by repeat (first|assumption|exact Chg.refl _ _|refine Chg.drew ?_|refine Chg.alloc ?_ _|refine Chg.set ?_ (by first|exact .inl rfl|exact .inr (by omega)|exact .inr (by simp only[qZ,size_alloc,size_drew];omega)|(left;simp;done)) _|exact Chg.of_ext (by assumption)));refine hK v' w' (hx.then hc' λk hk e=>?_) (by simpa using h'.sl) λk hk=>(h'.block k hk).1;simp only[Value.ownBlock,bD]at e;omega
theorem Ql{xs:List JV}(hcl:∀x∈xs,∀{cs:List Value} {w:World} {K:Q0},fV w x cs->(∀cs' w',Ext w w'->cO (yD w.heap.size) w' x cs'->K (.agg cs'.toArray) w')->aC P0 88 [.agg cs.toArray] w K)
  {sv:Value}{K:Q0}(h:dU w sv xs)(hl:xs.length<=1000000)
  (hK:∀sv' w',Ext w w'->(∃L,SlAt w' VT sv' xs.length L/\dB (yD w.heap.size) w' xs L)->inG (yD w.heap.size) sv'->K sv' w'):aC P0 119 [sv] w K:=by
 refine We ?_;unfold aCF;rw[h.len];refine⟨λs w'=>∃i v L,i<=xs.length/\s=[v,i64 (i:Nat)]/\Ext w w'/\Own w' w.heap.size VT 5 v i L/\dB (λk=>w.heap.size<=k/\v.ownBlock≠some k) w' (xs.take i) L,
  λs _=>match s with|[_,.int _ i]=>xs.length-i.toNat|_=>0,⟨0,_,[],by omega,rfl,Chg.refl _ _,⟨by simp,.inl ⟨rfl,rfl⟩⟩,by simp[dB]⟩,?_⟩
 rintro s g w2 ⟨i,v,L,hi,rfl,hx2,hO,hr⟩;rcases dK i xs.length with hlt|hge
 ·obtain⟨x,hxi⟩:∃x,xs[i]?=some x:=⟨_,List.getElem?_eq_getElem hlt⟩;have hltI:(i:Int)<(xs.length:Int):=by omega
  simp only[wsv,wsg,wsh,wsl,aO,aN,aE,fE,Nat.reduceAdd,Nat.reduceLT,aG,aB,aK,aI,bT,reduceCtorEq,hltI];refine(h.ext hx2).at hxi λcs hcs=>?_;refine Ar hcs λp w3 sp kp hP hx3=>?_;refine hP.ld λcs2 h2=>?_;refine hcl x (bK hxi) h2 λcs3 w4 hx4 h3=>?_;refine EO h3.rep.len λt w5 ht hx5=>?_;have hx25:=hx3.trans (hx4.trans hx5);have hO5:=hO.ext hx25;have s0:=hx2.size;have s3:=hx3.size;have s25:=hx25.size;have hglt:∀k,v.ownBlock=some k->k<w2.heap.size:=λk hk=>(World.ownsRow.lt hO k hk).2;refine jG KB hO5 ht (m:=1) (by rw[h3.rep.len]) h3.rep.one (by omega) (by omega) (by omega) λv' w6 h6 hc6 hb6=>?_;have hx6:Ext w w6:=(hx2.trans hx25).then hc6 λk hk e=>by
   have:=(uW hO5 e).1;omega
  rw[up1 (by omega)];refine⟨⟨i+1,v',L++cs3,hlt,rfl,hx6,h6,?_⟩,by simp only[aV];omega⟩;have e:xs.take (i+1)=xs.take i++[x]:=by rw[eP,hxi];rfl
  rw[e];have hr5:=dB.chg hx25 (λ_ _ _ e=>e) hr;have h35:=cO.chg hx5 (λ_ _ _ e=>e) h3;have hall:dB (λk=>w.heap.size<=k/\v.ownBlock≠some k) w5 (xs.take i++[x]) (L++cs3):=
   hr5.snoc (h35.mono λk _ hk=>⟨by have:w3.heap.size<=k:=hk;omega,λe=>by have:=hglt k e;have:w3.heap.size<=k:=hk;omega⟩)
  have hall2:dB (λk=>(w.heap.size<=k/\v.ownBlock≠some k)/\k<w5.heap.size) w5 (xs.take i++[x]) (L++cs3):=hall.mono λk hlt hk=>⟨hk,hlt⟩;have hall3:=dB.chg hc6 (λk hk _ e=>hk.1.2 e) hall2;exact hall3.mono λk _ hk=>⟨hk.1.1,λe=>by
   rcases hb6 k e with h|h
   ·exact hk.1.2 h
   ·omega⟩
 ·obtain rfl:i=xs.length:=by omega
  simp only[wsv,wsg,wsh,wsl,aO,aN,aE,fE,Nat.reduceAdd,Nat.reduceLT,aG,aB,aK,aI,bT,reduceCtorEq,gJ];rw[bM]at hr;exact hK v w2 hx2 ⟨L,hO.sl,hr.mono λk _ hk=>hk.1⟩ λk hk=>(hO.block k hk).1
end
end
end Go.Proofs.YtghhmpppnmoeoaaGreatDoor
namespace Go.Eng
section
open Go Go.Num
variable{w:World}{K:Q0}{cs:List Value}{G:Nat->Prop}{T:TypeId}{i:Nat}{n:Nat}{v:Value}{w':World}{P:Program}{c:UInt8}{S:Nat->Prop}
mutual
def Ao:JV->Bool
 |.mk _ _ _ xs ks=>decide (xs.length<=100000)&&decide (ks.length<=100000)&&PU xs
def PU:List JV->Bool
 |[]=>true
 |x::xs=>Ao x&&PU xs
end
theorem An(v:JV):Ao v=(decide (v.xs.length<=100000)&&decide (v.ks.length<=100000)&&PU v.xs):=by cases v;rfl
theorem Ap(xs:List JV):PU xs=xs.all Ao:=by
 induction xs with
 |nil=>rfl
 |cons x xs ih=>simp[PU,ih]
theorem yR:∀(m:Nat),m<=24->∀(v:JV),oL v m=true->1<=pJ v/\pJ v<=2000*m+1
 |0,_,v,h=>by rw[rW]at h;cases h
 |m+1,hm,v,h=>by
  rw[kR,mD]at h
  rw[uA]
  have key:∀(xs:List JV) (n:Int),xs.all (oL · m)=true->1<=n->n<=2000*(m+1)+1->1<=kO xs n/\kO xs n<=2000*(m+1)+1:=by
   intro xs;induction xs with
   |nil=>intro n _ h1 h2;exact⟨h1,h2⟩
   |cons x xs ih=>
    intro n ha h1 h2;simp only[fK,aJ]at ha;obtain⟨a1,a2⟩:=yR m (by omega) x ha.1;simp only[kO];split
    ·rw[cK (by omega) (by omega)];exact ih _ ha.2 (by omega) (by omega)
    ·exact⟨h1,h2⟩
  have:=key v.xs 1 h (by omega) (by omega);exact⟨this.1,by have:=this.2;omega⟩
theorem uS{m:Nat}(hm:m<=24):∀(xs:List JV) (n:Int),xs.all (oL · m)=true->1<=n->kO xs n<=2000->n+xs.length<=2000/\∀x∈xs,pJ x<=2000
 |[],n,_,_,h=>by simp only[kO]at h;exact⟨by simp;exact h,by simp⟩
 |x::xs,n,ha,h1,h=>by
  simp only[fK,aJ]at ha
  obtain⟨a1,a2⟩:=yR m hm x ha.1
  simp only[kO]at h
  split at h
  ·rw[cK (by omega) (by omega)]at h
   obtain⟨i1,i2⟩:=uS hm xs _ ha.2 (by omega) h
   refine⟨by simp only[aA];omega,λy hy=>?_⟩
   rcases bW.1 hy with rfl|hy
   ·omega
   ·exact i2 y hy
  ·omega
theorem PI(v:JV):∀(m:Nat),m<=24->pJ v<=2000->oL v m=true->oD v=true->Ao v=true:=by
 induction v using JV.ind' with
 |h v ih=>
  intro m hm hs hd hp;cases m with
  |zero=>rw[rW]at hd;cases hd
  |succ m=>
   rw[kR,mD]at hd;rw[uA]at hs;obtain⟨h1,h2⟩:=uS (m:=m) (by omega) v.xs 1 hd (by omega) hs;rw[lG,aJ,rG]at hp;obtain⟨_,_,_,_,_,k6,_,_,k9,_⟩:=lY hp.1;rw[An,Ap];have e1:v.xs.length<=100000:=by omega
   have e2:v.ks.length<=100000:=by
    by_cases hk:v.ks=[]
    ·rw[hk];simp
    ·have:=k9 (k6 hk);omega
   rw[bF e1,bF e2];simp only[Bool.and_self,iA,bN];intro x hx;exact ih x hx m (by omega) (h2 x hx) (bN.1 hd x hx) (bN.1 hp.2 x hx)
structure Gf(v:JV):Prop where
 plain:oD v=true
 few:Ao v=true
theorem rQ{v:JV}(h:dL v=true):Gf v:=by
 simp only[dL,aJ,bB]at h;exact⟨h.2,PI v 24 (aU _) h.1.1 h.1.2 h.2⟩
theorem Gf.item{v x:JV}(h:Gf v)(hx:x∈v.xs):Gf x:=by
 have h1:=h.plain;have h2:=h.few;rw[lG,aJ,rG,bN]at h1;rw[An,Ap]at h2;simp only[aJ,bN]at h2;exact⟨h1.2 x hx,h2.2 x hx⟩
theorem Gf.lens{v:JV}(h:Gf v):v.xs.length<=100000/\v.ks.length<=100000/\(v.k=6->v.ks.length=v.xs.length)/\iQ v.ks=true/\(v.ks≠[]->v.k=6):=by
 have h1:=h.plain;have h2:=h.few;rw[lG,aJ]at h1;rw[An]at h2;simp only[aJ,bB]at h2;obtain⟨_,_,_,_,_,k6,_,_,k9,k10⟩:=lY h1.1;exact⟨h2.1.1,h2.1.2,k9,k10,k6⟩
theorem uZ:∀{a b c:Str},Op.bytesLess a b=true->Op.bytesLess b c=true->Op.bytesLess a c=true
 |[],[],_,h,_=>by simp[Op.bytesLess]at h
 |_::_,[],_,h,_=>by simp[Op.bytesLess]at h
 |_,_::_,[],_,h=>by simp[Op.bytesLess]at h
 |[],_::_,_::_,_,_=>by simp[Op.bytesLess]
 |x::a,y::b,z::c,h1,h2=>by
  simp only[Op.bytesLess,cM,aJ,bB,fI]at h1 h2⊢
  rcases h1 with h1|⟨rfl,h1⟩
  ·rcases h2 with h2|⟨rfl,h2⟩
   ·exact .inl (UInt8.lt_trans h1 h2)
   ·exact .inl h1
  ·rcases h2 with h2|⟨rfl,h2⟩
   ·exact .inl h2
   ·exact .inr ⟨rfl,uZ h1 h2⟩
def Wu(ks:List Str):Prop:=ks.Pairwise λa b=>Op.bytesLess a b=true
theorem BJ:∀{ks:List Str},iQ ks=true->Wu ks
 |[],_=>List.Pairwise.nil
 |[a],_=>List.pairwise_singleton _ _
 |a::b::r,h=>by
  simp only[iQ,aJ]at h
  have ih:=BJ (ks:=b::r) h.2
  refine List.Pairwise.cons (λc hc=>?_) ih
  rcases bW.1 hc with rfl|hc
  ·exact h.1.2
  ·exact uZ h.1.2 ((List.pairwise_cons.1 ih).1 c hc)
theorem Gt{ks:List Str}(h:Wu ks){j:Nat}{a b:Str}(ha:ks[i]?=some a)(hb:ks[j]?=some b)(hij:i<j):Op.bytesLess a b=true:=by
 obtain⟨h1,e1⟩:=List.getElem?_eq_some_iff.1 ha;obtain⟨h2,e2⟩:=List.getElem?_eq_some_iff.1 hb;have:=List.pairwise_iff_getElem.1 h i j h1 h2 hij;rw[e1,e2]at this;exact this
end
end Go.Eng
namespace Go.Proofs.YtghhmpppnmoeoaaGreatDoor
section
open Go Go.Eng Go.Num
variable{w:World}{K:Q0}{cs:List Value}{G:Nat->Prop}{T:TypeId}{i:Nat}{n:Nat}{v:Value}{w':World}{P:Program}{c:UInt8}{S:Nat->Prop}
section
variable [HX]
theorem LY(v:JV):∀{cs:List Value} {w:World} {K:Q0},Ao v=true->fV w v cs->(∀cs' w',Ext w w'->cO (yD w.heap.size) w' v cs'->K (.agg cs'.toArray) w')->aC P0 88 [.agg cs.toArray] w K:=by
 induction v using JV.ind' with
 |h v ih=>
  intro cs w K hfew h hK;rw[An,Ap]at hfew;simp only[aJ,bB,bN]at hfew;obtain⟨⟨f1,f2⟩,f3⟩:=hfew;refine ZB ?_;unfold W88;refine jV h λa w1 sv kv hB hx ha=>?_;refine bG λb w2 hb hz2 hbb hx2=>?_;have hxd:Ext w2 w2.drew:=Chg.drew (Chg.refl (λ_=>False) w2);have hB2:=hB.ext hx2;have hBd:=hB2.ext hxd;have hbd:=hxd.at hbb id;have sd:w2.drew.heap.size=w2.heap.size:=rfl;simp only[wsv,wsg,wsh,wsl,aO,aN,aE,fE,Nat.reduceAdd,Nat.reduceLT,aG,aB,aK,aI,bT,reduceCtorEq,wsh,hB2.hb];obtain⟨T1,k1⟩:=hBd.keys;refine Uw k1 (by omega) λkv' w3 hx3 hk3 hg3=>?_;have hB3:=hBd.ext hx3;have hb3:=hx3.at hbd id;have s3:=hx3.size;simp only[wsv,wsg,wsh,wsl,aO,aN,aE,fE,Nat.reduceAdd,Nat.reduceLT,aG,aB,aK,aI,bT,reduceCtorEq,wsh,hB3.hb];refine Ql (λx hx=>ih x hx (f3 x hx)) hB3.itemsAt (by omega) λsv' w4 hx4 hL hg4=>?_;obtain⟨L,hL1,hL2⟩:=hL;have hB4:=hB3.ext hx4;have hb4:=hx4.at hb3 id;have s1:=hx.size;have hak:=eW hB.hb;have gH:gH sv'=true/\gH kv'=true:=by
   obtain⟨p,c,rfl,_⟩:=hL1.shape;obtain⟨p',c',rfl,_⟩:=hk3.shape;exact⟨rfl,rfl⟩
  refine iT hB4.hb gH.2 (by simp) λw5 hz5 ha5 hc5=>?_;have ha5:w5.heap[a]?=some (.cells [i64 v.k,.bool v.b,str v.t,sv,kv'].toArray VT (0,0)):=by rw[ha5];simp
  refine iT ha5 gH.1 (by simp) λw6 hz6 ha6 hc6=>?_;have ha6:w6.heap[a]?=some (.cells [i64 v.k,.bool v.b,str v.t,sv',kv'].toArray VT (0,0)):=by rw[ha6];simp
  refine bX ha6 rfl ?_;have hb6:=hc6.at (hc5.at hb4 (by omega)) (by omega);refine jA hb6 rfl rfl (TA gH.1 gH.2) λw7 hc7=>?_;have hx1:Ext w w4:=hx.trans (hx2.trans (hxd.trans (hx3.trans hx4)));have hx5:Ext w w7:=((hx1.new hc5 (by omega)).new hc6 (by omega)).new hc7 (by omega);have hch:Chg (λk=>k=a\/k=b) w4 w7:=((hc5.mono λk _ e=>.inl e).trans (hc6.mono λk _ e=>.inl e)).trans (hc7.mono λk _ e=>.inr e);refine hK _ w7 hx5 (cO.mk (T1:=VT) (T2:=ST) (L:=L) ?_ ?_ ?_ hB.fits (λ_ k hk=>?_) (λ_ k hk=>?_))
  ·exact tZ hL1 (λ_=>hg4) hch λk hk _ e=>by have:w3.heap.size<=k:=hk;omega
  ·refine dB.mono (λk _ hk=>?_) (dB.chg (G:=yD w3.heap.size) hch (λk hk _ e=>by have:w3.heap.size<=k:=hk;omega) hL2);have:w3.heap.size<=k:=hk;show w.heap.size<=k;omega
  ·exact tZ (hk3.ext hx4) (λ_=>hg3) hch λk hk _ e=>by have:w2.drew.heap.size<=k:=hk;omega
  ·have:w3.heap.size<=k:=hg4 k hk;show w.heap.size<=k;omega
  ·have:w2.drew.heap.size<=k:=hg3 k hk;show w.heap.size<=k;omega
theorem Ot{kv:Value}{ks:List Str}{k:Str}{K:Q0}(h:SlAt w T kv ks.length (ks.map str))(hl:ks.length<=100000)(hr:Wu ks)
  (hK:∀i:Nat,(wP ks k=none\/wP ks k=some i)->(∀j a,j<i->ks[j]?=some a->Op.bytesLess a k=true)->(∀j a,i<=j->ks[j]?=some a->Op.bytesLess a k=false)->i<=ks.length->K (.tuple #[i64 (i:Nat),.bool (wP ks k).isSome]) w):
  aC P0 153 [kv,str k] w K:=by
 refine VG ?_;unfold aCk;rw[fR h];refine⟨λs w'=>∃lo hi:Nat,lo<=hi/\hi<=ks.length/\s=[i64 (lo:Nat),i64 (hi:Nat)]/\w'=w/\(∀j a,j<lo->ks[j]?=some a->Op.bytesLess a k=true)/\(∀j a,hi<=j->ks[j]?=some a->Op.bytesLess a k=false),
  λs _=>match s with|[.int _ lo,.int _ hi]=>hi.toNat-lo.toNat|_=>0,⟨0,ks.length,by omega,by omega,rfl,rfl,λj a h=>by omega,λj a hj ha=>by have:=(List.getElem?_eq_some_iff.1 ha).1;omega⟩,?_⟩
 rintro s g w2 ⟨lo,hi,hle,hhi,rfl,rfl,h1,h2⟩;rcases dK lo hi with hlt|hge
 ·have hltI:(lo:Int)<(hi:Int):=by omega
  have e1:IntKind.i64.wrap ((lo:Int)+(hi:Int))=((lo+hi:Nat):Int):=by rw[cK (by omega) (by omega)];omega
  have e2:IntKind.u64.wrap ((lo+hi:Nat):Int)=((lo+hi:Nat):Int):=oA (by omega) (by omega);have e3:(((lo+hi:Nat):Int).fdiv (2^min (1:Int).toNat IntKind.u64.bits))=(((lo+hi)/2:Nat):Int):=by
   have:(2:Int)^min (1:Int).toNat IntKind.u64.bits=2:=by decide
   rw[this,Int.fdiv_eq_ediv_of_nonneg _ (by omega)];omega
  have e4:IntKind.i64.wrap (((lo+hi)/2:Nat):Int)=(((lo+hi)/2:Nat):Int):=cK (by omega) (by omega);generalize hm:(lo+hi)/2=m at*
  obtain⟨u,hu⟩:∃u,ks[m]?=some u:=⟨_,List.getElem?_eq_getElem (by omega)⟩;have h01:(0:Int)<=1:=by decide
  simp only[wsv,wsg,wsh,wsl,aO,aN,aE,fE,Nat.reduceAdd,Nat.reduceLT,aG,aB,aK,aI,bT,reduceCtorEq,hltI,e1,e2,UC,h01,e3,e4];refine pG h hu ?_;refine Qk ?_;rw[bS];refine⟨λhl=>?_,λhn=>?_⟩
  ·rw[up1 (by omega)];refine⟨⟨m+1,hi,by omega,hhi,rfl,rfl,λj a hj ha=>?_,h2⟩,by simp only[aV];omega⟩;rcases dK j m with hj2|hj2
   ·exact uZ (Gt hr ha hu hj2) hl
   ·obtain rfl:j=m:=by omega
    rw[hu]at ha;cases ha;exact hl
  ·refine⟨⟨lo,m,by omega,by omega,rfl,rfl,h1,λj a hj ha=>?_⟩,by simp only[aV];omega⟩;rcases dK m j with hj2|hj2
   ·cases hb:Op.bytesLess a k with
    |false=>rfl
    |true=>have:=uZ (Gt hr hu ha hj2) hb;rw[hn]at this;cases this
   ·obtain rfl:j=m:=by omega
    rw[hu]at ha;cases ha;exact hn
 ·obtain rfl:lo=hi:=by omega
  have hi0:wP ks k=none\/wP ks k=some lo:=by
   cases hx:wP ks k with
   |none=>exact .inl rfl
   |some j=>
    right;have hj:=xP hx;rcases Nat.lt_trichotomy j lo with h|h|h
    ·have:=h1 j k h hj;rw[Pm]at this;cases this
    ·rw[h]
    ·obtain⟨u,hu⟩:∃u,ks[lo]?=some u:=⟨_,List.getElem?_eq_getElem (by have:=(List.getElem?_eq_some_iff.1 hj).1;omega)⟩;have a1:=h2 lo u (aU _) hu;have a2:=Gt hr hu hj h;rw[a1]at a2;cases a2
  have hK:=hK lo hi0 h1 h2 hhi;simp only[wsv,wsg,wsh,wsl,aO,aN,aE,fE,Nat.reduceAdd,Nat.reduceLT,aG,aB,aK,aI,bT,reduceCtorEq,gJ];rcases dK lo ks.length with hlt|hge2
  ·obtain⟨u,hu⟩:∃u,ks[lo]?=some u:=⟨_,List.getElem?_eq_getElem hlt⟩;have ed:decide ((lo:Int)<(ks.length:Int))=true:=bF (by omega);have hsome:(wP ks k).isSome=decide (u=k):=by
    by_cases e:u=k
    ·subst e;have hm:u∈ks:=bK hu;rw[bF rfl];cases hx:wP ks u with
     |none=>exact absurd hm (Nf.1 hx)
     |some _=>rfl
    ·rw[bZ e];rcases hi0 with h|h
     ·rw[h];rfl
     ·have:=xP h;rw[hu]at this;exact absurd (fO this) e
   rw[hsome]at hK;simp only[wsv,wsg,wsh,wsl,aO,aN,aE,fE,Nat.reduceAdd,Nat.reduceLT,aG,aB,aK,aI,bT,reduceCtorEq,ed];refine GdW.t ?_;refine pG h hu ?_;intro gg;simp only[eG];simp only[wsv,wsg,wsh,wsl,aO,aN,aE,fE,Nat.reduceAdd,Nat.reduceLT,aG,aB,aK,aI,bT,reduceCtorEq];by_cases e:u=k
   ·rw[bF e]at hK⊢
    (try simp only[wsv,wsg,wsh,wsl,aO,aN,aE,fE,Nat.reduceAdd,Nat.reduceLT,aG,aB,aK,aI,bT,reduceCtorEq])
    intros;exact hK
   ·rw[bZ e]at hK⊢
    (try simp only[wsv,wsg,wsh,wsl,aO,aN,aE,fE,Nat.reduceAdd,Nat.reduceLT,aG,aB,aK,aI,bT,reduceCtorEq])
    refine GdW.t ?_;refine pG h hu ?_;refine Pt ?_;intro gg
    (try simp only[wsv,wsg,wsh,wsl,aO,aN,aE,fE,Nat.reduceAdd,Nat.reduceLT,aG,aB,aK,aI,bT,reduceCtorEq])
    intros;exact hK
  ·have hsome:wP ks k=none:=by
    rcases hi0 with h|h
    ·exact h
    ·have:=(List.getElem?_eq_some_iff.1 (xP h)).1;omega
   rw[hsome]at hK;have ed:decide ((lo:Int)<(ks.length:Int))=false:=bZ (by omega);simp only[wsv,wsg,wsh,wsl,aO,aN,aE,fE,Nat.reduceAdd,Nat.reduceLT,aG,aB,aK,aI,bT,reduceCtorEq,ed];intros;exact hK
end
abbrev Tz:JV:=.mk 3 false [49] [] []
section
variable [HX]
abbrev nb:Str:=[110,101,119,95,98]
abbrev aCY:JV:=.mk 6 false [] [Tz] [[97]]
abbrev aCX:JV:=.mk 6 false [] [Tz,Tz] [[97],nb]
theorem putB:Xy aCY nb Tz=aCX:=by rfl
end
end
end Go.Proofs.YtghhmpppnmoeoaaGreatDoor
namespace Go.Eng
section
open Go
def gY(s:Str)(i:Nat):Int:=match s[i]? with|some b=>(b.toNat:Int)|none=>-1
def nR(s:Str)(i:Nat):Bool:=decide (128<=gY s i)&&decide (gY s i<192)
def gQ(s:Str)(i:Nat):Nat:=
 let c:=gY s i
 if c<0 then 0 else if c<128 then 1
 else if 194<=c/\c<224/\nR s (i+1)=true then 2
 else if 224<=c/\c<240/\nR s (i+1)=true/\nR s (i+2)=true/\
  2048<=(c-224)*4096+(gY s (i+1)-128)*64+gY s (i+2)-128/\((c-224)*4096+(gY s (i+1)-128)*64+gY s (i+2)-128<55296\/57343<(c-224)*4096+(gY s (i+1)-128)*64+gY s (i+2)-128)then 3
 else if 240<=c/\c<245/\nR s (i+1)=true/\nR s (i+2)=true/\nR s (i+3)=true/\
  65536<=(c-240)*262144+(gY s (i+1)-128)*4096+(gY s (i+2)-128)*64+gY s (i+3)-128/\(c-240)*262144+(gY s (i+1)-128)*4096+(gY s (i+2)-128)*64+gY s (i+3)-128<=1114111 then 4
 else 0
def b8(n:Nat):UInt8:=UInt8.ofNat n
def wrM(n:Nat):Str:=
 if n<128 then [b8 n]else if n<2048 then [b8 (192+n/64),b8 (128+n%64)]
 else if n<65536 then [b8 (224+n/4096),b8 (128+n/64%64),b8 (128+n%64)]
 else [b8 (240+n/262144),b8 (128+n/4096%64),b8 (128+n/64%64),b8 (128+n%64)]
def aCZ(n:Nat):UInt8:=if n<10 then b8 (48+n)else b8 (87+n)
def aBh(c:UInt8):Str:=
 if c=34\/c=92 then [92,c]else if c=8 then [92,98]else if c=12 then [92,102]else if c=10 then [92,110]else if c=13 then [92,114]else if c=9 then [92,116]
 else if c<32 then [92,117,48,48,b8 (48+c.toNat/16),aCZ (c.toNat%16)]else [c]
def Gv(s:Str):Str:=[34]++s.flatMap aBh++[34]
def Pr:List Str->Str
 |[]=>[]
 |[x]=>x
 |x::y::r=>x++[44]++Pr (y::r)
mutual
def WE:JV->Str
 |.mk k b t xs ks=>
  if k=0 then [110,117,108,108]else if k=2 then(if b then [116,114,117,101]else [102,97,108,115,101])else if k=3 then t else if k=4 then Gv t
  else if k=6 then [123]++Pr (List.zipWith (λa b=>Gv a++[58]++b) ks (Oo xs))++[125]else [91]++Pr (Oo xs)++[93]
def Oo:List JV->List Str
 |[]=>[]
 |x::xs=>WE x::Oo xs
end
def TX(c:Int):Bool:=decide (c=32)||decide (c=9)||decide (c=10)||decide (c=13)
def isDig(c:Int):Bool:=decide (48<=c)&&decide (c<=57)
def It(c:Int):Int:=if 48<=c/\c<=57 then c-48 else if 97<=c/\c<=102 then c-87 else if 65<=c/\c<=70 then c-55 else-1
def YV(s:Str)(i:Nat):Int:=
 if i+6<=s.length/\gY s i=92/\gY s (i+1)=117/\0<=It (gY s (i+2))/\0<=It (gY s (i+3))/\0<=It (gY s (i+4))/\0<=It (gY s (i+5))then
  ((It (gY s (i+2))*16+It (gY s (i+3)))*16+It (gY s (i+4)))*16+It (gY s (i+5))else-1
def aC0(s:Str)(i:Nat):Option (Str×Nat):=
 let c:=gY s (i+1)
 if c=34 then some ([34],2)else if c=92 then some ([92],2)else if c=47 then some ([47],2)else if c=98 then some ([8],2)else if c=102 then some ([12],2)
 else if c=110 then some ([10],2)else if c=114 then some ([13],2)else if c=116 then some ([9],2)
 else
  let a:=YV s i
  let b:=YV s (i+6)
  if a<0\/56320<=a/\a<=57343 then none
  else if 55296<=a/\a<=56319 then(if b<56320\/57343<b then none else some (wrM (65536+(a-55296)*1024+b-56320).toNat,12))
  else some (wrM a.toNat,6)
end
section
open Go
variable{w:World}{K:Q0}{cs:List Value}{G:Nat->Prop}{T:TypeId}{i:Nat}{n:Nat}{v:Value}{w':World}{P:Program}{c:UInt8}{S:Nat->Prop}
mutual
def mP:JV->Nat
 |.mk _ _ _ xs _=>1+lO xs
def lO:List JV->Nat
 |[]=>0
 |x::xs=>mP x+lO xs
end
theorem LW(v:JV):1<=mP v:=by cases v;simp only[mP];omega
theorem byte_at{s r:Str}(h:s.drop i=c::r):gY s i=c.toNat:=by
 unfold gY;have:s[i]?=some c:=by
  have:=List.getElem?_drop (xs:=s) (i:=i) (j:=0);rw[h]at this;simpa using this.symm
 rw[this]
theorem Qa{s l r:Str}(h:s.drop i=l++r):s.drop (i+l.length)=r:=by
 rw[<-gV,h,List.drop_left]
theorem vI{s r:Str}(h:s.drop i=c::r):i<s.length:=by
 apply Nat.lt_of_not_le;intro hle;rw[dS.2 hle]at h;cases h
def bt(s:Str)(i:Nat):Nat:=(s.getD i 0).toNat
theorem Au(s:Str)(i:Nat):bt s i<256:=sK _
theorem mX{s:Str}(h:i<s.length):gY s i=(bt s i:Int):=by
 unfold gY bt;rw[List.getElem?_eq_getElem h,List.getD_eq_getElem?_getD,List.getElem?_eq_getElem h];rfl
theorem FP{s:Str}(h:s.length<=i):gY s i=-1:=by
 unfold gY;rw[List.getElem?_eq_none h]
theorem get_bt(s:Str)(i:Nat):((ofL s).get! i).toNat=bt s i:=by
 unfold bt;congr 1;show(s.toArray)[i]! =s.getD i 0;rw[List.getElem!_toArray,List.getElem!_eq_getElem?_getD,List.getD_eq_getElem?_getD];rfl
theorem LR(s:Str)(i:Nat):Utf8.decode (ofL s) i=Lib.decodeN (s.length-i) (bt s i) (bt s (i+1)) (bt s (i+2)) (bt s (i+3)):=by
 rw[Lib.decode_at,get_bt,get_bt,get_bt,get_bt,eV]
abbrev mor(L k b:Nat):Prop:=k<L/\128<=b/\b<192
abbrev c3(b0 b1 b2:Nat):Nat:=(b0-224)*4096+(b1-128)*64+(b2-128)
abbrev c4(b0 b1 b2 b3:Nat):Nat:=(b0-240)*262144+(b1-128)*4096+(b2-128)*64+(b3-128)
def Uq(L b0 b1 b2 b3:Nat):Nat×Nat:=
 if b0<128 then(b0,1)
 else if 194<=b0/\b0<224/\mor L 1 b1 then((b0-192)*64+(b1-128),2)
 else if 224<=b0/\b0<240/\mor L 1 b1/\mor L 2 b2/\2048<=c3 b0 b1 b2/\(c3 b0 b1 b2<55296\/57343<c3 b0 b1 b2)then(c3 b0 b1 b2,3)
 else if 240<=b0/\b0<245/\mor L 1 b1/\mor L 2 b2/\mor L 3 b3/\65536<=c4 b0 b1 b2 b3/\c4 b0 b1 b2 b3<=1114111 then(c4 b0 b1 b2 b3,4)
 else(65533,1)
theorem IU{L b0 b1 b2 b3:Nat}(h0:b0<256)(h1:b1<256)(h2:b2<256)(h3:b3<256):Lib.decodeN L b0 b1 b2 b3=Uq L b0 b1 b2 b3:=by
 have m1:(1<L/\b1/64=2)↔mor L 1 b1:=by unfold mor;omega
 have m2:(2<L/\b2/64=2)↔mor L 2 b2:=by unfold mor;omega
 have m3:(3<L/\b3/64=2)↔mor L 3 b3:=by unfold mor;omega
 unfold Lib.decodeN Uq;simp only[m1,m2,m3];by_cases a0:b0<128
 ·rw[aH a0,aH a0]
 rw[aD a0,aD a0];by_cases a1:b0<194
 ·rw[aD (show¬(194<=b0/\b0<224/\mor L 1 b1)fromλh=>by omega),aD (show¬(224<=b0/\b0<240/\_)fromλh=>by omega),aD (show¬(240<=b0/\b0<245/\_)fromλh=>by omega)];rw[aD (show¬(b0/16=14/\_)fromλh=>by omega),aD (show¬(b0/8=30/\_)fromλh=>by omega)];by_cases a2:b0/32=6/\mor L 1 b1
  ·rw[aH a2,aD (by omega)]
  ·rw[aD a2]
 by_cases a2:b0<224
 ·rw[aD (show¬(224<=b0/\b0<240/\_)fromλh=>by omega),aD (show¬(240<=b0/\b0<245/\_)fromλh=>by omega)];rw[aD (show¬(b0/16=14/\_)fromλh=>by omega),aD (show¬(b0/8=30/\_)fromλh=>by omega)];by_cases q:mor L 1 b1
  ·have q':=q;unfold mor at q';rw[aH ⟨by omega,q⟩,aH (by omega),aH ⟨by omega,a2,q⟩];apply eZ
   ·show b0%32*64+b1%64=(b0-192)*64+(b1-128);omega
   ·rfl
  ·rw[aD (λh=>q h.2),aD (λh=>q h.2.2)]
 by_cases a3:b0<240
 ·rw[aD (show¬(194<=b0/\b0<224/\mor L 1 b1)fromλh=>by omega),aD (show¬(240<=b0/\b0<245/\_)fromλh=>by omega)];rw[aD (show¬(b0/32=6/\_)fromλh=>by omega),aD (show¬(b0/8=30/\_)fromλh=>by omega)];by_cases q:mor L 1 b1/\mor L 2 b2
  ·have q':=q;unfold mor at q';have e:b0%16*4096+b1%64*64+b2%64=c3 b0 b1 b2:=by unfold c3;omega
   have e2:c3 b0 b1 b2<=65535:=by unfold c3;omega
   rw[aH ⟨by omega,q.1,q.2⟩];simp only[e];by_cases r:2048<=c3 b0 b1 b2/\(c3 b0 b1 b2<55296\/57343<c3 b0 b1 b2)
   ·rw[aH ⟨r.1,by omega⟩,aH ⟨by omega,a3,q.1,q.2,r.1,r.2⟩]
   ·rw[aD (by omega),aD (λh=>r ⟨h.2.2.2.2.1,h.2.2.2.2.2⟩)]
  ·rw[aD (λh=>q ⟨h.2.1,h.2.2⟩),aD (λh=>q ⟨h.2.2.1,h.2.2.2.1⟩)]
 ·rw[aD (show¬(194<=b0/\b0<224/\mor L 1 b1)fromλh=>by omega),aD (show¬(224<=b0/\b0<240/\_)fromλh=>by omega)];rw[aD (show¬(b0/32=6/\_)fromλh=>by omega),aD (show¬(b0/16=14/\_)fromλh=>by omega)];by_cases q:mor L 1 b1/\mor L 2 b2/\mor L 3 b3
  ·have q':=q;unfold mor at q';by_cases a4:b0<248
   ·have e:b0%8*262144+b1%64*4096+b2%64*64+b3%64=c4 b0 b1 b2 b3:=by unfold c4;omega
    rw[aH ⟨by omega,q.1,q.2.1,q.2.2⟩];simp only[e];by_cases r:65536<=c4 b0 b1 b2 b3/\c4 b0 b1 b2 b3<=1114111
    ·rw[aH ⟨r.1,by omega⟩,aH ⟨by omega,by have:=r.2;unfold c4 at this;omega,q.1,q.2.1,q.2.2,r.1,r.2⟩]
    ·rw[aD (by omega),aD (λh=>r ⟨h.2.2.2.2.2.1,h.2.2.2.2.2.2⟩)]
   ·rw[aD (show¬(b0/8=30/\_)fromλh=>by omega),aD (show¬(240<=b0/\b0<245/\_)fromλh=>by omega)]
  ·rw[aD (λh=>q ⟨h.2.1,h.2.2.1,h.2.2.2⟩),aD (λh=>q ⟨h.2.2.1,h.2.2.2.1,h.2.2.2.2.1⟩)]
theorem MV{s:Str}{k:Nat}:nR s (i+k)=true↔mor (s.length-i) k (bt s (i+k)):=by
 unfold nR mor;rw[aJ,decide_eq_true_iff,decide_eq_true_iff];rcases dK (i+k) s.length with h|h
 ·rw[mX h];omega
 ·rw[FP h];omega
def Re(L b0 b1 b2 b3:Nat):Nat:=
 if b0<128 then 1
 else if 194<=b0/\b0<224/\mor L 1 b1 then 2
 else if 224<=b0/\b0<240/\mor L 1 b1/\mor L 2 b2/\2048<=c3 b0 b1 b2/\(c3 b0 b1 b2<55296\/57343<c3 b0 b1 b2)then 3
 else if 240<=b0/\b0<245/\mor L 1 b1/\mor L 2 b2/\mor L 3 b3/\65536<=c4 b0 b1 b2 b3/\c4 b0 b1 b2 b3<=1114111 then 4
 else 0
set_option maxHeartbeats 4000000 in
theorem CQ{s:Str}(h:i<s.length):gQ s i=Re (s.length-i) (bt s i) (bt s (i+1)) (bt s (i+2)) (bt s (i+3)):=by
 unfold gQ Re;simp only[MV,mX h];by_cases h1:i+1<s.length
 ·by_cases h2:i+2<s.length
  ·by_cases h3:i+3<s.length
   ·simp only[mX h1,mX h2,mX h3,mor,c3,c4]
    repeat' split
    all_goals first|rfl|(exfalso;omega)
   ·simp only[mX h1,mX h2,mor,c3,c4]
    repeat' split
    all_goals first|rfl|(exfalso;omega)
  ·simp only[mX h1,mor,c3,c4]
   repeat' split
   all_goals first|rfl|(exfalso;omega)
 ·simp only[mor,c3,c4]
  repeat' split
  all_goals first|rfl|(exfalso;omega)
theorem Xd(s:Str)(i:Nat)(h:i<s.length):UInt8.ofNat (bt s i)=s[i]:=by
 unfold bt;rw[List.getD_eq_getElem?_getD,List.getElem?_eq_getElem h];simp
theorem zR{s:Str}(h:i<s.length):(s.drop i).take 1=[UInt8.ofNat (bt s i)]:=by
 rw[Xd s i h,cD h];rfl
theorem qQ{s:Str}(h:i<s.length):(s.drop i).take (n+1)=UInt8.ofNat (bt s i)::(s.drop (i+1)).take n:=by
 rw[Xd s i h,cD h];rfl
set_option maxHeartbeats 4000000 in
theorem Hy{s:Str}(h:i<s.length)(h0:gQ s i=0):Utf8.decode (ofL s) i=(65533,1):=by
 rw[LR,IU (Au _ _) (Au _ _) (Au _ _) (Au _ _)];rw[CQ h]at h0;unfold Re at h0;unfold Uq
 repeat' split at h0
 all_goals first|(exfalso;omega)|skip
 all_goals(repeat rw[aD (by assumption)])
structure Qy(s:Str)(i n c:Nat):Prop where
 dec:Utf8.decode (ofL s) i=(c,n)
 fits:i+n<=s.length
 small:n<=4
 bytes:Lib.encodeRune c=(s.drop i).take n
 low:n=1->c=bt s i/\c<128
 high:2<=n->128<=c/\128<=bt s i
 top:c<=1114111
 val:c<55296\/57343<c
theorem xU(l:List Int):(l.map λx=>x.toNat.toUInt8)=l.map λx=>UInt8.ofNat x.toNat:=rfl
set_option maxHeartbeats 8000000 in
theorem uD{s:Str}(h:i<s.length)(h0:gQ s i≠0):∃c,Qy s i (gQ s i) c:=by
 have e:=LR s i;rw[IU (Au _ _) (Au _ _) (Au _ _) (Au _ _)]at e;have hr:=CQ h;have l0:=Au s i;generalize hn:gQ s i=n at*
 unfold Re at hr;unfold Uq at e;by_cases a1:bt s i<128
 ·rw[aH a1]at hr e;subst hr;refine⟨_,e,by omega,by omega,?_,λ_=>⟨rfl,a1⟩,λh=>by omega,by omega,by omega⟩;rw[zR h,Lib.encodeRune,Lib.encodeRuneZ_one (by omega) (by omega)];simp
 rw[aD a1]at hr e;by_cases a2:194<=bt s i/\bt s i<224/\mor (s.length-i) 1 (bt s (i+1))
 ·rw[aH a2]at hr e;subst hr;obtain⟨a2,a3,a4,a5,a6⟩:=a2;refine⟨_,e,by omega,by omega,?_,λh=>by omega,λh=>by omega,by omega,by omega⟩;rw[qQ h,zR (by omega),Lib.encodeRune,Lib.encodeRuneZ_two (by omega) (by omega)];simp only[dT,nK,xU];rw[show((192:Int)+(((bt s i-192)*64+(bt s (i+1)-128):Nat):Int)/64).toNat=bt s i by omega,show((128:Int)+(((bt s i-192)*64+(bt s (i+1)-128):Nat):Int)%64).toNat=bt s (i+1)by omega]
 rw[aD a2]at hr e;by_cases a3:224<=bt s i/\bt s i<240/\mor (s.length-i) 1 (bt s (i+1))/\mor (s.length-i) 2 (bt s (i+2))/\2048<=c3 (bt s i) (bt s (i+1)) (bt s (i+2))/\(c3 (bt s i) (bt s (i+1)) (bt s (i+2))<55296\/57343<c3 (bt s i) (bt s (i+1)) (bt s (i+2)))
 ·rw[aH a3]at hr e;subst hr;obtain⟨p1,p2,⟨p3,p4,p5⟩,⟨p6,p7,p8⟩,p9,p10⟩:=a3;have q3:c3 (bt s i) (bt s (i+1)) (bt s (i+2))=(bt s i-224)*4096+(bt s (i+1)-128)*64+(bt s (i+2)-128):=rfl;refine⟨_,e,by omega,by omega,?_,λh=>by omega,λh=>by omega,by omega,by omega⟩;rw[qQ h,qQ (by omega),zR (by omega),Lib.encodeRune,Lib.encodeRuneZ_three (by omega)];simp only[dT,nK,xU];rw[show((224:Int)+((c3 (bt s i) (bt s (i+1)) (bt s (i+2)):Nat):Int)/4096).toNat=bt s i by unfold c3;omega,show((128:Int)+((c3 (bt s i) (bt s (i+1)) (bt s (i+2)):Nat):Int)/64%64).toNat=bt s (i+1)by unfold c3;omega,show((128:Int)+((c3 (bt s i) (bt s (i+1)) (bt s (i+2)):Nat):Int)%64).toNat=bt s (i+2)by unfold c3;omega]
 rw[aD a3]at hr e;by_cases a4:240<=bt s i/\bt s i<245/\mor (s.length-i) 1 (bt s (i+1))/\mor (s.length-i) 2 (bt s (i+2))/\mor (s.length-i) 3 (bt s (i+3))/\65536<=c4 (bt s i) (bt s (i+1)) (bt s (i+2)) (bt s (i+3))/\c4 (bt s i) (bt s (i+1)) (bt s (i+2)) (bt s (i+3))<=1114111
 ·rw[aH a4]at hr e;subst hr;obtain⟨p1,p2,⟨p3,p4,p5⟩,⟨p6,p7,p8⟩,⟨p9,p10,p11⟩,p12,p13⟩:=a4;refine⟨_,e,by omega,by omega,?_,λh=>by omega,λh=>by omega,by omega,by omega⟩;rw[qQ h,qQ (by omega),qQ (by omega),zR (by omega),Lib.encodeRune,Lib.encodeRuneZ_four (by omega) (by omega)];simp only[dT,nK,xU];rw[show((240:Int)+((c4 (bt s i) (bt s (i+1)) (bt s (i+2)) (bt s (i+3)):Nat):Int)/262144).toNat=bt s i by unfold c4;omega,show((128:Int)+((c4 (bt s i) (bt s (i+1)) (bt s (i+2)) (bt s (i+3)):Nat):Int)/4096%64).toNat=bt s (i+1)by unfold c4;omega,show((128:Int)+((c4 (bt s i) (bt s (i+1)) (bt s (i+2)) (bt s (i+3)):Nat):Int)/64%64).toNat=bt s (i+2)by unfold c4;omega,show((128:Int)+((c4 (bt s i) (bt s (i+1)) (bt s (i+2)) (bt s (i+3)):Nat):Int)%64).toNat=bt s (i+3)by unfold c4;omega]
 rw[aD a4]at hr;exact absurd hr h0
def kC(s:Str)(i:Nat):Nat:=max (gQ s i) 1
theorem IQ{s:Str}(h:i<s.length):(Utf8.decode (ofL s) i).2=kC s i:=by
 unfold kC;by_cases h0:gQ s i=0
 ·rw[Hy h h0,h0];rfl
 ·obtain⟨c,hc⟩:=uD h h0;rw[hc.dec];show gQ s i=max (gQ s i) 1;omega
theorem AG{s:Str}(h:i<s.length):i+kC s i<=s.length:=by
 unfold kC;by_cases h0:gQ s i=0
 ·rw[h0];show i+1<=_;omega
 ·obtain⟨c,hc⟩:=uD h h0;have:=hc.fits;omega
theorem zS(s:Str)(i:Nat):1<=kC s i:=by unfold kC;omega
theorem rune_end{s:Str}(h:s.length<=i):gQ s i=0:=by
 unfold gQ;simp only[FP h];rfl
theorem Xh(h:n<55296\/57343<n/\n<=1114111):Lib.encodeRune n=wrM n:=by
 unfold Lib.encodeRune wrM b8;by_cases h1:n<128
 ·rw[Lib.encodeRuneZ_one (by omega) (by omega),aH h1];simp
 rw[aD h1];by_cases h2:n<2048
 ·rw[Lib.encodeRuneZ_two (by omega) (by omega),aH h2];simp only[dT,nK,xU];rw[show((192:Int)+(n:Int)/64).toNat=192+n/64 by omega,show((128:Int)+(n:Int)%64).toNat=128+n%64 by omega]
 rw[aD h2];by_cases h3:n<65536
 ·rw[Lib.encodeRuneZ_three (by omega),aH h3];simp only[dT,nK,xU];rw[show((224:Int)+(n:Int)/4096).toNat=224+n/4096 by omega,show((128:Int)+(n:Int)/64%64).toNat=128+n/64%64 by omega,show((128:Int)+(n:Int)%64).toNat=128+n%64 by omega]
 ·rw[Lib.encodeRuneZ_four (by omega) (by omega),aD h3];simp only[dT,nK,xU];rw[show((240:Int)+(n:Int)/262144).toNat=240+n/262144 by omega,show((128:Int)+(n:Int)/4096%64).toNat=128+n/4096%64 by omega,show((128:Int)+(n:Int)/64%64).toNat=128+n/64%64 by omega,show((128:Int)+(n:Int)%64).toNat=128+n%64 by omega]
theorem qW{s u r:Str}{j:Nat}(h:s.drop i=u++r)(hj:j<u.length):gY s (i+j)=u[j].toNat:=by
 have:s.drop (i+j)=u[j]::(u.drop (j+1)++r):=by
  rw[<-gV,h,Bv (by omega),cD hj];rfl
 exact byte_at this
theorem EM{s t:Str}{k m:Nat}(hm:0<m)(h:gQ s i=m)(hb:∀j,j<m->gY t (k+j)=gY s (i+j)):gQ t k=m:=by
 have e0:gY t k=gY s i:=hb 0 hm;unfold gQ at h⊢;dsimp only at h;simp only[e0];by_cases h1:m=1
 ·subst h1;split at h
  ·omega
  rename_i a;split at h
  ·rename_i b;rw[aD a,aH b]
  split at h
  ·omega
  split at h
  ·omega
  split at h<;>omega
 by_cases h2:m=2
 ·subst h2;have e1:=hb 1 (by omega);have m1:nR t (k+1)=nR s (i+1):=by unfold nR;rw[e1]
  simp only[m1];split at h
  ·omega
  rename_i a;split at h
  ·omega
  rename_i b;split at h
  ·rename_i c;rw[aD a,aD b,aH c]
  split at h
  ·omega
  split at h<;>omega
 by_cases h3:m=3
 ·subst h3;have e1:=hb 1 (by omega);have e2:=hb 2 (by omega);have m1:nR t (k+1)=nR s (i+1):=by unfold nR;rw[e1]
  have m2:nR t (k+2)=nR s (i+2):=by unfold nR;rw[e2]
  simp only[m1,m2,e1,e2];split at h
  ·omega
  rename_i a;split at h
  ·omega
  rename_i b;split at h
  ·omega
  rename_i c;split at h
  ·rename_i d;rw[aD a,aD b,aD c,aH d]
  split at h<;>omega
 by_cases h4:m=4
 ·subst h4;have e1:=hb 1 (by omega);have e2:=hb 2 (by omega);have e3:=hb 3 (by omega);simp only[nR,e1,e2,e3]at h⊢;exact h
 ·exfalso;split at h
  ·omega
  split at h
  ·omega
  split at h
  ·omega
  split at h
  ·omega
  split at h<;>omega
theorem Rc{s:Str}(h:gQ s i≠0):i<s.length:=by
 apply Nat.lt_of_not_le;intro hle;exact h (rune_end hle)
theorem MG{s:Str}(h:gQ s i≠0):i+gQ s i<=s.length:=by
 obtain⟨c,hc⟩:=uD (Rc h) h;exact hc.fits
def Rn(u:Str):Prop:=u≠[]/\gQ u 0=u.length
theorem Rn.pos{u:Str}(h:Rn u):0<u.length:=dF.2 h.1
theorem Rn.at{u s r:Str}(h:Rn u)(hs:s.drop i=u++r):gQ s i=u.length:=by
 refine EM (s:=u) (i:=0) h.pos h.2 λj hj=>?_;rw[qW hs hj,qW (s:=u) (i:=0) (u:=u) (r:=[]) (by simp) hj]
theorem Rn.of{s:Str}(h:gQ s i≠0):Rn ((s.drop i).take (gQ s i)):=by
 have hf:=MG h;have hl:((s.drop i).take (gQ s i)).length=gQ s i:=by rw[cI,aP];omega
 refine⟨λe=>by rw[e]at hl;simp at hl;omega,?_⟩;rw[hl];refine EM (s:=s) (i:=i) (by omega) rfl λj hj=>?_;rw[qW (s:=s) (i:=i) (u:=(s.drop i).take (gQ s i)) (r:=(s.drop i).drop (gQ s i)) (qL _ _).symm (by omega),qW (s:=(s.drop i).take (gQ s i)) (i:=0) (u:=(s.drop i).take (gQ s i)) (r:=[]) (by simp) (by omega)]
inductive Utf:Str->Prop where
 |nil:Utf []
 |cons {u r:Str}:Rn u->Utf r->Utf (u++r)
theorem Rn.cases{u:Str}(h:Rn u):(∃c:UInt8,u=[c]/\c.toNat<128)\/(∀c∈u,128<=c.toNat):=by
 have hr:=h.2;have hp:=h.pos;have hb:∀j,(hj:j<u.length)->gY u j=u[j].toNat:=λj hj=>by
  have:=qW (s:=u) (i:=0) (u:=u) (r:=[]) (by simp) hj;rwa[aX]at this
 have hm:∀j,(hj:j<u.length)->nR u j=true->128<=u[j].toNat:=λj hj hm=>by
  unfold nR at hm;rw[hb j hj,aJ,decide_eq_true_iff,decide_eq_true_iff]at hm;omega
 unfold gQ at hr;rw[hb 0 hp]at hr;simp only[aX]at hr;have hall:(∀j,(hj:j<u.length)->128<=u[j].toNat)->∀c∈u,128<=c.toNat:=λhj c hc=>by
  obtain⟨j,h1,rfl⟩:=List.getElem_of_mem hc;exact hj j h1
 split at hr
 ·omega
 split at hr
 ·rename_i hlt;left;obtain⟨c,rfl⟩:=List.length_eq_one_iff.1 hr.symm;refine⟨c,rfl,?_⟩;have e:([c]:Str)[0].toNat=c.toNat:=rfl;omega
 right;refine hall λj hj=>?_;split at hr
 ·rename_i c;obtain⟨c1,_,c2⟩:=c;obtain rfl|rfl:j=0\/j=1:=by omega
  ·omega
  ·exact hm 1 hj c2
 split at hr
 ·rename_i c;obtain⟨c1,_,c2,c3,_⟩:=c;obtain rfl|rfl|rfl:j=0\/j=1\/j=2:=by omega
  ·omega
  ·exact hm 1 hj c2
  ·exact hm 2 hj c3
 split at hr
 ·rename_i c;obtain⟨c1,_,c2,c3,c4,_⟩:=c;obtain rfl|rfl|rfl|rfl:j=0\/j=1\/j=2\/j=3:=by omega
  ·omega
  ·exact hm 1 hj c2
  ·exact hm 2 hj c3
  ·exact hm 3 hj c4
 ·omega
def escOk(c:UInt8):Bool:=
 match aBh c with
 |[d]=>decide (d=c)&&decide (c≠34)&&decide (c≠92)&&decide (32<=c.toNat)
 |[a,b]=>decide (a=92)&&decide (aC0 [a,b] 0=some ([c],2))
 |[a,b,d,e,f,g]=>decide (a=92)&&decide (b=117)&&decide (YV [a,b,d,e,f,g] 0=c.toNat)
 |_=>false
end
section
open Go Go.Num
def BL(l:Str):Prop:=∀c∈l,TX (c.toNat:Int)=true
mutual
def Sp:JV->Str->Prop
 |.mk k b t xs ks,s=>
  if k=5 then(xs=[]/\∃a,BL a/\s=[91]++a++[93])\/(∃u,SpL xs u/\s=[91]++u++[93])
  else if k=6 then(xs=[]/\ks=[]/\∃a,BL a/\s=[123]++a++[125])\/(∃u,SpO xs ks u/\s=[123]++u++[125])
  else s=WE (.mk k b t xs ks)
def SpL:List JV->Str->Prop
 |[],_=>False
 |x::xs,s=>(xs=[]/\∃a t b,BL a/\Sp x t/\BL b/\s=a++t++b)\/(∃a t b u,BL a/\Sp x t/\BL b/\SpL xs u/\s=a++t++b++[44]++u)
def SpO:List JV->List Str->Str->Prop
 |x::xs,k::ks,s=>(xs=[]/\ks=[]/\∃a b c t d,BL a/\BL b/\BL c/\Sp x t/\BL d/\s=a++Gv k++b++[58]++c++t++d)\/
   (∃a b c t d u,BL a/\BL b/\BL c/\Sp x t/\BL d/\SpO xs ks u/\s=a++Gv k++b++[58]++c++t++d++[44]++u)
 |_,_,_=>False
end
end
end Go.Eng
namespace Go.Proofs.YtghhmpppnmoeoaaGreatDoor
section
open Go Go.Eng
variable{w:World}{K:Q0}{cs:List Value}{G:Nat->Prop}{T:TypeId}{i:Nat}{n:Nat}{v:Value}{w':World}{P:Program}{c:UInt8}{S:Nat->Prop}
theorem Aa{B:Nat}{e:TypeId}{size:Nat}{xs:List Value}(h:Own w B e size v n xs)(hc:Chg S w w')(hS:∀k,v.ownBlock=some k->¬S k):Own w' B e size v n xs:=by
 obtain⟨hl,h|⟨g,cap,cur,rfl,h1,h2,h3⟩⟩:=h
 ·exact⟨hl,.inl h⟩
 ·exact⟨hl,.inr ⟨g,cap,cur,rfl,h1,hc.at h2 (hS g rfl),h3⟩⟩
theorem tN{B:Nat}{e:TypeId}{size:Nat}{k:Nat}{xs:List Value}(h:Own w B e size v n xs)(hk:v.ownBlock=some k):B<=k/\k<w.heap.size/\∃c,w.heap[k]?=some (.cells c e (0,0)):=by
 obtain⟨hl,⟨rfl,_⟩|⟨g,cap,cur,rfl,h1,h2,h3⟩⟩:=h
 ·cases hk
 ·simp only[Value.ownBlock,bD]at hk;subst hk;exact⟨h1,eW h2,_,h2⟩
theorem Lj{B:Nat}{e:TypeId}{size:Nat}{xs:List Value}(h:Own w B e size v n xs):gH v=true:=by obtain⟨p,c,rfl,_⟩:=h.sl.shape;rfl
section
variable [HX]
end
section
variable [HX]
def mZ(s:Str):Nat->Nat->List Str
 |0,_=>[]
 |n+1,i=>if i<s.length then(s.drop i).take (kC s i)::mZ s n (i+kC s i)else []
theorem EY{s:Str}(h:s.length<=i):mZ s n i=[]:=by
 cases n with
 |zero=>rfl
 |succ n=>rw[mZ,aD (by omega)]
end
end
end Go.Proofs.YtghhmpppnmoeoaaGreatDoor
namespace Go.Eng
section
open Go Go.Num
def AN(s:Str):Nat->Nat->List Str
 |0,_=>[]
 |n+1,i=>if i<s.length then(s.drop i).take (kC s i)::AN s n (i+kC s i)else []
def yU(s:Str):List Str:=AN s s.length 0
abbrev tV(s:Str):JV:=.mk 4 false s [] []
abbrev nV(s:Str):JV:=.mk 3 false s [] []
abbrev iV(n:Int):JV:=nV (Lib.itoa n)
abbrev bV(b:Bool):JV:=.mk 2 b [] [] []
abbrev lV(xs:List JV):JV:=.mk 5 false [] xs []
abbrev uV:JV:=.mk 1 false [] [] []
def aBt(lo tb:Nat)(c:UInt8):UInt8:=if lo<=c.toNat/\c.toNat<lo+26 then UInt8.ofNat (c.toNat-lo+tb)else c
def Qm(lo tb:Nat)(s:Str):Str:=s.map (aBt lo tb)
def Ae(a:JV):Option JV:=if a.k=4 then some (iV (yU a.t).length)else if a.k=5\/a.k=6 then some (iV a.xs.length)else none
def OB(a:JV):Option JV:=if a.k=4 then some (tV (yU a.t).reverse.flatten)else if a.k=5 then some (lV a.xs.reverse)else none
def QV(s f n:Str):Option JV:=
 if neg f||neg n then none else
 let l:=yU s
 let at0:=min (dec f) l.length
 some (tV ((l.drop at0).take (min (dec n) (l.length-at0))).flatten)
def YR(by_:Str)(xs:List JV):Option JV:=if xs.any (λx=> !decide (x.k=4))then none else some (tV (Lib.join (xs.map (·.t)) by_))
def QZ(by_ s:Str):Option JV:=if by_=[]then none else some (lV ((Lib.split s by_).map tV))
def Ut(a:List JV):JV:=lV (a.map (·.xs)).flatten
def YL(a:List JV):JV:=a.foldl (λv x=>(x.ks.zip x.xs).foldl (λv p=>Xy v p.1 p.2) v) (.mk 6 false [] [] [])
def WM(sg:Int)(a:List JV):JV:=a.foldl (λb x=>if 0<wV x.t b.t*sg then x else b) (a.headD JV.null)
def yW(s:Str):Option JV:=if neg s||decide (32<dec s)then none else some (lV ((List.range (dec s)).map λi:Nat=>iV (i:Int)))
def Xk(a:JV):Option JV:=
 if a.k=2 then some (tV (if a.b then [116,114,117,101]else [102,97,108,115,101]))else if a.k=3\/a.k=4 then some (tV a.t)else none
def Xl(a:JV):Option JV:=if(a.k=3\/a.k=4)/\goodN a.t=true then some (nV a.t)else none
structure FnM where
 takes:Str
 least:Nat
 act:List JV->Option JV
abbrev arg(a:List JV)(i:Nat):JV:=a.getD i JV.null
def PT:FnM:=⟨[110],0,λa=>some (nV (dig (arg a 0).t))⟩
def FD:FnM:=⟨[108,46],0,λa=>some (Ut a)⟩
def BN:FnM:=⟨[108,118],0,λa=>some (bV ((arg a 0).xs.any λx=>decide (KJ x (arg a 1)=0)))⟩
def LJ:FnM:=⟨[115,108],0,λa=>YR (arg a 0).t (arg a 1).xs⟩
def LI:FnM:=⟨[111],0,λa=>some (lV ((arg a 0).ks.map tV))⟩
def qV:FnM:=⟨[118],0,λa=>Ae (arg a 0)⟩
def FC:FnM:=⟨[111,115,118],0,λa=>some ((Eg (arg a 0) (arg a 1).t).getD (arg a 2))⟩
def IC:FnM:=⟨[115],0,λa=>some (tV (Qm 65 97 (arg a 0).t))⟩
def PQ:FnM:=⟨[110,46],1,λa=>some (WM 1 a)⟩
def IB:FnM:=⟨[111,46],0,λa=>some (YL a)⟩
def PP:FnM:=⟨[110,46],1,λa=>some (WM (-1) a)⟩
def rR:FnM:=⟨[110],0,λa=>yW (arg a 0).t⟩
def DG:FnM:=⟨[118],0,λa=>OB (arg a 0)⟩
def IA:FnM:=⟨[115,115],0,λa=>QZ (arg a 0).t (arg a 1).t⟩
def FB:FnM:=⟨[115,110,110],0,λa=>QV (arg a 0).t (arg a 1).t (arg a 2).t⟩
def Iz:FnM:=⟨[118],0,λa=>Xl (arg a 0)⟩
def BM:FnM:=⟨[118],0,λa=>Xk (arg a 0)⟩
def Iy:FnM:=⟨[115],0,λa=>some (tV (Qm 97 65 (arg a 0).t))⟩
def FA:FnM:=⟨[111],0,λa=>some (lV (arg a 0).xs)⟩
def fnT:List (Str×FnM):=[([97,98,115],PT),([99,111,110,99,97,116],FD),([99,111,110,116,97,105,110,115],BN),([106,111,105,110],LJ),([107,101,121,115],LI),([108,101,110,103,116,104],qV),([108,111,111,107,117,112],FC),([108,111,119,101,114],IC),([109,97,120],PQ),([109,101,114,103,101],IB),([109,105,110],PP),([114,97,110,103,101],rR),([114,101,118,101,114,115,101],DG),([115,112,108,105,116],IA),([115,117,98,115,116,114],FB),([116,111,105,110,116],Iz),([116,111,115,116,114,105,110,103],BM),([117,112,112,101,114],Iy),([118,97,108,117,101,115],FA)]
def BG:List (Str×FnM)->Str->Option FnM
 |[],_=>none
 |(a,v)::m,k=>if k=a then some v else BG m k
def mK(c:UInt8):Int:=if c=110 then 3 else if c=115 then 4 else if c=108 then 5 else if c=111 then 6 else-1
def Fp(t:Str):Bool:=t.getLast?==some 46
def vA(t:Str)(n:Nat):Str:=if Fp t then(List.replicate n t.dropLast).flatten else t
def wQ(f:FnM)(a:List JV):Bool:=
 decide (a.length=(vA f.takes a.length).length)&&decide (f.least<=a.length)&&(a.zip (vA f.takes a.length)).all λp=>decide (mK p.2<0)||decide (p.1.k=mK p.2)
def pM(name:Str)(a:List JV):JV×Int:=
 if a.any (λx=> !dL x)then(JV.null,1)else
 match BG fnT name with
 |none=>(JV.null,70)
 |some f=>
  if a.any (λx=> !iP x)then(uV,0)else
  if !wQ f a then(JV.null,71)else
  match f.act a with
  |none=>(JV.null,71)
  |some v=>if dL v then(v,0)else(JV.null,3)
end
section
open Go
variable{w:World}{K:Q0}{cs:List Value}{G:Nat->Prop}{T:TypeId}{i:Nat}{n:Nat}{v:Value}{w':World}{P:Program}{c:UInt8}{S:Nat->Prop}
def mW:Nat->List (Str×Value)->List MapEntry
 |_,[]=>[]
 |i,(k,v)::m=>{key:=str k,val:=v,born:=i}::mW (i+1) m
theorem FJ(k:Str)(v:Value):∀(m:List (Str×Value)) (i:Nat),mW i (m++[(k,v)])=mW i m++[{key:=str k,val:=v,born:=i+m.length}]
 |[],i=>rfl
 |(a,x)::m,i=>by
  simp only[dG,mW,FJ k v m,aA]
  rw[show i+1+m.length=i+(m.length+1)by omega]
def Jq(w:World)(b:Nat)(m:List (Str×Value)):Prop:=w.heap[b]?=some (.map (mW 0 m).toArray m.length)
def rM:List (Str×Value)->Str->Option Value
 |[],_=>none
 |(a,v)::m,k=>if k=a then some v else rM m k
theorem Am(k:Str):∀(m:List (Str×Value)) (i j:Nat),(rM m k=none->Instr.findNow .string (str k) (mW i m) j=some none)/\∀v,rM m k=some v->∃n,Instr.findNow .string (str k) (mW i m) j=some (some (n,v))
 |[],i,j=>⟨λ_=>rfl,λv h=>by cases h⟩
 |(a,x)::m,i,j=>by
  have hs:Instr.sameNow .string (str k) (str a)=some (ofL k==ofL a):=rfl
  by_cases h:k=a
  ·subst h
   refine⟨λe=>?_,λv e=>?_⟩
   ·simp[rM]at e
   ·simp only[rM,gU,bD]at e
    subst e
    refine⟨j,?_⟩
    have hs':Instr.sameNow .string (str k) (str k)=some true:=by rw[hs,(MapKept.bytes_beq (ofL k) (ofL k)).2 rfl]
    simp only[mW,Instr.findNow,hs']
  ·have hne:(ofL k==ofL a)=false:=by
    cases hc:(ofL k==ofL a)with
    |false=>rfl
    |true=>exact absurd (Lm.1 ((MapKept.bytes_beq _ _).1 hc)) h
   obtain⟨h1,h2⟩:=Am k m (i+1) (j+1);simp only[mW,Instr.findNow,hs,hne,rM,aD h];exact⟨h1,h2⟩
section
variable{P:Program}{T KT ET:TypeId}{w:World}
theorem Ii{r:Option Value}{K:Q0}(hT:P.underlying T=some (.map KT ET))(hr:r=none\/∃k n,r=some (.int k n))
  (hK:∀b w',b=w.heap.size->w'.heap.size=w.heap.size+1->Jq w' b []->Ext w w'->K (.map (some b)) w'):dY P (Instr.makeMap T r) w K:=by
 have hk:=hK w.heap.size (w.alloc (.map #[] 0)) rfl (size_alloc _ _) (gD _ _ _ rfl) (Chg.alloc (Chg.refl _ _) _);have hrun:(Instr.makeMap T r).run P w=.ok (.map (some w.heap.size)) (w.alloc (.map #[] 0)):=by
  rcases hr with rfl|⟨k,n,rfl⟩
  ·simp[Instr.makeMap,run_bind,run_pure,newObj,Sem.run]
  ·simp[Instr.makeMap,run_bind,run_pure,newObj,Sem.run,bH hT,asInt,asIntOf]
 unfold dY;rw[hrun];exact hk
theorem TK{b:Nat}{m:List (Str×Value)}{k:Str}{K:World->Prop}(hT:P.underlying T=some (.map KT ET))(hKT:P.underlying KT=some .string)(hb:Jq w b m)(hn:rM m k=none)
  (hK:∀w',w'.heap.size=w.heap.size->Jq w' b (m++[(k,v)])->Chg (λq=>q=b) w w'->K w'):mR P (Instr.mapUpdate T (.map (some b)) (str k) v) w K:=by
 have hf:=(Am k m 0 0).1 hn;have hrun:(Instr.mapUpdate T (.map (some b)) (str k) v).run P w=.ok () {w with heap:=w.heap.setIfInBounds b (.map ((mW 0 m).toArray.push {key:=str k,val:=v,born:=m.length}) (m.length+1))}:=by
  simp only[Instr.mapUpdate,run_bind,bH hT,MapKept.run_getObj_map hb,MapKept.run_checkKey hKT (show MapKept.IsKey .string (str k)from trivial),MapKept.run_findKey hKT hf,MapKept.run_setObj_map _ hb]
 unfold mR;rw[hrun];refine hK _ (by simp) ?_ ⟨rfl,rfl,rfl,by simp,λq _ hq=>?_⟩
 ·show(w.heap.setIfInBounds b _)[b]?=_;rw[(MapKept.heap_set hb).1,FJ];simp
 ·exact(MapKept.heap_set hb).2 q hq
theorem TM{b:Nat}{m:List (Str×Value)}{k:Str}{z:Value}{K:Value->Prop}(hT:P.underlying T=some (.map KT ET))(hKT:P.underlying KT=some .string)(hz:BA P ET=some z)(hb:Jq w b m)
  (h1:∀v,rM m k=some v->K (.tuple #[v,.bool true]))(h0:rM m k=none->K (.tuple #[z,.bool false])):mS P (Instr.lookup T (.map (some b)) (str k) true) w K:=by
 cases hl:rM m k with
 |none=>
  refine⟨_,?_,h0 hl⟩;simp only[Instr.lookup,run_bind,bH hT,MapKept.run_getObj_map hb,run_pure,MapKept.run_checkKey hKT (show MapKept.IsKey .string (str k)from trivial),MapKept.run_findKey hKT ((Am k m 0 0).1 hl),qM hz,gU]
 |some v=>
  obtain⟨n,hf⟩:=(Am k m 0 0).2 v hl;refine⟨_,?_,h1 v hl⟩;simp only[Instr.lookup,run_bind,bH hT,MapKept.run_getObj_map hb,run_pure,MapKept.run_checkKey hKT (show MapKept.IsKey .string (str k)from trivial),MapKept.run_findKey hKT hf,gU]
end
end
end Go.Eng
namespace Go.Proofs.YtghhmpppnmoeoaaGreatDoor
section
open Go Go.Eng Go.Num Go.RowKit
variable{w:World}{K:Q0}{cs:List Value}{G:Nat->Prop}{T:TypeId}{i:Nat}{n:Nat}{v:Value}{w':World}{P:Program}{c:UInt8}{S:Nat->Prop}
abbrev flat(k:Int)(b:Bool)(t:Str):List Value:=[i64 k,.bool b,str t,.slice none 0 0,.slice none 0 0]
theorem iJ{k:Int}{b:Bool}{t:Str}(ht:t.length<=9223372036854775807):cO G w (.mk k b t [] []) (flat k b t):=
 cO.mk (v:=.mk k b t [] []) (T1:=0) (T2:=0) (L:=[]) (SlAt.nil w 0) (by simp[JV.xs,dB]) (SlAt.nil w 0) ⟨by simp[JV.xs],by simp[JV.ks],by simpa[JV.t]using ht,by simp[JV.ks]⟩ (λh=>absurd rfl h) (λh=>by simp[JV.ks]at h)
theorem HD{w0:World}{b:Nat}{ds:List Value}{v:JV}{K:Q0}(hb:w.heap[b]?=some (.cells ds.toArray VT (0,0)))(hd:ds.length=5)(hl:w0.heap.size<=b)(hx:Ext w0 w)(h:cO (λq=>w0.heap.size<=q/\q≠b) w v cs)
  (hK:∀w',Ext w0 w'->cO (yD w0.heap.size) w' v cs->K (.agg cs.toArray) w'):stW 5 (.pointer (some ⟨b,0,none⟩)) (.agg cs.toArray) w λw5=>ldW true 5 (.pointer (some ⟨b,0,none⟩)) w5 λr6=>K r6 w5:=
 jA hb h.rep.len hd h.rep.all_one λw' hc=>by
  refine hK w' (hx.new hc hl) ?_
  exact(cO.chg hc (λq hq _ e=>hq.2 e) h).mono λq _ hq=>hq.1
theorem cO.at{w1:World}{b:Nat}{v:JV}(h:cO (yD n) w1 v cs)(hb:b<n)(hn:w.heap.size<=n):cO (λq=>w.heap.size<=q/\q≠b) w1 v cs:=
 h.mono λq _ hq=>⟨cH hn hq,by have:n<=q:=hq;omega⟩
theorem cO.ext'{v:JV}(h:cO G w v cs)(hx:Ext w w'):cO G w' v cs:=cO.chg hx (λ_ _ _ e=>e) h
theorem dU.fld{sv:Value}{xs:List JV}{n:Int}{off:Nat}{x:JV}{K:Value->Prop}(h:dU w sv xs)(hn:n=(i:Nat))(hi:xs[i]?=some x)(ho:off<5)(hK:∀cs u,fV w x cs->cs[off]?=some u->K u):
  dV none 5 sv (.int .i64 n) λp=>aY off p λq=>ldW false 1 q w K:=by
 subst hn;obtain⟨T,L,h1,h2⟩:=h.it;refine Lt h1 h2 hi λb o c fr cs hb hc hg=>?_;rw[bP,dM,bY,cC,hb,cN,hg off ho];exact⟨cs[off]'(by rw[hc.len];exact ho),List.getElem?_eq_getElem _,hK cs _ hc (List.getElem?_eq_getElem _)⟩
theorem dU.fk{sv:Value}{xs:List JV}{n:Int}{x:JV}{K:Value->Prop}(h:dU w sv xs)(hn:n=(i:Nat))(hi:xs[i]?=some x)(hK:K (i64 x.k)):dV none 5 sv (.int .i64 n) λp=>aY 0 p λq=>ldW false 1 q w K:=
 h.fld hn hi (by omega) λcs u hc hu=>by obtain⟨sv,kv,T1,T2,L,rfl,_⟩:=hc.out;cases hu;exact hK
theorem dU.ft{sv:Value}{xs:List JV}{n:Int}{x:JV}{K:Value->Prop}(h:dU w sv xs)(hn:n=(i:Nat))(hi:xs[i]?=some x)(hK:x.t.length<=9223372036854775807->K (str x.t)):dV none 5 sv (.int .i64 n) λp=>aY 2 p λq=>ldW false 1 q w K:=
 h.fld hn hi (by omega) λcs u hc hu=>by obtain⟨sv,kv,T1,T2,L,rfl,_,_,_,hf⟩:=hc.out;cases hu;exact hK hf.2.2.1
theorem dU.fx{sv:Value}{xs:List JV}{n:Int}{x:JV}{K:Value->Prop}(h:dU w sv xs)(hn:n=(i:Nat))(hi:xs[i]?=some x)(hK:∀u,dU w u x.xs->K u):dV none 5 sv (.int .i64 n) λp=>aY 3 p λq=>ldW false 1 q w K:=
 h.fld hn hi (by omega) λcs u hc hu=>by obtain⟨sv,kv,T1,T2,L,rfl,h1,h2,_,hf⟩:=hc.out;cases hu;exact hK _ ⟨⟨T1,L,h1,h2⟩,hf.1⟩
section
variable [HX]
theorem dU.at'{sv:Value}{xs:List JV}{n:Int}{x:JV}{K:Value->Prop}(h:dU w sv xs)(hn:n=(i:Nat))(hi:xs[i]?=some x)(hK:∀cs,fV w x cs->K (.agg cs.toArray)):dV none 5 sv (.int .i64 n) λp=>ldW true 5 p w K:=by
 subst hn;exact h.at hi hK
end
abbrev DoK(r:Option JV)(w:World)(K:Q0):Prop:=∀cs v ok w',Ext w w'->cO (yD w.heap.size) w' v cs->r=(if ok then some v else none)->K (.tuple #[.agg cs.toArray,.bool ok]) w'
theorem LQ{w0:World}{b:Nat}{ds:List Value}{K:Q0}{r:Option JV}(hr:r=none)(hb:w.heap[b]?=some (.cells ds.toArray VT (0,0)))(hd:ds.length=5)(hl:w0.heap.size<=b)(hx:Ext w0 w)(hK:DoK r w0 K):
  dD [(.int .i64 0),(.bool false),(.string (ofL [])),(.slice none 0 0),(.slice none 0 0)] [] λc7=>stW 5 (.pointer (some ⟨b,0,none⟩)) (.agg c7.toArray) w λw8=>ldW true 5 (.pointer (some ⟨b,0,none⟩)) w8 λr9=>K (.tuple #[r9,(.bool false)]) w8:=by
 rw[cU];exact HD (K:=λr w=>K (.tuple #[r,.bool false]) w) hb hd hl hx (iJ (k:=0) (b:=false) (t:=[]) (by simp)) λw' hx' h'=>hK _ _ false w' hx' h' hr
theorem GU{w0:World}{b:Nat}{ds:List Value}{v:JV}{K:Q0}{r:Option JV}(hr:r=some v)(hb:w.heap[b]?=some (.cells ds.toArray VT (0,0)))(hd:ds.length=5)(hl:w0.heap.size<=b)(hx:Ext w0 w)(h:cO (λq=>w0.heap.size<=q/\q≠b) w v cs)(hK:DoK r w0 K):
  stW 5 (.pointer (some ⟨b,0,none⟩)) (.agg cs.toArray) w λw8=>ldW true 5 (.pointer (some ⟨b,0,none⟩)) w8 λr9=>K (.tuple #[r9,(.bool true)]) w8:=
 HD (K:=λr w=>K (.tuple #[r,.bool true]) w) hb hd hl hx h λw' hx' h'=>hK _ _ true w' hx' h' hr
section
variable [HX]
theorem LH{s:Str}{K:Q0}(hK:∀w',Ext w w'->K (.agg (flat 4 false s).toArray) w'):aC P0 87 [str s] w K:=by
 refine ZC ?_;unfold W87;refine bG λb w1 hb hz hbb hx=>?_;simp only[wsv,wsg,wsh,wsl,aO,aN,aE,fE,Nat.reduceAdd,Nat.reduceLT,aG,aB,aK,aI,bT,reduceCtorEq];exact jA hbb rfl rfl rfl λw' hc=>hK w' (hx.new hc (by omega))
theorem oK{s:Bool}{K:Q0}(hK:∀w',Ext w w'->K (.agg (flat 2 s []).toArray) w'):aC P0 86 [.bool s] w K:=by
 refine ZD ?_;unfold W86;refine bG λb w1 hb hz hbb hx=>?_;simp only[wsv,wsg,wsh,wsl,aO,aN,aE,fE,Nat.reduceAdd,Nat.reduceLT,aG,aB,aK,aI,bT,reduceCtorEq];exact jA hbb rfl rfl rfl λw' hc=>hK w' (hx.new hc (by omega))
theorem qN{K:Q0}(hK:∀w',Ext w w'->K (.agg (flat 1 false []).toArray) w'):aC P0 97 [] w K:=by
 refine Zt ?_;unfold W97;refine bG λb w1 hb hz hbb hx=>?_;simp only[wsv,wsg,wsh,wsl,aO,aN,aE,fE,Nat.reduceAdd,Nat.reduceLT,aG,aB,aK,aI,bT,reduceCtorEq];exact jA hbb rfl rfl rfl λw' hc=>hK w' (hx.new hc (by omega))
theorem xW{b o:Nat}(hx:Ext w w')(h:w.cell? ⟨b,o,none⟩=some v):w'.cell? ⟨b,o,none⟩=some v:=by
 rw[cC]at h⊢;cases hb:w.heap[b]? with
 |none=>rw[hb]at h;cases h
 |some x=>rw[hb]at h;rw[hx.at hb id];exact h
theorem FH(w:World)(k:Nat)(os:Array Obj):Ext w (Sort.grow (w.drewN k) os):=
 ⟨rfl,rfl,rfl,by show w.heap.size<=(w.heap++os).size;simp,λj hj _=>by show(w.heap++os)[j]?=_;rw[Array.getElem?_append_left hj]⟩
theorem Hh{name:String}{c:Array Value}(hx:Ext w w')(h:w.var? P name=some c):w'.var? P name=some c:=by
 unfold World.var? at h⊢;cases hg:P.globalNamed name with
 |none=>rw[hg]at h;cases h
 |some g=>
  rw[hg]at h;simp only[Option.bind_some]at h⊢;cases hb:w.heap[g]? with
  |none=>rw[hb]at h;cases h
  |some o=>rw[hx.at hb id];rw[hb]at h;exact h
structure sD(w:World):Prop where
 pow:Lib.TabIs P0 w "internal/strconv.uint64pow10" .u64 Lib.pow10Tab
 syn:∃T v,w.cell? ⟨3,0,none⟩=some (.iface T v)
 rng:∃T v,w.cell? ⟨4,0,none⟩=some (.iface T v)
 mx:∃m,w.cell? ⟨0,0,none⟩=some (.int .i64 m)
theorem sD.ext(h:sD w)(hx:Ext w w'):sD w':=
 ⟨Hh hx h.pow,let⟨T,v,e⟩:=h.syn;⟨T,v,xW hx e⟩,let⟨T,v,e⟩:=h.rng;⟨T,v,xW hx e⟩,let⟨m,e⟩:=h.mx;⟨m,xW hx e⟩⟩
theorem IS:∀(k u:Nat),u<10^k->(Lib.decDigits u).length<=k+1:=by
 intro k;induction k with
 |zero=>intro u h;rw[Lib.decDigits,dif_pos (by omega)];simp
 |succ k ih=>
  intro u h;rw[Lib.decDigits];split
  ·simp
  ·have:=ih (u/10) (by rw[nI]at h;omega);rw[bE,zJ];omega
theorem AY{n:Int}(h1:-9223372036854775808<=n)(h2:n<=9223372036854775807):(Lib.itoa n).length<=30:=by
 unfold Lib.itoa;split
 ·have:=IS 19 n.natAbs (by omega);simp only[aA];omega
 ·have:=IS 19 n.toNat (by omega);omega
theorem aCW{n:Int}{K:Q0}(hT:sD w)(h0:-9223372036854775808<=n)(h1:n<=9223372036854775807)(hK:∀w',Ext w w'->K (str (Lib.itoa n)) w'):aC P0 246 [i64 n] w K:=by
 refine UV ?_;unfold aBP;refine gF (args:=#[i64 n]) Tryz.call269 ((Tryz.strconv_Itoa n h0 h1 w hT.pow).mono ?_);rintro e w' ⟨rfl,k,os,rfl⟩;exact⟨_,rfl,hK _ (FH w k os)⟩
theorem Pz{n:Int}{K:Q0}(hT:sD w)(h0:-9223372036854775808<=n)(h1:n<=9223372036854775807)(hK:∀w',Ext w w'->K (.agg (flat 3 false (Lib.itoa n)).toArray) w'):aC P0 215 [i64 n] w K:=by
 refine Vi ?_;unfold aBY;refine bG λb w1 hb hz hbb hx=>?_;refine aCW (hT.ext hx) h0 h1 λw2 hx2=>?_;have hbb2:=hx2.at hbb id;simp only[wsv,wsg,wsh,wsl,aO,aN,aE,fE,Nat.reduceAdd,Nat.reduceLT,aG,aB,aK,aI,bT,reduceCtorEq];exact jA hbb2 rfl rfl rfl λw' hc=>hK w' ((hx.trans hx2).new hc (by omega))
end
end
section
open Go Go.Eng Go.RowKit
variable{w:World}{K:Q0}{cs:List Value}{G:Nat->Prop}{T:TypeId}{i:Nat}{n:Nat}{v:Value}{w':World}{P:Program}{c:UInt8}{S:Nat->Prop}
section
variable [HX]
theorem MI{l:Str}{K:Q0}(hK:K (.pointer (some ⟨w.heap.size,0,none⟩)) (w.alloc (.stringIter (ofL l) 0))):dY P0 (Instr.range 9 (str l)) w K:=by
 have hT:Tryz.prog.underlying 9=some .string:=by kernel_rfl
 have hr:(Instr.range 9 (str l)).run P0 w=.ok (.pointer (some ⟨w.heap.size,0,none⟩)) (w.alloc (.stringIter (ofL l) 0)):=by
  simp[Instr.range,run_bind,bH hT,run_pure,newObj,Sem.run]
 unfold dY;rw[hr];exact hK
theorem Hq{r:Nat}{o:Obj}(h:r<w.heap.size):Chg (· =r) w {w with heap:=w.heap.setIfInBounds r o}:=
 ⟨rfl,rfl,rfl,by simp,λk _ hk=>by
  show(w.heap.setIfInBounds r o)[k]?=_
  rw[Array.getElem?_setIfInBounds_ne (by omega)]⟩
theorem OY{r pos:Nat}{l:Str}{K:Q0}(hw:w.heap[r]?=some (.stringIter (ofL l) pos))
  (h0:l.length<=pos->K (.tuple #[.bool false]) w)
  (h1:pos<l.length->∀w',w'.heap[r]?=some (.stringIter (ofL l) (pos+(Utf8.decode (ofL l) pos).2))->Chg (· =r) w w'->w'.heap.size=w.heap.size->K (.tuple #[.bool true,i64 pos,.int .i32 (Utf8.decode (ofL l) pos).1]) w'):
  dY P0 (Instr.next (.pointer (some ⟨r,0,none⟩)) true T) w K:=by
 have hg:(getObj r).run P0 w=.ok (.stringIter (ofL l) pos) w:=by simp[getObj,Sem.run,hw]
 have hlt:r<w.heap.size:=(Array.getElem?_eq_some_iff.1 hw).1;unfold dY;simp only[Instr.next,run_bind,hg,eV];by_cases hp:pos<l.length
 ·have hset:(setObj r (.stringIter (ofL l) (pos+(Utf8.decode (ofL l) pos).2))).run P0 w=.ok () {w with heap:=w.heap.setIfInBounds r (.stringIter (ofL l) (pos+(Utf8.decode (ofL l) pos).2))}:=by simp[setObj,Sem.run,hw]
  rw[aH hp];simp only[run_bind,hset,run_pure];exact h1 hp _ (by simp[hlt]) (Hq hlt) (by simp)
 ·rw[aD hp];simp only[run_pure];exact h0 (by omega)
end
end
section
open Go Go.Eng Go.Num Go.RowKit
variable{w:World}{K:Q0}{cs:List Value}{G:Nat->Prop}{T:TypeId}{i:Nat}{n:Nat}{v:Value}{w':World}{P:Program}{c:UInt8}{S:Nat->Prop}
theorem HM(s:Str):∀n i,AN s n i=mZ s n i
 |0,_=>rfl
 |n+1,i=>by simp only[AN,mZ,HM s n]
theorem Lk{B B':Nat}{e:TypeId}{size:Nat}{xs:List Value}(h:Own w B e size v n xs)(hB:B'<=B):Own w B' e size v n xs:=by
 obtain⟨hl,h|⟨g,cap,cur,h1,h2,h3⟩⟩:=h
 ·exact⟨hl,.inl h⟩
 ·exact⟨hl,.inr ⟨g,cap,cur,h1,cH hB h2,h3⟩⟩
section
variable [HX]
theorem Rb{s:Str}{K:Q0}(hl:s.length<=100000)(hK:∀v w',Ext w w'->Own w' w.heap.size ST 1 v (yU s).length ((yU s).map str)->K v w'):aC P0 216 [str s] w K:=by
 have hR:yU s=mZ s s.length 0:=HM s _ _;rw[hR]at hK;refine Vh ?_;unfold aBX;refine MI ?_;refine⟨λs' w4=>∃(p n f:Nat) (v:Value) (l:List Str),p<=s.length/\s.length<=f+n/\((p=0/\f=0)\/(f<s.length/\p=f+kC s f))/\s'=[v,i64 (f:Nat)]/\l.length<=f/\l++mZ s n f=mZ s s.length 0/\Ext w w4/\Own w4 (w.heap.size+1) ST 1 v l.length (l.map str)/\w4.heap[w.heap.size]?=some (.stringIter (ofL s) p),
  λ_ w4=>match w4.heap[w.heap.size]? with|some (.stringIter _ p)=>s.length-p|_=>0,⟨0,s.length,0,.slice none 0 0,[],fW _,by omega,.inl ⟨rfl,rfl⟩,rfl,aU _,rfl,Chg.alloc (Chg.refl _ _) _,⟨by simp,.inl ⟨rfl,rfl⟩⟩,gD _ _ _ rfl⟩,?_⟩
 rintro s' g w4 ⟨p,n,f,v,l,hp,hn,hpf,rfl,hll,he,hx,hO,hit⟩;simp only[aF,cW];have hw4:w.heap.size<w4.heap.size:=eW hit;have hne:∀k,v.ownBlock=some k->k≠w.heap.size:=λk hk e=>by have:=(uW hO hk).1;omega
 refine OY hit (λhpe=>?_) (λhpl w5 hit5 hc5 hz5=>?_)
 ·rw[bJ];refine⟨.bool false,rfl,?_⟩;rw[cX,tH];by_cases hs:s=[]
  ·subst hs;rw[bZ (by simp),cX];have h0:mZ [] n f=[]:=EY (by simp);have h00:mZ ([]:Str) ([]:Str).length 0=[]:=rfl;rw[h0,eA]at he;rw[<-he]at hK;refine hK _ w4 hx ?_;exact Lk hO (by omega)
  ·rw[bF hs,dR];have hsl:0<s.length:=dF.2 hs;obtain⟨hf,rfl⟩:f<s.length/\p=f+kC s f:=by
    rcases hpf with⟨h1,h2⟩|h
    ·omega
    ·exact h
   have hfit:=AG hf;rw[fG,fT,eM];refine⟨by omega,by omega,?_⟩;rw[aV,bM];refine WI λt w7 ht hx7=>?_;refine kM KC (hO.ext hx7) ht (m:=1) rfl (λu hu=>by simp only[bR]at hu;subst hu;rfl) (by omega) (by omega) (by have:=hx7.size;omega) λv' w8 h8 hc8 _=>?_;have hx8:Ext w w8:=(hx.trans hx7).then hc8 λk hk e=>by have:=(uW hO e).1;omega
   cases n with
   |zero=>omega
   |succ n=>
    rw[mZ,aH hf,EY (show s.length<=f+kC s f by omega)]at he;have et:(s.drop f).take (kC s f)=s.drop f:=fB (by rw[aP];omega);rw[et]at he;rw[<-he]at hK;refine hK _ w8 hx8 ?_;have:=Lk (B':=w.heap.size) h8 (by omega);simpa using this
 ·rw[bJ];refine⟨.bool true,rfl,?_⟩;rw[dR,bJ];refine⟨i64 p,rfl,?_⟩;have hstep:=AG hpl;have hpos:=zS s p;rw[IQ hpl]at hit5;have hx5:Ext w w5:=hx.then hc5 λk hk e=>by omega
  have hO5:Own w5 (w.heap.size+1) ST 1 v l.length (l.map str):=Aa hO hc5 λk hk e=>hne k hk e;have hmu:∀(w6:World),w6.heap[w.heap.size]?=some (.stringIter (ofL s) (p+kC s p))->(match w6.heap[w.heap.size]? with|some (.stringIter _ p)=>s.length-p|_=>0)<(match w4.heap[w.heap.size]? with|some (.stringIter _ p)=>s.length-p|_=>0):=λw6 h6=>by
   rw[h6,hit];show s.length-(p+kC s p)<s.length-p;omega
  rw[kS,aM];refine⟨λhgt=>?_,λhle=>?_⟩
  ·obtain⟨hf,hpe⟩:f<s.length/\p=f+kC s f:=by
    rcases hpf with⟨h1,h2⟩|h
    ·omega
    ·exact h
   have hfs:=zS s f;rw[fG,eM];refine⟨by omega,by omega,?_⟩;rw[eM];refine⟨by omega,by simp only[aV];omega,?_⟩;simp only[aV];have e2:(s.take p).drop f=(s.drop f).take (kC s f):=by rw[hpe,Es];congr 1;omega
   rw[e2];refine WI λt w7 ht hx7=>?_;refine kM KC (hO5.ext hx7) ht (m:=1) rfl (λu hu=>by simp only[bR]at hu;subst hu;rfl) (by omega) (by omega) (by have:=hx7.size;omega) λv' w8 h8 hc8 _=>?_;have hit8:=hc8.at (hx7.at hit5 id) (λe=>hne _ e rfl);cases n with
   |zero=>omega
   |succ n=>
    rw[mZ,aH hf,<-hpe]at he;refine⟨⟨p+kC s p,n,p,v',l++[(s.drop f).take (kC s f)],hstep,by omega,.inr ⟨hpl,rfl⟩,rfl,by simp;omega,by simpa using he,(hx5.trans hx7).then hc8 λk hk e=>?_,by simpa using h8,hit8⟩,hmu _ hit8⟩;have:=(uW hO e).1;omega
  ·have hp0:p=0:=by omega
   subst hp0;obtain rfl:f=0:=by
    rcases hpf with⟨_,h2⟩|⟨_,h2⟩
    ·exact h2
    ·have:=zS s f;omega
   exact⟨⟨0+kC s 0,n,0,v,l,by omega,hn,.inr ⟨hpl,rfl⟩,rfl,hll,he,hx5,hO5,hit5⟩,hmu _ hit5⟩
end
theorem EX(s:Str):∀n i,(AN s n i).length<=n
 |0,_=>aU _
 |n+1,i=>by
  simp only[AN]
  split
  ·have:=EX s n (i+kC s i)
   simp only[aA];omega
  ·simp
theorem MF(s:Str):(yU s).length<=s.length:=EX s _ _
section
variable [HX]
theorem Pn{x:JV}{sv:Value}{K:Q0}(hT:sD w)(h:dU w sv [x])(ht:x.t.length<=100000)(hK:DoK (Ae x) w K):aC P0 165 [sv] w K:=by
 refine VC ?_;unfold aCh;refine bG λb w1 hb hz hbb hx=>?_;have h1:=h.ext hx;refine h1.fk (i:=0) rfl rfl ?_;rw[bL,aM];refine⟨λk4=>?_,λk4=>?_⟩
 ·refine h1.ft (i:=0) rfl rfl λ_=>?_;refine Rb ht λv w2 hx2 hO=>?_;rw[fR hO.sl];have hr:=MF x.t;refine Pz (hT.ext (hx.trans hx2)) (by omega) (by omega) λw3 hx3=>?_;refine GU ?_ ((hx2.trans hx3).at hbb id) rfl (by omega) (hx.trans (hx2.trans hx3)) (iJ (cH (AY (by omega) (by omega)) (by decide))) hK;unfold Ae;rw[aH k4]
 ·have hL:Ae x=if x.k=5\/x.k=6 then some (iV x.xs.length)else none:=by unfold Ae;rw[aD k4]
  rw[hL]at hK;refine bU.cut (λst w'=>st=[.bool (decide (x.k=5\/x.k=6))]/\w'=w1) ?_ ?_
  ·rw[bL,aM];refine⟨λk5=>⟨by rw[bF k5,bF (Or.inl k5)],rfl⟩,λk5=>?_⟩;rw[bL];refine⟨?_,rfl⟩;by_cases k6:x.k=6
   ·rw[bF k6,bF (Or.inr k6)]
   ·rw[bZ k6,bZ (by rintro(e|e)<;>contradiction)]
  ·rintro st g w7 ⟨rfl,rfl⟩;simp only[aF];rw[aM];refine⟨λhk=>?_,λhk=>?_⟩
   ·rw[aH hk]at hK;refine h1.fx (i:=0) rfl rfl λu hu=>?_;rw[hu.len];have:=hu.few;refine Pz (hT.ext hx) (by omega) (by omega) λw3 hx3=>?_;exact GU rfl (hx3.at hbb id) rfl (by omega) (hx.trans hx3) (iJ (cH (AY (by omega) (by omega)) (by decide))) hK
   ·rw[aD hk]at hK;exact LQ rfl hbb rfl (by omega) hx hK
end
end
end Go.Proofs.YtghhmpppnmoeoaaGreatDoor
