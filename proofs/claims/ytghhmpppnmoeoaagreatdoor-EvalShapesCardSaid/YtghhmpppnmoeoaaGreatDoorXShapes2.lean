/- One plain sentence: contracts and plain laws that the claim rests on. Conditions: those that each states. -/
import Derived.Test.YtghhmpppnmoeoaaGreatDoorXShapes1
import Derived.Shelf.Strings.BuilderF
import Derived.Shelf.Strings.BuilderK
import Derived.Shelf.Strconv.Atoi
import Derived.Shelf.Strconv.AtoiInnerAll
import Derived.Shelf.Strconv.AtoiFail
import Derived.Shelf.Strconv.ParseInt10
import Derived.Shelf.Strconv.ParseUint10
import Derived.Shelf.Strconv.Itoa2
import Derived.Shelf.Strconv.Itoa1
import Derived.Shelf.Slices.ReverseS
import Derived.Shelf.Strconv.Itoa3
import Derived.Shelf.Pu.ParseUintPublic10
import Derived.Shelf.Strconv.ToErrorRange
import Derived.Shelf.Strconv.ToError
import Derived.Shelf.Small.Strs
import Derived.Shelf.Strings.Count
import Derived.Shelf.Strings.Cut
import Derived.Shelf.Small.Wraps
import Derived.Shelf.Strings.Prefix
import Derived.Shelf.Strings.Search3
import Derived.Shelf.Strings.OnBuilder
import Derived.Shelf.Strings.Repeat
import Derived.Shelf.Strings.Split
import Derived.Shelf.Strings.SlTrimAscii
import Derived.Shelf.Strconv.Clone
import Derived.Shelf.Strings.Search1
import Derived.Shelf.Unicode.DecodeAny
import Derived.Shelf.Small.Utf8
import Derived.Shelf.Strings.BuilderX
import Derived.Shelf.Lays
import Derived.Shelf.Lays2
import Derived.Shelf.LaysC
import Derived.Shelf.LaysM
import Derived.Shelf.Pu.Lays
import Derived.Ground.MpProg
import Derived.Ground.Names2Prog
import Derived.Test.YtghhmpppnmoeoaaGreatDoorProg
import Derived.Lib.ConvBytes
import Derived.Lib.ParseIntBCases
set_option linter.all false
set_option linter.unusedSimpArgs false
set_option linter.unusedVariables false
set_option linter.unusedSectionVars false
set_option maxRecDepth 100000
namespace Go.Proofs.YtghhmpppnmoeoaaGreatDoor
section
open Go Go.Eng
variable{w:World}{K:Q0}{cs:List Value}{G:Nat->Prop}{T:TypeId}{i:Nat}{n:Nat}{v:Value}{w':World}{P:Program}{c:UInt8}{S:Nat->Prop}{v0 v1 v2 v3 v4 v5:Value}
variable [HX]
def aA7:cO:={js:=[],ds:=[]}
def W61(v0:Value)(w:World)(K:Q0):=eW 26 v0 w λt1 w1=>bQ 3 zL3 w1 λt3 w2=>stW 1 t3 (i64 2000) w2 λw3=>ldW true 5 t1 w3 λt4=>aC P0 101 [t4,(i64 24),t3] w3 λt5 w4=>K t5 w4
theorem aCG{K:Q0}(h:W61 v0 w K):aC P0 61 [v0] w K:=
 tie _ 61 Tryz.f61 aA7 _ w K 1 _ rfl mixed Tryz.func61 (by kernel_rfl) (by kernel_rfl) Tryz.call61 h
def aAY:cO:={js:=[(28003,⟨[36],[],35⟩),(16,⟨[28],[2,5],28⟩),(6002,⟨[23],[],17⟩),(6004,⟨[22],[],21⟩),(6008,⟨[20],[],17⟩),(6013,⟨[14],[],12⟩)],ds:=[]}
def W75(v0:Value)(w:World)(K:Q0):=aC P0 107 [v0,(str [45])] w λt7 w1=>iT t7 λt9=>aQ .lss t9 (i64 1) λt10=>GdW (isB t10 false) [undef] w1 (λJ2=>iT t7 λt13=>aQ .gtr t13 (i64 100) λt14=>J2 [t14] w1) λs2 _ w3=>cV t10 (.bool true) (s2.getD 0 undef) λt15=>GdW (isB t15 false) [undef] w3 (λJ4=>qE t7 (i64 0) λt18=>aQ .eql t18 (.int .u8 48) λt19=>J4 [t19] w3) λs4 _ w5=>GdW (isB (s4.getD 0 undef) true) [undef] w5 (λJ6=>aQ .neq v0 (str [48]) λt22=>J6 [t22] w5) λs6 _ w7=>GdW (isB t15 false) [undef] w7 (λJ8=>cV (s4.getD 0 undef) (s6.getD 0 undef) (.bool false) λt23=>J8 [t23] w7) λs8 _ w9=>cV t15 (.bool true) (s8.getD 0 undef) λt24=>aS t24 (K (.bool false) w9) (dF P0 (convert 9 89 t7) w9 λt26 w10=>dA t26 λt27=>cY [(i64 0)] w10 λs11 _ w12 L11=>aQ .lss (s11.getD 0 undef) t27 λt29=>aS t29 (dP none 1 t26 (s11.getD 0 undef) λt30=>ldW false 1 t30 w12 λt31=>aQ .lss t31 (.int .u8 48) λt33=>GdW (isB t33 false) [undef] w12 (λJ13=>aQ .gtr t31 (.int .u8 57) λt36=>J13 [t36] w12) λs13 _ w14=>cV t33 (.bool true) (s13.getD 0 undef) λt37=>aS t37 (K (.bool false) w14) (aQ .add (s11.getD 0 undef) (i64 1) λt38=>L11 [t38] w14)) (K (.bool true) w12))
theorem aCx{K:Q0}(h:W75 v0 w K):aC P0 75 [v0] w K:=
 tie _ 75 Tryz.f75 aAY _ w K 1 _ rfl mixed Tryz.func75 (by kernel_rfl) (by kernel_rfl) Tryz.call75 h
def aAP:cO:={js:=[],ds:=[]}
def W85(w:World)(K:Q0):=bQ 26 zL0 w λt0 w1=>dJ [(i64 0),(.bool false),(str []),sN,sN] [] λc2=>stW 5 t0 (.agg c2.toArray) w1 λw3=>ldW true 5 t0 w3 λr4=>K r4 w3
theorem aCo{K:Q0}(h:W85 w K):aC P0 85 [] w K:=
 tie _ 85 Tryz.f85 aAP _ w K 0 _ rfl mixed Tryz.func85 (by kernel_rfl) (by kernel_rfl) Tryz.call85 h
def aAO:cO:={js:=[],ds:=[]}
def W86(v0:Value)(w:World)(K:Q0):=bQ 26 zL0 w λt2 w1=>dJ [(i64 0),(.bool false),(str []),sN,sN] [(0,1,(i64 2)),(1,1,v0)] λc2=>stW 5 t2 (.agg c2.toArray) w1 λw3=>ldW true 5 t2 w3 λr4=>K r4 w3
theorem aCn{K:Q0}(h:W86 v0 w K):aC P0 86 [v0] w K:=
 tie _ 86 Tryz.f86 aAO _ w K 1 _ rfl mixed Tryz.func86 (by kernel_rfl) (by kernel_rfl) Tryz.call86 h
def aAN:cO:={js:=[],ds:=[]}
def W87(v0:Value)(w:World)(K:Q0):=bQ 26 zL0 w λt2 w1=>dJ [(i64 0),(.bool false),(str []),sN,sN] [(0,1,(i64 4)),(2,1,v0)] λc2=>stW 5 t2 (.agg c2.toArray) w1 λw3=>ldW true 5 t2 w3 λr4=>K r4 w3
theorem aCm{K:Q0}(h:W87 v0 w K):aC P0 87 [v0] w K:=
 tie _ 87 Tryz.f87 aAN _ w K 1 _ rfl mixed Tryz.func87 (by kernel_rfl) (by kernel_rfl) Tryz.call87 h
def aAM:cO:={js:=[],ds:=[(3,⟨[0,1,3,4,6,8],[[],[0],[0,1],[],[3],[0,1,2,3,4],[0,1,2,3,4],[0,1,2,3,4,5,6],[0,1,2,3,4,5,6,7],[0,1,2,3,4,5,6,7,8]]⟩)]}
def W88(v0:Value)(w:World)(K:Q0):=eW 26 v0 w λt1 w1=>bQ 26 zL0 w1 λt2 w2=>aZ 4 t1 λt3=>ldW false 1 t3 w2.drew λt4=>aZ 3 t1 λt6=>ldW false 1 t6 w2.drew λt7=>aC P0 118 [t4] w2.drew λt5 w3=>(ldW false 1 t6 w3 λx=>x=t7)/\aZ 4 t1 λt9=>aC P0 119 [t7] w3 λt8 w4=>stW 1 t9 t5 w4 λw5=>aZ 3 t1 λt10=>stW 1 t10 t8 w5 λw6=>ldW true 5 t1 w6 λt11=>stW 5 t2 t11 w6 λw7=>ldW true 5 t2 w7 λr8=>K r8 w7
theorem TB{K:Q0}(h:W88 v0 w K):aC P0 88 [v0] w K:=
 tie _ 88 Tryz.f88 aAM _ w K 1 _ rfl mixed Tryz.func88 (by kernel_rfl) (by kernel_rfl) Tryz.call88 h
def aAK:cO:={js:=[(16,⟨[20],[5,7,8,9,10],20⟩)],ds:=[(37,⟨[0,1,2,3,4,5],[[],[],[],[],[2,3],[2,3,4],[2,3,4,5],[0,1,2,3,4,5,6],[0,1,2,3,4,5,6,7]]⟩)]}
def W90(v0 v1:Value)(w:World)(K:Q0):=bQ 26 zL0 w λt4 w1=>dA v0 λt12=>dA v1 λt14=>aQ .neq t12 t14 λt15=>aS t15 (dJ [(i64 0),(.bool false),(str []),sN,sN] [] λc2=>stW 5 t4 (.agg c2.toArray) w1 λw3=>ldW true 5 t4 w3 λr4=>K (.tuple #[r4,(i64 1)]) w3) (dJ [(i64 0),(.bool false),(str []),sN,sN] [(0,1,(i64 6))] λc5=>bQ 26 zL0 w1 λt6 w6=>stW 5 t6 (.agg c5.toArray) w6 λw7=>dA v0 λt19=>cY [(i64 0)] w7 λs8 _ w9 L8=>aQ .lss (s8.getD 0 undef) t19 λt21=>aS t21 (dP none 1 v0 (s8.getD 0 undef) λt23=>ldW false 1 t23 w9 λt24=>ldW true 5 t6 w9 λt26=>aC P0 120 [t26,t24] w9 λt28 w10=>dO 0 t28 λt29=>dO 1 t28 λt30=>bQ 26 zL0 w10 λt9 w11=>stW 5 t9 t29 w11 λw12=>aS t30 (dJ [(i64 0),(.bool false),(str []),sN,sN] [] λc13=>stW 5 t4 (.agg c13.toArray) w12 λw14=>ldW true 5 t4 w14 λr15=>K (.tuple #[r15,(i64 2)]) w14) (ldW true 5 t6 w12.drew λt33=>dP none 5 v1 (s8.getD 0 undef) λt37=>ldW true 5 t37 w12.drew λt38=>aC P0 88 [t38] w12.drew λt39 w16=>(ldW true 5 t6 w16 λx=>x=t33)/\aC P0 121 [t33,t24,t39] w16 λt40 w17=>stW 5 t6 t40 w17 λw18=>aQ .add (s8.getD 0 undef) (i64 1) λt41=>L8 [t41] w18)) (ldW true 5 t6 w9 λt42=>stW 5 t4 t42 w9 λw19=>ldW true 5 t4 w19 λr20=>K (.tuple #[r20,(i64 0)]) w19))
theorem aCk{K:Q0}(h:W90 v0 v1 w K):aC P0 90 [v0,v1] w K:=
 tie _ 90 Tryz.f90 aAK _ w K 2 _ rfl mixed Tryz.func90 (by kernel_rfl) (by kernel_rfl) Tryz.call90 h
def aAE:cO:={js:=[(3006,⟨[10],[],7⟩)],ds:=[]}
def W96(v0:Value)(w:World)(K:Q0):=eW 26 v0 w λt1 w1=>aZ 0 t1 λt3=>ldW false 1 t3 w1 λt4=>aQ .neq t4 (i64 1) λt5=>GdW (isB t5 true) [undef] w1 (λJ2=>aZ 3 t1 λt7=>ldW false 1 t7 w1 λt8=>aC P0 124 [t8,(.func (.func 130) #[] #[])] w1 λt9 w3=>unW .not t9 λt10=>J2 [t10] w3) λs2 _ w4=>cV t5 (s2.getD 0 undef) (.bool false) λt11=>K t11 w4
theorem aCe{K:Q0}(h:W96 v0 w K):aC P0 96 [v0] w K:=
 tie _ 96 Tryz.f96 aAE _ w K 1 _ rfl mixed Tryz.func96 (by kernel_rfl) (by kernel_rfl) Tryz.call96 h
def aAD:cO:={js:=[],ds:=[]}
def W97(w:World)(K:Q0):=bQ 26 zL0 w λt0 w1=>dJ [(i64 0),(.bool false),(str []),sN,sN] [(0,1,(i64 1))] λc2=>stW 5 t0 (.agg c2.toArray) w1 λw3=>ldW true 5 t0 w3 λr4=>K r4 w3
theorem aCd{K:Q0}(h:W97 w K):aC P0 97 [] w K:=
 tie _ 97 Tryz.f97 aAD _ w K 0 _ rfl mixed Tryz.func97 (by kernel_rfl) (by kernel_rfl) Tryz.call97 h
def aAC:cO:={js:=[],ds:=[]}
def W98(v0 v1:Value)(w:World)(K:Q0):=eW 26 v0 w λt2 w1=>eW 26 v1 w1 λt3 w2=>ldW true 5 t2 w2 λt5=>ldW true 5 t3 w2 λt6=>aC P0 131 [t5,t6] w2 λt7 w3=>aQ .eql t7 (i64 0) λt8=>K t8 w3
theorem aCc{K:Q0}(h:W98 v0 v1 w K):aC P0 98 [v0,v1] w K:=
 tie _ 98 Tryz.f98 aAC _ w K 2 _ rfl mixed Tryz.func98 (by kernel_rfl) (by kernel_rfl) Tryz.call98 h
def Wl:cO:={js:=[(89007,⟨[130],[],126⟩),(12,⟨[],[],6⟩),(78002,⟨[119],[],108⟩),(78010,⟨[118],[],111⟩),(78013,⟨[110],[],108⟩),(66,⟨[99],[6,7,8],99⟩),(40010,⟨[79],[],72⟩),(34010,⟨[63],[],56⟩),(28010,⟨[48],[],41⟩),(16,⟨[33],[],33⟩),(6002,⟨[29],[],23⟩),(6005,⟨[28],[],26⟩),(6008,⟨[25],[],23⟩),(6014,⟨[20],[],17⟩)],ds:=[]}
def aFz(v0 v1 v2:Value)(w:World)(K:Q0):=eW 26 v0 w λt3 w1=>eW 3 v1 w1 λt4 w2=>eW 143 v2 w2 λt5 w3=>ldW false 1 t5 w3 λt9=>eF t9 λt10=>ldW false 1 t10 w3 λt11=>aQ .sub t11 (i64 1) λt12=>eF t9 λt13=>stW 1 t13 t12 w3 λw4=>ldW false 1 t4 w4 λt14=>aQ .eql t14 (i64 0) λt15=>GdW (isB t15 false) [undef] w4 (λJ5=>ldW false 1 t5 w4 λt17=>eF t17 λt18=>ldW false 1 t18 w4 λt19=>aQ .lss t19 (i64 0) λt20=>J5 [t20] w4) λs5 _ w6=>cV t15 (.bool true) (s5.getD 0 undef) λt21=>GdW (isB t21 false) [undef] w6 (λJ7=>aZ 1 t3 λt23=>ldW false 1 t23 w6 λt24=>J7 [t24] w6) λs7 _ w8=>GdW (isB (s7.getD 0 undef) true) [undef] w8 (λJ9=>aZ 0 t3 λt26=>ldW false 1 t26 w8 λt27=>aQ .neq t27 (i64 2) λt28=>J9 [t28] w8) λs9 _ w10=>GdW (isB t21 false) [undef] w10 (λJ11=>cV (s7.getD 0 undef) (s9.getD 0 undef) (.bool false) λt29=>J11 [t29] w10) λs11 _ w12=>cV t21 (.bool true) (s11.getD 0 undef) λt30=>aS t30 (K (.bool false) w12) (bU (λJ13=>aZ 0 t3 λt31=>ldW false 1 t31 w12 λt32=>bU (λJ14=>aQ .eql t32 (i64 0) λt34=>aS t34 (J14 [t34] w12) (aQ .eql t32 (i64 1) λt35=>aS t35 (J14 [t35] w12) (aQ .eql t32 (i64 2) λt36=>J14 [t36] w12))) λs14 _ w15=>aS (s14.getD 0 undef) (aZ 2 t3 λt37=>ldW false 1 t37 w15 λt38=>aQ .eql t38 (str []) λt39=>GdW (isB t39 true) [undef] w15 (λJ16=>aZ 3 t3 λt41=>ldW false 1 t41 w15 λt42=>dA t42 λt43=>aZ 4 t3 λt44=>ldW false 1 t44 w15 λt45=>dA t45 λt46=>aQ .add t43 t46 λt47=>aQ .eql t47 (i64 0) λt48=>J16 [t48] w15) λs16 _ w17=>cV t39 (s16.getD 0 undef) (.bool false) λt49=>K t49 w17) (aQ .eql t32 (i64 3) λt51=>aS t51 (aZ 2 t3 λt52=>ldW false 1 t52 w15 λt53=>aC P0 75 [t53] w15 λt54 w18=>GdW (isB t54 true) [undef] w18 (λJ19=>aZ 3 t3 λt56=>ldW false 1 t56 w18 λt57=>dA t57 λt58=>aZ 4 t3 λt59=>ldW false 1 t59 w18 λt60=>dA t60 λt61=>aQ .add t58 t61 λt62=>aQ .eql t62 (i64 0) λt63=>J19 [t63] w18) λs19 _ w20=>cV t54 (s19.getD 0 undef) (.bool false) λt64=>K t64 w20) (aQ .eql t32 (i64 4) λt66=>aS t66 (aZ 2 t3 λt67=>ldW false 1 t67 w15 λt68=>iT t68 λt69=>aQ .leq t69 (i64 16384) λt70=>GdW (isB t70 true) [undef] w15 (λJ21=>aZ 3 t3 λt72=>ldW false 1 t72 w15 λt73=>dA t73 λt74=>aZ 4 t3 λt75=>ldW false 1 t75 w15 λt76=>dA t76 λt77=>aQ .add t74 t77 λt78=>aQ .eql t78 (i64 0) λt79=>J21 [t79] w15) λs21 _ w22=>cV t70 (s21.getD 0 undef) (.bool false) λt80=>K t80 w22) (aQ .eql t32 (i64 5) λt82=>aS t82 (aZ 4 t3 λt83=>ldW false 1 t83 w15 λt84=>dA t84 λt85=>aQ .gtr t85 (i64 0) λt86=>aS t86 (K (.bool false) w15) (J13 [] w15)) (aQ .eql t32 (i64 6) λt88=>aS t88 (aZ 4 t3 λt89=>ldW false 1 t89 w15 λt90=>dA t90 λt91=>aZ 3 t3 λt92=>ldW false 1 t92 w15 λt93=>dA t93 λt94=>aQ .neq t91 t94 λt95=>aS t95 (K (.bool false) w15) (aZ 4 t3 λt96=>ldW false 1 t96 w15 λt97=>dA t97 λt98=>cY [(i64 0)] w15 λs23 _ w24 L23=>aQ .lss (s23.getD 0 undef) t98 λt100=>aS t100 (dP none 1 t97 (s23.getD 0 undef) λt102=>ldW false 1 t102 w24 λt103=>iT t103 λt105=>aQ .gtr t105 (i64 16384) λt106=>GdW (isB t106 false) [undef] w24 (λJ25=>aQ .gtr (s23.getD 0 undef) (i64 0) λt109=>J25 [t109] w24) λs25 _ w26=>GdW (isB (s25.getD 0 undef) true) [undef] w26 (λJ27=>aZ 4 t3 λt111=>ldW false 1 t111 w26 λt112=>aQ .sub (s23.getD 0 undef) (i64 1) λt114=>dP none 1 t112 t114 λt115=>ldW false 1 t115 w26 λt116=>aQ .geq t116 t103 λt118=>J27 [t118] w26) λs27 _ w28=>GdW (isB t106 false) [undef] w28 (λJ29=>cV (s25.getD 0 undef) (s27.getD 0 undef) (.bool false) λt119=>J29 [t119] w28) λs29 _ w30=>cV t106 (.bool true) (s29.getD 0 undef) λt120=>aS t120 (K (.bool false) w30) (aQ .add (s23.getD 0 undef) (i64 1) λt121=>L23 [t121] w30)) (J13 [] w24))) (K (.bool false) w15)))))) λs13 _ w31=>aZ 2 t3 λt122=>ldW false 1 t122 w31 λt123=>aQ .eql t123 (str []) λt124=>GdW (isB t124 true) [undef] w31 (λJ32=>aZ 3 t3 λt126=>ldW false 1 t126 w31 λt127=>aC P0 124 [t127,(.func (.func 136) #[] #[t4,t5])] w31 λt129 w33=>unW .not t129 λt130=>J32 [t130] w33) λs32 _ w34=>cV t124 (s32.getD 0 undef) (.bool false) λt131=>K t131 w34)
theorem Zt{K:Q0}(h:aFz v0 v1 v2 w K):aC P0 101 [v0,v1,v2] w K:=
 tie _ 101 Tryz.f101 Wl _ w K 3 _ rfl mixed Tryz.func101 (by kernel_rfl) (by kernel_rfl) Tryz.call101 h
def VY:cO:={js:=[(8,⟨[3,8],[3,5],8⟩)],ds:=[]}
def aDe(v0:Value)(w:World)(K:Q0):=dA v0 λt7=>cY [sN,(i64 0)] w λs1 _ w2 L1=>aQ .lss (s1.getD 1 undef) t7 λt9=>aS t9 (dP none 5 v0 (s1.getD 1 undef) λt10=>ldW true 5 t10 w2 λt11=>bQ 26 zL0 w2 λt5 w3=>stW 5 t5 t11 w3 λw4=>ldW true 5 t5 w4 λt13=>aC P0 88 [t13] w4 λt14 w5=>dN 26 1 [(i64 0),(.bool false),(str []),sN,sN] [(0,5,t14)] w5 λt15 w6=>dF P0 (Builtin.append_ #[23,23] 23 #[(s1.getD 0 undef),t15]) w6 λt16 w7=>aQ .add (s1.getD 1 undef) (i64 1) λt17=>L1 [t16,t17] w7) (K (s1.getD 0 undef) w2)
theorem Oy{K:Q0}(h:aDe v0 w K):aC P0 119 [v0] w K:=
 tie _ 119 Tryz.f119 VY _ w K 1 _ rfl mixed Tryz.func119 (by kernel_rfl) (by kernel_rfl) Tryz.call119 h
def VX:cO:={js:=[(6004,⟨[19],[],17⟩)],ds:=[]}
def aFp(v0 v1:Value)(w:World)(K:Q0):=eW 26 v0 w λt2 w1=>bQ 26 zL0 w1 λt4 w2=>aZ 4 t2 λt9=>ldW false 1 t9 w2 λt10=>aC P0 153 [t10,v1] w2 λt12 w3=>dO 0 t12 λt13=>dO 1 t12 λt14=>GdW (isB t14 true) [undef] w3 (λJ4=>aZ 0 t2 λt17=>ldW false 1 t17 w3 λt18=>aQ .eql t18 (i64 6) λt19=>J4 [t19] w3) λs4 _ w5=>cV t14 (s4.getD 0 undef) (.bool false) λt20=>aS t20 (aZ 3 t2 λt21=>ldW false 1 t21 w5 λt22=>dP none 5 t22 t13 λt24=>ldW true 5 t24 w5 λt25=>aC P0 88 [t25] w5 λt26 w6=>stW 5 t4 t26 w6 λw7=>ldW true 5 t4 w7 λr8=>K (.tuple #[r8,(.bool true)]) w7) (dJ [(i64 0),(.bool false),(str []),sN,sN] [] λc9=>stW 5 t4 (.agg c9.toArray) w5 λw10=>ldW true 5 t4 w10 λr11=>K (.tuple #[r11,(.bool false)]) w10)
theorem Zi{K:Q0}(h:aFp v0 v1 w K):aC P0 120 [v0,v1] w K:=
 tie _ 120 Tryz.f120 VX _ w K 2 _ rfl mixed Tryz.func120 (by kernel_rfl) (by kernel_rfl) Tryz.call120 h
def VW:cO:={js:=[(14,⟨[],[],7⟩)],ds:=[(15,⟨[0,1,2,3,6,7,8,9,12,14],[[],[0],[],[],[3],[0,1,2,3,4],[],[6],[],[],[9],[0,1,2,3,4,5,6,7,8,9,10],[0,1,2,3,4,5,6,7],[0,1,2,3,4,5,6,7,8,9,10,11,12],[0,1,2,3,4,5,6,7,8,9,10,11,12,13],[0,1,2,3,4,5,6,7,8,9,10,11,12,13,14]]⟩)]}
def aFo(v0 v1 v2:Value)(w:World)(K:Q0):=eW 26 v0 w λt3 w1=>eW 26 v2 w1 λt5 w2=>bQ 26 zL0 w2 λt6 w3=>aZ 4 t3 λt10=>ldW false 1 t10 w3 λt11=>aC P0 153 [t11,v1] w3 λt13 w4=>dO 0 t13 λt14=>dO 1 t13 λt15=>aS t15 (aZ 3 t3 λt17=>ldW false 1 t17 w4 λt18=>ldW true 5 t5 w4 λt20=>dP none 5 t18 t14 λt21=>stW 5 t21 t20 w4 λw5=>ldW true 5 t3 w5 λt22=>stW 5 t6 t22 w5 λw6=>ldW true 5 t6 w6 λr7=>K r7 w6) (bU (λJ8=>aZ 4 t3 λt23=>ldW false 1 t23 w4.drew λt24=>aZ 3 t3 λt29=>ldW false 1 t29 w4.drew λt30=>ldW true 5 t5 w4.drew λt32=>(dN 9 1 [(str [])] [(0,1,v1)] w4.drew λt27 w9=>(ldW true 5 t5 w9 λx=>x=t32)/\(ldW false 1 t29 w9 λx=>x=t30)/\(ldW false 1 t23 w9 λx=>x=t24)/\(aC P0 154 [t24,t14,t27] w9 λt28 w10=>(ldW true 5 t5 w10 λx=>x=t32)/\(ldW false 1 t29 w10 λx=>x=t30)/\aZ 4 t3 λt35=>dN 26 1 [(i64 0),(.bool false),(str []),sN,sN] [(0,5,t32)] w10 λt33 w11=>(ldW false 1 t29 w11 λx=>x=t30)/\aC P0 155 [t30,t14,t33] w11 λt34 w12=>stW 1 t35 t28 w12 λw13=>aZ 3 t3 λt36=>stW 1 t36 t34 w13 λw14=>J8 [] w14)/\(dN 26 1 [(i64 0),(.bool false),(str []),sN,sN] [(0,5,t32)] w9 λt33 w15=>(ldW false 1 t29 w15 λx=>x=t30)/\(ldW false 1 t23 w15 λx=>x=t24)/\aC P0 154 [t24,t14,t27] w15 λt28 w16=>(ldW false 1 t29 w16 λx=>x=t30)/\aZ 4 t3 λt35=>aC P0 155 [t30,t14,t33] w16 λt34 w17=>stW 1 t35 t28 w17 λw18=>aZ 3 t3 λt36=>stW 1 t36 t34 w18 λw19=>J8 [] w19))/\(dN 26 1 [(i64 0),(.bool false),(str []),sN,sN] [(0,5,t32)] w4.drew λt33 w20=>(ldW false 1 t29 w20 λx=>x=t30)/\(ldW false 1 t23 w20 λx=>x=t24)/\dN 9 1 [(str [])] [(0,1,v1)] w20 λt27 w21=>(ldW false 1 t29 w21 λx=>x=t30)/\(ldW false 1 t23 w21 λx=>x=t24)/\aC P0 154 [t24,t14,t27] w21 λt28 w22=>(ldW false 1 t29 w22 λx=>x=t30)/\aZ 4 t3 λt35=>aC P0 155 [t30,t14,t33] w22 λt34 w23=>stW 1 t35 t28 w23 λw24=>aZ 3 t3 λt36=>stW 1 t36 t34 w24 λw25=>J8 [] w25)) λs8 _ w26=>ldW true 5 t3 w26 λt37=>stW 5 t6 t37 w26 λw27=>ldW true 5 t6 w27 λr28=>K r28 w27)
theorem Zh{K:Q0}(h:aFo v0 v1 v2 w K):aC P0 121 [v0,v1,v2] w K:=
 tie _ 121 Tryz.f121 VW _ w K 3 _ rfl mixed Tryz.func121 (by kernel_rfl) (by kernel_rfl) Tryz.call121 h
def VU:cO:={js:=[(6004,⟨[16],[],14⟩)],ds:=[]}
def aFm(v0:Value)(w:World)(K:Q0):=aC P0 157 [v0] w λt8 w1=>dO 0 t8 λt9=>dO 1 t8 λt10=>eqQ P0 .neq 118 false true t10 .nilIface w1 λt12=>GdW (isB t12 false) [undef] w1 (λJ2=>aC P0 75 [v0] w1 λt15 w3=>unW .not t15 λt16=>J2 [t16] w3) λs2 _ w4=>cV t12 (.bool true) (s2.getD 0 undef) λt17=>aS t17 (K (.tuple #[(i64 0),(.bool false)]) w4) (K (.tuple #[t9,(.bool true)]) w4)
theorem Zf{K:Q0}(h:aFm v0 w K):aC P0 123 [v0] w K:=
 tie _ 123 Tryz.f123 VU _ w K 1 _ rfl mixed Tryz.func123 (by kernel_rfl) (by kernel_rfl) Tryz.call123 h
def VN:cO:={js:=[(4004,⟨[12],[],10⟩)],ds:=[]}
def aFh(v0 v1:Value)(w:World)(K:Q0):=aC P0 75 [v0] w λt7 w1=>unW .not t7 λt8=>GdW (isB t8 false) [undef] w1 (λJ2=>aC P0 75 [v1] w1 λt11 w3=>unW .not t11 λt12=>J2 [t12] w3) λs2 _ w4=>cV t8 (.bool true) (s2.getD 0 undef) λt13=>aS t13 (K (.tuple #[(str []),(i64 6)]) w4) (aC P0 186 [v0] w4 λt15 w5=>aC P0 186 [v1] w5 λt17 w6=>aC P0 187 [t17] w6 λt18 w7=>aC P0 185 [t15,t18] w7 λt19 w8=>aC P0 188 [t19] w8 λt20 w9=>dO 0 t20 λt21=>dO 1 t20 λt22=>K (.tuple #[t21,t22]) w9)
theorem YZ{K:Q0}(h:aFh v0 v1 w K):aC P0 129 [v0,v1] w K:=
 tie _ 129 Tryz.f129 VN _ w K 2 _ rfl mixed Tryz.func129 (by kernel_rfl) (by kernel_rfl) Tryz.call129 h
def VM:cO:={js:=[],ds:=[]}
def aFg(v0:Value)(w:World)(K:Q0):=eW 26 v0 w λt1 w1=>ldW true 5 t1 w1 λt3=>aC P0 96 [t3] w1 λt4 w2=>unW .not t4 λt5=>K t5 w2
theorem YX{K:Q0}(h:aFg v0 w K):aC P0 130 [v0] w K:=
 tie _ 130 Tryz.f130 VM _ w K 1 _ rfl mixed Tryz.func130 (by kernel_rfl) (by kernel_rfl) Tryz.call130 h
def VL:cO:={js:=[],ds:=[(36,⟨[0,1,2,3,5,6,7,8,12],[[],[0],[],[2],[0,1,2,3],[],[5],[],[7],[0,1,2,3,4,5,6,7,8],[0,1,2,3,4,5,6,7,8,9],[0,1,2,3,4,5,6,7,8,9,10],[0,1,2,3,4,5,6,7,8,9,10,11]]⟩),(20,⟨[0,1,3,4,7],[[],[0],[0,1],[],[3],[0,1,2,3,4],[0,1,2,3,4,5],[0,1,2,3,4,5,6]]⟩)]}
def aFf(v0 v1:Value)(w:World)(K:Q0):=eW 26 v0 w λt2 w1=>eW 26 v1 w1 λt3 w2=>aZ 0 t2 λt6=>ldW false 1 t6 w2 λt7=>aZ 0 t3 λt8=>ldW false 1 t8 w2 λt9=>aC P0 189 [t7,t9] w2 λt10 w3=>aQ .neq t10 (i64 0) λt12=>aS t12 (K t10 w3) (aZ 0 t2 λt14=>ldW false 1 t14 w3 λt15=>aQ .eql t15 (i64 2) λt17=>aS t17 (aZ 1 t2 λt18=>ldW false 1 t18 w3.drew λt19=>aZ 1 t3 λt21=>ldW false 1 t21 w3.drew λt22=>aC P0 191 [t19] w3.drew λt20 w4=>(ldW false 1 t21 w4 λx=>x=t22)/\aC P0 191 [t22] w4 λt23 w5=>aC P0 190 [t20,t23] w5 λt24 w6=>K t24 w6) (aQ .eql t15 (i64 3) λt26=>aS t26 (aZ 2 t2 λt27=>ldW false 1 t27 w3 λt28=>aZ 2 t3 λt29=>ldW false 1 t29 w3 λt30=>aC P0 132 [t28,t30] w3 λt31 w7=>K t31 w7) (aQ .eql t15 (i64 4) λt33=>aS t33 (aZ 2 t2 λt34=>ldW false 1 t34 w3 λt35=>aZ 2 t3 λt36=>ldW false 1 t36 w3 λt37=>aC P0 192 [t35,t37] w3 λt38 w8=>K t38 w8) (aZ 4 t2 λt39=>ldW false 1 t39 w3.drew λt40=>aZ 4 t3 λt41=>ldW false 1 t41 w3.drew λt42=>aZ 3 t2 λt44=>ldW false 1 t44 w3.drew λt45=>aZ 3 t3 λt46=>ldW false 1 t46 w3.drew λt47=>aC P0 194 [t40,t42] w3.drew λt43 w9=>(ldW false 1 t46 w9 λx=>x=t47)/\(ldW false 1 t44 w9 λx=>x=t45)/\aC P0 195 [t45,t47,(.func (.func 131) #[] #[])] w9 λt48 w10=>dN 3 2 [(i64 0),(i64 0)] [(0,1,t43),(1,1,t48)] w10 λt49 w11=>aC P0 193 [t49] w11 λt50 w12=>K t50 w12))))
theorem YW{K:Q0}(h:aFf v0 v1 w K):aC P0 131 [v0,v1] w K:=
 tie _ 131 Tryz.f131 VL _ w K 2 _ rfl mixed Tryz.func131 (by kernel_rfl) (by kernel_rfl) Tryz.call131 h
def VK:cO:={js:=[(4004,⟨[12],[],10⟩)],ds:=[]}
def aFe(v0 v1:Value)(w:World)(K:Q0):=aC P0 75 [v0] w λt7 w1=>unW .not t7 λt8=>GdW (isB t8 false) [undef] w1 (λJ2=>aC P0 75 [v1] w1 λt11 w3=>unW .not t11 λt12=>J2 [t12] w3) λs2 _ w4=>cV t8 (.bool true) (s2.getD 0 undef) λt13=>aS t13 (K (i64 0) w4) (aC P0 186 [v0] w4 λt15 w5=>aC P0 186 [v1] w5 λt17 w6=>aC P0 187 [t17] w6 λt18 w7=>aC P0 185 [t15,t18] w7 λt19 w8=>bQ 198 zL2 w8 λt5 w9=>stW 2 t5 t19 w9 λw10=>aZ 1 t5 λt21=>ldW false 1 t21 w10 λt22=>dA t22 λt23=>aQ .eql t23 (i64 0) λt24=>aS t24 (K (i64 0) w10) (aZ 0 t5 λt26=>ldW false 1 t26 w10 λt27=>aS t27 (K (.int .i64 (-1)) w10) (K (i64 1) w10)))
theorem YV{K:Q0}(h:aFe v0 v1 w K):aC P0 132 [v0,v1] w K:=
 tie _ 132 Tryz.f132 VK _ w K 2 _ rfl mixed Tryz.func132 (by kernel_rfl) (by kernel_rfl) Tryz.call132 h
def VJ:cO:={js:=[(4004,⟨[12],[],10⟩)],ds:=[]}
def aFd(v0 v1:Value)(w:World)(K:Q0):=aC P0 75 [v0] w λt7 w1=>unW .not t7 λt8=>GdW (isB t8 false) [undef] w1 (λJ2=>aC P0 75 [v1] w1 λt11 w3=>unW .not t11 λt12=>J2 [t12] w3) λs2 _ w4=>cV t8 (.bool true) (s2.getD 0 undef) λt13=>aS t13 (K (.tuple #[(str []),(i64 6)]) w4) (aC P0 186 [v0] w4 λt15 w5=>aC P0 186 [v1] w5 λt17 w6=>aC P0 185 [t15,t17] w6 λt18 w7=>aC P0 188 [t18] w7 λt19 w8=>dO 0 t19 λt20=>dO 1 t19 λt21=>K (.tuple #[t20,t21]) w8)
theorem YU{K:Q0}(h:aFd v0 v1 w K):aC P0 133 [v0,v1] w K:=
 tie _ 133 Tryz.f133 VJ _ w K 2 _ rfl mixed Tryz.func133 (by kernel_rfl) (by kernel_rfl) Tryz.call133 h
def VI:cO:={js:=[(4004,⟨[12],[],10⟩)],ds:=[]}
def aFc(v0 v1:Value)(w:World)(K:Q0):=aC P0 75 [v0] w λt7 w1=>unW .not t7 λt8=>GdW (isB t8 false) [undef] w1 (λJ2=>aC P0 75 [v1] w1 λt11 w3=>unW .not t11 λt12=>J2 [t12] w3) λs2 _ w4=>cV t8 (.bool true) (s2.getD 0 undef) λt13=>aS t13 (K (.tuple #[(str []),(i64 6)]) w4) (aC P0 186 [v0] w4 λt15 w5=>aC P0 186 [v1] w5 λt17 w6=>aC P0 196 [t15,t17] w6 λt18 w7=>aC P0 188 [t18] w7 λt19 w8=>dO 0 t19 λt20=>dO 1 t19 λt21=>K (.tuple #[t20,t21]) w8)
theorem YT{K:Q0}(h:aFc v0 v1 w K):aC P0 134 [v0,v1] w K:=
 tie _ 134 Tryz.f134 VI _ w K 2 _ rfl mixed Tryz.func134 (by kernel_rfl) (by kernel_rfl) Tryz.call134 h
def VH:cO:={js:=[(47,⟨[14],[14],42⟩),(30,⟨[11,41],[11,13,14],41⟩),(4004,⟨[26],[],24⟩)],ds:=[]}
def aFb(v0 v1:Value)(w:World)(K:Q0):=aC P0 75 [v0] w λt21 w1=>unW .not t21 λt22=>GdW (isB t22 false) [undef] w1 (λJ2=>aC P0 75 [v1] w1 λt25 w3=>unW .not t25 λt26=>J2 [t26] w3) λs2 _ w4=>cV t22 (.bool true) (s2.getD 0 undef) λt27=>aS t27 (K (.tuple #[(str []),(str []),(i64 6)]) w4) (aQ .eql v1 (str [48]) λt29=>aS t29 (K (.tuple #[(str []),(str []),(i64 10)]) w4) (aC P0 186 [v0] w4 λt31 w5=>aC P0 186 [v1] w5 λt33 w6=>bQ 198 zL2 w6 λt7 w7=>bQ 198 zL2 w7 λt8 w8=>stW 2 t7 t31 w8 λw9=>stW 2 t8 t33 w9 λw10=>aZ 1 t8 λt34=>ldW false 1 t34 w10 λt35=>dJ [(.bool false),sN] [(0,1,(.bool false)),(1,1,t35)] λc11=>bQ 198 zL2 w10 λt9 w12=>stW 2 t9 (.agg c11.toArray) w12 λw13=>bQ 198 zL2 w13 λt10 w14=>aC P0 107 [v0,(str [45])] w14 λt38 w15=>dF P0 (convert 9 89 t38) w15 λt39 w16=>dA t39 λt40=>cY [sN,(i64 0)] w16 λs17 _ w18 L17=>aQ .lss (s17.getD 1 undef) t40 λt42=>aS t42 (dP none 1 t39 (s17.getD 1 undef) λt43=>ldW false 1 t43 w18 λt44=>ldW true 2 t10 w18 λt45=>dN 209 1 [(.int .u64 0)] [(0,1,(.int .u64 10))] w18 λt46 w19=>dJ [(.bool false),sN] [(0,1,(.bool false)),(1,1,t46)] λc20=>aC P0 196 [t45,(.agg c20.toArray)] w19 λt48 w21=>aQ .sub t44 (.int .u8 48) λt50=>sK .u64 t50 λt51=>dN 209 1 [(.int .u64 0)] [(0,1,t51)] w21 λt52 w22=>dJ [(.bool false),sN] [(0,1,(.bool false)),(1,1,t52)] λc23=>aC P0 197 [(.agg c23.toArray)] w22 λt54 w24=>aC P0 185 [t48,t54] w24 λt55 w25=>stW 2 t10 t55 w25 λw26=>cY [(.int .u8 48)] w26 λs27 _ w28 L27=>ldW true 2 t10 w28 λt56=>ldW true 2 t9 w28 λt57=>aC P0 198 [t56,t57] w28 λt58 w29=>aQ .geq t58 (i64 0) λt59=>aS t59 (ldW true 2 t10 w29 λt60=>ldW true 2 t9 w29 λt61=>aC P0 199 [t60,t61] w29 λt62 w30=>dJ [(.bool false),sN] [(0,1,(.bool false)),(1,1,t62)] λc31=>aC P0 197 [(.agg c31.toArray)] w30 λt64 w32=>stW 2 t10 t64 w32 λw33=>aQ .add (s27.getD 0 undef) (.int .u8 1) λt66=>L27 [t66] w33) (dN 5 1 [(.int .u8 0)] [(0,1,(s27.getD 0 undef))] w29 λt69 w34=>dF P0 (Builtin.append_ #[89,89] 89 #[(s17.getD 0 undef),t69]) w34 λt70 w35=>aQ .add (s17.getD 1 undef) (i64 1) λt71=>L17 [t70,t71] w35)) (nZ P0 (convert 89 9 (s17.getD 0 undef)) w18 λt73=>aC P0 186 [t73] w18 λt74 w36=>bQ 198 zL2 w36 λt15 w37=>stW 2 t15 t74 w37 λw38=>aZ 0 t7 λt75=>ldW false 1 t75 w38 λt76=>aZ 0 t8 λt77=>ldW false 1 t77 w38 λt78=>eqW .bool true t76 t78 λt79=>aZ 0 t15 λt80=>stW 1 t80 t79 w38 λw39=>aZ 0 t7 λt81=>ldW false 1 t81 w39 λt82=>aZ 0 t10 λt83=>stW 1 t83 t82 w39 λw40=>ldW true 2 t15 w40 λt85=>aC P0 197 [t85] w40 λt86 w41=>aC P0 188 [t86] w41 λt87 w42=>dO 0 t87 λt88=>dO 1 t87 λt89=>ldW true 2 t10 w42 λt91=>aC P0 197 [t91] w42 λt92 w43=>aC P0 188 [t92] w43 λt93 w44=>dO 0 t93 λt94=>dO 1 t93 λt95=>K (.tuple #[t88,t94,(i64 0)]) w44)))
theorem YS{K:Q0}(h:aFb v0 v1 w K):aC P0 135 [v0,v1] w K:=
 tie _ 135 Tryz.f135 VH _ w K 2 _ rfl mixed Tryz.func135 (by kernel_rfl) (by kernel_rfl) Tryz.call135 h
def VG:cO:={js:=[],ds:=[]}
def aFa(v0 v1 v2:Value)(w:World)(K:Q0):=eW 26 v0 w λt3 w1=>ldW true 5 t3 w1 λt5=>ldW false 1 v1 w1 λt6=>aQ .sub t6 (i64 1) λt7=>ldW false 1 v2 w1 λt8=>aC P0 101 [t5,t7,t8] w1 λt9 w2=>unW .not t9 λt10=>K t10 w2
theorem YR{K:Q0}(h:aFa v0 v1 v2 w K):aC P0 136 [v0,v1,v2] w K:=
 tie _ 136 Tryz.f136 VG _ w K 3 _ rfl mixed Tryz.func136 (by kernel_rfl) (by kernel_rfl) Tryz.call136 h
def Vq:cO:={js:=[],ds:=[(18,⟨[0,1,2,3,5],[[],[0],[],[],[2,3],[0,1,2,3,4],[0,1,2,3,4,5],[0,1,2,3,4,5,6]]⟩),(14,⟨[0,1,2,3,5],[[],[0],[],[],[2,3],[0,1,2,3,4],[0,1,2,3,4,5],[0,1,2,3,4,5,6]]⟩),(8,⟨[0,1,2,3,5],[[],[0],[],[],[2,3],[0,1,2,3,4],[0,1,2,3,4,5],[0,1,2,3,4,5,6]]⟩)]}
def aEX(v0 v1:Value)(w:World)(K:Q0):=eW 198 v0 w λt2 w1=>eW 198 v1 w1 λt3 w2=>bQ 198 zL2 w2 λt4 w3=>aZ 0 t2 λt6=>ldW false 1 t6 w3 λt7=>aZ 0 t3 λt8=>ldW false 1 t8 w3 λt9=>eqW .bool false t7 t9 λt10=>aS t10 (aZ 0 t2 λt11=>ldW false 1 t11 w3.drew λt12=>ldW true 2 t2 w3.drew λt13=>ldW true 2 t3 w3.drew λt14=>aC P0 224 [t13,t14] w3.drew λt15 w4=>(ldW false 1 t11 w4 λx=>x=t12)/\dJ [(.bool false),sN] [(0,1,t12),(1,1,t15)] λc5=>aC P0 197 [(.agg c5.toArray)] w4 λt17 w6=>stW 2 t4 t17 w6 λw7=>ldW true 2 t4 w7 λr8=>K r8 w7) (ldW true 2 t2 w3 λt19=>ldW true 2 t3 w3 λt20=>aC P0 198 [t19,t20] w3 λt21 w9=>aQ .geq t21 (i64 0) λt22=>aS t22 (aZ 0 t2 λt23=>ldW false 1 t23 w9.drew λt24=>ldW true 2 t2 w9.drew λt25=>ldW true 2 t3 w9.drew λt26=>aC P0 199 [t25,t26] w9.drew λt27 w10=>(ldW false 1 t23 w10 λx=>x=t24)/\dJ [(.bool false),sN] [(0,1,t24),(1,1,t27)] λc11=>aC P0 197 [(.agg c11.toArray)] w10 λt29 w12=>stW 2 t4 t29 w12 λw13=>ldW true 2 t4 w13 λr14=>K r14 w13) (aZ 0 t3 λt30=>ldW false 1 t30 w9.drew λt31=>ldW true 2 t3 w9.drew λt32=>ldW true 2 t2 w9.drew λt33=>aC P0 199 [t32,t33] w9.drew λt34 w15=>(ldW false 1 t30 w15 λx=>x=t31)/\dJ [(.bool false),sN] [(0,1,t31),(1,1,t34)] λc16=>aC P0 197 [(.agg c16.toArray)] w15 λt36 w17=>stW 2 t4 t36 w17 λw18=>ldW true 2 t4 w18 λr19=>K r19 w18))
theorem YA{K:Q0}(h:aEX v0 v1 w K):aC P0 185 [v0,v1] w K:=
 tie _ 185 Tryz.f185 Vq _ w K 2 _ rfl mixed Tryz.func185 (by kernel_rfl) (by kernel_rfl) Tryz.call185 h
def Vp:cO:={js:=[(10,⟨[6],[],6⟩)],ds:=[]}
def aEW(v0:Value)(w:World)(K:Q0):=bQ 198 zL2 w λt2 w1=>aC P0 225 [v0,(str [45])] w1 λt11 w2=>dO 0 t11 λt12=>dO 1 t11 λt13=>dJ [(.bool false),sN] [(0,1,t13)] λc3=>bQ 198 zL2 w2 λt5 w4=>stW 2 t5 (.agg c3.toArray) w4 λw5=>iT t12 λt17=>cY [t17] w5 λs6 _ w7 L6=>aQ .gtr (s6.getD 0 undef) (i64 0) λt19=>aS t19 (aQ .sub (s6.getD 0 undef) (i64 9) λt25=>RO (i64 0) t25 λt26=>mY t12 (some t26) (some (s6.getD 0 undef)) λt28=>aC P0 226 [t28,(i64 10),(i64 64)] w7 λt29 w8=>dO 0 t29 λt30=>dO 1 t29 λt31=>aZ 1 t5 λt32=>ldW false 1 t32 w8 λt33=>dN 209 1 [(.int .u64 0)] [(0,1,t30)] w8 λt35 w9=>dF P0 (Builtin.append_ #[196,196] 196 #[t33,t35]) w9 λt36 w10=>aZ 1 t5 λt37=>stW 1 t37 t36 w10 λw11=>aQ .sub (s6.getD 0 undef) (i64 9) λt21=>L6 [t21] w11) (ldW true 2 t5 w7 λt38=>aC P0 197 [t38] w7 λt39 w12=>stW 2 t2 t39 w12 λw13=>ldW true 2 t2 w13 λr14=>K r14 w13)
theorem Yz{K:Q0}(h:aEW v0 w K):aC P0 186 [v0] w K:=
 tie _ 186 Tryz.f186 Vp _ w K 1 _ rfl mixed Tryz.func186 (by kernel_rfl) (by kernel_rfl) Tryz.call186 h
def Vo:cO:={js:=[],ds:=[]}
def aEV(v0:Value)(w:World)(K:Q0):=eW 198 v0 w λt1 w1=>bQ 198 zL2 w1 λt2 w2=>aZ 0 t1 λt3=>ldW false 1 t3 w2 λt4=>unW .not t4 λt5=>aZ 1 t1 λt6=>ldW false 1 t6 w2 λt7=>dJ [(.bool false),sN] [(0,1,t5),(1,1,t7)] λc3=>aC P0 197 [(.agg c3.toArray)] w2 λt9 w4=>stW 2 t2 t9 w4 λw5=>ldW true 2 t2 w5 λr6=>K r6 w5
theorem Yy{K:Q0}(h:aEV v0 w K):aC P0 187 [v0] w K:=
 tie _ 187 Tryz.f187 Vo _ w K 1 _ rfl mixed Tryz.func187 (by kernel_rfl) (by kernel_rfl) Tryz.call187 h
def Vl:cO:={js:=[],ds:=[]}
def aES(v0:Value)(w:World)(K:Q0):=aS v0 (K (i64 1) w) (K (i64 0) w)
theorem Yv{K:Q0}(h:aES v0 w K):aC P0 191 [v0] w K:=
 tie _ 191 Tryz.f191 Vl _ w K 1 _ rfl mixed Tryz.func191 (by kernel_rfl) (by kernel_rfl) Tryz.call191 h
def Vh:cO:={js:=[(35,⟨[8],[8],23⟩),(27003,⟨[34],[],33⟩),(24,⟨[8,9],[8,9],23⟩),(8,⟨[22],[6,7,8,9],22⟩)],ds:=[]}
def aEO(v0 v1:Value)(w:World)(K:Q0):=eW 198 v0 w λt2 w1=>eW 198 v1 w1 λt3 w2=>bQ 198 zL2 w2 λt4 w3=>aZ 1 t2 λt10=>ldW false 1 t10 w3 λt11=>dA t11 λt12=>aZ 1 t3 λt13=>ldW false 1 t13 w3 λt14=>dA t14 λt15=>aQ .add t12 t15 λt16=>aQ .add t16 (i64 1) λt17=>dF P0 (Instr.makeSlice 196 t17 t17) w3 λt18 w4=>aZ 1 t2 λt19=>ldW false 1 t19 w4 λt20=>dA t20 λt21=>cY [(i64 0)] w4 λs5 _ w6 L5=>aQ .lss (s5.getD 0 undef) t21 λt23=>aS t23 (dP none 1 t20 (s5.getD 0 undef) λt25=>ldW false 1 t25 w6 λt26=>cY [(.int .u64 0),(i64 0)] w6 λs7 _ w8 L7=>aZ 1 t3 λt28=>ldW false 1 t28 w8 λt29=>dA t29 λt30=>aQ .lss (s7.getD 1 undef) t30 λt31=>GdW (isB t31 false) [undef] w8 (λJ9=>aQ .gtr (s7.getD 0 undef) (.int .u64 0) λt34=>J9 [t34] w8) λs9 _ w10=>cV t31 (.bool true) (s9.getD 0 undef) λt35=>aS t35 (aQ .add (s5.getD 0 undef) (s7.getD 1 undef) λt42=>dP none 1 t18 t42 λt43=>ldW false 1 t43 w10 λt44=>aQ .add (s7.getD 0 undef) t44 λt45=>bU (λJ11=>aZ 1 t3 λt47=>ldW false 1 t47 w10 λt48=>dA t48 λt49=>aQ .lss (s7.getD 1 undef) t49 λt50=>aS t50 (aZ 1 t3 λt53=>ldW false 1 t53 w10 λt54=>dP none 1 t54 (s7.getD 1 undef) λt56=>ldW false 1 t56 w10 λt57=>aQ .mul t26 t57 λt58=>aQ .add t45 t58 λt59=>J11 [t59] w10) (J11 [t45] w10)) λs11 _ w12=>aQ .add (s5.getD 0 undef) (s7.getD 1 undef) λt63=>aQ .rem (s11.getD 0 undef) (.int .u64 1000000000) λt65=>dP none 1 t18 t63 λt66=>stW 1 t66 t65 w12 λw13=>aQ .quo (s11.getD 0 undef) (.int .u64 1000000000) λt68=>aQ .add (s7.getD 1 undef) (i64 1) λt37=>L7 [t68,t37] w13) (aQ .add (s5.getD 0 undef) (i64 1) λt69=>L5 [t69] w10)) (aZ 0 t2 λt70=>ldW false 1 t70 w6 λt71=>aZ 0 t3 λt72=>ldW false 1 t72 w6 λt73=>eqW .bool true t71 t73 λt74=>dJ [(.bool false),sN] [(0,1,t74),(1,1,t18)] λc14=>aC P0 197 [(.agg c14.toArray)] w6 λt77 w15=>stW 2 t4 t77 w15 λw16=>ldW true 2 t4 w16 λr17=>K r17 w16)
theorem Yr{K:Q0}(h:aEO v0 v1 w K):aC P0 196 [v0,v1] w K:=
 tie _ 196 Tryz.f196 Vh _ w K 2 _ rfl mixed Tryz.func196 (by kernel_rfl) (by kernel_rfl) Tryz.call196 h
def Vg:cO:={js:=[(14007,⟨[32],[],29⟩),(7010,⟨[16],[],8⟩),(4,⟨[],[],3⟩)],ds:=[]}
def aEN(v0:Value)(w:World)(K:Q0):=eW 198 v0 w λt1 w1=>bQ 198 zL2 w1 λt2 w2=>cY [] w2 λs3 _ w4 L3=>aZ 1 t1 λt3=>ldW false 1 t3 w4 λt4=>dA t4 λt5=>aQ .gtr t5 (i64 0) λt6=>GdW (isB t6 true) [undef] w4 (λJ5=>aZ 1 t1 λt8=>ldW false 1 t8 w4 λt9=>aZ 1 t1 λt10=>ldW false 1 t10 w4 λt11=>dA t11 λt12=>aQ .sub t12 (i64 1) λt13=>dP none 1 t9 t13 λt14=>ldW false 1 t14 w4 λt15=>aQ .eql t15 (.int .u64 0) λt16=>J5 [t16] w4) λs5 _ w6=>cV t6 (s5.getD 0 undef) (.bool false) λt17=>aS t17 (aZ 1 t1 λt18=>ldW false 1 t18 w6 λt19=>aZ 1 t1 λt20=>ldW false 1 t20 w6 λt21=>dA t21 λt22=>aQ .sub t22 (i64 1) λt23=>kR 1 t19 none (some t23) none λt24=>aZ 1 t1 λt25=>stW 1 t25 t24 w6 λw7=>L3 [] w7) (aZ 0 t1 λt26=>ldW false 1 t26 w6 λt27=>GdW (isB t27 true) [undef] w6 (λJ8=>aZ 1 t1 λt29=>ldW false 1 t29 w6 λt30=>dA t30 λt31=>aQ .gtr t31 (i64 0) λt32=>J8 [t32] w6) λs8 _ w9=>cV t27 (s8.getD 0 undef) (.bool false) λt33=>aZ 0 t1 λt34=>stW 1 t34 t33 w9 λw10=>ldW true 2 t1 w10 λt35=>stW 2 t2 t35 w10 λw11=>ldW true 2 t2 w11 λr12=>K r12 w11)
theorem Yq{K:Q0}(h:aEN v0 w K):aC P0 197 [v0] w K:=
 tie _ 197 Tryz.f197 Vg _ w K 1 _ rfl mixed Tryz.func197 (by kernel_rfl) (by kernel_rfl) Tryz.call197 h
def Vf:cO:={js:=[(16,⟨[6],[],4⟩)],ds:=[(26,⟨[0,1,2,3,4,5,6,7,8,9,11],[[],[0],[],[0,1,2],[0,1,2,3],[],[5],[],[5,6,7],[5,6,7,8],[0,1,2,3,4,5,6,7,8,9],[0,1,2,3,4,5,6,7,8,9,10]]⟩)]}
def aEM(v0 v1:Value)(w:World)(K:Q0):=eW 198 v0 w λt2 w1=>eW 198 v1 w1 λt3 w2=>aZ 1 t2 λt8=>ldW false 1 t8 w2 λt9=>dA t9 λt10=>aZ 1 t3 λt11=>ldW false 1 t11 w2 λt12=>dA t12 λt13=>aC P0 190 [t10,t13] w2 λt14 w3=>aQ .neq t14 (i64 0) λt16=>aS t16 (K t14 w3) (aZ 1 t2 λt18=>ldW false 1 t18 w3 λt19=>dA t19 λt20=>aQ .sub t20 (i64 1) λt21=>cY [t21] w3 λs4 _ w5 L4=>aQ .geq (s4.getD 0 undef) (i64 0) λt23=>aS t23 (aZ 1 t2 λt26=>ldW false 1 t26 w5.drew λt27=>dP none 1 t27 (s4.getD 0 undef) λt29=>ldW false 1 t29 w5.drew λt30=>aZ 1 t3 λt31=>ldW false 1 t31 w5.drew λt32=>dP none 1 t32 (s4.getD 0 undef) λt34=>ldW false 1 t34 w5.drew λt35=>aC P0 233 [t30,t35] w5.drew λt36 w6=>aQ .neq t36 (i64 0) λt38=>aS t38 (K t36 w6) (aQ .sub (s4.getD 0 undef) (i64 1) λt25=>L4 [t25] w6)) (K (i64 0) w5))
theorem Yp{K:Q0}(h:aEM v0 v1 w K):aC P0 198 [v0,v1] w K:=
 tie _ 198 Tryz.f198 Vf _ w K 2 _ rfl mixed Tryz.func198 (by kernel_rfl) (by kernel_rfl) Tryz.call198 h
def Ve:cO:={js:=[(31,⟨[6,8],[6,8],14⟩),(23,⟨[9],[9],14⟩),(10,⟨[5,6,13],[5,6,7,8,9],13⟩)],ds:=[]}
def aEL(v0 v1:Value)(w:World)(K:Q0):=eW 198 v0 w λt2 w1=>eW 198 v1 w1 λt3 w2=>aZ 1 t2 λt10=>ldW false 1 t10 w2 λt11=>dA t11 λt12=>cY [sN,(.int .u64 0),(i64 0)] w2 λs3 _ w4 L3=>aQ .lss (s3.getD 2 undef) t12 λt14=>aS t14 (dP none 1 t11 (s3.getD 2 undef) λt16=>ldW false 1 t16 w4 λt17=>bU (λJ5=>aZ 1 t3 λt20=>ldW false 1 t20 w4 λt21=>dA t21 λt22=>aQ .lss (s3.getD 2 undef) t22 λt23=>aS t23 (aZ 1 t3 λt25=>ldW false 1 t25 w4 λt26=>dP none 1 t26 (s3.getD 2 undef) λt28=>ldW false 1 t28 w4 λt29=>aQ .add (s3.getD 1 undef) t29 λt30=>J5 [t30] w4) (J5 [(s3.getD 1 undef)] w4)) λs5 _ w6=>bU (λJ7=>aQ .lss t17 (s5.getD 0 undef) λt33=>aS t33 (aQ .add t17 (.int .u64 1000000000) λt35=>J7 [(.int .u64 1),t35] w6) (J7 [(.int .u64 0),t17] w6)) λs7 _ w8=>aQ .sub (s7.getD 1 undef) (s5.getD 0 undef) λt39=>dN 209 1 [(.int .u64 0)] [(0,1,t39)] w8 λt40 w9=>dF P0 (Builtin.append_ #[196,196] 196 #[(s3.getD 0 undef),t40]) w9 λt41 w10=>aQ .add (s3.getD 2 undef) (i64 1) λt42=>L3 [t41,(s7.getD 0 undef),t42] w10) (K (s3.getD 0 undef) w4)
theorem Yo{K:Q0}(h:aEL v0 v1 w K):aC P0 199 [v0,v1] w K:=
 tie _ 199 Tryz.f199 Ve _ w K 2 _ rfl mixed Tryz.func199 (by kernel_rfl) (by kernel_rfl) Tryz.call199 h
def UY:cO:={js:=[],ds:=[]}
def aEH(v0:Value)(w:World)(K:Q0):=bQ 26 zL0 w λt2 w1=>aC P0 246 [v0] w1 λt4 w2=>dJ [(i64 0),(.bool false),(str []),sN,sN] [(0,1,(i64 3)),(2,1,t4)] λc3=>stW 5 t2 (.agg c3.toArray) w2 λw4=>ldW true 5 t2 w4 λr5=>K r5 w4
theorem Yj{K:Q0}(h:aEH v0 w K):aC P0 215 [v0] w K:=
 tie _ 215 Tryz.f215 UY _ w K 1 _ rfl mixed Tryz.func215 (by kernel_rfl) (by kernel_rfl) Tryz.call215 h
def UV:cO:={js:=[(27,⟨[6],[6],16⟩),(21,⟨[6],[6],16⟩),(10,⟨[5,6,15],[5,6,7],15⟩)],ds:=[]}
def aEE(v0 v1:Value)(w:World)(K:Q0):=eW 198 v0 w λt2 w1=>eW 198 v1 w1 λt3 w2=>aZ 1 t2 λt8=>ldW false 1 t8 w2 λt9=>dA t9 λt10=>aZ 1 t3 λt11=>ldW false 1 t11 w2 λt12=>dA t12 λt13=>RO t10 t13 λt14=>cY [sN,(.int .u64 0),(i64 0)] w2 λs3 _ w4 L3=>aQ .lss (s3.getD 2 undef) t14 λt16=>aS t16 (bU (λJ5=>aZ 1 t2 λt19=>ldW false 1 t19 w4 λt20=>dA t20 λt21=>aQ .lss (s3.getD 2 undef) t21 λt22=>aS t22 (aZ 1 t2 λt24=>ldW false 1 t24 w4 λt25=>dP none 1 t25 (s3.getD 2 undef) λt27=>ldW false 1 t27 w4 λt28=>aQ .add (s3.getD 1 undef) t28 λt29=>J5 [t29] w4) (J5 [(s3.getD 1 undef)] w4)) λs5 _ w6=>bU (λJ7=>aZ 1 t3 λt31=>ldW false 1 t31 w6 λt32=>dA t32 λt33=>aQ .lss (s3.getD 2 undef) t33 λt34=>aS t34 (aZ 1 t3 λt36=>ldW false 1 t36 w6 λt37=>dP none 1 t37 (s3.getD 2 undef) λt39=>ldW false 1 t39 w6 λt40=>aQ .add (s5.getD 0 undef) t40 λt41=>J7 [t41] w6) (J7 [(s5.getD 0 undef)] w6)) λs7 _ w8=>aQ .rem (s7.getD 0 undef) (.int .u64 1000000000) λt44=>dN 209 1 [(.int .u64 0)] [(0,1,t44)] w8 λt45 w9=>dF P0 (Builtin.append_ #[196,196] 196 #[(s3.getD 0 undef),t45]) w9 λt46 w10=>aQ .quo (s7.getD 0 undef) (.int .u64 1000000000) λt48=>aQ .add (s3.getD 2 undef) (i64 1) λt49=>L3 [t46,t48,t49] w10) (dN 209 1 [(.int .u64 0)] [(0,1,(s3.getD 1 undef))] w4 λt52 w11=>dF P0 (Builtin.append_ #[196,196] 196 #[(s3.getD 0 undef),t52]) w11 λt53 w12=>K t53 w12)
theorem Yg{K:Q0}(h:aEE v0 v1 w K):aC P0 224 [v0,v1] w K:=
 tie _ 224 Tryz.f224 UV _ w K 2 _ rfl mixed Tryz.func224 (by kernel_rfl) (by kernel_rfl) Tryz.call224 h
def UL:cO:={js:=[],ds:=[]}
def aEx(v0:Value)(w:World)(K:Q0):=aC P0 269 [v0] w λt4 w1=>K t4 w1
theorem XW{K:Q0}(h:aEx v0 w K):aC P0 246 [v0] w K:=
 tie _ 246 Tryz.f246 UL _ w K 1 _ rfl mixed Tryz.func246 (by kernel_rfl) (by kernel_rfl) Tryz.call246 h
def aAG:cO:={js:=[],ds:=[]}
def W94(v0 v1:Value)(w:World)(K:Q0):=bQ 26 zL0 w λt4 w1=>aC P0 124 [v1,(.func (.func 125) #[] #[])] w1 λt11 w2=>aS t11 (dJ [(i64 0),(.bool false),(str []),sN,sN] [] λc3=>stW 5 t4 (.agg c3.toArray) w2 λw4=>ldW true 5 t4 w4 λr5=>K (.tuple #[r5,(i64 1)]) w4) (aC P0 126 [] w2 λt14 w6=>nZ P0 (Instr.lookup 164 t14 v0 true) w6 λt16=>dO 0 t16 λt17=>dO 1 t16 λt18=>bQ 162 [(str []),(i64 0),.nilFunc] w6 λt6 w7=>stW 3 t6 t17 w7 λw8=>unW .not t18 λt20=>aS t20 (dJ [(i64 0),(.bool false),(str []),sN,sN] [] λc9=>stW 5 t4 (.agg c9.toArray) w8 λw10=>ldW true 5 t4 w10 λr11=>K (.tuple #[r11,(i64 70)]) w10) (aC P0 124 [v1,(.func (.func 127) #[] #[])] w8 λt23 w12=>aS t23 (aC P0 97 [] w12 λt24 w13=>stW 5 t4 t24 w13 λw14=>ldW true 5 t4 w14 λr15=>K (.tuple #[r15,(i64 0)]) w14) (ldW true 3 t6 w12 λt25=>aC P0 128 [t25,v1] w12 λt27 w16=>unW .not t27 λt28=>aS t28 (dJ [(i64 0),(.bool false),(str []),sN,sN] [] λc17=>stW 5 t4 (.agg c17.toArray) w16 λw18=>ldW true 5 t4 w18 λr19=>K (.tuple #[r19,(i64 71)]) w18) (aZ 2 t6 λt31=>ldW false 1 t31 w16 λt32=>pG P0 t32 [v1] w16 λt34 w20=>dO 0 t34 λt35=>dO 1 t34 λt36=>bQ 26 zL0 w20 λt8 w21=>stW 5 t8 t35 w21 λw22=>unW .not t36 λt38=>aS t38 (dJ [(i64 0),(.bool false),(str []),sN,sN] [] λc23=>stW 5 t4 (.agg c23.toArray) w22 λw24=>ldW true 5 t4 w24 λr25=>K (.tuple #[r25,(i64 71)]) w24) (ldW true 5 t8 w22 λt40=>aC P0 61 [t40] w22 λt41 w26=>unW .not t41 λt42=>aS t42 (dJ [(i64 0),(.bool false),(str []),sN,sN] [] λc27=>stW 5 t4 (.agg c27.toArray) w26 λw28=>ldW true 5 t4 w28 λr29=>K (.tuple #[r29,(i64 3)]) w28) (ldW true 5 t8 w26 λt44=>stW 5 t4 t44 w26 λw30=>ldW true 5 t4 w30 λr31=>K (.tuple #[r31,(i64 0)]) w30))))))
theorem aCg{K:Q0}(h:W94 v0 v1 w K):aC P0 94 [v0,v1] w K:=
 tie _ 94 Tryz.f94 aAG _ w K 2 _ rfl mixed Tryz.func94 (by kernel_rfl) (by kernel_rfl) Tryz.call94 h
def VR:cO:={js:=[],ds:=[]}
def aFl(v0:Value)(w:World)(K:Q0):=eW 26 v0 w λt1 w1=>ldW true 5 t1 w1 λt3=>aC P0 61 [t3] w1 λt4 w2=>unW .not t4 λt5=>K t5 w2
theorem Zd{K:Q0}(h:aFl v0 w K):aC P0 125 [v0] w K:=
 tie _ 125 Tryz.f125 VR _ w K 1 _ rfl mixed Tryz.func125 (by kernel_rfl) (by kernel_rfl) Tryz.call125 h
def VQ:cO:={js:=[],ds:=[]}
def aFk(w:World)(K:Q0):=dF P0 (Instr.makeMap 164 none) w λt1 w1=>dJ [(str []),(i64 0),.nilFunc] [(0,1,(str [110])),(1,1,(i64 0)),(2,1,(.func (.func 159) #[] #[]))] λc2=>nY P0 (Instr.mapUpdate 164 t1 (str [97,98,115]) (.agg c2.toArray)) w1 λw3=>dJ [(str []),(i64 0),.nilFunc] [(0,1,(str [108,46])),(1,1,(i64 0)),(2,1,(.func (.func 160) #[] #[]))] λc4=>nY P0 (Instr.mapUpdate 164 t1 (str [99,111,110,99,97,116]) (.agg c4.toArray)) w3 λw5=>dJ [(str []),(i64 0),.nilFunc] [(0,1,(str [108,118])),(1,1,(i64 0)),(2,1,(.func (.func 161) #[] #[]))] λc6=>nY P0 (Instr.mapUpdate 164 t1 (str [99,111,110,116,97,105,110,115]) (.agg c6.toArray)) w5 λw7=>dJ [(str []),(i64 0),.nilFunc] [(0,1,(str [115,108])),(1,1,(i64 0)),(2,1,(.func (.func 162) #[] #[]))] λc8=>nY P0 (Instr.mapUpdate 164 t1 (str [106,111,105,110]) (.agg c8.toArray)) w7 λw9=>dJ [(str []),(i64 0),.nilFunc] [(0,1,(str [111])),(1,1,(i64 0)),(2,1,(.func (.func 163) #[] #[]))] λc10=>nY P0 (Instr.mapUpdate 164 t1 (str [107,101,121,115]) (.agg c10.toArray)) w9 λw11=>dJ [(str []),(i64 0),.nilFunc] [(0,1,(str [118])),(1,1,(i64 0)),(2,1,(.func (.func 165) #[] #[]))] λc12=>nY P0 (Instr.mapUpdate 164 t1 (str [108,101,110,103,116,104]) (.agg c12.toArray)) w11 λw13=>dJ [(str []),(i64 0),.nilFunc] [(0,1,(str [111,115,118])),(1,1,(i64 0)),(2,1,(.func (.func 166) #[] #[]))] λc14=>nY P0 (Instr.mapUpdate 164 t1 (str [108,111,111,107,117,112]) (.agg c14.toArray)) w13 λw15=>dJ [(str []),(i64 0),.nilFunc] [(0,1,(str [115])),(1,1,(i64 0)),(2,1,(.func (.func 167) #[] #[]))] λc16=>nY P0 (Instr.mapUpdate 164 t1 (str [108,111,119,101,114]) (.agg c16.toArray)) w15 λw17=>dJ [(str []),(i64 0),.nilFunc] [(0,1,(str [110,46])),(1,1,(i64 1)),(2,1,(.func (.func 169) #[] #[]))] λc18=>nY P0 (Instr.mapUpdate 164 t1 (str [109,97,120]) (.agg c18.toArray)) w17 λw19=>dJ [(str []),(i64 0),.nilFunc] [(0,1,(str [111,46])),(1,1,(i64 0)),(2,1,(.func (.func 171) #[] #[]))] λc20=>nY P0 (Instr.mapUpdate 164 t1 (str [109,101,114,103,101]) (.agg c20.toArray)) w19 λw21=>dJ [(str []),(i64 0),.nilFunc] [(0,1,(str [110,46])),(1,1,(i64 1)),(2,1,(.func (.func 172) #[] #[]))] λc22=>nY P0 (Instr.mapUpdate 164 t1 (str [109,105,110]) (.agg c22.toArray)) w21 λw23=>dJ [(str []),(i64 0),.nilFunc] [(0,1,(str [110])),(1,1,(i64 0)),(2,1,(.func (.func 173) #[] #[]))] λc24=>nY P0 (Instr.mapUpdate 164 t1 (str [114,97,110,103,101]) (.agg c24.toArray)) w23 λw25=>dJ [(str []),(i64 0),.nilFunc] [(0,1,(str [118])),(1,1,(i64 0)),(2,1,(.func (.func 174) #[] #[]))] λc26=>nY P0 (Instr.mapUpdate 164 t1 (str [114,101,118,101,114,115,101]) (.agg c26.toArray)) w25 λw27=>dJ [(str []),(i64 0),.nilFunc] [(0,1,(str [115,115])),(1,1,(i64 0)),(2,1,(.func (.func 175) #[] #[]))] λc28=>nY P0 (Instr.mapUpdate 164 t1 (str [115,112,108,105,116]) (.agg c28.toArray)) w27 λw29=>dJ [(str []),(i64 0),.nilFunc] [(0,1,(str [115,110,110])),(1,1,(i64 0)),(2,1,(.func (.func 176) #[] #[]))] λc30=>nY P0 (Instr.mapUpdate 164 t1 (str [115,117,98,115,116,114]) (.agg c30.toArray)) w29 λw31=>dJ [(str []),(i64 0),.nilFunc] [(0,1,(str [118])),(1,1,(i64 0)),(2,1,(.func (.func 177) #[] #[]))] λc32=>nY P0 (Instr.mapUpdate 164 t1 (str [116,111,105,110,116]) (.agg c32.toArray)) w31 λw33=>dJ [(str []),(i64 0),.nilFunc] [(0,1,(str [118])),(1,1,(i64 0)),(2,1,(.func (.func 178) #[] #[]))] λc34=>nY P0 (Instr.mapUpdate 164 t1 (str [116,111,115,116,114,105,110,103]) (.agg c34.toArray)) w33 λw35=>dJ [(str []),(i64 0),.nilFunc] [(0,1,(str [115])),(1,1,(i64 0)),(2,1,(.func (.func 179) #[] #[]))] λc36=>nY P0 (Instr.mapUpdate 164 t1 (str [117,112,112,101,114]) (.agg c36.toArray)) w35 λw37=>dJ [(str []),(i64 0),.nilFunc] [(0,1,(str [111])),(1,1,(i64 0)),(2,1,(.func (.func 180) #[] #[]))] λc38=>nY P0 (Instr.mapUpdate 164 t1 (str [118,97,108,117,101,115]) (.agg c38.toArray)) w37 λw39=>K t1 w39
theorem Zc{K:Q0}(h:aFk w K):aC P0 126 [] w K:=
 tie _ 126 Tryz.f126 VQ _ w K 0 _ rfl mixed Tryz.func126 (by kernel_rfl) (by kernel_rfl) Tryz.call126 h
def VP:cO:={js:=[],ds:=[]}
def aFj(v0:Value)(w:World)(K:Q0):=eW 26 v0 w λt1 w1=>ldW true 5 t1 w1 λt3=>aC P0 96 [t3] w1 λt4 w2=>unW .not t4 λt5=>K t5 w2
theorem Zb{K:Q0}(h:aFj v0 w K):aC P0 127 [v0] w K:=
 tie _ 127 Tryz.f127 VP _ w K 1 _ rfl mixed Tryz.func127 (by kernel_rfl) (by kernel_rfl) Tryz.call127 h
def VO:cO:={js:=[(36005,⟨[50],[],47⟩),(22,⟨[35],[4,7,8,9],35⟩),(12006,⟨[31],[],27⟩),(4,⟨[5],[],3⟩)],ds:=[]}
def aFi(v0 v1:Value)(w:World)(K:Q0):=eW 162 v0 w λt2 w1=>aZ 0 t2 λt11=>ldW false 1 t11 w1 λt12=>aC P0 182 [t12,(str [46])] w1 λt13 w2=>dO 0 t13 λt14=>dO 1 t13 λt15=>bU (λJ3=>aS t15 (dA v1 λt19=>aC P0 183 [t14,t19] w2 λt20 w4=>J3 [t20] w4) (J3 [t14] w2)) λs3 _ w5=>dA v1 λt22=>iT (s3.getD 0 undef) λt24=>aQ .neq t22 t24 λt25=>GdW (isB t25 false) [undef] w5 (λJ6=>dA v1 λt28=>aZ 1 t2 λt29=>ldW false 1 t29 w5 λt30=>aQ .lss t28 t30 λt31=>J6 [t31] w5) λs6 _ w7=>cV t25 (.bool true) (s6.getD 0 undef) λt32=>aS t32 (K (.bool false) w7) (dA v1 λt34=>cY [(i64 0)] w7 λs8 _ w9 L8=>aQ .lss (s8.getD 0 undef) t34 λt36=>aS t36 (dP none 5 v1 (s8.getD 0 undef) λt38=>ldW true 5 t38 w9 λt39=>bQ 26 zL0 w9 λt8 w10=>stW 5 t8 t39 w10 λw11=>qE (s3.getD 0 undef) (s8.getD 0 undef) λt42=>aC P0 184 [t42] w11 λt43 w12=>aQ .geq t43 (i64 0) λt45=>GdW (isB t45 true) [undef] w12 (λJ13=>aZ 0 t8 λt47=>ldW false 1 t47 w12 λt48=>aQ .neq t48 t43 λt50=>J13 [t50] w12) λs13 _ w14=>cV t45 (s13.getD 0 undef) (.bool false) λt51=>aS t51 (K (.bool false) w14) (aQ .add (s8.getD 0 undef) (i64 1) λt52=>L8 [t52] w14)) (K (.bool true) w9))
theorem Za{K:Q0}(h:aFi v0 v1 w K):aC P0 128 [v0,v1] w K:=
 tie _ 128 Tryz.f128 VO _ w K 2 _ rfl mixed Tryz.func128 (by kernel_rfl) (by kernel_rfl) Tryz.call128 h
def Vu:cO:={js:=[(8,⟨[10],[6],10⟩)],ds:=[(19,⟨[0,1,2,4,6],[[],[0],[],[2],[2,3],[0,1,2,3,4],[0,1,2,3,4,5],[0,1,2,3,4,5,6]]⟩)]}
def aE1(v0:Value)(w:World)(K:Q0):=bQ 26 zL0 w λt2 w1=>dJ [(i64 0),(.bool false),(str []),sN,sN] [(0,1,(i64 5))] λc2=>bQ 26 zL0 w1 λt4 w3=>stW 5 t4 (.agg c2.toArray) w3 λw4=>dA v0 λt9=>cY [(i64 0)] w4 λs5 _ w6 L5=>aQ .lss (s5.getD 0 undef) t9 λt11=>aS t11 (dP none 5 v0 (s5.getD 0 undef) λt12=>ldW true 5 t12 w6 λt13=>bQ 26 zL0 w6 λt6 w7=>stW 5 t6 t13 w7 λw8=>aZ 3 t4 λt14=>ldW false 1 t14 w8.drew λt15=>ldW true 5 t6 w8.drew λt16=>aC P0 88 [t16] w8.drew λt17 w9=>(ldW false 1 t14 w9 λx=>x=t15)/\lT false 3 1 t17 λt18=>dF P0 (Builtin.append_ #[23,23] 23 #[t15,t18]) w9 λt19 w10=>aZ 3 t4 λt20=>stW 1 t20 t19 w10 λw11=>aQ .add (s5.getD 0 undef) (i64 1) λt21=>L5 [t21] w11) (ldW true 5 t4 w6 λt22=>stW 5 t2 t22 w6 λw12=>ldW true 5 t2 w12 λr13=>K (.tuple #[r13,(.bool true)]) w12)
theorem YE{K:Q0}(h:aE1 v0 w K):aC P0 160 [v0] w K:=
 tie _ 160 Tryz.f160 Vu _ w K 1 _ rfl mixed Tryz.func160 (by kernel_rfl) (by kernel_rfl) Tryz.call160 h
def Vt:cO:={js:=[(12,⟨[17],[],3⟩)],ds:=[]}
def aE0(v0:Value)(w:World)(K:Q0):=bQ 26 zL0 w λt2 w1=>dP none 5 v0 (i64 0) λt5=>aZ 0 t5 λt6=>ldW false 1 t6 w1 λt7=>aQ .eql t7 (i64 4) λt9=>aS t9 (dP none 5 v0 (i64 0) λt11=>aZ 2 t11 λt12=>ldW false 1 t12 w1 λt13=>aC P0 216 [t13] w1 λt14 w2=>dA t14 λt15=>aC P0 215 [t15] w2 λt16 w3=>stW 5 t2 t16 w3 λw4=>ldW true 5 t2 w4 λr5=>K (.tuple #[r5,(.bool true)]) w4) (bU (λJ6=>aQ .eql t7 (i64 5) λt18=>aS t18 (J6 [t18] w1) (aQ .eql t7 (i64 6) λt19=>J6 [t19] w1)) λs6 _ w7=>aS (s6.getD 0 undef) (dP none 5 v0 (i64 0) λt21=>aZ 3 t21 λt22=>ldW false 1 t22 w7 λt23=>dA t23 λt24=>aC P0 215 [t24] w7 λt25 w8=>stW 5 t2 t25 w8 λw9=>ldW true 5 t2 w9 λr10=>K (.tuple #[r10,(.bool true)]) w9) (dJ [(i64 0),(.bool false),(str []),sN,sN] [] λc11=>stW 5 t2 (.agg c11.toArray) w7 λw12=>ldW true 5 t2 w12 λr13=>K (.tuple #[r13,(.bool false)]) w12))
theorem YD{K:Q0}(h:aE0 v0 w K):aC P0 165 [v0] w K:=
 tie _ 165 Tryz.f165 Vt _ w K 1 _ rfl mixed Tryz.func165 (by kernel_rfl) (by kernel_rfl) Tryz.call165 h
def Vs:cO:={js:=[],ds:=[]}
def aEZ(v0:Value)(w:World)(K:Q0):=bQ 26 zL0 w λt2 w1=>dP none 5 v0 (i64 0) λt7=>ldW true 5 t7 w1 λt8=>aC P0 88 [t8] w1 λt9 w2=>bQ 26 zL0 w2 λt4 w3=>stW 5 t4 t9 w3 λw4=>aZ 0 t4 λt10=>ldW false 1 t10 w4 λt11=>aQ .eql t11 (i64 4) λt13=>aS t13 (aZ 2 t4 λt14=>ldW false 1 t14 w4 λt15=>aC P0 216 [t15] w4 λt16 w5=>aC P0 218 [t16] w5 λt18 w6=>aC P0 40 [t16,(str [])] w6 λt20 w7=>aC P0 87 [t20] w7 λt21 w8=>stW 5 t2 t21 w8 λw9=>ldW true 5 t2 w9 λr10=>K (.tuple #[r10,(.bool true)]) w9) (aQ .eql t11 (i64 5) λt23=>aS t23 (aZ 3 t4 λt24=>ldW false 1 t24 w4 λt25=>aC P0 219 [t25] w4 λt26 w11=>ldW true 5 t4 w11 λt27=>stW 5 t2 t27 w11 λw12=>ldW true 5 t2 w12 λr13=>K (.tuple #[r13,(.bool true)]) w12) (dJ [(i64 0),(.bool false),(str []),sN,sN] [] λc14=>stW 5 t2 (.agg c14.toArray) w4 λw15=>ldW true 5 t2 w15 λr16=>K (.tuple #[r16,(.bool false)]) w15))
theorem YC{K:Q0}(h:aEZ v0 w K):aC P0 174 [v0] w K:=
 tie _ 174 Tryz.f174 Vs _ w K 1 _ rfl mixed Tryz.func174 (by kernel_rfl) (by kernel_rfl) Tryz.call174 h
def Vr:cO:={js:=[],ds:=[]}
def aEY(v0:Value)(w:World)(K:Q0):=aQ .eql v0 (.int .u8 110) λt5=>aS t5 (K (i64 3) w) (aQ .eql v0 (.int .u8 115) λt7=>aS t7 (K (i64 4) w) (aQ .eql v0 (.int .u8 108) λt9=>aS t9 (K (i64 5) w) (aQ .eql v0 (.int .u8 111) λt11=>aS t11 (K (i64 6) w) (K (.int .i64 (-1)) w))))
theorem YB{K:Q0}(h:aEY v0 w K):aC P0 184 [v0] w K:=
 tie _ 184 Tryz.f184 Vr _ w K 1 _ rfl mixed Tryz.func184 (by kernel_rfl) (by kernel_rfl) Tryz.call184 h
def UX:cO:={js:=[(10,⟨[3,4],[3,4,5],8⟩)],ds:=[]}
def aEG(v0:Value)(w:World)(K:Q0):=dF P0 (Instr.range 9 v0) w λt7 w1=>cY [sN,(i64 0)] w1 λs2 _ w3 L2=>dF P0 (Instr.next t7 true 0) w3 λt8 w4=>dO 0 t8 λt9=>aS t9 (dO 1 t8 λt10=>aQ .gtr t10 (i64 0) λt12=>aS t12 (mY v0 (some (s2.getD 1 undef)) (some t10) λt17=>dN 9 1 [(str [])] [(0,1,t17)] w4 λt18 w5=>dF P0 (Builtin.append_ #[24,24] 24 #[(s2.getD 0 undef),t18]) w5 λt19 w6=>L2 [t19,t10] w6) (L2 [(s2.getD 0 undef),(s2.getD 1 undef)] w4)) (aQ .neq v0 (str []) λt22=>aS t22 (mY v0 (some (s2.getD 1 undef)) none λt26=>dN 9 1 [(str [])] [(0,1,t26)] w4 λt27 w7=>dF P0 (Builtin.append_ #[24,24] 24 #[(s2.getD 0 undef),t27]) w7 λt28 w8=>K t28 w8) (K (s2.getD 0 undef) w4))
theorem Yi{K:Q0}(h:aEG v0 w K):aC P0 216 [v0] w K:=
 tie _ 216 Tryz.f216 UX _ w K 1 _ rfl mixed Tryz.func216 (by kernel_rfl) (by kernel_rfl) Tryz.call216 h
def W3(v0 v1 v2:Value)(w:World)(K:Q0):=eW 26 v1 w λt4 w1=>aC P0 9 [] w1 λt16 w2=>unW .not t16 λt17=>aS t17 (K (.bool false) w2) (iT v0 λt21=>WE t21 (i64 3000) λt22=>mY v0 none (some t22) λt23=>aC P0 10 [t23] w2 λt24 w3=>dO 0 t24 λt25=>dO 1 t24 λt26=>bQ 32 [sN,sN,sN] w3 λt7 w4=>stW 3 t7 t25 w4 λw5=>eqW .ptr true t26 (.pointer none) λt28=>GdW (isB t28 false) [undef] w5 (λJ6=>ldW true 5 t4 w5 λt30=>aC P0 11 [t30] w5 λt31 w7=>unW .not t31 λt32=>J6 [t32] w7) λs6 _ w8=>cV t28 (.bool true) (s6.getD 0 undef) λt33=>GdW (isB t33 false) [undef] w8 (λJ9=>iT v2 λt36=>aQ .gtr t36 (i64 16384) λt37=>J9 [t37] w8) λs9 _ w10=>cV t33 (.bool true) (s9.getD 0 undef) λt38=>aS t38 (K (.bool true) w10) (bU (λJ11=>ldW true 5 t4 w10.drew λt39=>(aC P0 13 [] w10.drew λt41 w12=>(ldW true 5 t4 w12 λx=>x=t39)/\(aC P0 12 [t39,v2,t41] w12 λt42 w13=>bQ 26 zL0 w13 λt9 w14=>stW 5 t9 t42 w14 λw15=>J11 [t9] w15)/\(bQ 26 zL0 w12 λt9 w16=>(ldW true 5 t4 w16 λx=>x=t39)/\aC P0 12 [t39,v2,t41] w16 λt42 w17=>stW 5 t9 t42 w17 λw18=>J11 [t9] w18))/\(bQ 26 zL0 w10.drew λt9 w19=>(ldW true 5 t4 w19 λx=>x=t39)/\aC P0 13 [] w19 λt41 w20=>(ldW true 5 t4 w20 λx=>x=t39)/\aC P0 12 [t39,v2,t41] w20 λt42 w21=>stW 5 t9 t42 w21 λw22=>J11 [t9] w22)) λs11 _ w23=>cY [(i64 0)] w23 λs24 _ w25 L24=>aZ 0 t7 λt44=>ldW false 1 t44 w25 λt45=>dA t45 λt46=>aQ .lss (s24.getD 0 undef) t46 λt47=>GdW (isB t47 true) [undef] w25 (λJ26=>aQ .lss (s24.getD 0 undef) (i64 60) λt50=>J26 [t50] w25) λs26 _ w27=>cV t47 (s26.getD 0 undef) (.bool false) λt51=>aS t51 (bU (λJ28=>ldW true 3 t7 w27 λt55=>ldW true 5 (s11.getD 0 undef) w27 λt57=>aC P0 14 [t55,(s24.getD 0 undef),t57] w27 λt58 w29=>dO 0 t58 λt59=>dO 1 t58 λt60=>bQ 26 zL0 w29 λt11 w30=>stW 5 t11 t59 w30 λw31=>eqW .ptr true t60 (.pointer none) λt62=>GdW (isB t62 false) [undef] w31 (λJ32=>ldW true 5 t11 w31 λt64=>aC P0 15 [t64] w31 λt65 w33=>unW .not t65 λt66=>J32 [t66] w33) λs32 _ w34=>cV t62 (.bool true) (s32.getD 0 undef) λt67=>aS t67 (J28 [] w34) (ldW true 5 t4 w34 λt69=>aC P0 16 [t69,v2] w34 λt71 w35=>dO 0 t71 λt72=>dO 1 t71 λt73=>bQ 26 zL0 w35 λt13 w36=>stW 5 t13 t72 w36 λw37=>unW .not t73 λt75=>aS t75 (J28 [] w37) (ldW true 3 t7 w37 λt77=>ldW true 5 t4 w37 λt79=>aC P0 14 [t77,(s24.getD 0 undef),t79] w37 λt80 w38=>dO 0 t80 λt81=>dO 1 t80 λt82=>bQ 26 zL0 w38 λt15 w39=>stW 5 t15 t81 w39 λw40=>eqW .ptr false t82 (.pointer none) λt84=>GdW (isB t84 true) [undef] w40 (λJ41=>ldW true 5 t11 w40 λt86=>ldW true 5 t15 w40 λt87=>aC P0 17 [t86,t87] w40 λt88 w42=>unW .not t88 λt89=>J41 [t89] w42) λs41 _ w43=>cV t84 (s41.getD 0 undef) (.bool false) λt90=>aS t90 (K (.bool false) w43) (J28 [] w43)))) λs28 _ w44=>aQ .add (s24.getD 0 undef) (i64 1) λt53=>L24 [t53] w44) (K (.bool true) w27)))
def aDO:cO:={js:=[(56007,⟨[73],[],69⟩),(56011,⟨[66],[],65⟩),(19003,⟨[23],[],22⟩),(16,⟨[6],[],6⟩)],ds:=[(62,⟨[0,2,3,4,5,6,7,8,9,11,12,14,15,16,17,18,19,20,21,23,24,25,26,28,29],[[],[0],[0,1],[0,1,2],[],[],[5],[],[5,6,7],[5,6,7,8],[0,1,2,3,4,5,6,7,8,9],[0,1,2,3,4,5,6,7,8,9,10],[0,1,2,3,4,5,6,7,8,9,10,11],[0,1,2,3,4,5,6,7,8,9,10,11,12],[0,1,2,3,4,5,6,7,8,9,10,11,12,13],[0,1,2,3,4,5,6,7,8,9,10,11,12,13,14],[0,1,2,3,4,5,6,7,8,9,10,11],[0,1,2,3,4,5,6,7,8,9,10,11],[0,1,2,3,4,5,6,7,8,9,10,11,17],[0,1,2,3,4,5,6,7,8,9,10,11],[0,1,2,3,4,5,6,7,8,9,10,11,17,18,19],[0,1,2,3,4,5,6,7,8,9,10,11,17,18,19,20],[0,1,2,3,4,5,6,7,8,9,10,11,12,13,14,15,16,17,18,19,20,21],[0,1,2,3,4,5,6,7,8,9,10,11,12,13,14,15,16,17,18,19,20,21,22],[0,1,2,3,4,5,6,7,8,9,10,11,12,13,14,15,16,17,18,19,20,21,22,23],[0,1,2,3,4,5,6,7,8,9,10,11,12,13,14,15,16,17,18,19,20,21,22,23,24],[0,1,2,3,4,5,6,7,8,9,10,11,12,13,14,15,16,17,18,19,20,21,22,23,24],[0,1,2,3,4,5,6,7,8,9,10,11,12,13,14,15,16,17,18,19,20,21,22,23,24,25,26],[0,1,2,3,4,5,6,7,8,9,10,11,12,13,14,15,16,17,18,19,20,21,22,23,24,25,26,27],[0,1,2,3,4,5,6,7,8,9,10,11,12,13,14,15,16,17,18,19,20,21,22,23,24,25,26,27,28]]⟩),(25,⟨[0,1,2,3,4,5,9],[[],[0],[],[],[2,3],[2,3,4],[2,3,4,5],[2,3,4,5,6],[0,1,2,3,4,5,6,7],[0,1,2,3,4,5,6,7,8],[0,1,2,3,4,5,6,7,8,9]]⟩)]}
def W5(v0 v1:Value)(w:World)(K:Q0):=aC P0 9 [] w λt14 w1=>unW .not t14 λt15=>aS t15 (K (.bool false) w1) (dJ [(i64 0),(.bool false),(str []),sN,sN] [(0,1,(i64 5))] λc2=>bQ 26 zL0 w1 λt5 w3=>stW 5 t5 (.agg c2.toArray) w3 λw4=>cY [(i64 0)] w4 λs5 _ w6 L5=>dA v0 λt19=>aQ .lss (s5.getD 0 undef) t19 λt20=>GdW (isB t20 true) [undef] w6 (λJ7=>aQ .lss (s5.getD 0 undef) (i64 30) λt23=>J7 [t23] w6) λs7 _ w8=>cV t20 (s7.getD 0 undef) (.bool false) λt24=>aS t24 (aZ 3 t5 λt27=>ldW false 1 t27 w8.drew λt28=>dP none 1 v0 (s5.getD 0 undef) λt31=>ldW false 1 t31 w8.drew λt32=>aC P0 18 [t32] w8.drew λt33 w9=>(ldW false 1 t27 w9 λx=>x=t28)/\dN 26 1 [(i64 0),(.bool false),(str []),sN,sN] [(0,5,t33)] w9 λt34 w10=>(ldW false 1 t27 w10 λx=>x=t28)/\dF P0 (Builtin.append_ #[23,23] 23 #[t28,t34]) w10 λt35 w11=>aZ 3 t5 λt36=>stW 1 t36 t35 w11 λw12=>aQ .add (s5.getD 0 undef) (i64 1) λt26=>L5 [t26] w12) (aZ 3 t5 λt37=>ldW false 1 t37 w8 λt38=>dA t38 λt39=>dJ [(i64 0),(.bool false),(str []),sN,sN] [(0,1,(i64 6))] λc13=>ldW true 5 t5 w8 λt41=>aC P0 12 [(.agg c13.toArray),(str [108]),t41] w8 λt42 w14=>aC P0 18 [t39] w14 λt44 w15=>aC P0 12 [t42,(str [110]),t44] w15 λt45 w16=>bQ 26 zL0 w16 λt8 w17=>stW 5 t8 t45 w17 λw18=>aC P0 19 [(.bool true)] w18 λt46 w19=>bQ 26 zL0 w19 λt9 w20=>stW 5 t9 t46 w20 λw21=>ldW true 5 t8 w21 λt47=>ldW true 5 t9 w21 λt48=>aC P0 20 [(str [108,101,110,103,116,104,40,108,41,32,61,61,32,110,32,38,38,32,91,102,111,114,32,120,32,105,110,32,108,32,58,32,120,93,32,61,61,32,108,32,38,38,32,91,102,111,114,32,120,32,105,110,32,108,32,58,32,123,107,32,61,32,120,125,93,91,42,93,46,107,32,61,61,32,108,32,38,38,32,99,111,110,99,97,116,40,108,44,32,91,93,41,32,61,61,32,108]),t47,t48] w21 λt49 w22=>unW .not t49 λt50=>aS t50 (K (.bool false) w22) (ldW true 5 t8 w22 λt51=>ldW true 5 t9 w22 λt52=>aC P0 20 [(str [91,102,111,114,32,120,32,105,110,32,108,32,58,32,91,102,111,114,32,121,32,105,110,32,108,32,58,32,120,32,42,32,121,93,93,32,61,61,32,91,102,111,114,32,121,32,105,110,32,108,32,58,32,91,102,111,114,32,120,32,105,110,32,108,32,58,32,121,32,42,32,120,93,93]),t51,t52] w22 λt53 w23=>unW .not t53 λt54=>aS t54 (K (.bool false) w23) (aQ .eql t39 (i64 0) λt56=>aS t56 (ldW true 5 t8 w23 λt58=>aC P0 21 [(str [108,91,48,93]),t58] w23 λt59 w24=>dO 0 t59 λt60=>dO 1 t59 λt61=>dO 2 t59 λt62=>bQ 26 zL0 w24 λt10 w25=>stW 5 t10 t60 w25 λw26=>GdW (isB t62 true) [undef] w26 (λJ27=>eqW .ptr true t61 (.pointer none) λt66=>J27 [t66] w26) λs27 _ w28=>cV t62 (s27.getD 0 undef) (.bool false) λt67=>GdW (isB t67 true) [undef] w28 (λJ29=>eF t61 λt70=>aZ 0 t70 λt71=>ldW false 1 t71 w28 λt72=>aQ .eql t72 (i64 82) λt73=>J29 [t73] w28) λs29 _ w30=>cV t67 (s29.getD 0 undef) (.bool false) λt74=>K t74 w30) (sK .u64 v1 λt76=>sK .u64 t39 λt78=>aQ .rem t76 t78 λt79=>sK .i64 t79 λt80=>ldW true 5 t8 w23.drew λt85=>aZ 3 t5 λt86=>ldW false 1 t86 w23.drew λt87=>dP none 5 t87 t80 λt89=>ldW true 5 t89 w23.drew λt90=>aC P0 22 [t80] w23.drew λt82 w31=>(ldW true 5 t89 w31 λx=>x=t90)/\(ldW false 1 t86 w31 λx=>x=t87)/\(ldW true 5 t8 w31 λx=>x=t85)/\aQ .add (str [108,91]) t82 λt83=>aQ .add t83 (str [93]) λt84=>aC P0 20 [t84,t85,t90] w31 λt91 w32=>GqW (isB t91 true) (λk33=>k33 t80) λt93=>GqW (isB t91 true) (λk34=>ldW true 5 t8 w32 k34) λt97=>GqW (isB t91 true) (λk35=>aZ 3 t5 k35) λt98=>GqW (isB t91 true) (λk36=>ldW false 1 t98 w32 k36) λt99=>GqW (isB t91 true) (λk37=>k37 t80) λt100=>GqW (isB t91 true) (λk38=>dP none 5 t99 t100 k38) λt101=>GqW (isB t91 true) (λk39=>ldW true 5 t101 w32 k39) λt102=>GeW (isB t91 true) w32 (λk40=>aC P0 22 [t93] w32 k40) λt94 w41=>((isB t91 true)=true->ldW true 5 t101 w41 λx=>x=t102)/\((isB t91 true)=true->ldW false 1 t98 w41 λx=>x=t99)/\((isB t91 true)=true->ldW true 5 t8 w41 λx=>x=t97)/\GqW (isB t91 true) (λk42=>aQ .add (str [123,97,32,61,32,108,44,32,98,32,61,32,123,99,32,61,32,108,91]) t94 k42) λt95=>GqW (isB t91 true) (λk43=>aQ .add t95 (str [93,125,125,46,98,46,99]) k43) λt96=>GeW (isB t91 true) w41 (λk44=>aC P0 20 [t96,t97,t102] w41 k44) λt103 w45=>cV t91 t103 (.bool false) λt104=>GqW (isB t104 true) (λk46=>ldW true 5 t8 w45 k46) λt106=>GqW (isB t104 true) (λk47=>ldW true 5 t9 w45 k47) λt107=>GeW (isB t104 true) w45 (λk48=>aC P0 20 [(str [114,101,118,101,114,115,101,40,108,41,91,110,32,45,32,49,93,32,61,61,32,108,91,48,93]),t106,t107] w45 k48) λt108 w49=>cV t104 t108 (.bool false) λt109=>K t109 w49)))))
theorem aEj{K:Q0}(h:W5 v0 v1 w K):aC P0 5 [v0,v1] w K:=
 tie _ 5 Tryz.f5 aDO _ w K 2 _ rfl mixed Tryz.func5 (by kernel_rfl) (by kernel_rfl) Tryz.call5 h
def aDN:cO:={js:=[],ds:=[(7,⟨[0,3,4,7,8,9,10,11,12,14,15],[[],[],[0,1],[0,1,2],[0,1,2,3],[0,1,2,3],[0,1,2,3,4,5],[0,1,2,3,4,5,6],[0,1,2,3,4,5,6,7],[0,1,2,3,4,5,6,7,8],[0,1,2,3,4,5,6,7,8,9],[0,1,2,3,4,5,6,7,8,9,10],[0,1,2,3,4,5,6,7,8,9,10,11],[0,1,2,3,4,5,6,7,8,9,10,11,12],[0,1,2,3,4,5,6,7,8,9,10,11,12,13],[0,1,2,3,4,5,6,7,8,9,10,11,12,13,14]]⟩)]}
def W9(w:World)(K:Q0):=dJ [(i64 0),(.bool false),(str []),sN,sN] [(0,1,(i64 6))] λc1=>bQ 26 zL0 w λt1 w2=>stW 5 t1 (.agg c1.toArray) w2 λw3=>ldW true 5 t1 w3 λt7=>aC P0 21 [(str [49,32,47,32,48]),t7] w3 λt8 w4=>dO 0 t8 λt9=>dO 1 t8 λt10=>dO 2 t8 λt11=>bQ 26 zL0 w4 λt2 w5=>stW 5 t2 t9 w5 λw6=>ldW true 5 t1 w6.drew λt12=>aC P0 18 [(i64 7)] w6.drew λt13 w7=>(ldW true 5 t1 w7 λx=>x=t12)/\aC P0 20 [(str [49,32,43,32,50,32,42,32,51]),t12,t13] w7 λt14 w8=>GqW (isB t14 true) (λk9=>ldW true 5 t1 w8 k9) λt16=>GeW (isB t14 true) w8 (λk10=>aC P0 24 [(str [97,49,116,114,117,101])] w8 k10) λt17 w11=>((isB t14 true)=true->ldW true 5 t1 w11 λx=>x=t16)/\GeW (isB t14 true) w11 (λk12=>aC P0 20 [(str [34,97,36,123,49,125,36,123,116,114,117,101,125,34]),t16,t17] w11 k12) λt18 w13=>cV t14 t18 (.bool false) λt19=>GqW (isB t19 true) (λk14=>k14 t11) λt21=>cV t19 t21 (.bool false) λt22=>GqW (isB t22 true) (λk15=>k15 t10) λt24=>GeW (isB t22 true) w13 (λk16=>aC P0 25 [t24,(i64 10),(i64 12)] w13 k16) λt25 w17=>cV t22 t25 (.bool false) λt26=>K t26 w17
theorem aEi{K:Q0}(h:W9 w K):aC P0 9 [] w K:=
 tie _ 9 Tryz.f9 aDN _ w K 0 _ rfl mixed Tryz.func9 (by kernel_rfl) (by kernel_rfl) Tryz.call9 h
def Mm:cO:={js:=[(10,⟨[19],[9,10],19⟩)],ds:=[(21,⟨[0,1,2,3,4,5,6,7,8,9],[[],[0],[0,1],[0,1,2],[],[],[5],[],[5,6,7],[5,6,7,8],[0,1,2,3,4,5,6,7,8,9]]⟩)]}
def W14(v0 v1 v2:Value)(w:World)(K:Q0):=
 eW 32 v0 w λt3 w1=>
 eW 26 v2 w1 λt5 w2=>
 bQ 26 zL0 w2 λt6 w3=>
 bQ 33 [(.pointer none)] w3 λt7 w4=>
 letI:HX:=⟨λch x5=>yF P0 34 [t6,t7] (.panicking ch) x5 λw5=>
 ldW true 5 t6 w5 λr6=>
 ldW false 1 t7 w5 λr7=>
 K (.tuple #[r6,r7]) w5⟩
 ldW true 3 t3 w4 λt12=>
 dF P0 (Instr.makeMap 79 none) w4 λt13 w8=>
 dJ [sN,sN,sN,(.map none),(i64 0)] [(0,3,t12),(3,1,t13),(4,1,(i64 20000))] λc9=>
 eW 81 (.agg c9.toArray) w8 λt15 w10=>
 aZ 4 t5 λt16=>
 ldW false 1 t16 w10 λt17=>
 dA t17 λt18=>
 cY [(i64 0)] w10 λs11 _ w12 L11=>
 aQ .lss (s11.getD 0 undef) t18 λt20=>
 aS t20 (
 dP none 1 t17 (s11.getD 0 undef) λt22=>
 ldW false 1 t22 w12 λt23=>
 eF t15 λt25=>
 aZ 3 t25 λt26=>
 ldW false 1 t26 w12.drew λt27=>
 aZ 3 t5 λt29=>
 ldW false 1 t29 w12.drew λt30=>
 dP none 5 t30 (s11.getD 0 undef) λt32=>
 ldW true 5 t32 w12.drew λt33=>
 nY P0 (Instr.mapUpdate 79 t27 t23 t33) w12.drew λw13=>
 aQ .add (s11.getD 0 undef) (i64 1) λt34=>
 L11 [t34] w13) (
 aC P0 35 [t15,v1] w12 λt37 w14=>
 stW 5 t6 t37 w14 λw15=>
 stW 1 t7 (.pointer none) w15 λw16=>
 yF P0 34 [t6,t7] .returning w16 λw17=>
 ldW true 5 t6 w17 λr18=>
 ldW false 1 t7 w17 λr19=>
 K (.tuple #[r18,r19]) w17)
theorem aDc(v0 v1 v2:Value)(w:World)(K:Q0):SE P0 Tryz.f14 Mm 1 [v0,v1,v2] w (Gr K)=W14 v0 v1 v2 w K:=by kernel_rfl
theorem YO:BR P0 Tryz.f14 Mm 8 34 1 3=true:=by kernel_rfl
theorem aDb{K:Q0}(h:W14 v0 v1 v2 w K):aC P0 14 [v0,v1,v2] w K:=
 aDw P0 14 Tryz.f14 Mm [v0,v1,v2] w K 8 34 1 3 (W14 v0 v1 v2 w K) rfl mixed Tryz.func14 YO (aDc v0 v1 v2 w K) Tryz.call14 Tryz.call34 h
def aBy:cO:={js:=[(5005,⟨[25],[],23⟩),(5009,⟨[20],[],19⟩)],ds:=[]}
def W20(v0 v1 v2:Value)(w:World)(K:Q0):=eW 26 v1 w λt4 w1=>eW 26 v2 w1 λt5 w2=>ldW true 5 t4 w2 λt12=>aC P0 21 [v0,t12] w2 λt13 w3=>dO 0 t13 λt14=>dO 1 t13 λt15=>dO 2 t13 λt16=>bQ 26 zL0 w3 λt7 w4=>stW 5 t7 t14 w4 λw5=>GdW (isB t16 true) [undef] w5 (λJ6=>eqW .ptr false t15 (.pointer none) λt20=>J6 [t20] w5) λs6 _ w7=>cV t16 (s6.getD 0 undef) (.bool false) λt21=>GdW (isB t21 true) [undef] w7 (λJ8=>ldW true 5 t7 w7 λt23=>ldW true 5 t5 w7 λt24=>aC P0 17 [t23,t24] w7 λt25 w9=>J8 [t25] w9) λs8 _ w10=>cV t21 (s8.getD 0 undef) (.bool false) λt26=>K t26 w10
theorem aC7{K:Q0}(h:W20 v0 v1 v2 w K):aC P0 20 [v0,v1,v2] w K:=
 tie _ 20 Tryz.f20 aBy _ w K 3 _ rfl mixed Tryz.func20 (by kernel_rfl) (by kernel_rfl) Tryz.call20 h
def aBx:cO:={js:=[(12,⟨[8,9],[],5⟩),(6008,⟨[32],[],26⟩),(6014,⟨[23],[],20⟩)],ds:=[(13,⟨[0,1,2,3,4,5,6,7,8,9,11,12,13,16],[[],[],[1],[1,2],[1,2,3],[1,2,3,4],[1,2,3,4,5],[1,2,3,4,5,6],[1,2,3,4,5,6,7],[],[0,1,2,3,4,5,6,7,8,9],[0,1,2,3,4,5,6,7,8,9,10],[0,1,2,3,4,5,6,7,8,9,10,11],[0,1,2,3,4,5,6,7,8,9,10,11],[],[0,1,2,3,4,5,6,7,8,9,10,11,12,14],[0,1,2,3,4,5,6,7,8,9,10,11,12,13,14,15]]⟩)]}
def W21(v0 v1:Value)(w:World)(K:Q0):=eW 26 v1 w λt3 w1=>bQ 26 zL0 w1 λt4 w2=>aQ .add (str [97,32,123,10,32,32,120,32,61,32]) v0 λt12=>aQ .add t12 (str [10,125]) λt13=>aC P0 10 [t13] w2 λt14 w3=>dO 0 t14 λt15=>dO 1 t14 λt16=>bQ 32 [sN,sN,sN] w3 λt7 w4=>stW 3 t7 t15 w4 λw5=>eqW .ptr true t16 (.pointer none) λt18=>GdW (isB t18 false) [undef] w5 (λJ6=>aZ 1 t7 λt20=>ldW false 1 t20 w5 λt21=>dA t21 λt22=>aQ .neq t22 (i64 1) λt23=>J6 [t23] w5) λs6 _ w7=>cV t18 (.bool true) (s6.getD 0 undef) λt24=>GdW (isB t24 false) [undef] w7 (λJ8=>aZ 1 t7 λt26=>ldW false 1 t26 w7 λt27=>dP none 5 t27 (i64 0) λt28=>aZ 2 t28 λt29=>ldW false 1 t29 w7 λt30=>dA t30 λt31=>aQ .neq t31 (i64 1) λt32=>J8 [t32] w7) λs8 _ w9=>cV t24 (.bool true) (s8.getD 0 undef) λt33=>aS t33 (dJ [(i64 0),(.bool false),(str []),sN,sN] [] λc10=>stW 5 t4 (.agg c10.toArray) w9 λw11=>ldW true 5 t4 w11 λr12=>K (.tuple #[r12,(.pointer none),(.bool false)]) w11) (bU (λJ13=>ldW true 3 t7 w9.drew λt36=>aZ 1 t7 λt37=>ldW false 1 t37 w9.drew λt38=>dP none 5 t38 (i64 0) λt39=>aZ 2 t39 λt40=>ldW false 1 t40 w9.drew λt41=>dP none 3 t41 (i64 0) λt42=>aZ 1 t42 λt43=>ldW false 1 t43 w9.drew λt44=>ldW true 5 t3 w9.drew λt45=>(aC P0 14 [t36,t44,t45] w9.drew λt46 w14=>dO 0 t46 λt47=>dO 1 t46 λt48=>bQ 26 zL0 w14 λt9 w15=>stW 5 t9 t47 w15 λw16=>J13 [t48,t9] w16)/\(bQ 26 zL0 w9.drew λt9 w17=>(ldW true 5 t3 w17 λx=>x=t45)/\(ldW false 1 t43 w17 λx=>x=t44)/\(ldW false 1 t40 w17 λx=>x=t41)/\(ldW false 1 t37 w17 λx=>x=t38)/\(ldW true 3 t7 w17 λx=>x=t36)/\aC P0 14 [t36,t44,t45] w17 λt46 w18=>dO 0 t46 λt47=>dO 1 t46 λt48=>stW 5 t9 t47 w18 λw19=>J13 [t48,t9] w19)) λs13 _ w20=>ldW true 5 (s13.getD 1 undef) w20 λt49=>stW 5 t4 t49 w20 λw21=>ldW true 5 t4 w21 λr22=>K (.tuple #[r22,(s13.getD 0 undef),(.bool true)]) w21)
theorem aC6{K:Q0}(h:W21 v0 v1 w K):aC P0 21 [v0,v1] w K:=
 tie _ 21 Tryz.f21 aBx _ w K 2 _ rfl mixed Tryz.func21 (by kernel_rfl) (by kernel_rfl) Tryz.call21 h
def Rq:cO:={js:=[],ds:=[(5,⟨[0,1,2],[[],[],[1],[0],[0,1,2,3]]⟩)]}
def R34(v0 v1:Value)(x:Value)(w:World)(K:World->Prop):Prop:=
 letI:HX:=noX
 eqQ P0 .neq 20 false true x .nilIface w λt5=>
 aS t5 (
 dJ [(i64 0),(.bool false),(str []),sN,sN] [] λc1=>
 nZ P0 (Instr.typeAssert x 20 33 false) w.drew λt8=>
 stW 5 v0 (.agg c1.toArray) w.drew λw2=>
 (nZ P0 (Instr.typeAssert x 20 33 false) w2 λx=>x=t8)/\
 stW 1 v1 t8 w2 λw3=>
 K w3) (
 K w)
theorem aDj(v0 v1:Value)(x:Value)(w:World)(K:World->Prop):Xf P0 Tryz.f34 Rq [v0,v1] x w K=R34 v0 v1 x w K:=by kernel_rfl
theorem Zw:DU P0 Tryz.f34 Rq 2=true:=by kernel_rfl
theorem TE{v0 v1:Value}{x:Value}{u:FrameMode}{K:World->Prop}(j:Finds u x)(h:R34 v0 v1 x w K):yF P0 34 [v0,v1] u w K:=
 Fv (args:=[v0,v1]) mixed Tryz.func34 Zw j (by rw[aDj];exact h)
def aBn:cO:={js:=[(46,⟨[],[],7⟩),(14,⟨[],[],7⟩),(32,⟨[7,38],[7,9],38⟩),(4,⟨[],[],6⟩)],ds:=[]}
def W35(v0 v1:Value)(w:World)(K:Q0):=bQ 26 zL0 w λt4 w1=>eF v0 λt11=>aZ 0 t11 λt12=>aZ 0 t12 λt13=>ldW false 1 t13 w1 λt14=>dP none 5 t14 v1 λt16=>ldW true 5 t16 w1 λt17=>bQ 93 zL4 w1 λt5 w2=>stW 5 t5 t17 w2 λw3=>bU (λJ4=>eF v0 λt19=>aZ 4 t19 λt20=>ldW false 1 t20 w3 λt21=>aQ .eql t21 (i64 0) λt22=>aS t22 (aZ 4 t5 λt23=>ldW false 1 t23 w3 λt24=>aC P0 57 [(i64 3),t24] w3 λt25 w5=>J4 [] w5) (J4 [] w3)) λs4 _ w6=>eF v0 λt27=>aZ 4 t27 λt28=>ldW false 1 t28 w6 λt29=>aQ .sub t29 (i64 1) λt30=>eF v0 λt31=>aZ 4 t31 λt32=>stW 1 t32 t30 w6 λw7=>bQ 26 zL0 w7 λt6 w8=>bU (λJ9=>aZ 0 t5 λt33=>ldW false 1 t33 w8 λt34=>aQ .eql t34 (i64 28) λt54=>aS t54 (ldW true 5 t5 w8 λt56=>aC P0 58 [v0,t56] w8 λt57 w10=>stW 5 t6 t57 w10 λw11=>J9 [] w11) (aQ .eql t34 (i64 29) λt59=>aS t59 (ldW true 5 t5 w8 λt61=>aC P0 59 [v0,t61] w8 λt62 w12=>stW 5 t6 t62 w12 λw13=>J9 [] w13) (aZ 2 t5 λt35=>ldW false 1 t35 w8 λt36=>dA t36 λt37=>cY [sN,(i64 0)] w8 λs14 _ w15 L14=>aQ .lss (s14.getD 1 undef) t37 λt39=>aS t39 (dP none 1 t36 (s14.getD 1 undef) λt40=>ldW false 1 t40 w15 λt41=>aC P0 35 [v0,t41] w15 λt45 w16=>dN 26 1 [(i64 0),(.bool false),(str []),sN,sN] [(0,5,t45)] w16 λt46 w17=>dF P0 (Builtin.append_ #[23,23] 23 #[(s14.getD 0 undef),t46]) w17 λt47 w18=>aQ .add (s14.getD 1 undef) (i64 1) λt48=>L14 [t47,t48] w18) (ldW true 5 t5 w15 λt50=>aC P0 60 [v0,t50,(s14.getD 0 undef)] w15 λt52 w19=>stW 5 t6 t52 w19 λw20=>J9 [] w20)))) λs9 _ w21=>bU (λJ22=>ldW true 5 t6 w21 λt63=>aC P0 61 [t63] w21 λt64 w23=>unW .not t64 λt65=>aS t65 (aZ 4 t5 λt66=>ldW false 1 t66 w23 λt67=>aC P0 57 [(i64 3),t67] w23 λt68 w24=>J22 [] w24) (J22 [] w23)) λs22 _ w25=>ldW true 5 t6 w25 λt69=>stW 5 t4 t69 w25 λw26=>ldW true 5 t4 w26 λr27=>K r27 w26
theorem aCW{K:Q0}(h:W35 v0 v1 w K):aC P0 35 [v0,v1] w K:=
 tie _ 35 Tryz.f35 aBn _ w K 2 _ rfl mixed Tryz.func35 (by kernel_rfl) (by kernel_rfl) Tryz.call35 h
def aBa:cO:={js:=[],ds:=[]}
def W57(v0 v1:Value)(w:World)(K:Q0):=dJ [(i64 0),(str []),(i64 0)] [(0,1,v0),(2,1,v1)] λc1=>eW 53 (.agg c1.toArray) w λt7 w2=>Pd (.iface 33 t7) w2
theorem aCJ{K:Q0}(h:W57 v0 v1 w K):aC P0 57 [v0,v1] w K:=
 tie _ 57 Tryz.f57 aBa _ w K 2 _ rfl mixed Tryz.func57 (by kernel_rfl) (by kernel_rfl) Tryz.call57 h
def aA9:cO:={js:=[(40,⟨[],[],9⟩),(25,⟨[42],[10],42⟩),(4,⟨[],[],6⟩)],ds:=[(46,⟨[0,1,2,3,4,5,6],[[],[0],[0,1],[0,1,2],[],[4],[],[0,1,2,3,4,5,6]]⟩),(42,⟨[0,1,2,3,4,5],[[],[0],[0,1],[0,1,2],[],[4],[0,1,2,3,4,5]]⟩),(38,⟨[0,1,2,3,4,5,6,10],[[],[0],[],[],[3],[3,4],[3,4,5],[2,3,4,5,6],[2,3,4,5,6,7],[0,1,2,3,4,5,6,7,8],[0,1,2,3,4,5,6,7,8,9],[0,1,2,3,4,5,6,7,8,9,10]]⟩),(37,⟨[0,1,2,3,4,5,6],[[],[0],[0,1],[0,1,2],[],[4],[],[0,1,2,3,4,5,6]]⟩),(18,⟨[0,1,2,3,4,5,6,7,8,9,12],[[],[0],[0,1],[0,1,2],[],[4],[0,1,2,3,4,5],[0,1,2,3,4,5,6],[0,1,2,3,4,5,6,7],[0,1,2,3,4,5,6,7],[],[0,1,2,3,4,5,6,7,8,10],[0,1,2,3,4,5,6,7,8,9,10,11]]⟩)]}
def W59(v0 v1:Value)(w:World)(K:Q0):=eW 93 v1 w λt3 w1=>bQ 26 zL0 w1 λt4 w2=>aZ 2 t3 λt12=>ldW false 1 t12 w2 λt13=>dP none 1 t13 (i64 0) λt14=>ldW false 1 t14 w2 λt15=>aC P0 35 [v0,t15] w2 λt16 w3=>bQ 26 zL0 w3 λt5 w4=>stW 5 t5 t16 w4 λw5=>bU (λJ6=>ldW true 5 t5 w5 λt18=>aC P0 84 [t18] w5 λt19 w7=>aS t19 (ldW true 5 t5 w7 λt20=>stW 5 t4 t20 w7 λw8=>ldW true 5 t4 w8 λr9=>K r9 w8) (aZ 0 t5 λt22=>ldW false 1 t22 w7 λt23=>aQ .neq t23 (i64 5) λt24=>aS t24 (aZ 4 t3 λt25=>ldW false 1 t25 w7 λt26=>aC P0 57 [(i64 81),t26] w7 λt27 w10=>J6 [] w10) (J6 [] w7))) λs6 _ w11=>eF v0 λt30=>aZ 3 t30 λt31=>ldW false 1 t31 w11.drew λt32=>aZ 1 t3 λt33=>ldW false 1 t33 w11.drew λt34=>nZ P0 (Instr.lookup 79 t32 t34 true) w11.drew λt35=>dO 0 t35 λt36=>dO 1 t35 λt37=>bQ 26 zL0 w11.drew λt6 w12=>(nZ P0 (Instr.lookup 79 t32 t34 true) w12 λx=>x=t35)/\(ldW false 1 t33 w12 λx=>x=t34)/\(ldW false 1 t31 w12 λx=>x=t32)/\stW 5 t6 t36 w12 λw13=>dJ [(i64 0),(.bool false),(str []),sN,sN] [(0,1,(i64 5))] λc14=>bQ 26 zL0 w13 λt8 w15=>stW 5 t8 (.agg c14.toArray) w15 λw16=>aZ 3 t5 λt39=>ldW false 1 t39 w16 λt40=>dA t40 λt41=>cY [(i64 0)] w16 λs17 _ w18 L17=>aQ .lss (s17.getD 0 undef) t41 λt43=>aS t43 (dP none 5 t40 (s17.getD 0 undef) λt44=>ldW true 5 t44 w18 λt45=>bQ 26 zL0 w18 λt10 w19=>stW 5 t10 t45 w19 λw20=>eF v0 λt47=>aZ 3 t47 λt48=>ldW false 1 t48 w20.drew λt49=>aZ 1 t3 λt50=>ldW false 1 t50 w20.drew λt51=>ldW true 5 t10 w20.drew λt52=>nY P0 (Instr.mapUpdate 79 t49 t51 t52) w20.drew λw21=>aZ 3 t8 λt53=>ldW false 1 t53 w21.drew λt54=>aZ 2 t3 λt56=>ldW false 1 t56 w21.drew λt57=>dP none 1 t57 (i64 1) λt58=>ldW false 1 t58 w21.drew λt59=>aC P0 35 [v0,t59] w21.drew λt60 w22=>(ldW false 1 t53 w22 λx=>x=t54)/\dN 26 1 [(i64 0),(.bool false),(str []),sN,sN] [(0,5,t60)] w22 λt61 w23=>(ldW false 1 t53 w23 λx=>x=t54)/\dF P0 (Builtin.append_ #[23,23] 23 #[t54,t61]) w23 λt62 w24=>aZ 3 t8 λt63=>stW 1 t63 t62 w24 λw25=>aQ .add (s17.getD 0 undef) (i64 1) λt64=>L17 [t64] w25) (bU (λJ26=>eF v0 λt66=>aZ 3 t66 λt67=>ldW false 1 t67 w18.drew λt68=>aZ 1 t3 λt69=>ldW false 1 t69 w18.drew λt70=>dF P0 (Builtin.delete_ #[79,9] 0 #[t68,t70]) w18.drew λ_ w27=>aS t37 (eF v0 λt73=>aZ 3 t73 λt74=>ldW false 1 t74 w27.drew λt75=>aZ 1 t3 λt76=>ldW false 1 t76 w27.drew λt77=>ldW true 5 t6 w27.drew λt78=>nY P0 (Instr.mapUpdate 79 t75 t77 t78) w27.drew λw28=>J26 [] w28) (J26 [] w27)) λs26 _ w29=>ldW true 5 t8 w29 λt79=>stW 5 t4 t79 w29 λw30=>ldW true 5 t4 w30 λr31=>K r31 w30)
theorem aCI{K:Q0}(h:W59 v0 v1 w K):aC P0 59 [v0,v1] w K:=
 tie _ 59 Tryz.f59 aA9 _ w K 2 _ rfl mixed Tryz.func59 (by kernel_rfl) (by kernel_rfl) Tryz.call59 h
def aA8:cO:={js:=[(128,⟨[150],[],7⟩),(119006,⟨[135],[],131⟩),(110,⟨[122],[],15⟩),(100,⟨[114],[],15⟩),(91,⟨[],[],12⟩),(39,⟨[],[],8⟩),(12,⟨[18],[],15⟩)],ds:=[(140,⟨[0,1,2,3,4,5,6],[[],[],[1],[1,2],[],[4],[4,5],[0,1,2,3,4,5,6],[0,1,2,3,4,5,6,7]]⟩),(136,⟨[0,1,2,3,4,5,6],[[],[],[1],[1,2],[],[4],[4,5],[0,1,2,3,4,5,6],[0,1,2,3,4,5,6,7]]⟩),(126,⟨[0,1,2,3,4,5,7,8,9,10],[[],[0],[0,1],[],[3],[3,4],[0,1,2,3,4,5],[],[7],[7,8],[0,1,2,3,4,5,6,7,8,9],[0,1,2,3,4,5,6,7,8,9,10],[0,1,2,3,4,5,6,7,8,9,10,11]]⟩),(108,⟨[0,1,2,3],[[],[],[1],[1,2],[0,1,2,3],[0,1,2,3,4]]⟩),(84,⟨[0,1,2,3,4,5,6],[[],[],[1],[1,2],[],[4],[4,5],[0,1,2,3,4,5,6],[0,1,2,3,4,5,6,7]]⟩),(78,⟨[0,1,2,3],[[],[],[1],[1,2],[0,1,2,3],[0,1,2,3,4]]⟩),(72,⟨[0,1,2,3],[[],[],[1],[1,2],[0,1,2,3],[0,1,2,3,4]]⟩),(38,⟨[0,1,2,3,4,5,6,7,8,9,12],[[],[0],[0,1],[0,1,2],[],[4],[0,1,2,3,4,5],[0,1,2,3,4,5,6],[0,1,2,3,4,5,6,7],[0,1,2,3,4,5,6,7],[],[0,1,2,3,4,5,6,7,8,10],[0,1,2,3,4,5,6,7,8,9,10,11]]⟩)]}
def W60(v0 v1 v2:Value)(w:World)(K:Q0):=eW 93 v1 w λt4 w1=>bQ 26 zL0 w1 λt6 w2=>aZ 0 t4 λt13=>ldW false 1 t13 w2 λt14=>aQ .eql t14 (i64 1) λt16=>aS t16 (aC P0 85 [] w2 λt17 w3=>stW 5 t6 t17 w3 λw4=>ldW true 5 t6 w4 λr5=>K r5 w4) (bU (λJ6=>aQ .eql t14 (i64 2) λt19=>aS t19 (J6 [t19] w2) (aQ .eql t14 (i64 3) λt20=>J6 [t20] w2)) λs6 _ w7=>aS (s6.getD 0 undef) (aZ 0 t4 λt21=>ldW false 1 t21 w7 λt22=>aQ .eql t22 (i64 2) λt23=>aC P0 86 [t23] w7 λt24 w8=>stW 5 t6 t24 w8 λw9=>ldW true 5 t6 w9 λr10=>K r10 w9) (aQ .eql t14 (i64 4) λt26=>aS t26 (aZ 1 t4 λt27=>ldW false 1 t27 w7 λt28=>dJ [(i64 0),(.bool false),(str []),sN,sN] [(0,1,(i64 3)),(2,1,t28)] λc11=>stW 5 t6 (.agg c11.toArray) w7 λw12=>ldW true 5 t6 w12 λr13=>K r13 w12) (aQ .eql t14 (i64 5) λt31=>aS t31 (aZ 1 t4 λt32=>ldW false 1 t32 w7 λt33=>aC P0 87 [t33] w7 λt34 w14=>stW 5 t6 t34 w14 λw15=>ldW true 5 t6 w15 λr16=>K r16 w15) (aQ .eql t14 (i64 9) λt36=>aS t36 (eF v0 λt39=>aZ 3 t39 λt40=>ldW false 1 t40 w7.drew λt41=>aZ 1 t4 λt42=>ldW false 1 t42 w7.drew λt43=>nZ P0 (Instr.lookup 79 t41 t43 true) w7.drew λt44=>dO 0 t44 λt45=>dO 1 t44 λt46=>bQ 26 zL0 w7.drew λt7 w17=>(nZ P0 (Instr.lookup 79 t41 t43 true) w17 λx=>x=t44)/\(ldW false 1 t42 w17 λx=>x=t43)/\(ldW false 1 t40 w17 λx=>x=t41)/\stW 5 t7 t45 w17 λw18=>bU (λJ19=>unW .not t46 λt48=>aS t48 (aZ 4 t4 λt49=>ldW false 1 t49 w18 λt50=>aC P0 57 [(i64 80),t50] w18 λt51 w20=>J19 [] w20) (J19 [] w18)) λs19 _ w21=>ldW true 5 t7 w21 λt52=>aC P0 88 [t52] w21 λt53 w22=>stW 5 t6 t53 w22 λw23=>ldW true 5 t6 w23 λr24=>K r24 w23) (aQ .eql t14 (i64 6) λt55=>aS t55 (ldW true 5 t4 w7 λt57=>aC P0 89 [v0,t57,v2] w7 λt59 w25=>stW 5 t6 t59 w25 λw26=>ldW true 5 t6 w26 λr27=>K r27 w26) (aQ .eql t14 (i64 7) λt61=>aS t61 (dJ [(i64 0),(.bool false),(str []),sN,sN] [(0,1,(i64 5)),(3,1,v2)] λc28=>stW 5 t6 (.agg c28.toArray) w7 λw29=>ldW true 5 t6 w29 λr30=>K r30 w29) (aQ .eql t14 (i64 8) λt65=>aS t65 (aZ 3 t4 λt67=>ldW false 1 t67 w7 λt68=>aC P0 90 [t68,v2] w7 λt70 w31=>dO 0 t70 λt71=>dO 1 t70 λt72=>bQ 26 zL0 w31 λt9 w32=>stW 5 t9 t71 w32 λw33=>ldW true 5 t9 w33 λt73=>stW 5 t6 t73 w33 λw34=>ldW true 5 t6 w34 λr35=>K r35 w34) (aQ .eql t14 (i64 10) λt75=>aS t75 (ldW true 5 t4 w7.drew λt76=>dP none 5 v2 (i64 0) λt78=>ldW true 5 t78 w7.drew λt79=>aC P0 91 [t76,t79] w7.drew λt80 w36=>stW 5 t6 t80 w36 λw37=>ldW true 5 t6 w37 λr38=>K r38 w37) (aQ .eql t14 (i64 30) λt82=>aS t82 (ldW true 5 t4 w7.drew λt83=>dP none 5 v2 (i64 0) λt85=>ldW true 5 t85 w7.drew λt86=>aC P0 92 [t83,t86] w7.drew λt87 w39=>stW 5 t6 t87 w39 λw40=>ldW true 5 t6 w40 λr41=>K r41 w40) (aQ .eql t14 (i64 11) λt89=>aS t89 (ldW true 5 t4 w7.drew λt90=>dP none 5 v2 (i64 0) λt92=>ldW true 5 t92 w7.drew λt93=>dP none 5 v2 (i64 1) λt95=>ldW true 5 t95 w7.drew λt96=>aC P0 93 [t90,t93,t96] w7.drew λt97 w42=>stW 5 t6 t97 w42 λw43=>ldW true 5 t6 w43 λr44=>K r44 w43) (aQ .eql t14 (i64 12) λt99=>aS t99 (aZ 1 t4 λt101=>ldW false 1 t101 w7 λt102=>aC P0 94 [t102,v2] w7 λt104 w45=>dO 0 t104 λt105=>dO 1 t104 λt106=>bQ 26 zL0 w45 λt11 w46=>stW 5 t11 t105 w46 λw47=>bU (λJ48=>aQ .neq t106 (i64 0) λt108=>aS t108 (aZ 4 t4 λt110=>ldW false 1 t110 w47 λt111=>aC P0 57 [t106,t111] w47 λt112 w49=>J48 [] w49) (J48 [] w47)) λs48 _ w50=>ldW true 5 t11 w50 λt113=>stW 5 t6 t113 w50 λw51=>ldW true 5 t6 w51 λr52=>K r52 w51) (bU (λJ53=>aQ .eql t14 (i64 13) λt115=>aS t115 (J53 [t115] w7) (aQ .eql t14 (i64 14) λt116=>J53 [t116] w7)) λs53 _ w54=>aS (s53.getD 0 undef) (ldW true 5 t4 w54.drew λt117=>dP none 5 v2 (i64 0) λt119=>ldW true 5 t119 w54.drew λt120=>aC P0 95 [t117,t120] w54.drew λt121 w55=>stW 5 t6 t121 w55 λw56=>ldW true 5 t6 w56 λr57=>K r57 w56) (bU (λJ58=>aQ .eql t14 (i64 20) λt123=>aS t123 (J58 [t123] w54) (aQ .eql t14 (i64 21) λt124=>J58 [t124] w54)) λs58 _ w59=>aS (s58.getD 0 undef) (dP none 5 v2 (i64 0) λt126=>ldW true 5 t126 w59 λt127=>aC P0 96 [t127] w59 λt128 w60=>unW .not t128 λt129=>GdW (isB t129 false) [undef] w60 (λJ61=>dP none 5 v2 (i64 1) λt132=>ldW true 5 t132 w60 λt133=>aC P0 96 [t133] w60 λt134 w62=>unW .not t134 λt135=>J61 [t135] w62) λs61 _ w63=>cV t129 (.bool true) (s61.getD 0 undef) λt136=>aS t136 (aC P0 97 [] w63 λt137 w64=>stW 5 t6 t137 w64 λw65=>ldW true 5 t6 w65 λr66=>K r66 w65) (dP none 5 v2 (i64 0) λt139=>ldW true 5 t139 w63.drew λt140=>dP none 5 v2 (i64 1) λt142=>ldW true 5 t142 w63.drew λt143=>aZ 0 t4 λt145=>ldW false 1 t145 w63.drew λt146=>aQ .eql t146 (i64 20) λt147=>aC P0 98 [t140,t143] w63.drew λt144 w67=>(ldW false 1 t145 w67 λx=>x=t146)/\eqW .bool false t144 t147 λt148=>aC P0 86 [t148] w67 λt149 w68=>stW 5 t6 t149 w68 λw69=>ldW true 5 t6 w69 λr70=>K r70 w69)) (bU (λJ71=>aQ .eql t14 (i64 26) λt151=>aS t151 (J71 [t151] w59) (aQ .eql t14 (i64 27) λt152=>J71 [t152] w59)) λs71 _ w72=>aS (s71.getD 0 undef) (ldW true 5 t4 w72.drew λt153=>dP none 5 v2 (i64 0) λt155=>ldW true 5 t155 w72.drew λt156=>dP none 5 v2 (i64 1) λt158=>ldW true 5 t158 w72.drew λt159=>aC P0 99 [t153,t156,t159] w72.drew λt160 w73=>stW 5 t6 t160 w73 λw74=>ldW true 5 t6 w74 λr75=>K r75 w74) (ldW true 5 t4 w72.drew λt161=>dP none 5 v2 (i64 0) λt163=>ldW true 5 t163 w72.drew λt164=>dP none 5 v2 (i64 1) λt166=>ldW true 5 t166 w72.drew λt167=>aC P0 100 [t161,t164,t167] w72.drew λt168 w76=>stW 5 t6 t168 w76 λw77=>ldW true 5 t6 w77 λr78=>K r78 w77)))))))))))))))
theorem aCH{K:Q0}(h:W60 v0 v1 v2 w K):aC P0 60 [v0,v1,v2] w K:=
 tie _ 60 Tryz.f60 aA8 _ w K 3 _ rfl mixed Tryz.func60 (by kernel_rfl) (by kernel_rfl) Tryz.call60 h
def aAQ:cO:={js:=[],ds:=[]}
def W84(v0:Value)(w:World)(K:Q0):=eW 26 v0 w λt1 w1=>aZ 0 t1 λt3=>ldW false 1 t3 w1 λt4=>aQ .eql t4 (i64 1) λt5=>K t5 w1
theorem aCp{K:Q0}(h:W84 v0 w K):aC P0 84 [v0] w K:=
 tie _ 84 Tryz.f84 aAQ _ w K 1 _ rfl mixed Tryz.func84 (by kernel_rfl) (by kernel_rfl) Tryz.call84 h
def aAL:cO:={js:=[(17,⟨[8],[8,9,10,11],15⟩),(41,⟨[11],[11],15⟩),(28,⟨[37],[],21⟩),(10,⟨[8,14],[8,9,10,11],14⟩)],ds:=[(48,⟨[0,1,2,3,4,5,6,7,8,9,10,11,12],[[],[0],[0,1],[0,1,2],[0,1,2,3],[],[5],[],[5,6,7],[5,6,7,8],[0,1,2,3,4,5,6,7,8,9],[0,1,2,3,4,5,6,7,8,9,10],[0,1,2,3,4,5,6,7,8,9,10,11],[0,1,2,3,4,5,6,7,8,9,10,11,12]]⟩)]}
def W89(v0 v1 v2:Value)(w:World)(K:Q0):=eW 93 v1 w λt4 w1=>bQ 26 zL0 w1 λt6 w2=>bQ 116 [(.pointer none),sN] w2 λt7 w3=>dA v2 λt13=>cY [(.bool true),(i64 0)] w3 λs4 _ w5 L4=>aQ .lss (s4.getD 1 undef) t13 λt15=>aS t15 (bU (λJ6=>dP none 5 v2 (s4.getD 1 undef) λt17=>ldW true 5 t17 w5 λt18=>bQ 26 zL0 w5 λt10 w7=>stW 5 t10 t18 w7 λw8=>aZ 0 t10 λt19=>ldW false 1 t19 w8 λt20=>aQ .eql t20 (i64 1) λt36=>aS t36 (J6 [(.bool false)] w8) (bU (λJ9=>aQ .eql t20 (i64 4) λt38=>aS t38 (J9 [t38] w8) (aQ .eql t20 (i64 3) λt39=>J9 [t39] w8)) λs9 _ w10=>aS (s9.getD 0 undef) (aZ 2 t10 λt40=>ldW false 1 t40 w10 λt41=>aC P0 66 [t7,t41] w10 λt42 w11=>J6 [(s4.getD 0 undef)] w11) (aQ .eql t20 (i64 2) λt44=>aS t44 (bU (λJ12=>aZ 1 t10 λt45=>ldW false 1 t45 w10 λt46=>aS t46 (J12 [(str [116,114,117,101])] w10) (J12 [(str [102,97,108,115,101])] w10)) λs12 _ w13=>aC P0 66 [t7,(s12.getD 0 undef)] w13 λt48 w14=>J6 [(s4.getD 0 undef)] w14) (eF v0 λt22=>aZ 0 t22 λt23=>aZ 0 t23 λt24=>ldW false 1 t24 w10.drew λt25=>aZ 2 t4 λt26=>ldW false 1 t26 w10.drew λt27=>dP none 1 t27 (s4.getD 1 undef) λt29=>ldW false 1 t29 w10.drew λt30=>dP none 5 t25 t30 λt31=>aZ 4 t31 λt32=>ldW false 1 t32 w10.drew λt33=>aC P0 57 [(i64 81),t33] w10.drew λt34 w15=>J6 [(s4.getD 0 undef)] w15)))) λs6 _ w16=>aQ .add (s4.getD 1 undef) (i64 1) λt49=>L4 [(s6.getD 0 undef),t49] w16) (unW .not (s4.getD 0 undef) λt51=>aS t51 (aC P0 97 [] w5 λt52 w17=>stW 5 t6 t52 w17 λw18=>ldW true 5 t6 w18 λr19=>K r19 w18) (aC P0 64 [t7] w5 λt53 w20=>aC P0 87 [t53] w20 λt54 w21=>stW 5 t6 t54 w21 λw22=>ldW true 5 t6 w22 λr23=>K r23 w22))
theorem aCl{K:Q0}(h:W89 v0 v1 v2 w K):aC P0 89 [v0,v1,v2] w K:=
 tie _ 89 Tryz.f89 aAL _ w K 3 _ rfl mixed Tryz.func89 (by kernel_rfl) (by kernel_rfl) Tryz.call89 h
def aAJ:cO:={js:=[(18,⟨[],[],6⟩),(10,⟨[],[],5⟩)],ds:=[]}
def W91(v0 v1:Value)(w:World)(K:Q0):=eW 93 v0 w λt2 w1=>eW 26 v1 w1 λt3 w2=>bQ 26 zL0 w2 λt4 w3=>ldW true 5 t3 w3 λt7=>aC P0 84 [t7] w3 λt8 w4=>aS t8 (ldW true 5 t3 w4 λt9=>stW 5 t4 t9 w4 λw5=>ldW true 5 t4 w5 λr6=>K r6 w5) (bU (λJ7=>aZ 0 t3 λt10=>ldW false 1 t10 w4 λt11=>aQ .neq t11 (i64 6) λt12=>aS t12 (aZ 4 t2 λt13=>ldW false 1 t13 w4 λt14=>aC P0 57 [(i64 81),t14] w4 λt15 w8=>J7 [] w8) (J7 [] w4)) λs7 _ w9=>ldW true 5 t3 w9 λt17=>aZ 1 t2 λt18=>ldW false 1 t18 w9 λt19=>aC P0 120 [t17,t19] w9 λt20 w10=>dO 0 t20 λt21=>dO 1 t20 λt22=>bQ 26 zL0 w10 λt5 w11=>stW 5 t5 t21 w11 λw12=>bU (λJ13=>unW .not t22 λt24=>aS t24 (aZ 4 t2 λt25=>ldW false 1 t25 w12 λt26=>aC P0 57 [(i64 82),t26] w12 λt27 w14=>J13 [] w14) (J13 [] w12)) λs13 _ w15=>ldW true 5 t5 w15 λt28=>stW 5 t4 t28 w15 λw16=>ldW true 5 t4 w16 λr17=>K r17 w16)
theorem aCj{K:Q0}(h:W91 v0 v1 w K):aC P0 91 [v0,v1] w K:=
 tie _ 91 Tryz.f91 aAJ _ w K 2 _ rfl mixed Tryz.func91 (by kernel_rfl) (by kernel_rfl) Tryz.call91 h
def aAI:cO:={js:=[(22,⟨[21],[7],21⟩),(10,⟨[],[],5⟩)],ds:=[(33,⟨[0,1,2,3,7],[[],[0],[],[],[2,3],[2,3,4],[0,1,2,3,4,5],[0,1,2,3,4,5,6],[0,1,2,3,4,5,6,7]]⟩)]}
def W92(v0 v1:Value)(w:World)(K:Q0):=eW 93 v0 w λt2 w1=>eW 26 v1 w1 λt3 w2=>bQ 26 zL0 w2 λt4 w3=>ldW true 5 t3 w3 λt8=>aC P0 84 [t8] w3 λt9 w4=>aS t9 (ldW true 5 t3 w4 λt10=>stW 5 t4 t10 w4 λw5=>ldW true 5 t4 w5 λr6=>K r6 w5) (bU (λJ7=>aZ 0 t3 λt11=>ldW false 1 t11 w4 λt12=>aQ .neq t12 (i64 5) λt13=>aS t13 (aZ 4 t2 λt14=>ldW false 1 t14 w4 λt15=>aC P0 57 [(i64 81),t15] w4 λt16 w8=>J7 [] w8) (J7 [] w4)) λs7 _ w9=>dJ [(i64 0),(.bool false),(str []),sN,sN] [(0,1,(i64 5))] λc10=>bQ 26 zL0 w9 λt5 w11=>stW 5 t5 (.agg c10.toArray) w11 λw12=>aZ 3 t3 λt18=>ldW false 1 t18 w12 λt19=>dA t19 λt20=>cY [(i64 0)] w12 λs13 _ w14 L13=>aQ .lss (s13.getD 0 undef) t20 λt22=>aS t22 (dP none 5 t19 (s13.getD 0 undef) λt23=>ldW true 5 t23 w14 λt24=>bQ 26 zL0 w14 λt7 w15=>stW 5 t7 t24 w15 λw16=>aZ 3 t5 λt25=>ldW false 1 t25 w16.drew λt26=>ldW true 5 t2 w16.drew λt27=>ldW true 5 t7 w16.drew λt28=>aC P0 91 [t27,t28] w16.drew λt29 w17=>(ldW false 1 t25 w17 λx=>x=t26)/\dN 26 1 [(i64 0),(.bool false),(str []),sN,sN] [(0,5,t29)] w17 λt30 w18=>(ldW false 1 t25 w18 λx=>x=t26)/\dF P0 (Builtin.append_ #[23,23] 23 #[t26,t30]) w18 λt31 w19=>aZ 3 t5 λt32=>stW 1 t32 t31 w19 λw20=>aQ .add (s13.getD 0 undef) (i64 1) λt33=>L13 [t33] w20) (ldW true 5 t5 w14 λt34=>stW 5 t4 t34 w14 λw21=>ldW true 5 t4 w21 λr22=>K r22 w21))
theorem aCi{K:Q0}(h:W92 v0 v1 w K):aC P0 92 [v0,v1] w K:=
 tie _ 92 Tryz.f92 aAI _ w K 2 _ rfl mixed Tryz.func92 (by kernel_rfl) (by kernel_rfl) Tryz.call92 h
def aAH:cO:={js:=[(45,⟨[],[],9⟩),(47006,⟨[70],[],66⟩),(47010,⟨[63],[],62⟩),(29003,⟨[40],[],39⟩),(21,⟨[],[],7⟩),(4,⟨[7],[],7⟩),(11005,⟨[19],[],17⟩)],ds:=[]}
def W93(v0 v1 v2:Value)(w:World)(K:Q0):=eW 93 v0 w λt3 w1=>eW 26 v1 w1 λt4 w2=>eW 26 v2 w2 λt5 w3=>bQ 26 zL0 w3 λt6 w4=>bU (λJ5=>aZ 0 t4 λt9=>ldW false 1 t9 w4 λt10=>aQ .eql t10 (i64 1) λt12=>aS t12 (ldW true 5 t5 w4 λt13=>dN 26 1 [(i64 0),(.bool false),(str []),sN,sN] [(0,5,t13)] w4 λt14 w6=>aC P0 122 [(i64 3),t14] w6 λt15 w7=>GdW (isB t15 false) [undef] w7 (λJ8=>ldW true 5 t5 w7 λt17=>dN 26 1 [(i64 0),(.bool false),(str []),sN,sN] [(0,5,t17)] w7 λt18 w9=>aC P0 122 [(i64 4),t18] w9 λt19 w10=>J8 [t19] w10) λs8 _ w11=>cV t15 (.bool true) (s8.getD 0 undef) λt20=>J5 [t20] w11) (aQ .eql t10 (i64 5) λt22=>aS t22 (ldW true 5 t5 w4 λt23=>dN 26 1 [(i64 0),(.bool false),(str []),sN,sN] [(0,5,t23)] w4 λt24 w12=>aC P0 122 [(i64 3),t24] w12 λt25 w13=>J5 [t25] w13) (aQ .eql t10 (i64 6) λt27=>aS t27 (ldW true 5 t5 w4 λt28=>dN 26 1 [(i64 0),(.bool false),(str []),sN,sN] [(0,5,t28)] w4 λt29 w14=>aC P0 122 [(i64 4),t29] w14 λt30 w15=>J5 [t30] w15) (J5 [(.bool false)] w4)))) λs5 _ w16=>bU (λJ17=>unW .not (s5.getD 0 undef) λt32=>aS t32 (aZ 4 t3 λt33=>ldW false 1 t33 w16 λt34=>aC P0 57 [(i64 81),t34] w16 λt35 w18=>J17 [] w18) (J17 [] w16)) λs17 _ w19=>ldW true 5 t4 w19 λt36=>aC P0 84 [t36] w19 λt37 w20=>GdW (isB t37 false) [undef] w20 (λJ21=>ldW true 5 t5 w20 λt39=>aC P0 84 [t39] w20 λt40 w22=>J21 [t40] w22) λs21 _ w23=>cV t37 (.bool true) (s21.getD 0 undef) λt41=>aS t41 (aC P0 97 [] w23 λt42 w24=>stW 5 t6 t42 w24 λw25=>ldW true 5 t6 w25 λr26=>K r26 w25) (aZ 0 t4 λt43=>ldW false 1 t43 w23 λt44=>aQ .eql t44 (i64 6) λt45=>aS t45 (aZ 2 t5 λt46=>ldW false 1 t46 w23 λt47=>aZ 4 t3 λt48=>ldW false 1 t48 w23 λt49=>dJ [(i64 0),(str []),sN,sN,(i64 0)] [(1,1,t47),(4,1,t49)] λc27=>ldW true 5 t4 w23 λt51=>aC P0 91 [(.agg c27.toArray),t51] w23 λt52 w28=>stW 5 t6 t52 w28 λw29=>ldW true 5 t6 w29 λr30=>K r30 w29) (aZ 2 t5 λt54=>ldW false 1 t54 w23 λt55=>aC P0 123 [t55] w23 λt56 w31=>dO 0 t56 λt57=>dO 1 t56 λt58=>bU (λJ32=>unW .not t58 λt60=>GdW (isB t60 false) [undef] w31 (λJ33=>aQ .lss t57 (i64 0) λt63=>J33 [t63] w31) λs33 _ w34=>cV t60 (.bool true) (s33.getD 0 undef) λt64=>GdW (isB t64 false) [undef] w34 (λJ35=>aZ 3 t4 λt67=>ldW false 1 t67 w34 λt68=>dA t68 λt69=>aQ .geq t57 t69 λt70=>J35 [t70] w34) λs35 _ w36=>cV t64 (.bool true) (s35.getD 0 undef) λt71=>aS t71 (aZ 4 t3 λt72=>ldW false 1 t72 w36 λt73=>aC P0 57 [(i64 82),t73] w36 λt74 w37=>J32 [] w37) (J32 [] w36)) λs32 _ w38=>aZ 3 t4 λt75=>ldW false 1 t75 w38 λt76=>dP none 5 t76 t57 λt78=>ldW true 5 t78 w38 λt79=>stW 5 t6 t79 w38 λw39=>ldW true 5 t6 w39 λr40=>K r40 w39))
theorem aCh{K:Q0}(h:W93 v0 v1 v2 w K):aC P0 93 [v0,v1,v2] w K:=
 tie _ 93 Tryz.f93 aAH _ w K 3 _ rfl mixed Tryz.func93 (by kernel_rfl) (by kernel_rfl) Tryz.call93 h
def aAF:cO:={js:=[(19005,⟨[33],[],31⟩),(11005,⟨[16],[],14⟩)],ds:=[]}
def W95(v0 v1:Value)(w:World)(K:Q0):=eW 93 v0 w λt2 w1=>eW 26 v1 w1 λt3 w2=>bQ 26 zL0 w2 λt4 w3=>ldW true 5 t3 w3 λt6=>aC P0 84 [t6] w3 λt7 w4=>aS t7 (ldW true 5 t3 w4 λt8=>stW 5 t4 t8 w4 λw5=>ldW true 5 t4 w5 λr6=>K r6 w5) (aZ 0 t3 λt10=>ldW false 1 t10 w4 λt11=>aQ .eql t11 (i64 3) λt12=>GdW (isB t12 true) [undef] w4 (λJ7=>aZ 0 t2 λt14=>ldW false 1 t14 w4 λt15=>aQ .eql t15 (i64 13) λt16=>J7 [t16] w4) λs7 _ w8=>cV t12 (s7.getD 0 undef) (.bool false) λt17=>aS t17 (aZ 2 t3 λt19=>ldW false 1 t19 w8 λt20=>aC P0 129 [(str [48]),t20] w8 λt21 w9=>dO 0 t21 λt22=>dO 1 t21 λt23=>aZ 2 t3 λt24=>stW 1 t24 t22 w9 λw10=>ldW true 5 t3 w10 λt25=>stW 5 t4 t25 w10 λw11=>ldW true 5 t4 w11 λr12=>K r12 w11) (aZ 0 t3 λt27=>ldW false 1 t27 w8 λt28=>aQ .eql t28 (i64 2) λt29=>GdW (isB t29 true) [undef] w8 (λJ13=>aZ 0 t2 λt31=>ldW false 1 t31 w8 λt32=>aQ .eql t32 (i64 14) λt33=>J13 [t33] w8) λs13 _ w14=>cV t29 (s13.getD 0 undef) (.bool false) λt34=>aS t34 (aZ 1 t3 λt35=>ldW false 1 t35 w14 λt36=>unW .not t36 λt37=>aC P0 86 [t37] w14 λt38 w15=>stW 5 t4 t38 w15 λw16=>ldW true 5 t4 w16 λr17=>K r17 w16) (aZ 4 t2 λt39=>ldW false 1 t39 w14 λt40=>aC P0 57 [(i64 81),t40] w14 λt41 w18=>ldW true 5 t3 w18 λt42=>stW 5 t4 t42 w18 λw19=>ldW true 5 t4 w19 λr20=>K r20 w19)))
theorem aCf{K:Q0}(h:W95 v0 v1 w K):aC P0 95 [v0,v1] w K:=
 tie _ 95 Tryz.f95 aAF _ w K 2 _ rfl mixed Tryz.func95 (by kernel_rfl) (by kernel_rfl) Tryz.call95 h
def aAB:cO:={js:=[(35003,⟨[45],[],44⟩),(26005,⟨[36],[],33⟩),(14,⟨[25],[9],25⟩),(2,⟨[],[],7⟩)],ds:=[]}
def W99(v0 v1 v2:Value)(w:World)(K:Q0):=eW 93 v0 w λt3 w1=>eW 26 v1 w1 λt4 w2=>eW 26 v2 w2 λt5 w3=>bQ 26 zL0 w3 λt6 w4=>bU (λJ5=>ldW true 5 t4 w4 λt10=>ldW true 5 t5 w4 λt11=>dN 26 2 [(i64 0),(.bool false),(str []),sN,sN,(i64 0),(.bool false),(str []),sN,sN] [(0,5,t10),(5,5,t11)] w4 λt12 w6=>aC P0 122 [(i64 2),t12] w6 λt13 w7=>unW .not t13 λt14=>aS t14 (aZ 4 t3 λt15=>ldW false 1 t15 w7 λt16=>aC P0 57 [(i64 81),t16] w7 λt17 w8=>J5 [] w8) (J5 [] w7)) λs5 _ w9=>aZ 0 t3 λt18=>ldW false 1 t18 w9 λt19=>aQ .eql t19 (i64 27) λt20=>ldW true 5 t4 w9 λt21=>ldW true 5 t5 w9 λt22=>dN 26 2 [(i64 0),(.bool false),(str []),sN,sN,(i64 0),(.bool false),(str []),sN,sN] [(0,5,t21),(5,5,t22)] w9 λt23 w10=>dA t23 λt24=>cY [(i64 0)] w10 λs11 _ w12 L11=>aQ .lss (s11.getD 0 undef) t24 λt26=>aS t26 (dP none 5 t23 (s11.getD 0 undef) λt27=>ldW true 5 t27 w12 λt28=>bQ 26 zL0 w12 λt9 w13=>stW 5 t9 t28 w13 λw14=>ldW true 5 t9 w14 λt29=>aC P0 84 [t29] w14 λt30 w15=>unW .not t30 λt31=>GdW (isB t31 true) [undef] w15 (λJ16=>aZ 1 t9 λt33=>ldW false 1 t33 w15 λt34=>eqW .bool false t34 t20 λt36=>J16 [t36] w15) λs16 _ w17=>cV t31 (s16.getD 0 undef) (.bool false) λt37=>aS t37 (aC P0 86 [t20] w17 λt39 w18=>stW 5 t6 t39 w18 λw19=>ldW true 5 t6 w19 λr20=>K r20 w19) (aQ .add (s11.getD 0 undef) (i64 1) λt40=>L11 [t40] w17)) (ldW true 5 t4 w12 λt41=>aC P0 84 [t41] w12 λt42 w21=>GdW (isB t42 false) [undef] w21 (λJ22=>ldW true 5 t5 w21 λt44=>aC P0 84 [t44] w21 λt45 w23=>J22 [t45] w23) λs22 _ w24=>cV t42 (.bool true) (s22.getD 0 undef) λt46=>aS t46 (aC P0 97 [] w24 λt47 w25=>stW 5 t6 t47 w25 λw26=>ldW true 5 t6 w26 λr27=>K r27 w26) (unW .not t20 λt49=>aC P0 86 [t49] w24 λt50 w28=>stW 5 t6 t50 w28 λw29=>ldW true 5 t6 w29 λr30=>K r30 w29))
theorem aCb{K:Q0}(h:W99 v0 v1 v2 w K):aC P0 99 [v0,v1,v2] w K:=
 tie _ 99 Tryz.f99 aAB _ w K 3 _ rfl mixed Tryz.func99 (by kernel_rfl) (by kernel_rfl) Tryz.call99 h
def Wm:cO:={js:=[(69,⟨[],[],8⟩),(20,⟨[7,8],[],7⟩),(10003,⟨[22],[],21⟩),(2,⟨[],[],7⟩)],ds:=[]}
def aFA(v0 v1 v2:Value)(w:World)(K:Q0):=eW 93 v0 w λt3 w1=>eW 26 v1 w1 λt4 w2=>eW 26 v2 w2 λt5 w3=>bQ 26 zL0 w3 λt6 w4=>bU (λJ5=>ldW true 5 t4 w4 λt10=>ldW true 5 t5 w4 λt11=>dN 26 2 [(i64 0),(.bool false),(str []),sN,sN,(i64 0),(.bool false),(str []),sN,sN] [(0,5,t10),(5,5,t11)] w4 λt12 w6=>aC P0 122 [(i64 3),t12] w6 λt13 w7=>unW .not t13 λt14=>aS t14 (aZ 4 t3 λt15=>ldW false 1 t15 w7 λt16=>aC P0 57 [(i64 81),t16] w7 λt17 w8=>J5 [] w8) (J5 [] w7)) λs5 _ w9=>ldW true 5 t4 w9 λt18=>aC P0 84 [t18] w9 λt19 w10=>GdW (isB t19 false) [undef] w10 (λJ11=>ldW true 5 t5 w10 λt21=>aC P0 84 [t21] w10 λt22 w12=>J11 [t22] w12) λs11 _ w13=>cV t19 (.bool true) (s11.getD 0 undef) λt23=>aS t23 (aC P0 97 [] w13 λt24 w14=>stW 5 t6 t24 w14 λw15=>ldW true 5 t6 w15 λr16=>K r16 w15) (aZ 2 t4 λt25=>ldW false 1 t25 w13 λt26=>aZ 2 t5 λt27=>ldW false 1 t27 w13 λt28=>aC P0 132 [t26,t28] w13 λt29 w17=>bU (λJ18=>aZ 0 t3 λt30=>ldW false 1 t30 w17 λt31=>aQ .eql t31 (i64 22) λt33=>aS t33 (aQ .lss t29 (i64 0) λt35=>aC P0 86 [t35] w17 λt36 w19=>stW 5 t6 t36 w19 λw20=>ldW true 5 t6 w20 λr21=>K r21 w20) (aQ .eql t31 (i64 23) λt38=>aS t38 (aQ .gtr t29 (i64 0) λt40=>aC P0 86 [t40] w17 λt41 w22=>stW 5 t6 t41 w22 λw23=>ldW true 5 t6 w23 λr24=>K r24 w23) (aQ .eql t31 (i64 24) λt43=>aS t43 (aQ .leq t29 (i64 0) λt45=>aC P0 86 [t45] w17 λt46 w25=>stW 5 t6 t46 w25 λw26=>ldW true 5 t6 w26 λr27=>K r27 w26) (aQ .eql t31 (i64 25) λt48=>aS t48 (aQ .geq t29 (i64 0) λt50=>aC P0 86 [t50] w17 λt51 w28=>stW 5 t6 t51 w28 λw29=>ldW true 5 t6 w29 λr30=>K r30 w29) (aQ .eql t31 (i64 15) λt53=>aS t53 (aZ 2 t4 λt55=>ldW false 1 t55 w17 λt56=>aZ 2 t5 λt57=>ldW false 1 t57 w17 λt58=>aC P0 133 [t56,t58] w17 λt59 w31=>dO 0 t59 λt60=>dO 1 t59 λt61=>J18 [t60,t61] w31) (aQ .eql t31 (i64 16) λt63=>aS t63 (aZ 2 t4 λt65=>ldW false 1 t65 w17 λt66=>aZ 2 t5 λt67=>ldW false 1 t67 w17 λt68=>aC P0 129 [t66,t68] w17 λt69 w32=>dO 0 t69 λt70=>dO 1 t69 λt71=>J18 [t70,t71] w32) (aQ .eql t31 (i64 17) λt73=>aS t73 (aZ 2 t4 λt75=>ldW false 1 t75 w17 λt76=>aZ 2 t5 λt77=>ldW false 1 t77 w17 λt78=>aC P0 134 [t76,t78] w17 λt79 w33=>dO 0 t79 λt80=>dO 1 t79 λt81=>J18 [t80,t81] w33) (aQ .eql t31 (i64 18) λt83=>aS t83 (aZ 2 t4 λt85=>ldW false 1 t85 w17 λt86=>aZ 2 t5 λt87=>ldW false 1 t87 w17 λt88=>aC P0 135 [t86,t88] w17 λt89 w34=>dO 0 t89 λt90=>dO 1 t89 λt91=>dO 2 t89 λt92=>J18 [t90,t92] w34) (aQ .eql t31 (i64 19) λt94=>aS t94 (aZ 2 t4 λt96=>ldW false 1 t96 w17 λt97=>aZ 2 t5 λt98=>ldW false 1 t98 w17 λt99=>aC P0 135 [t97,t99] w17 λt100 w35=>dO 0 t100 λt101=>dO 1 t100 λt102=>dO 2 t100 λt103=>J18 [t102,t103] w35) (J18 [(str []),(i64 0)] w17)))))))))) λs18 _ w36=>bU (λJ37=>aQ .neq (s18.getD 1 undef) (i64 0) λt105=>aS t105 (aZ 4 t3 λt107=>ldW false 1 t107 w36 λt108=>aC P0 57 [(s18.getD 1 undef),t108] w36 λt109 w38=>J37 [] w38) (J37 [] w36)) λs37 _ w39=>dJ [(i64 0),(.bool false),(str []),sN,sN] [(0,1,(i64 3)),(2,1,(s18.getD 0 undef))] λc40=>stW 5 t6 (.agg c40.toArray) w39 λw41=>ldW true 5 t6 w41 λr42=>K r42 w41)
theorem Zu{K:Q0}(h:aFA v0 v1 v2 w K):aC P0 100 [v0,v1,v2] w K:=
 tie _ 100 Tryz.f100 Wm _ w K 3 _ rfl mixed Tryz.func100 (by kernel_rfl) (by kernel_rfl) Tryz.call100 h
def VV:cO:={js:=[],ds:=[]}
def aFn(v0 v1:Value)(w:World)(K:Q0):=eW 22 v0 w λt2 w1=>aC P0 124 [v1,(.func (.func 156) #[] #[t2])] w1 λt7 w2=>unW .not t7 λt8=>K t8 w2
theorem Zg{K:Q0}(h:aFn v0 v1 w K):aC P0 122 [v0,v1] w K:=
 tie _ 122 Tryz.f122 VV _ w K 2 _ rfl mixed Tryz.func122 (by kernel_rfl) (by kernel_rfl) Tryz.call122 h
def Vx:cO:={js:=[(3005,⟨[11],[],9⟩)],ds:=[]}
def aE3(v0 v1:Value)(w:World)(K:Q0):=eW 26 v0 w λt2 w1=>aZ 0 t2 λt4=>ldW false 1 t4 w1 λt5=>ldW false 1 v1 w1 λt6=>aQ .neq t5 t6 λt7=>GdW (isB t7 true) [undef] w1 (λJ2=>ldW true 5 t2 w1 λt9=>aC P0 84 [t9] w1 λt10 w3=>unW .not t10 λt11=>J2 [t11] w3) λs2 _ w4=>cV t7 (s2.getD 0 undef) (.bool false) λt12=>K t12 w4
theorem YH{K:Q0}(h:aE3 v0 v1 w K):aC P0 156 [v0,v1] w K:=
 tie _ 156 Tryz.f156 Vx _ w K 2 _ rfl mixed Tryz.func156 (by kernel_rfl) (by kernel_rfl) Tryz.call156 h
def aBC:cO:={js:=[(41,⟨[],[],8⟩),(6,⟨[8],[],8⟩),(26,⟨[8],[8],21⟩),(28008,⟨[32],[],26⟩),(15,⟨[8,20],[8,9],20⟩)],ds:=[(38,⟨[0,1,2,3,4,5,6,9],[[],[0],[],[2],[],[2,3,4],[2,3,4,5],[2,3,4,5,6],[0,1,2,3,4,5,6,7],[0,1,2,3,4,5,6,7,8],[0,1,2,3,4,5,6,7,8,9]]⟩),(37,⟨[0,1,2,3,4,5,6,9],[[],[0],[],[2],[],[2,3,4],[2,3,4,5],[2,3,4,5,6],[0,1,2,3,4,5,6,7],[0,1,2,3,4,5,6,7,8],[0,1,2,3,4,5,6,7,8,9]]⟩)]}
def W12(v0 v1 v2:Value)(w:World)(K:Q0):=eW 26 v0 w λt3 w1=>eW 26 v2 w1 λt5 w2=>bQ 26 zL0 w2 λt6 w3=>dJ [(i64 0),(.bool false),(str []),sN,sN] [(0,1,(i64 6))] λc4=>bQ 26 zL0 w3 λt7 w5=>stW 5 t7 (.agg c4.toArray) w5 λw6=>bU (λJ7=>aZ 0 t3 λt11=>ldW false 1 t11 w6 λt12=>aQ .eql t12 (i64 6) λt13=>aS t13 (ldW true 5 t3 w6 λt14=>aC P0 33 [t14,v1] w6 λt16 w8=>stW 5 t3 t16 w8 λw9=>aZ 4 t3 λt17=>ldW false 1 t17 w9 λt18=>dA t18 λt19=>cY [(.bool false),(i64 0)] w9 λs10 _ w11 L10=>aQ .lss (s10.getD 1 undef) t19 λt21=>aS t21 (bU (λJ12=>unW .not (s10.getD 0 undef) λt24=>GdW (isB t24 true) [undef] w11 (λJ13=>aZ 4 t3 λt27=>ldW false 1 t27 w11 λt28=>dP none 1 t28 (s10.getD 1 undef) λt30=>ldW false 1 t30 w11 λt31=>aQ .lss v1 t31 λt32=>J13 [t32] w11) λs13 _ w14=>cV t24 (s13.getD 0 undef) (.bool false) λt33=>aS t33 (aZ 4 t7 λt34=>ldW false 1 t34 w14 λt35=>dN 9 1 [(str [])] [(0,1,v1)] w14 λt37 w15=>dF P0 (Builtin.append_ #[24,24] 24 #[t35,t37]) w15 λt38 w16=>aZ 4 t7 λt39=>stW 1 t39 t38 w16 λw17=>aZ 3 t7 λt40=>ldW false 1 t40 w17 λt41=>ldW true 5 t5 w17 λt42=>dN 26 1 [(i64 0),(.bool false),(str []),sN,sN] [(0,5,t42)] w17 λt43 w18=>dF P0 (Builtin.append_ #[23,23] 23 #[t41,t43]) w18 λt44 w19=>aZ 3 t7 λt45=>stW 1 t45 t44 w19 λw20=>J12 [(.bool true)] w20) (J12 [(s10.getD 0 undef)] w14)) λs12 _ w21=>aZ 4 t7 λt46=>ldW false 1 t46 w21.drew λt47=>aZ 4 t3 λt48=>ldW false 1 t48 w21.drew λt49=>dP none 1 t49 (s10.getD 1 undef) λt51=>ldW false 1 t51 w21.drew λt52=>dN 9 1 [(str [])] [(0,1,t52)] w21.drew λt53 w22=>(ldW false 1 t46 w22 λx=>x=t47)/\dF P0 (Builtin.append_ #[24,24] 24 #[t47,t53]) w22 λt54 w23=>aZ 4 t7 λt55=>stW 1 t55 t54 w23 λw24=>aZ 3 t7 λt56=>ldW false 1 t56 w24.drew λt57=>aZ 3 t3 λt58=>ldW false 1 t58 w24.drew λt59=>dP none 5 t59 (s10.getD 1 undef) λt61=>ldW true 5 t61 w24.drew λt62=>dN 26 1 [(i64 0),(.bool false),(str []),sN,sN] [(0,5,t62)] w24.drew λt63 w25=>(ldW false 1 t56 w25 λx=>x=t57)/\dF P0 (Builtin.append_ #[23,23] 23 #[t57,t63]) w25 λt64 w26=>aZ 3 t7 λt65=>stW 1 t65 t64 w26 λw27=>aQ .add (s10.getD 1 undef) (i64 1) λt66=>L10 [(s12.getD 0 undef),t66] w27) (J7 [(s10.getD 0 undef)] w11)) (J7 [(.bool false)] w6)) λs7 _ w28=>bU (λJ29=>unW .not (s7.getD 0 undef) λt68=>aS t68 (aZ 4 t7 λt69=>ldW false 1 t69 w28 λt70=>dN 9 1 [(str [])] [(0,1,v1)] w28 λt72 w30=>dF P0 (Builtin.append_ #[24,24] 24 #[t70,t72]) w30 λt73 w31=>aZ 4 t7 λt74=>stW 1 t74 t73 w31 λw32=>aZ 3 t7 λt75=>ldW false 1 t75 w32 λt76=>ldW true 5 t5 w32 λt77=>dN 26 1 [(i64 0),(.bool false),(str []),sN,sN] [(0,5,t77)] w32 λt78 w33=>dF P0 (Builtin.append_ #[23,23] 23 #[t76,t78]) w33 λt79 w34=>aZ 3 t7 λt80=>stW 1 t80 t79 w34 λw35=>J29 [] w35) (J29 [] w28)) λs29 _ w36=>ldW true 5 t7 w36 λt81=>stW 5 t6 t81 w36 λw37=>ldW true 5 t6 w37 λr38=>K r38 w37
theorem aDd{K:Q0}(h:W12 v0 v1 v2 w K):aC P0 12 [v0,v1,v2] w K:=
 tie _ 12 Tryz.f12 aBC _ w K 3 _ rfl mixed Tryz.func12 (by kernel_rfl) (by kernel_rfl) Tryz.call12 h
def aBB:cO:={js:=[(14,⟨[45],[4,5],45⟩),(4008,⟨[40],[],34⟩),(4016,⟨[31],[],26⟩),(4023,⟨[23],[],19⟩),(4030,⟨[16],[],12⟩)],ds:=[(26,⟨[0,1,2,3,4,5,6,7,8,9,11],[[],[0],[],[0,1,2],[0,1,2,3],[],[5],[],[5,6,7],[5,6,7,8],[0,1,2,3,4,5,6,7,8,9],[0,1,2,3,4,5,6,7,8,9,10]]⟩)]}
def W17(v0 v1:Value)(w:World)(K:Q0):=eW 26 v0 w λt2 w1=>eW 26 v1 w1 λt3 w2=>aZ 0 t2 λt6=>ldW false 1 t6 w2 λt7=>aZ 0 t3 λt8=>ldW false 1 t8 w2 λt9=>aQ .neq t7 t9 λt10=>GdW (isB t10 false) [undef] w2 (λJ3=>aZ 1 t2 λt12=>ldW false 1 t12 w2 λt13=>aZ 1 t3 λt14=>ldW false 1 t14 w2 λt15=>eqW .bool true t13 t15 λt16=>J3 [t16] w2) λs3 _ w4=>cV t10 (.bool true) (s3.getD 0 undef) λt17=>GdW (isB t17 false) [undef] w4 (λJ5=>aZ 2 t2 λt19=>ldW false 1 t19 w4 λt20=>aZ 2 t3 λt21=>ldW false 1 t21 w4 λt22=>aQ .neq t20 t22 λt23=>J5 [t23] w4) λs5 _ w6=>cV t17 (.bool true) (s5.getD 0 undef) λt24=>GdW (isB t24 false) [undef] w6 (λJ7=>aZ 4 t2 λt26=>ldW false 1 t26 w6 λt27=>aZ 4 t3 λt28=>ldW false 1 t28 w6 λt29=>aC P0 37 [t27,t29] w6 λt30 w8=>unW .not t30 λt31=>J7 [t31] w8) λs7 _ w9=>cV t24 (.bool true) (s7.getD 0 undef) λt32=>GdW (isB t32 false) [undef] w9 (λJ10=>aZ 3 t2 λt34=>ldW false 1 t34 w9 λt35=>dA t35 λt36=>aZ 3 t3 λt37=>ldW false 1 t37 w9 λt38=>dA t38 λt39=>aQ .neq t36 t39 λt40=>J10 [t40] w9) λs10 _ w11=>cV t32 (.bool true) (s10.getD 0 undef) λt41=>aS t41 (K (.bool false) w11) (aZ 3 t2 λt42=>ldW false 1 t42 w11 λt43=>dA t43 λt44=>cY [(i64 0)] w11 λs12 _ w13 L12=>aQ .lss (s12.getD 0 undef) t44 λt46=>aS t46 (aZ 3 t2 λt48=>ldW false 1 t48 w13.drew λt49=>dP none 5 t49 (s12.getD 0 undef) λt51=>ldW true 5 t51 w13.drew λt52=>aZ 3 t3 λt53=>ldW false 1 t53 w13.drew λt54=>dP none 5 t54 (s12.getD 0 undef) λt56=>ldW true 5 t56 w13.drew λt57=>aC P0 17 [t52,t57] w13.drew λt58 w14=>unW .not t58 λt59=>aS t59 (K (.bool false) w14) (aQ .add (s12.getD 0 undef) (i64 1) λt60=>L12 [t60] w14)) (K (.bool true) w13))
theorem aDa{K:Q0}(h:W17 v0 v1 w K):aC P0 17 [v0,v1] w K:=
 tie _ 17 Tryz.f17 aBB _ w K 2 _ rfl mixed Tryz.func17 (by kernel_rfl) (by kernel_rfl) Tryz.call17 h
def aBA:cO:={js:=[],ds:=[]}
def W18(v0:Value)(w:World)(K:Q0):=bQ 26 zL0 w λt2 w1=>aC P0 22 [v0] w1 λt4 w2=>dJ [(i64 0),(.bool false),(str []),sN,sN] [(0,1,(i64 3)),(2,1,t4)] λc3=>stW 5 t2 (.agg c3.toArray) w2 λw4=>ldW true 5 t2 w4 λr5=>K r5 w4
theorem aC9{K:Q0}(h:W18 v0 w K):aC P0 18 [v0] w K:=
 tie _ 18 Tryz.f18 aBA _ w K 1 _ rfl mixed Tryz.func18 (by kernel_rfl) (by kernel_rfl) Tryz.call18 h
def aBz:cO:={js:=[],ds:=[]}
def W19(v0:Value)(w:World)(K:Q0):=bQ 26 zL0 w λt2 w1=>dJ [(i64 0),(.bool false),(str []),sN,sN] [(0,1,(i64 2)),(1,1,v0)] λc2=>stW 5 t2 (.agg c2.toArray) w1 λw3=>ldW true 5 t2 w3 λr4=>K r4 w3
theorem aC8{K:Q0}(h:W19 v0 w K):aC P0 19 [v0] w K:=
 tie _ 19 Tryz.f19 aBz _ w K 1 _ rfl mixed Tryz.func19 (by kernel_rfl) (by kernel_rfl) Tryz.call19 h
def aBw:cO:={js:=[(27,⟨[5],[],5⟩),(16,⟨[3,4],[],1⟩)],ds:=[]}
def W22(v0:Value)(w:World)(K:Q0):=aQ .eql v0 (i64 0) λt7=>aS t7 (K (str [48]) w) (cY [(str []),v0] w λs1 _ w2 L1=>aQ .neq (s1.getD 1 undef) (i64 0) λt10=>aS t10 (aQ .rem (s1.getD 1 undef) (i64 10) λt14=>bU (λJ3=>aQ .lss t14 (i64 0) λt16=>aS t16 (unW .neg t14 λt18=>J3 [t18] w2) (J3 [t14] w2)) λs3 _ w4=>aQ .add (i64 48) (s3.getD 0 undef) λt20=>sK .u8 t20 λt21=>dN 5 1 [(.int .u8 0)] [(0,1,t21)] w4 λt22 w5=>nZ P0 (convert 89 9 t22) w5 λt23=>aQ .add t23 (s1.getD 0 undef) λt25=>aQ .quo (s1.getD 1 undef) (i64 10) λt12=>L1 [t25,t12] w5) (aQ .lss v0 (i64 0) λt27=>aC P0 38 [t27,(s1.getD 0 undef)] w2 λt29 w6=>K t29 w6))
theorem aC5{K:Q0}(h:W22 v0 w K):aC P0 22 [v0] w K:=
 tie _ 22 Tryz.f22 aBw _ w K 1 _ rfl mixed Tryz.func22 (by kernel_rfl) (by kernel_rfl) Tryz.call22 h
def aBv:cO:={js:=[],ds:=[]}
def W24(v0:Value)(w:World)(K:Q0):=bQ 26 zL0 w λt2 w1=>dJ [(i64 0),(.bool false),(str []),sN,sN] [(0,1,(i64 4)),(2,1,v0)] λc2=>stW 5 t2 (.agg c2.toArray) w1 λw3=>ldW true 5 t2 w3 λr4=>K r4 w3
theorem aC4{K:Q0}(h:W24 v0 w K):aC P0 24 [v0] w K:=
 tie _ 24 Tryz.f24 aBv _ w K 1 _ rfl mixed Tryz.func24 (by kernel_rfl) (by kernel_rfl) Tryz.call24 h
def aBu:cO:={js:=[(11007,⟨[34],[],30⟩),(11015,⟨[27],[],22⟩),(11023,⟨[19],[],14⟩)],ds:=[]}
def W25(v0 v1 v2:Value)(w:World)(K:Q0):=aQ .eql v1 (i64 0) λt8=>aS t8 (eqW .ptr false v0 (.pointer none) λt10=>K t10 w) (eqW .ptr true v0 (.pointer none) λt12=>GdW (isB t12 true) [undef] w (λJ1=>eF v0 λt15=>aZ 0 t15 λt16=>ldW false 1 t16 w λt17=>aQ .eql t17 v1 λt19=>J1 [t19] w) λs1 _ w2=>cV t12 (s1.getD 0 undef) (.bool false) λt20=>GdW (isB t20 true) [undef] w2 (λJ3=>eF v0 λt23=>aZ 2 t23 λt24=>ldW false 1 t24 w2 λt25=>aQ .eql t25 v2 λt27=>J3 [t27] w2) λs3 _ w4=>cV t20 (s3.getD 0 undef) (.bool false) λt28=>GdW (isB t28 true) [undef] w4 (λJ5=>eF v0 λt31=>aZ 1 t31 λt32=>ldW false 1 t32 w4 λt33=>aQ .eql t33 (str []) λt34=>J5 [t34] w4) λs5 _ w6=>cV t28 (s5.getD 0 undef) (.bool false) λt35=>K t35 w6)
theorem aC3{K:Q0}(h:W25 v0 v1 v2 w K):aC P0 25 [v0,v1,v2] w K:=
 tie _ 25 Tryz.f25 aBu _ w K 3 _ rfl mixed Tryz.func25 (by kernel_rfl) (by kernel_rfl) Tryz.call25 h
def aBo:cO:={js:=[(23,⟨[],[6],16⟩),(16,⟨[15],[6],15⟩)],ds:=[(32,⟨[0,1,2,3,4,5,6,9],[[],[0],[],[2],[],[2,3,4],[2,3,4,5],[2,3,4,5,6],[0,1,2,3,4,5,6,7],[0,1,2,3,4,5,6,7,8],[0,1,2,3,4,5,6,7,8,9]]⟩),(31,⟨[0,1,2,3,4,5,6,9],[[],[0],[],[2],[],[2,3,4],[2,3,4,5],[2,3,4,5,6],[0,1,2,3,4,5,6,7],[0,1,2,3,4,5,6,7,8],[0,1,2,3,4,5,6,7,8,9]]⟩)]}
def W33(v0 v1:Value)(w:World)(K:Q0):=eW 26 v0 w λt2 w1=>bQ 26 zL0 w1 λt4 w2=>aZ 0 t2 λt7=>ldW false 1 t7 w2 λt8=>aQ .neq t8 (i64 6) λt9=>aS t9 (ldW true 5 t2 w2 λt10=>stW 5 t4 t10 w2 λw3=>ldW true 5 t4 w3 λr4=>K r4 w3) (dJ [(i64 0),(.bool false),(str []),sN,sN] [(0,1,(i64 6))] λc5=>bQ 26 zL0 w2 λt5 w6=>stW 5 t5 (.agg c5.toArray) w6 λw7=>aZ 4 t2 λt12=>ldW false 1 t12 w7 λt13=>dA t13 λt14=>cY [(i64 0)] w7 λs8 _ w9 L8=>aQ .lss (s8.getD 0 undef) t14 λt16=>aS t16 (bU (λJ10=>aZ 4 t2 λt18=>ldW false 1 t18 w9 λt19=>dP none 1 t19 (s8.getD 0 undef) λt21=>ldW false 1 t21 w9 λt22=>aQ .neq t22 v1 λt24=>aS t24 (aZ 4 t5 λt25=>ldW false 1 t25 w9.drew λt26=>aZ 4 t2 λt27=>ldW false 1 t27 w9.drew λt28=>dP none 1 t28 (s8.getD 0 undef) λt30=>ldW false 1 t30 w9.drew λt31=>dN 9 1 [(str [])] [(0,1,t31)] w9.drew λt32 w11=>(ldW false 1 t25 w11 λx=>x=t26)/\dF P0 (Builtin.append_ #[24,24] 24 #[t26,t32]) w11 λt33 w12=>aZ 4 t5 λt34=>stW 1 t34 t33 w12 λw13=>aZ 3 t5 λt35=>ldW false 1 t35 w13.drew λt36=>aZ 3 t2 λt37=>ldW false 1 t37 w13.drew λt38=>dP none 5 t38 (s8.getD 0 undef) λt40=>ldW true 5 t40 w13.drew λt41=>dN 26 1 [(i64 0),(.bool false),(str []),sN,sN] [(0,5,t41)] w13.drew λt42 w14=>(ldW false 1 t35 w14 λx=>x=t36)/\dF P0 (Builtin.append_ #[23,23] 23 #[t36,t42]) w14 λt43 w15=>aZ 3 t5 λt44=>stW 1 t44 t43 w15 λw16=>J10 [] w16) (J10 [] w9)) λs10 _ w17=>aQ .add (s8.getD 0 undef) (i64 1) λt45=>L8 [t45] w17) (ldW true 5 t5 w9 λt46=>stW 5 t4 t46 w9 λw18=>ldW true 5 t4 w18 λr19=>K r19 w18))
theorem aCX{K:Q0}(h:W33 v0 v1 w K):aC P0 33 [v0,v1] w K:=
 tie _ 33 Tryz.f33 aBo _ w K 2 _ rfl mixed Tryz.func33 (by kernel_rfl) (by kernel_rfl) Tryz.call33 h
def aBm:cO:={js:=[(14,⟨[13],[4,5],13⟩)],ds:=[(26,⟨[0,1,2,3,4,5,6,7,8],[[],[],[0,1],[0,1,2],[],[],[4,5],[4,5,6],[0,1,2,3,4,5,6,7]]⟩)]}
def W37(v0 v1:Value)(w:World)(K:Q0):=dA v0 λt7=>dA v1 λt9=>aQ .neq t7 t9 λt10=>aS t10 (K (.bool false) w) (dA v0 λt12=>cY [(i64 0)] w λs1 _ w2 L1=>aQ .lss (s1.getD 0 undef) t12 λt14=>aS t14 (dP none 1 v0 (s1.getD 0 undef) λt18=>ldW false 1 t18 w2.drew λt19=>dP none 1 v1 (s1.getD 0 undef) λt22=>ldW false 1 t22 w2.drew λt23=>aQ .neq t19 t23 λt24=>aS t24 (K (.bool false) w2.drew) (aQ .add (s1.getD 0 undef) (i64 1) λt25=>L1 [t25] w2.drew)) (K (.bool true) w2))
theorem aCV{K:Q0}(h:W37 v0 v1 w K):aC P0 37 [v0,v1] w K:=
 tie _ 37 Tryz.f37 aBm _ w K 2 _ rfl mixed Tryz.func37 (by kernel_rfl) (by kernel_rfl) Tryz.call37 h
def aBl:cO:={js:=[(4003,⟨[8],[],7⟩)],ds:=[]}
def W38(v0 v1:Value)(w:World)(K:Q0):=GdW (isB v0 true) [undef] w (λJ1=>aQ .neq v1 (str [48]) λt8=>J1 [t8] w) λs1 _ w2=>cV v0 (s1.getD 0 undef) (.bool false) λt9=>aS t9 (aQ .add (str [45]) v1 λt11=>K t11 w2) (K v1 w2)
theorem aCU{K:Q0}(h:W38 v0 v1 w K):aC P0 38 [v0,v1] w K:=
 tie _ 38 Tryz.f38 aBl _ w K 2 _ rfl mixed Tryz.func38 (by kernel_rfl) (by kernel_rfl) Tryz.call38 h
def aA6:cO:={js:=[],ds:=[]}
def W62(v0 v1:Value)(w:World)(K:Q0):=aC P0 102 [v0] w λt6 w1=>eF v0 λt9=>aZ 1 t9 λt10=>ldW false 1 t10 w1 λt11=>dN 5 1 [(.int .u8 0)] [(0,1,v1)] w1 λt13 w2=>dF P0 (Builtin.append_ #[89,89] 89 #[t11,t13]) w2 λt14 w3=>eF v0 λt15=>aZ 1 t15 λt16=>stW 1 t16 t14 w3 λw4=>K .nilIface w4
theorem aCF{K:Q0}(h:W62 v0 v1 w K):aC P0 62 [v0,v1] w K:=
 tie _ 62 Tryz.f62 aA6 _ w K 2 _ rfl mixed Tryz.func62 (by kernel_rfl) (by kernel_rfl) Tryz.call62 h
def aA5:cO:={js:=[],ds:=[]}
def W63(v0 v1:Value)(w:World)(K:Q0):=aC P0 102 [v0] w λt8 w1=>eF v0 λt10=>aZ 1 t10 λt11=>ldW false 1 t11 w1 λt12=>dA t12 λt13=>eF v0 λt16=>aZ 1 t16 λt17=>ldW false 1 t17 w1 λt18=>aC P0 103 [t18,v1] w1 λt20 w2=>eF v0 λt21=>aZ 1 t21 λt22=>stW 1 t22 t20 w2 λw3=>eF v0 λt24=>aZ 1 t24 λt25=>ldW false 1 t25 w3 λt26=>dA t26 λt27=>aQ .sub t27 t13 λt29=>K (.tuple #[t29,.nilIface]) w3
theorem aCE{K:Q0}(h:W63 v0 v1 w K):aC P0 63 [v0,v1] w K:=
 tie _ 63 Tryz.f63 aA5 _ w K 2 _ rfl mixed Tryz.func63 (by kernel_rfl) (by kernel_rfl) Tryz.call63 h
def aA4:cO:={js:=[],ds:=[]}
def W66(v0 v1:Value)(w:World)(K:Q0):=aC P0 102 [v0] w λt7 w1=>eF v0 λt10=>aZ 1 t10 λt11=>ldW false 1 t11 w1 λt12=>dF P0 (Builtin.append_ #[89,9] 89 #[t12,v1]) w1 λt14 w2=>eF v0 λt15=>aZ 1 t15 λt16=>stW 1 t16 t14 w2 λw3=>iT v1 λt18=>K (.tuple #[t18,.nilIface]) w3
theorem aCD{K:Q0}(h:W66 v0 v1 w K):aC P0 66 [v0,v1] w K:=
 tie _ 66 Tryz.f66 aA4 _ w K 2 _ rfl mixed Tryz.func66 (by kernel_rfl) (by kernel_rfl) Tryz.call66 h
def aAS:cO:={js:=[],ds:=[]}
def W81(v0 v1:Value)(w:World)(K:Q0):=aC P0 113 [v0,v1] w λt7 w1=>aQ .geq t7 (i64 0) λt8=>K t8 w1
theorem aCr{K:Q0}(h:W81 v0 v1 w K):aC P0 81 [v0,v1] w K:=
 tie _ 81 Tryz.f81 aAS _ w K 2 _ rfl mixed Tryz.func81 (by kernel_rfl) (by kernel_rfl) Tryz.call81 h
def Wk:cO:={js:=[],ds:=[]}
def aFy(v0 v1:Value)(w:World)(K:Q0):=sK .u32 v1 λt6=>aQ .leq t6 (.int .u32 127) λt7=>aS t7 (sK .u8 v1 λt10=>dN 5 1 [(.int .u8 0)] [(0,1,t10)] w λt11 w1=>dF P0 (Builtin.append_ #[89,89] 89 #[v0,t11]) w1 λt12 w2=>K t12 w2) (aC P0 138 [v0,v1] w λt15 w3=>K t15 w3)
theorem Zs{K:Q0}(h:aFy v0 v1 w K):aC P0 103 [v0,v1] w K:=
 tie _ 103 Tryz.f103 Wk _ w K 2 _ rfl mixed Tryz.func103 (by kernel_rfl) (by kernel_rfl) Tryz.call103 h
def Wj:cO:={js:=[],ds:=[]}
def aFx(v0 v1:Value)(w:World)(K:Q0):=aC P0 144 [v0,v1] w λt7 w1=>K t7 w1
theorem Zr{K:Q0}(h:aFx v0 v1 w K):aC P0 107 [v0,v1] w K:=
 tie _ 107 Tryz.f107 Wj _ w K 2 _ rfl mixed Tryz.func107 (by kernel_rfl) (by kernel_rfl) Tryz.call107 h
def We:cO:={js:=[(6,⟨[8],[4,5],8⟩)],ds:=[]}
def aFt(v0 v1:Value)(w:World)(K:Q0):=dA v0 λt7=>cY [(i64 0)] w λs1 _ w2 L1=>aQ .lss (s1.getD 0 undef) t7 λt9=>aS t9 (dP none 1 v0 (s1.getD 0 undef) λt14=>ldW false 1 t14 w2 λt15=>aQ .eql v1 t15 λt16=>aS t16 (K (s1.getD 0 undef) w2) (aQ .add (s1.getD 0 undef) (i64 1) λt18=>L1 [t18] w2)) (K (.int .i64 (-1)) w2)
theorem Zm{K:Q0}(h:aFt v0 v1 w K):aC P0 113 [v0,v1] w K:=
 tie _ 113 Tryz.f113 We _ w K 2 _ rfl mixed Tryz.func113 (by kernel_rfl) (by kernel_rfl) Tryz.call113 h
def VZ:cO:={js:=[],ds:=[]}
def aDf(v0:Value)(w:World)(K:Q0):=eqW .slice false v0 sN λt4=>aS t4 (K sN w) (dN 9 0 [] [] w λt5 w1=>dF P0 (Builtin.append_ #[24,24] 24 #[t5,v0]) w1 λt7 w2=>K t7 w2)
theorem Oz{K:Q0}(h:aDf v0 w K):aC P0 118 [v0] w K:=
 tie _ 118 Tryz.f118 VZ _ w K 1 _ rfl mixed Tryz.func118 (by kernel_rfl) (by kernel_rfl) Tryz.call118 h
def VS:cO:={js:=[],ds:=[]}
def Ze(v0 v1:Value)(w:World)(K:Q0):=aC P0 158 [v0,v1] w λt7 w1=>aQ .geq t7 (i64 0) λt8=>K t8 w1
theorem Jh{K:Q0}(h:Ze v0 v1 w K):aC P0 124 [v0,v1] w K:=
 tie _ 124 Tryz.f124 VS _ w K 2 _ rfl mixed Tryz.func124 (by kernel_rfl) (by kernel_rfl) Tryz.call124 h
def VF:cO:={js:=[(22004,⟨[55],[],54⟩),(11,⟨[25],[],6⟩),(16004,⟨[32],[],31⟩)],ds:=[]}
def aE9(v0 v1:Value)(w:World)(K:Q0):=sK .u32 v1 λt7=>aQ .leq t7 (.int .u32 2047) λt13=>aS t13 (aQ .shr v1 (.int .u64 6) λt16=>sK .u8 t16 λt17=>aQ .or (.int .u8 192) t17 λt18=>sK .u8 v1 λt20=>aQ .and t20 (.int .u8 63) λt21=>aQ .or (.int .u8 128) t21 λt22=>dN 5 2 [(.int .u8 0),(.int .u8 0)] [(0,1,t18),(1,1,t22)] w λt23 w1=>dF P0 (Builtin.append_ #[89,89] 89 #[v0,t23]) w1 λt24 w2=>K t24 w2) (bU (λJ3=>aQ .lss t7 (.int .u32 55296) λt27=>aS t27 (J3 [t27] w) (aQ .lss (.int .u32 57343) t7 λt29=>GdW (isB t29 true) [undef] w (λJ4=>aQ .leq t7 (.int .u32 65535) λt32=>J4 [t32] w) λs4 _ w5=>cV t29 (s4.getD 0 undef) (.bool false) λt33=>J3 [t33] w5)) λs3 _ w6=>aS (s3.getD 0 undef) (aQ .shr v1 (.int .u64 12) λt36=>sK .u8 t36 λt37=>aQ .or (.int .u8 224) t37 λt38=>aQ .shr v1 (.int .u64 6) λt40=>sK .u8 t40 λt41=>aQ .and t41 (.int .u8 63) λt42=>aQ .or (.int .u8 128) t42 λt43=>sK .u8 v1 λt45=>aQ .and t45 (.int .u8 63) λt46=>aQ .or (.int .u8 128) t46 λt47=>dN 5 3 [(.int .u8 0),(.int .u8 0),(.int .u8 0)] [(0,1,t38),(1,1,t43),(2,1,t47)] w6 λt48 w7=>dF P0 (Builtin.append_ #[89,89] 89 #[v0,t48]) w7 λt49 w8=>K t49 w8) (aQ .gtr t7 (.int .u32 65535) λt52=>GdW (isB t52 true) [undef] w6 (λJ9=>aQ .leq t7 (.int .u32 1114111) λt55=>J9 [t55] w6) λs9 _ w10=>cV t52 (s9.getD 0 undef) (.bool false) λt56=>aS t56 (aQ .shr v1 (.int .u64 18) λt59=>sK .u8 t59 λt60=>aQ .or (.int .u8 240) t60 λt61=>aQ .shr v1 (.int .u64 12) λt63=>sK .u8 t63 λt64=>aQ .and t64 (.int .u8 63) λt65=>aQ .or (.int .u8 128) t65 λt66=>aQ .shr v1 (.int .u64 6) λt68=>sK .u8 t68 λt69=>aQ .and t69 (.int .u8 63) λt70=>aQ .or (.int .u8 128) t70 λt71=>sK .u8 v1 λt73=>aQ .and t73 (.int .u8 63) λt74=>aQ .or (.int .u8 128) t74 λt75=>dN 5 4 [(.int .u8 0),(.int .u8 0),(.int .u8 0),(.int .u8 0)] [(0,1,t61),(1,1,t66),(2,1,t71),(3,1,t75)] w10 λt76 w11=>dF P0 (Builtin.append_ #[89,89] 89 #[v0,t76]) w11 λt77 w12=>K t77 w12) (dN 5 3 [(.int .u8 0),(.int .u8 0),(.int .u8 0)] [(0,1,(.int .u8 239)),(1,1,(.int .u8 191)),(2,1,(.int .u8 189))] w10 λt9 w13=>dF P0 (Builtin.append_ #[89,89] 89 #[v0,t9]) w13 λt10 w14=>K t10 w14)))
theorem YQ{K:Q0}(h:aE9 v0 v1 w K):aC P0 138 [v0,v1] w K:=
 tie _ 138 Tryz.f138 VF _ w K 2 _ rfl mixed Tryz.func138 (by kernel_rfl) (by kernel_rfl) Tryz.call138 h
def VE:cO:={js:=[],ds:=[]}
def aE8(v0 v1:Value)(w:World)(K:Q0):=aC P0 67 [v0,v1] w λt7 w1=>aS t7 (iT v1 λt10=>mY v0 (some t10) none λt11=>K t11 w1) (K v0 w1)
theorem YP{K:Q0}(h:aE8 v0 v1 w K):aC P0 144 [v0,v1] w K:=
 tie _ 144 Tryz.f144 VE _ w K 2 _ rfl mixed Tryz.func144 (by kernel_rfl) (by kernel_rfl) Tryz.call144 h
def VA:cO:={js:=[(24004,⟨[52],[],36⟩),(24005,⟨[51],[],43⟩),(24007,⟨[50],[],49⟩),(24013,⟨[48],[],43⟩),(24020,⟨[42],[],36⟩),(8,⟨[7,8],[],7⟩)],ds:=[]}
def aE4(v0 v1:Value)(w:World)(K:Q0):=dA v0 λt11=>cY [(i64 0),t11] w λs1 _ w2 L1=>aQ .lss (s1.getD 0 undef) (s1.getD 1 undef) λt15=>aS t15 (aQ .add (s1.getD 0 undef) (s1.getD 1 undef) λt18=>sK .u64 t18 λt19=>aQ .shr t19 (.int .u64 1) λt20=>sK .i64 t20 λt21=>dP none 1 v0 t21 λt24=>ldW false 1 t24 w2 λt25=>aC P0 206 [t25,v1] w2 λt27 w3=>aS t27 (aQ .add t21 (i64 1) λt29=>L1 [t29,(s1.getD 1 undef)] w3) (L1 [(s1.getD 0 undef),t21] w3)) (aQ .lss (s1.getD 0 undef) t11 λt34=>GdW (isB t34 true) [undef] w2 (λJ4=>dP none 1 v0 (s1.getD 0 undef) λt38=>ldW false 1 t38 w2 λt39=>aQ .eql t39 v1 λt41=>J4 [t41] w2) λs4 _ w5=>GdW (isB (s4.getD 0 undef) false) [undef] w5 (λJ6=>dP none 1 v0 (s1.getD 0 undef) λt45=>ldW false 1 t45 w5 λt46=>aC P0 207 [t46] w5 λt47 w7=>J6 [t47] w7) λs6 _ w8=>GdW (isB (s6.getD 0 undef) true) [undef] w8 (λJ9=>aC P0 207 [v1] w8 λt50 w10=>J9 [t50] w10) λs9 _ w11=>GdW (isB (s4.getD 0 undef) false) [undef] w11 (λJ12=>cV (s6.getD 0 undef) (s9.getD 0 undef) (.bool false) λt51=>J12 [t51] w11) λs12 _ w13=>GdW (isB t34 true) [undef] w13 (λJ14=>cV (s4.getD 0 undef) (.bool true) (s12.getD 0 undef) λt52=>J14 [t52] w13) λs14 _ w15=>cV t34 (s14.getD 0 undef) (.bool false) λt53=>K (.tuple #[(s1.getD 0 undef),t53]) w15)
theorem YK{K:Q0}(h:aE4 v0 v1 w K):aC P0 153 [v0,v1] w K:=
 tie _ 153 Tryz.f153 VA _ w K 2 _ rfl mixed Tryz.func153 (by kernel_rfl) (by kernel_rfl) Tryz.call153 h
def Vz:cO:={js:=[],ds:=[(45,⟨[0,1,2,3,4,5,6,7],[[],[],[],[1,2],[0,1,2,3],[],[],[5,6],[0,1,2,3,4,5,6,7]]⟩),(33,⟨[0,1,2,3,4,5,6,7],[[],[],[],[1,2],[0,1,2,3],[],[],[5,6],[0,1,2,3,4,5,6,7]]⟩)]}
def aFU(v0 v1 v2:Value)(w:World)(K:Q0):=kR 1 v0 (some v1) none none λt12=>dA v2 λt14=>aQ .eql t14 (i64 0) λt16=>aS t16 (K v0 w) (dA v0 λt19=>aQ .eql v1 t19 λt22=>aS t22 (dF P0 (Builtin.append_ #[24,24] 24 #[v0,v2]) w λt25 w1=>K t25 w1) (aQ .add t19 t14 λt28=>Qh v0 λt30=>aQ .gtr t28 t30 λt31=>aS t31 (kR 1 v0 none (some v1) none λt34=>aQ .add t19 t14 λt37=>aQ .sub t37 v1 λt39=>dF P0 (Builtin.append_ #[24,3] 24 #[t34,t39]) w λt40 w2=>kR 1 t40 (some v1) none none λt43=>dF P0 (Builtin.copy_ #[24,24] 3 #[t43,v2]) w2 λt45 w3=>aQ .add v1 t14 λt49=>kR 1 t40 (some t49) none none λt50=>kR 1 v0 (some v1) none none λt53=>dF P0 (Builtin.copy_ #[24,24] 3 #[t50,t53]) w3.drew λt54 w4=>K t40 w4) (aQ .add t19 t14 λt59=>kR 1 v0 none (some t59) none λt60=>aQ .add v1 t14 λt65=>kR 1 t60 (some t65) none none λt66=>aC P0 208 [v2,t66] w λt67 w5=>unW .not t67 λt68=>aS t68 (aQ .add v1 t14 λt72=>kR 1 t60 (some t72) none none λt73=>kR 1 t60 (some v1) none none λt76=>dF P0 (Builtin.copy_ #[24,24] 3 #[t73,t76]) w5.drew λt77 w6=>kR 1 t60 (some v1) none none λt80=>dF P0 (Builtin.copy_ #[24,24] 3 #[t80,v2]) w6 λt82 w7=>K t60 w7) (kR 1 t60 (some t19) none none λt86=>dF P0 (Builtin.copy_ #[24,24] 3 #[t86,v2]) w5 λt88 w8=>kR 1 t60 (some v1) none none λt91=>aC P0 209 [t91,t14] w8 λt93 w9=>K t60 w9))))
theorem YJ{K:Q0}(h:aFU v0 v1 v2 w K):aC P0 154 [v0,v1,v2] w K:=
 tie _ 154 Tryz.f154 Vz _ w K 3 _ rfl mixed Tryz.func154 (by kernel_rfl) (by kernel_rfl) Tryz.call154 h
def Vy:cO:={js:=[],ds:=[(45,⟨[0,1,2,3,4,5,6,7],[[],[],[],[1,2],[0,1,2,3],[],[],[5,6],[0,1,2,3,4,5,6,7]]⟩),(33,⟨[0,1,2,3,4,5,6,7],[[],[],[],[1,2],[0,1,2,3],[],[],[5,6],[0,1,2,3,4,5,6,7]]⟩)]}
def aFT(v0 v1 v2:Value)(w:World)(K:Q0):=kR 5 v0 (some v1) none none λt12=>dA v2 λt14=>aQ .eql t14 (i64 0) λt16=>aS t16 (K v0 w) (dA v0 λt19=>aQ .eql v1 t19 λt22=>aS t22 (dF P0 (Builtin.append_ #[23,23] 23 #[v0,v2]) w λt25 w1=>K t25 w1) (aQ .add t19 t14 λt28=>Qh v0 λt30=>aQ .gtr t28 t30 λt31=>aS t31 (kR 5 v0 none (some v1) none λt34=>aQ .add t19 t14 λt37=>aQ .sub t37 v1 λt39=>dF P0 (Builtin.append_ #[23,3] 23 #[t34,t39]) w λt40 w2=>kR 5 t40 (some v1) none none λt43=>dF P0 (Builtin.copy_ #[23,23] 3 #[t43,v2]) w2 λt45 w3=>aQ .add v1 t14 λt49=>kR 5 t40 (some t49) none none λt50=>kR 5 v0 (some v1) none none λt53=>dF P0 (Builtin.copy_ #[23,23] 3 #[t50,t53]) w3.drew λt54 w4=>K t40 w4) (aQ .add t19 t14 λt59=>kR 5 v0 none (some t59) none λt60=>aQ .add v1 t14 λt65=>kR 5 t60 (some t65) none none λt66=>aC P0 210 [v2,t66] w λt67 w5=>unW .not t67 λt68=>aS t68 (aQ .add v1 t14 λt72=>kR 5 t60 (some t72) none none λt73=>kR 5 t60 (some v1) none none λt76=>dF P0 (Builtin.copy_ #[23,23] 3 #[t73,t76]) w5.drew λt77 w6=>kR 5 t60 (some v1) none none λt80=>dF P0 (Builtin.copy_ #[23,23] 3 #[t80,v2]) w6 λt82 w7=>K t60 w7) (kR 5 t60 (some t19) none none λt86=>dF P0 (Builtin.copy_ #[23,23] 3 #[t86,v2]) w5 λt88 w8=>kR 5 t60 (some v1) none none λt91=>aC P0 211 [t91,t14] w8 λt93 w9=>K t60 w9))))
theorem YI{K:Q0}(h:aFT v0 v1 v2 w K):aC P0 155 [v0,v1,v2] w K:=
 tie _ 155 Tryz.f155 Vy _ w K 3 _ rfl mixed Tryz.func155 (by kernel_rfl) (by kernel_rfl) Tryz.call155 h
def Vw:cO:={js:=[],ds:=[]}
def aE2(v0:Value)(w:World)(K:Q0):=aC P0 212 [v0] w λt8 w1=>dO 0 t8 λt9=>dO 1 t8 λt10=>eqQ P0 .neq 118 false true t10 .nilIface w1 λt12=>aS t12 (aC P0 213 [(str [65,116,111,105]),v0,(i64 0),(i64 0),t10] w1 λt16 w2=>K (.tuple #[t9,t16]) w2) (K (.tuple #[t9,.nilIface]) w1)
theorem YG{K:Q0}(h:aE2 v0 w K):aC P0 157 [v0] w K:=
 tie _ 157 Tryz.f157 Vw _ w K 1 _ rfl mixed Tryz.func157 (by kernel_rfl) (by kernel_rfl) Tryz.call157 h
def Vv:cO:={js:=[(6,⟨[8],[4,5],8⟩)],ds:=[]}
def YF(v0 v1:Value)(w:World)(K:Q0):=dA v0 λt7=>cY [(i64 0)] w λs1 _ w2 L1=>aQ .lss (s1.getD 0 undef) t7 λt9=>aS t9 (dP none 5 v0 (s1.getD 0 undef) λt14=>ldW true 5 t14 w2 λt15=>pG P0 v1 [t15] w2 λt16 w3=>aS t16 (K (s1.getD 0 undef) w3) (aQ .add (s1.getD 0 undef) (i64 1) λt18=>L1 [t18] w3)) (K (.int .i64 (-1)) w2)
theorem Jg{K:Q0}(h:YF v0 v1 w K):aC P0 158 [v0,v1] w K:=
 tie _ 158 Tryz.f158 Vv _ w K 2 _ rfl mixed Tryz.func158 (by kernel_rfl) (by kernel_rfl) Tryz.call158 h
def Vn:cO:={js:=[],ds:=[]}
def aEU(v0 v1:Value)(w:World)(K:Q0):=aC P0 229 [v0] w λt8 w1=>aC P0 229 [v1] w1 λt10 w2=>aS t8 (aS t10 (K (i64 0) w2) (K (.int .i64 (-1)) w2)) (aS t10 (K (i64 1) w2) (aQ .lss v0 v1 λt16=>aS t16 (K (.int .i64 (-1)) w2) (aQ .gtr v0 v1 λt19=>aS t19 (K (i64 1) w2) (K (i64 0) w2))))
theorem Yx{K:Q0}(h:aEU v0 v1 w K):aC P0 189 [v0,v1] w K:=
 tie _ 189 Tryz.f189 Vn _ w K 2 _ rfl mixed Tryz.func189 (by kernel_rfl) (by kernel_rfl) Tryz.call189 h
def Vm:cO:={js:=[],ds:=[]}
def aET(v0 v1:Value)(w:World)(K:Q0):=aC P0 230 [v0] w λt8 w1=>aC P0 230 [v1] w1 λt10 w2=>aS t8 (aS t10 (K (i64 0) w2) (K (.int .i64 (-1)) w2)) (aS t10 (K (i64 1) w2) (aQ .lss v0 v1 λt16=>aS t16 (K (.int .i64 (-1)) w2) (aQ .gtr v0 v1 λt19=>aS t19 (K (i64 1) w2) (K (i64 0) w2))))
theorem Yw{K:Q0}(h:aET v0 v1 w K):aC P0 190 [v0,v1] w K:=
 tie _ 190 Tryz.f190 Vm _ w K 2 _ rfl mixed Tryz.func190 (by kernel_rfl) (by kernel_rfl) Tryz.call190 h
def Vk:cO:={js:=[(8,⟨[8],[2,5],8⟩)],ds:=[]}
def aER(v0:Value)(w:World)(K:Q0):=dA v0 λt7=>cY [(i64 0)] w λs1 _ w2 L1=>aQ .lss (s1.getD 0 undef) t7 λt9=>aS t9 (dP none 1 v0 (s1.getD 0 undef) λt10=>ldW false 1 t10 w2 λt11=>aQ .neq t11 (i64 0) λt14=>aS t14 (K t11 w2) (aQ .add (s1.getD 0 undef) (i64 1) λt16=>L1 [t16] w2)) (K (i64 0) w2)
theorem Yu{K:Q0}(h:aER v0 w K):aC P0 193 [v0] w K:=
 tie _ 193 Tryz.f193 Vk _ w K 1 _ rfl mixed Tryz.func193 (by kernel_rfl) (by kernel_rfl) Tryz.call193 h
def Vj:cO:={js:=[(6,⟨[11],[4,5,6,7,8],11⟩)],ds:=[]}
def aEQ(v0 v1:Value)(w:World)(K:Q0):=dA v0 λt10=>cY [(i64 0)] w λs1 _ w2 L1=>aQ .lss (s1.getD 0 undef) t10 λt12=>aS t12 (dP none 1 v0 (s1.getD 0 undef) λt14=>ldW false 1 t14 w2 λt15=>dA v1 λt18=>aQ .geq (s1.getD 0 undef) t18 λt19=>aS t19 (K (i64 1) w2) (dP none 1 v1 (s1.getD 0 undef) λt22=>ldW false 1 t22 w2 λt23=>aC P0 232 [t15,t23] w2 λt26 w3=>aQ .neq t26 (i64 0) λt28=>aS t28 (K t26 w3) (aQ .add (s1.getD 0 undef) (i64 1) λt30=>L1 [t30] w3))) (dA v0 λt32=>dA v1 λt34=>aQ .lss t32 t34 λt35=>aS t35 (K (.int .i64 (-1)) w2) (K (i64 0) w2))
theorem Yt{K:Q0}(h:aEQ v0 v1 w K):aC P0 194 [v0,v1] w K:=
 tie _ 194 Tryz.f194 Vj _ w K 2 _ rfl mixed Tryz.func194 (by kernel_rfl) (by kernel_rfl) Tryz.call194 h
def Vi:cO:={js:=[(6,⟨[13],[6,7,8,9,10],13⟩)],ds:=[]}
def aEP(v0 v1 v2:Value)(w:World)(K:Q0):=dA v0 λt12=>cY [(i64 0)] w λs1 _ w2 L1=>aQ .lss (s1.getD 0 undef) t12 λt14=>aS t14 (dP none 5 v0 (s1.getD 0 undef) λt16=>ldW true 5 t16 w2 λt17=>bQ 26 zL0 w2 λt8 w3=>stW 5 t8 t17 w3 λw4=>dA v1 λt20=>aQ .geq (s1.getD 0 undef) t20 λt21=>aS t21 (K (i64 1) w4) (dP none 5 v1 (s1.getD 0 undef) λt24=>ldW true 5 t24 w4 λt25=>bQ 26 zL0 w4 λt9 w5=>stW 5 t9 t25 w5 λw6=>ldW true 5 t8 w6 λt27=>ldW true 5 t9 w6 λt28=>pG P0 v2 [t27,t28] w6 λt29 w7=>aQ .neq t29 (i64 0) λt31=>aS t31 (K t29 w7) (aQ .add (s1.getD 0 undef) (i64 1) λt33=>L1 [t33] w7))) (dA v0 λt35=>dA v1 λt37=>aQ .lss t35 t37 λt38=>aS t38 (K (.int .i64 (-1)) w2) (K (i64 0) w2))
theorem Ys{K:Q0}(h:aEP v0 v1 v2 w K):aC P0 195 [v0,v1,v2] w K:=
 tie _ 195 Tryz.f195 Vi _ w K 3 _ rfl mixed Tryz.func195 (by kernel_rfl) (by kernel_rfl) Tryz.call195 h
def Va:cO:={js:=[(3005,⟨[15],[],13⟩),(3010,⟨[10],[],8⟩)],ds:=[]}
def aEI(v0 v1:Value)(w:World)(K:Q0):=aC P0 238 [v0] w λt6 w1=>GdW (isB t6 true) [undef] w1 (λJ2=>aC P0 238 [v1] w1 λt9 w3=>unW .not t9 λt10=>J2 [t10] w3) λs2 _ w4=>cV t6 (s2.getD 0 undef) (.bool false) λt11=>GdW (isB t11 false) [undef] w4 (λJ5=>aQ .lss v0 v1 λt15=>J5 [t15] w4) λs5 _ w6=>cV t11 (.bool true) (s5.getD 0 undef) λt16=>K t16 w6
theorem Yl{K:Q0}(h:aEI v0 v1 w K):aC P0 206 [v0,v1] w K:=
 tie _ 206 Tryz.f206 Va _ w K 2 _ rfl mixed Tryz.func206 (by kernel_rfl) (by kernel_rfl) Tryz.call206 h
def UZ:cO:={js:=[],ds:=[]}
def aFS(v0:Value)(w:World)(K:Q0):=aQ .neq v0 v0 λt5=>K t5 w
theorem Yk{K:Q0}(h:aFS v0 w K):aC P0 207 [v0] w K:=
 tie _ 207 Tryz.f207 UZ _ w K 1 _ rfl mixed Tryz.func207 (by kernel_rfl) (by kernel_rfl) Tryz.call207 h
def UW:cO:={js:=[(3,⟨[2,3],[],1⟩)],ds:=[(12,⟨[0,1,2,3,4,5,6,7,8,9,10,11,12,14],[[],[],[],[],[],[],[4,5],[4,5,6],[],[],[8,9],[8,9,10],[0,1,4,5,6,7,8,9,10,11],[0,1,4,5,6,7,8,9,10,11,12],[0,1,2,3,4,5,6,7,8,9,10,11,12,13],[0,1,2,3,4,5,6,7,8,9,10,11,12,13,14]]⟩)]}
def aEF(v0:Value)(w:World)(K:Q0):=dA v0 λt5=>aQ .sub t5 (i64 1) λt6=>cY [(i64 0),t6] w λs1 _ w2 L1=>aQ .lss (s1.getD 0 undef) (s1.getD 1 undef) λt9=>aS t9 (dP none 5 v0 (s1.getD 1 undef) λt20=>ldW true 5 t20 w2.drew λt21=>dP none 5 v0 (s1.getD 0 undef) λt24=>ldW true 5 t24 w2.drew λt25=>dP none 5 v0 (s1.getD 0 undef) λt26=>stW 5 t26 t21 w2.drew λw3=>dP none 5 v0 (s1.getD 1 undef) λt27=>stW 5 t27 t25 w3 λw4=>aQ .add (s1.getD 0 undef) (i64 1) λt11=>aQ .sub (s1.getD 1 undef) (i64 1) λt13=>L1 [t11,t13] w4) (K (.tuple #[]) w2)
theorem Yh{K:Q0}(h:aEF v0 w K):aC P0 219 [v0] w K:=
 tie _ 219 Tryz.f219 UW _ w K 1 _ rfl mixed Tryz.func219 (by kernel_rfl) (by kernel_rfl) Tryz.call219 h
def UU:cO:={js:=[],ds:=[]}
def aED(v0 v1:Value)(w:World)(K:Q0):=aC P0 251 [v0,v1] w λt8 w1=>dO 0 t8 λt9=>dO 1 t8 λt10=>K (.tuple #[t9,t10]) w1
theorem Yf{K:Q0}(h:aED v0 v1 w K):aC P0 225 [v0,v1] w K:=
 tie _ 225 Tryz.f225 UU _ w K 2 _ rfl mixed Tryz.func225 (by kernel_rfl) (by kernel_rfl) Tryz.call225 h
def UT:cO:={js:=[],ds:=[]}
def aEC(v0 v1:Value)(w:World)(K:Q0):=aC P0 254 [v0,v1] w λt7 w1=>K t7 w1
theorem Ye{K:Q0}(h:aEC v0 v1 w K):aC P0 228 [v0,v1] w K:=
 tie _ 228 Tryz.f228 UT _ w K 2 _ rfl mixed Tryz.func228 (by kernel_rfl) (by kernel_rfl) Tryz.call228 h
def US:cO:={js:=[],ds:=[]}
def aFR(v0:Value)(w:World)(K:Q0):=aQ .neq v0 v0 λt5=>K t5 w
theorem Yd{K:Q0}(h:aFR v0 w K):aC P0 229 [v0] w K:=
 tie _ 229 Tryz.f229 US _ w K 1 _ rfl mixed Tryz.func229 (by kernel_rfl) (by kernel_rfl) Tryz.call229 h
def UR:cO:={js:=[],ds:=[]}
def aFQ(v0:Value)(w:World)(K:Q0):=aQ .neq v0 v0 λt5=>K t5 w
theorem Yc{K:Q0}(h:aFQ v0 w K):aC P0 230 [v0] w K:=
 tie _ 230 Tryz.f230 UR _ w K 1 _ rfl mixed Tryz.func230 (by kernel_rfl) (by kernel_rfl) Tryz.call230 h
def UQ:cO:={js:=[],ds:=[]}
def aEB(v0 v1:Value)(w:World)(K:Q0):=aC P0 238 [v0] w λt8 w1=>aC P0 238 [v1] w1 λt10 w2=>aS t8 (aS t10 (K (i64 0) w2) (K (.int .i64 (-1)) w2)) (aS t10 (K (i64 1) w2) (aQ .lss v0 v1 λt16=>aS t16 (K (.int .i64 (-1)) w2) (aQ .gtr v0 v1 λt19=>aS t19 (K (i64 1) w2) (K (i64 0) w2))))
theorem Yb{K:Q0}(h:aEB v0 v1 w K):aC P0 232 [v0,v1] w K:=
 tie _ 232 Tryz.f232 UQ _ w K 2 _ rfl mixed Tryz.func232 (by kernel_rfl) (by kernel_rfl) Tryz.call232 h
def UP:cO:={js:=[],ds:=[]}
def aEA(v0 v1:Value)(w:World)(K:Q0):=aC P0 256 [v0] w λt8 w1=>aC P0 256 [v1] w1 λt10 w2=>aS t8 (aS t10 (K (i64 0) w2) (K (.int .i64 (-1)) w2)) (aS t10 (K (i64 1) w2) (aQ .lss v0 v1 λt16=>aS t16 (K (.int .i64 (-1)) w2) (aQ .gtr v0 v1 λt19=>aS t19 (K (i64 1) w2) (K (i64 0) w2))))
theorem Ya{K:Q0}(h:aEA v0 v1 w K):aC P0 233 [v0,v1] w K:=
 tie _ 233 Tryz.f233 UP _ w K 2 _ rfl mixed Tryz.func233 (by kernel_rfl) (by kernel_rfl) Tryz.call233 h
def UM:cO:={js:=[],ds:=[]}
def aFP(v0:Value)(w:World)(K:Q0):=aQ .neq v0 v0 λt5=>K t5 w
theorem XX{K:Q0}(h:aFP v0 w K):aC P0 238 [v0] w K:=
 tie _ 238 Tryz.f238 UM _ w K 1 _ rfl mixed Tryz.func238 (by kernel_rfl) (by kernel_rfl) Tryz.call238 h
def UK:cO:={js:=[],ds:=[]}
def aEw(v0 v1:Value)(w:World)(K:Q0):=aC P0 67 [v0,v1] w λt8 w1=>unW .not t8 λt9=>aS t9 (K (.tuple #[v0,(.bool false)]) w1) (iT v1 λt13=>mY v0 (some t13) none λt14=>K (.tuple #[t14,(.bool true)]) w1)
theorem XV{K:Q0}(h:aEw v0 v1 w K):aC P0 251 [v0,v1] w K:=
 tie _ 251 Tryz.f251 UK _ w K 2 _ rfl mixed Tryz.func251 (by kernel_rfl) (by kernel_rfl) Tryz.call251 h
def UJ:cO:={js:=[],ds:=[]}
def aEv(v0 v1:Value)(w:World)(K:Q0):=aQ .eql v1 (i64 10) λt10=>aS t10 (aQ .lss v0 (.int .u64 100) λt12=>aS t12 (sK .i64 v0 λt14=>aC P0 274 [t14] w λt15 w1=>K t15 w1) (bQ 262 (List.replicate 24 (.int .u8 0)) w λt5 w2=>aC P0 275 [v0] w2 λt17 w3=>ON 24 1 t5 none (some t17) none λt19=>aC P0 276 [t19,v0] w3 λt21 w4=>ON 24 1 t5 none (some t17) none λt23=>nZ P0 (convert 89 9 t23) w4 λt24=>K t24 w4)) (aC P0 277 [sN,v0,v1,(.bool false),(.bool false)] w λt28 w5=>dO 0 t28 λt29=>dO 1 t28 λt30=>K t30 w5)
theorem XU{K:Q0}(h:aEv v0 v1 w K):aC P0 254 [v0,v1] w K:=
 tie _ 254 Tryz.f254 UJ _ w K 2 _ rfl mixed Tryz.func254 (by kernel_rfl) (by kernel_rfl) Tryz.call254 h
def UI:cO:={js:=[],ds:=[]}
def aFO(v0:Value)(w:World)(K:Q0):=aQ .neq v0 v0 λt5=>K t5 w
theorem XT{K:Q0}(h:aFO v0 w K):aC P0 256 [v0] w K:=
 tie _ 256 Tryz.f256 UI _ w K 1 _ rfl mixed Tryz.func256 (by kernel_rfl) (by kernel_rfl) Tryz.call256 h
end
section
open Go Go.Eng Go.Num
variable{w:World}{K:Q0}{cs:List Value}{G:Nat->Prop}{T:TypeId}{i:Nat}{n:Nat}{v:Value}{w':World}{P:Program}{c:UInt8}{S:Nat->Prop}
abbrev VT:TypeId:=26
structure tZ(w:World)(a:Nat)(v:JV)(sv kv:Value):Prop where
 hb:w.heap[a]?=some (.cells [i64 v.k,.bool v.b,str v.t,sv,kv].toArray VT (0,0))
 items:∃T L,SlAt w T sv v.xs.length L/\eK w v.xs L
 keys:∃T,SlAt w T kv v.ks.length (v.ks.map str)
 fits:Fits v.xs.length v.ks v.t
theorem tZ.ext{a:Nat}{v:JV}{sv kv:Value}(h:tZ w a v sv kv)(j:Ext w w'):tZ w' a v sv kv:=
 ⟨j.at h.hb id,let⟨T,L,h1,o⟩:=h.items;⟨T,L,h1.ext j,o.ext j⟩,let⟨T,h1⟩:=h.keys;⟨T,h1.ext j⟩,h.fits⟩
theorem tZ.rep{a:Nat}{v:JV}{sv kv:Value}(h:tZ w a v sv kv):eX w v [i64 v.k,.bool v.b,str v.t,sv,kv]:=by
 obtain⟨T,L,h1,o⟩:=h.items;obtain⟨T',j⟩:=h.keys;exact eX.mk h1 o j h.fits
theorem tZ.ld{a:Nat}{v:JV}{sv kv:Value}{K:Value->Prop}(h:tZ w a v sv kv)(j:∀cs,eX w v cs->K (.agg cs.toArray)):ldW true 5 (.pointer (some ⟨a,0,none⟩)) w K:=bZ h.hb rfl (j _ h.rep)
theorem tZ.lenx{a:Nat}{v:JV}{sv kv:Value}(h:tZ w a v sv kv)(K:Value->Prop):dA sv K↔K (i64 v.xs.length):=by obtain⟨T,L,h1,_⟩:=h.items;exact fL h1 K
theorem tZ.lenk{a:Nat}{v:JV}{sv kv:Value}(h:tZ w a v sv kv)(K:Value->Prop):dA kv K↔K (i64 v.ks.length):=by obtain⟨T,h1⟩:=h.keys;exact fL h1 K
theorem tZ.item{a:Nat}{v:JV}{sv kv:Value}{k:IntKind}{x:JV}{K:Value->Prop}(h:tZ w a v sv kv)(hi:v.xs[i]?=some x)(j:∀cs,eX w x cs->K (.agg cs.toArray)):dP none 5 sv (.int k i) λp=>ldW true 5 p w K:=by
 obtain⟨T,L,h1,o⟩:=h.items;exact IK h1 o hi j
theorem tZ.key{a:Nat}{v:JV}{sv kv:Value}{k:IntKind}{x:Str}{K:Value->Prop}(h:tZ w a v sv kv)(hi:v.ks[i]?=some x)(j:K (str x)):dP none 1 kv (.int k i) λp=>ldW false 1 p w K:=by
 obtain⟨T,h1⟩:=h.keys;exact nM h1 hi j
theorem kJ{v:JV}{K:Q0}(h:eX w v cs)(o:∀a w' sv kv,tZ w' a v sv kv->Ext w w'->w.heap.size<=a->K (.pointer (some ⟨a,0,none⟩)) w'):eW VT (.agg cs.toArray) w K:=by
 obtain⟨sv,kv,T1,T2,L,rfl,h1,U,J,I⟩:=h.out;refine fY λa w' ha hz hb j=>o a w' sv kv ⟨hb,⟨T1,L,h1.ext j,U.ext j⟩,⟨T2,J.ext j⟩,I⟩ j (by omega)
structure TC(w:World)(v:JV)(sv kv:Value):Prop where
 items:∃T L,SlAt w T sv v.xs.length L/\eK w v.xs L
 keys:∃T,SlAt w T kv v.ks.length (v.ks.map str)
 fits:Fits v.xs.length v.ks v.t
theorem TC.box{a:Nat}{v:JV}{sv kv:Value}(h:TC w v sv kv)(j:Ext w w')(hb:w'.heap[a]?=some (.cells [i64 v.k,.bool v.b,str v.t,sv,kv].toArray VT (0,0))):tZ w' a v sv kv:=
 ⟨hb,let⟨T,L,h1,o⟩:=h.items;⟨T,L,h1.ext j,o.ext j⟩,let⟨T,h1⟩:=h.keys;⟨T,h1.ext j⟩,h.fits⟩
theorem FU{w0:World}{v:JV}{K:Q0}(h:eX w0 v cs)(o:∀a w' sv kv,w'.heap[a]?=some (.cells [i64 v.k,.bool v.b,str v.t,sv,kv].toArray VT (0,0))->TC w0 v sv kv->Ext w w'->w.heap.size<=a->w'.heap.size=a+1->K (.pointer (some ⟨a,0,none⟩)) w'):eW VT (.agg cs.toArray) w K:=by
 obtain⟨sv,kv,T1,T2,L,rfl,h1,U,J,I⟩:=h.out;refine fY λa w' ha hz hb j=>o a w' sv kv hb ⟨⟨T1,L,h1,U⟩,⟨T2,J⟩,I⟩ j (by omega) (by omega)
theorem TC.item_old{w0:World}{v:JV}{sv kv:Value}{k:IntKind}{x:JV}{K:Value->Prop}(h:TC w0 v sv kv)(hx:Ext w0 w)(hi:v.xs[i]?=some x)(hK:∀cs,eX w0 x cs->K (.agg cs.toArray)):dP none 5 sv (.int k i) λp=>ldW true 5 p w K:=by
 obtain⟨T,L,h1,h2⟩:=h.items;obtain⟨cs,U,hg⟩:=h2.get hi;refine rR (size:=5) (h1.ext hx) h2.len (by omega) (List.getElem?_eq_some_iff.1 hi).1 λb o c fr hb I=>?_;exact pS hb U.len (λj J=>(I j J).trans (hg j J)) (hK cs U)
def aFB(w0 w:World)(v:JV)(cs:List Value):Prop:=∃sv kv T1 T2 L,cs=[i64 v.k,.bool v.b,str v.t,sv,kv]/\SlAt w T1 sv v.xs.length L/\eK w0 v.xs L/\SlAt w T2 kv v.ks.length (v.ks.map str)/\Fits v.xs.length v.ks v.t
theorem mT(n:Nat){w1:World}{B:List Value->Fr->World->(List Value->World->Prop)->Prop}(R:Nat->World->Prop)(h0:R 0 w1)
  (step:∀i w g L,i<n->R i w->(∀w',R (i+1) w'->L [i64 ((i+1:Nat):Int)] w')->B [i64 (i:Nat)] g w L)
  (fin:∀w g L,R n w->B [i64 (n:Nat)] g w L):cY [i64 0] w1 B:=by
 refine⟨λs w=>∃i,i<=n/\s=[i64 (i:Nat)]/\R i w,λs _=>match s with|[.int _ i]=>n-i.toNat|_=>0,⟨0,fR _,rfl,h0⟩,?_⟩;rintro s g w ⟨i,hi,rfl,o⟩;rcases dR i n with j|I
 ·exact step i w g _ j o λw' J=>⟨⟨i+1,j,rfl,J⟩,by simp only[aW];omega⟩
 ·obtain rfl:i=n:=by omega
  exact fin w g _ o
theorem up1(h:(i:Int)<9223372036854775807):IntKind.i64.wrap ((i:Int)+1)=((i+1:Nat):Int):=by rw[cN (by omega) (by omega)];simp
section
variable [HX]
theorem OJ{a b:List Str}{x y:Value}{T1 T2:TypeId}{K:Q0}(h1:SlAt w T1 x a.length (a.map str))(h2:SlAt w T2 y b.length (b.map str))(ha:a.length<=9223372036854775807)
  (hK:∀w',Ext w w'->K (.bool (decide (a=b))) w'):aC P0 37 [x,y] w K:=by
 refine aCV ?_;unfold W37;rw[fL h1,fL h2];simp only[wsv,wsg,wsh,wsl,aM,aK,aD,fB,Nat.reduceAdd,Nat.reduceLT,aF,aA,aI,aH,bP,reduceCtorEq,aO];refine⟨λJ=>?_,λU=>?_⟩
 ·have:a≠b:=by rintro rfl;exact J rfl
  have:=hK w (Chg.refl _ _);rw[cH ‹a≠b›]at this;exact this
 ·have hl:a.length=b.length:=by omega
  rw[fL h1];refine mT a.length (λi w'=>Ext w w'/\a.take i=b.take i) ⟨Chg.refl _ _,rfl⟩ ?_ ?_
  ·rintro i w2 g L hi ⟨I,o⟩ hL;have j:=I.trans (Chg.drew (Chg.refl (λ_=>False) w2));obtain⟨u,hu⟩:∃u,a[i]?=some u:=⟨_,List.getElem?_eq_getElem hi⟩;obtain⟨v,hv⟩:∃v,b[i]?=some v:=⟨_,List.getElem?_eq_getElem (by omega)⟩;have hh:((i:Int)<(a.length:Int)):=by omega
   simp only[wsv,wsg,wsh,wsl,aM,aK,aD,fB,Nat.reduceAdd,Nat.reduceLT,aF,aA,aI,aH,bP,reduceCtorEq,hh];refine nM (h1.ext j) hu ?_;refine nM (h2.ext j) hv ?_;simp only[wsv,wsg,wsh,wsl,aM,aK,aD,fB,Nat.reduceAdd,Nat.reduceLT,aF,aA,aI,aH,bP,reduceCtorEq,aO];refine⟨λJ=>?_,λU=>?_⟩
   ·have:=hK _ j;rw[cH (Ua hu hv J)]at this;exact this
   ·rw[up1 (by omega)];have U:u=v:=by simpa using U
    exact hL _ ⟨j,Nq o hu (by rw[U];exact hv)⟩
  ·rintro w2 g L ⟨I,o⟩;simp only[wsv,wsg,wsh,wsl,aM,aK,aD,fB,Nat.reduceAdd,Nat.reduceLT,aF,aA,aI,aH,bP,reduceCtorEq,fJ];rw[bR,hl,bR]at o;have:=hK w2 I;rw[bH o]at this;exact this
end
section
variable [HX]
theorem Py(c:UInt8):(decide (((c.toNat:Nat):Int)<48)||decide ((57:Int)<((c.toNat:Nat):Int)))=!Num.isDig c:=by
 unfold Num.isDig;rcases dR c.toNat 48 with h|h
 ·rw[bH (by omega),cH (show¬48<=c.toNat by omega)];rfl
 ·rw[cH (show¬((c.toNat:Nat):Int)<48 by omega),bH (show 48<=c.toNat by omega)];rcases dR 57 c.toNat with j|j
  ·rw[bH (by omega),cH (show¬c.toNat<=57 by omega)];rfl
  ·rw[cH (by omega),bH (show c.toNat<=57 by omega)];rfl
theorem aDv(c:UInt8)(m:Int)(d:UInt8)(hm:m=(d.toNat:Nat)):decide (((c.toNat:Nat):Int)=m)=(c==d):=by
 rw[mK,bD,fV,hm];constructor
 ·intro h;exact kO.1 (by omega)
 ·intro h;rw[h]
theorem MC{ks:List Str}{a b:Str}(j:ks[i]?=some a)(hb:ks[i+1]?=some b)(h:Op.bytesLess a b=false):iX ks=false:=by
 induction ks generalizing i with
 |nil=>simp at j
 |cons x r ih=>
  cases r with
  |nil=>simp at hb
  |cons y r=>
   cases i with
   |zero=>simp only[List.getElem?_cons_zero,bF,aX,List.getElem?_cons_succ]at j hb;subst j hb;simp[iX,h]
   |succ i=>
    simp only[List.getElem?_cons_succ]at j hb;rw[iX,ih (by simpa using j) (by simpa using hb)];simp
theorem Ks{ks:List Str}{a:Str}(j:ks[i]?=some a)(h:16384<a.length):iX ks=false:=by
 induction ks generalizing i with
 |nil=>simp at j
 |cons x r ih=>
  cases i with
  |zero=>
   simp only[List.getElem?_cons_zero,bF]at j;subst j;cases r with
   |nil=>simp only[iX,decide_eq_false_iff_not];omega
   |cons y r=>rw[iX,cH (by omega)];rfl
  |succ i=>
   simp only[List.getElem?_cons_succ]at j;cases r with
   |nil=>simp at j
   |cons y r=>rw[iX,ih j];simp
theorem Pu{ks:List Str}(h1:∀(i:Nat) (a:Str),ks[i]?=some a->a.length<=16384)(j:∀(i:Nat) (a b:Str),ks[i]?=some a->ks[i+1]?=some b->Op.bytesLess a b=true):iX ks=true:=by
 induction ks with
 |nil=>rfl
 |cons x r ih=>
  have:=ih (λi a h=>h1 (i+1) a (by rw[List.getElem?_cons_succ];exact h)) (λi a b o hb=>j (i+1) a b (by rw[List.getElem?_cons_succ];exact o) (by rw[List.getElem?_cons_succ];exact hb));cases r with
  |nil=>simp only[iX,bD];exact h1 0 x rfl
  |cons y r=>rw[iX,this,j 0 x y rfl rfl,bH (h1 0 x rfl)];rfl
theorem QZ(a:JV):∀{b:JV} {cs ds:List Value} {w:World} {K:Q0},eX w a cs->eX w b ds->(∀w',Ext w w'->K (.bool (Da a b)) w')->aC P0 17 [.agg cs.toArray,.agg ds.toArray] w K:=by
 induction a using JV.ind' with
 |h v ih=>
  intro b cs ds w K h h' hK;refine aDa ?_;unfold W17;refine kJ h λx w1 sv kv hB hx _=>?_;refine kJ (h'.ext hx) λy w2 sv' kv' U hj _=>?_;have hB:=hB.ext hj;have hx:=hx.trans hj;clear hj;rw[Ra]at hK;simp only[wsv,wsg,wsh,wsl,aM,aK,aD,fB,Nat.reduceAdd,Nat.reduceLT,aF,aA,aI,aH,bP,reduceCtorEq,wsh,hB.hb,U.hb,ZV,aDV];intros;refine GdW.act (!decide (v.ks=b.ks)) (λw'=>Ext w2 w') (λ_=>Chg.refl _ _) ?_ ?_
  ·intro hc J hJ;obtain⟨T1,k1⟩:=hB.keys;obtain⟨T2,k2⟩:=U.keys;refine OJ k1 k2 hB.fits.2.1 λw3 o=>?_;simp only[wsv,wsg,wsh,wsl,aM,aK,aD,fB,Nat.reduceAdd,Nat.reduceLT,aF,aA,aI,aH,bP,reduceCtorEq];exact hJ w3 o
  intro g w3 o;have hB:=hB.ext o;have U:=U.ext o;have hx:=hx.trans o;clear o;simp only[wsv,wsg,wsh,wsl,aM,aK,aD,fB,Nat.reduceAdd,Nat.reduceLT,aF,aA,aI,aH,bP,reduceCtorEq,wsh,hB.hb,U.hb,hB.lenx,U.lenx];intros;have e1:(!v.b==b.b)=!decide (v.b=b.b):=by cases v.b<;>cases b.b<;>rfl
  have e2:decide (¬(v.xs.length:Int)=(b.xs.length:Int))=!decide (v.xs.length=b.xs.length):=by rw[<-yD];exact decide_eq_decide.2 (by omega)
  rw[e2];simp only[yD];have hv:v.xs.length≠b.xs.length->uN v.xs b.xs=false:=OV;by_cases hl:v.xs.length=b.xs.length
  ·rw[bH hl,bY];refine⟨λhr=>?_,λheq=>?_⟩
   ·have:=hK w3 hx;have e:(decide (v.k=b.k)&&decide (v.b=b.b)&&decide (v.t=b.t)&&decide (v.ks=b.ks)&&uN v.xs b.xs)=false:=by
     have e1:(v.b==b.b)=decide (v.b=b.b):=by cases v.b<;>cases b.b<;>rfl
     rw[e1]at hr;revert hr;cases decide (v.k=b.k)<;>cases decide (v.b=b.b)<;>cases decide (v.t=b.t)<;>cases decide (v.ks=b.ks)<;>simp
    rw[e]at this;exact this
   ·have e:(decide (v.k=b.k)&&decide (v.b=b.b)&&decide (v.t=b.t)&&decide (v.ks=b.ks))=true:=by
     have e1:(v.b==b.b)=decide (v.b=b.b):=by cases v.b<;>cases b.b<;>rfl
     rw[e1]at heq;revert heq;cases decide (v.k=b.k)<;>cases decide (v.b=b.b)<;>cases decide (v.t=b.t)<;>cases decide (v.ks=b.ks)<;>simp
    rw[e]at hK;refine mT v.xs.length (λi w'=>Ext w3 w'/\v.xs.take i=b.xs.take i) ⟨Chg.refl _ _,rfl⟩ ?_ ?_
    ·rintro i w4 g L hi ⟨I,j⟩ hL;have hg:Ext w3 w4.drew:=I.trans (Chg.drew (Chg.refl (λ_=>False) w4));have xb:=hB.ext I;have xa:=U.ext I;have hB:=hB.ext hg;have U:=U.ext hg;obtain⟨p,hp⟩:∃p,v.xs[i]?=some p:=⟨_,List.getElem?_eq_getElem hi⟩;obtain⟨q,hq⟩:∃q,b.xs[i]?=some q:=⟨_,List.getElem?_eq_getElem (by omega)⟩;have hz:((i:Int)<(v.xs.length:Int)):=by omega
     simp only[wsv,wsg,wsh,wsl,aM,aK,aD,fB,Nat.reduceAdd,Nat.reduceLT,aF,aA,aI,aH,bP,reduceCtorEq,wsh,xb.hb,xa.hb,hz];refine hB.item hp λcs1 h1=>?_;refine U.item hq λcs2 h2=>?_;refine ih p (bG hp) h1 h2 λw5 ho=>?_;simp only[wsv,wsg,wsh,wsl,aM,aK,aD,fB,Nat.reduceAdd,Nat.reduceLT,aF,aA,aI,aH,bP,reduceCtorEq,bY];refine⟨λhf=>?_,λht=>?_⟩
     ·have hf:Da p q=false:=by simpa using hf
      have:=hK w5 (hx.trans (hg.trans ho));rw[Md hl hp hq hf]at this;exact this
     ·have ht:Da p q=true:=by simpa using ht
      have:=(same_iff p q).1 ht;subst this;rw[up1 (by have:=hB.fits.1;omega)];exact hL w5 ⟨hg.trans ho,Nq j hp hq⟩
    ·rintro w4 g L ⟨I,j⟩;simp only[wsv,wsg,wsh,wsl,aM,aK,aD,fB,Nat.reduceAdd,Nat.reduceLT,aF,aA,aI,aH,bP,reduceCtorEq,fJ];rw[bR,hl,bR]at j;have:=hK w4 (hx.trans I);rw[(vZ _ _).2 j]at this;exact this
  ·rw[cH hl,iS,Bool.or_true,dS];have:=hK w3 hx;rw[hv hl,Bool.and_false]at this;exact this
end
abbrev ST:TypeId:=9
theorem Cz:rI P0 24 ST 1 16:=⟨by kernel_rfl,by kernel_rfl,by decide⟩
theorem Cy:rI P0 23 VT 5 80:=⟨by kernel_rfl,by kernel_rfl,by decide⟩
abbrev zv:List Value:=[i64 0,.bool false,str [],.slice none 0 0,.slice none 0 0]
abbrev ptr(b:Nat):Value:=.pointer (some ⟨b,0,none⟩)
structure mJ(w0 w:World)(b base:Nat)(sv0 kv0 sv kv:Value)(xs:List JV)(ks:List Str):Prop where
 ext:Ext w0 w
 hb:w.heap[b]?=some (.cells [i64 6,.bool false,str [],sv0,kv0].toArray VT (0,0))
 low:w0.heap.size<=b
 lt:b<base
 le:base<=w.heap.size
 items:∃L,Own w base VT 5 sv xs.length L/\eK w0 xs L
 keys:Own w base ST 1 kv ks.length (ks.map str)
theorem mJ.more{w0:World}{b base:Nat}{sv0 kv0 sv kv:Value}{xs:List JV}{ks:List Str}(h:mJ w0 w b base sv0 kv0 sv kv xs ks)(j:Ext w w'):mJ w0 w' b base sv0 kv0 sv kv xs ks:=
 ⟨h.ext.trans j,j.at h.hb id,h.low,h.lt,cC h.le j.size,let⟨L,h1,o⟩:=h.items;⟨L,h1.ext j,o⟩,h.keys.ext j⟩
theorem mJ.chg{w0:World}{b b' base:Nat}{sv0 kv0 sv kv:Value}{xs:List JV}{ks:List Str}(h:mJ w0 w b base sv0 kv0 sv kv xs ks)(j:Chg (λk=>k=b') w w')(h1:b'≠b)(J:b'<base)(I:w0.heap.size<=b'):mJ w0 w' b base sv0 kv0 sv kv xs ks:=
 ⟨h.ext.new j I,j.at h.hb (λe=>h1 e.symm),h.low,h.lt,cC h.le j.size,let⟨L,g1,g2⟩:=h.items;⟨L,g1.chg j λk o e=>by have:=o.1;omega,g2⟩,h.keys.chg j λk o e=>by have:=o.1;omega⟩
theorem nU{base:Nat}{e:TypeId}{size:Nat}{xs:List Value}(h:Own w base e size v n xs){k:Nat}(j:v.ownBlock=some k):base<=k/\∃c,w.heap[k]?=some (.cells c e (0,0)):=h.block k j
theorem mJ.appk{w0:World}{b base:Nat}{sv0 kv0 sv kv t:Value}{xs:List JV}{ks:List Str}{x:Str}{K:Q0}(h:mJ w0 w b base sv0 kv0 sv kv xs ks)(ht:SlAt w T t 1 [str x])(hl:ks.length<=1000000)
  (hK:∀kv' w',mJ w0 w' b base sv0 kv0 sv kv' xs (ks++[x])->Chg (λk=>base<=k) w w'->K kv' w'):dF P0 (Builtin.append_ #[24,24] 24 #[kv,t]) w K:=by
 refine jY Cz h.keys ht (m:=1) rfl (λu J=>by simp only[bK]at J;subst J;rfl) (by omega) (by omega) h.le λv' w' h' o _=>?_;refine hK v' w' ⟨h.ext.then o λk U e=>?_,o.at h.hb λe=>?_,h.low,h.lt,cC h.le o.size,?_,by simpa using h'⟩ (o.mono λk _ e=>(nU h.keys e).1)
 ·have:=(nU h.keys e).1;have:=h.low;have:=h.lt;omega
 ·have:=(nU h.keys e).1;have:=h.lt;omega
 ·obtain⟨L,h1,h2⟩:=h.items;refine⟨L,h1.chg o λk U e=>?_,h2⟩;obtain⟨_,c,I⟩:=U;obtain⟨_,c',j⟩:=nU h.keys e;rw[I]at j;cases j
theorem mJ.appx{w0:World}{b base:Nat}{sv0 kv0 sv kv t:Value}{xs:List JV}{ks:List Str}{x:JV}{K:Q0}(h:mJ w0 w b base sv0 kv0 sv kv xs ks)(ht:SlAt w T t 1 cs)(I:eX w0 x cs)(hl:xs.length<=1000000)
  (hK:∀sv' w',mJ w0 w' b base sv0 kv0 sv' kv (xs++[x]) ks->Chg (λk=>base<=k) w w'->K sv' w'):dF P0 (Builtin.append_ #[23,23] 23 #[sv,t]) w K:=by
 obtain⟨L,h1,h2⟩:=h.items;refine jY Cy h1 ht (m:=1) (by rw[I.len]) I.one (by omega) (by omega) h.le λv' w' h' o _=>?_;refine hK v' w' ⟨h.ext.then o λk U e=>?_,o.at h.hb λe=>?_,h.low,h.lt,cC h.le o.size,⟨L++cs,by simpa using h',h2.snoc I⟩,h.keys.chg o λk U e=>?_⟩ (o.mono λk _ e=>(nU h1 e).1)
 ·have:=(nU h1 e).1;have:=h.low;have:=h.lt;omega
 ·have:=(nU h1 e).1;have:=h.lt;omega
 ·obtain⟨_,c,J⟩:=U;obtain⟨_,c',j⟩:=nU h1 e;rw[J]at j;cases j
theorem mJ.set{w0:World}{b base off:Nat}{sv0 kv0 sv kv sv1 kv1:Value}{xs:List JV}{ks:List Str}{K:World->Prop}(h:mJ w0 w b base sv0 kv0 sv kv xs ks)(h1:fC v=true)(U:off<5)
  (he:([i64 6,.bool false,str [],sv0,kv0]:List Value).set off v=[i64 6,.bool false,str [],sv1,kv1])(hK:∀w',mJ w0 w' b base sv1 kv1 sv kv xs ks->Chg (λk=>k=b) w w'->K w'):stW 1 (.pointer (some ⟨b,off,none⟩)) v w K:=by
 refine iO h.hb h1 (by simpa using U) λw' J I j=>?_;refine hK w' ⟨h.ext.new j h.low,?_,h.low,h.lt,by rw[J];exact h.le,?_,h.keys.chg j λk o e=>?_⟩ j
 ·rw[I,<-he];simp
 ·obtain⟨L,h1,h2⟩:=h.items;exact⟨L,h1.chg j λk o e=>by have:=o.1;have:=h.lt;omega,h2⟩
 ·have:=o.1;have:=h.lt;omega
theorem mJ.one{w0:World}{b base:Nat}{sv0 kv0 sv kv:Value}{xs:List JV}{ks:List Str}(h:mJ w0 w b base sv0 kv0 sv kv xs ks):fC sv=true/\fC kv=true:=by
 obtain⟨L,h1,_⟩:=h.items;obtain⟨p,c,rfl,_⟩:=h1.sl.shape;obtain⟨p',c',rfl,_⟩:=h.keys.sl.shape;exact⟨rfl,rfl⟩
abbrev Low(g base:Nat)(w w':World):Prop:=Chg (λk=>k=g\/base<=k) w w'
theorem uU{g base:Nat}{w1 w2:World}(h1:Low g base w w1)(j:Ext w1 w2):Low g base w w2:=h1.trans (Chg.of_ext j)
theorem wI{g base:Nat}{w1 w2:World}(h1:Low g base w w1)(j:Chg (λk=>base<=k) w1 w2):Low g base w w2:=h1.trans (j.mono λk _ e=>.inr e)
theorem Ab{g base:Nat}{w1 w2:World}(h1:Low g base w w1)(j:Chg (λk=>k=g) w1 w2):Low g base w w2:=h1.trans (j.mono λk _ e=>.inl e)
theorem sG{g base:Nat}{w1:World}(h1:Low g base w w1){j:Nat}(I:j<base)(J:j≠g){o:Obj}(h:w.heap[j]?=some o):w1.heap[j]?=some o:=h1.at h (by omega)
theorem IG{g base:Nat}{w1 w2:World}(h1:Ext w w1)(I:w.heap.size<=g)(hb:w.heap.size<=base)(j:Low g base w1 w2):Ext w w2:=h1.then j λk o e=>by omega
structure zO(w0 w:World)(base:Nat)(v:JV)(sv kv:Value):Prop where
 items:∃L,Own w base VT 5 sv v.xs.length L/\eK w0 v.xs L
 keys:Own w base ST 1 kv v.ks.length (v.ks.map str)
 fits:Fits v.xs.length v.ks v.t
theorem zO.chg{w0:World}{base:Nat}{v:JV}{sv kv:Value}(h:zO w0 w base v sv kv)(o:Chg S w w')(I:∀k,base<=k->k<w.heap.size->¬S k):zO w0 w' base v sv kv:=
 ⟨let⟨L,h1,J⟩:=h.items;⟨L,h1.chg o λk j=>I k j.1 (by obtain⟨_,c,j⟩:=j;exact fA j),J⟩,h.keys.chg o λk j=>I k j.1 (by obtain⟨_,c,j⟩:=j;exact fA j),h.fits⟩
theorem zO.one{w0:World}{base:Nat}{v:JV}{sv kv:Value}(h:zO w0 w base v sv kv):fC sv=true/\fC kv=true:=by
 obtain⟨L,h1,_⟩:=h.items;obtain⟨p,c,rfl,_⟩:=h1.sl.shape;obtain⟨p',c',rfl,_⟩:=h.keys.sl.shape;exact⟨rfl,rfl⟩
theorem zO.val{w0:World}{base:Nat}{v:JV}{sv kv:Value}(h:zO w0 w base v sv kv):aFB w0 w v [i64 v.k,.bool v.b,str v.t,sv,kv]:=by
 obtain⟨L,h1,j⟩:=h.items;exact⟨sv,kv,VT,ST,L,rfl,h1.sl,j,h.keys.sl,h.fits⟩
theorem mJ.own{w0:World}{b base:Nat}{sv kv:Value}{l:List (Str×JV)}(h:mJ w0 w b base sv kv sv kv (l.map (·.2)) (l.map (·.1)))(hl:l.length<=1000000)(o:∀p∈l,p.1.length<=9223372036854775807):zO w0 w base (mkO l) sv kv:=by
 refine⟨h.items,h.keys,?_,?_,?_,?_⟩
 ·simp only[mkO,JV.xs,cD];omega
 ·simp only[mkO,JV.ks,cD];omega
 ·simp[mkO,JV.t]
 ·intro s j;simp only[mkO,JV.ks,dL]at j;obtain⟨p,hp,rfl⟩:=j;exact o p hp
theorem mJ.rebase{w0:World}{b base base':Nat}(h:mJ w0 w b base (.slice none 0 0) (.slice none 0 0) (.slice none 0 0) (.slice none 0 0) [] [])(h1:b<base')(j:base'<=w.heap.size):mJ w0 w b base' (.slice none 0 0) (.slice none 0 0) (.slice none 0 0) (.slice none 0 0) [] []:=
 ⟨h.ext,h.hb,h.low,h1,j,⟨[],⟨rfl,.inl ⟨rfl,rfl⟩⟩,by simp[eK]⟩,⟨rfl,.inl ⟨rfl,rfl⟩⟩⟩
theorem JK{x:Str}{K:Q0}(j:∀t w',SlAt w' ST t 1 [str x]->Ext w w'->K t w'):dN ST 1 [.string (ofL [])] [(0,1,str x)] w K:=by
 unfold dN;simp only[wsv,wsg,wsh,wsl,aM,aK,aD,fB,Nat.reduceAdd,Nat.reduceLT,aF,aA,aI,aH,bP,reduceCtorEq];exact j _ _ (xF (w:=w) (base:=w.heap.size) (e:=ST) (size:=1) (n:=1) (cs:=[str x]) (aV _) rfl (by omega)).sl (by repeat (first|assumption|exact Chg.refl _ _|refine Chg.drew ?_|refine Chg.alloc ?_ _|refine Chg.set ?_ (by first|exact .inl rfl|exact .inr (by omega)|exact .inr (by simp only[pO,size_alloc,size_drew];omega)|(left;simp;done)) _|exact Chg.of_ext (by assumption)))
theorem AE{K:Q0}(o:cs.length=5)(j:∀t w',SlAt w' VT t 1 cs->Ext w w'->K t w'):dN VT 1 [(.int .i64 0),(.bool false),(.string (ofL [])),(.slice none 0 0),(.slice none 0 0)] [(0,5,.agg cs.toArray)] w K:=by
 unfold dN;have hp:∀K:List Value->Prop,K cs->dJ [(.int .i64 0),(.bool false),(.string (ofL [])),(.slice none 0 0),(.slice none 0 0)] [(0,5,.agg cs.toArray)] K:=by
  intro K j;refine⟨by simp[Value.cells,o],by simp,?_⟩;have:List.take 0 [(Value.int .i64 0),(.bool false),(.string (ofL [])),(.slice none 0 0),(.slice none 0 0)]++((Value.agg cs.toArray).cells.toList++List.drop (0+5) [(Value.int .i64 0),(.bool false),(.string (ofL [])),(.slice none 0 0),(.slice none 0 0)])=cs:=by simp[Value.cells]
  rw[this];exact j
 refine hp _ ?_;exact j _ _ (xF (w:=w) (base:=w.heap.size) (e:=VT) (size:=5) (n:=1) (cs:=cs) (aV _) (by omega) (by omega)).sl (by repeat (first|assumption|exact Chg.refl _ _|refine Chg.drew ?_|refine Chg.alloc ?_ _|refine Chg.set ?_ (by first|exact .inl rfl|exact .inr (by omega)|exact .inr (by simp only[pO,size_alloc,size_drew];omega)|(left;simp;done)) _|exact Chg.of_ext (by assumption)))
theorem KA{w0:World}{g base:Nat}{sv kv:Value}{xs:List JV}{ks:List Str}{x:Str}{K:World->Prop}(G:mJ w0 w g base sv kv sv kv xs ks)(hl:ks.length<=1000000)
  (U:∀kv' w',mJ w0 w' g base sv kv' sv kv' xs (ks++[x])->Low g base w w'->K w'):
  dN ST 1 [.string (ofL [])] [(0,1,str x)] w λt w1=>dF P0 (Builtin.append_ #[24,24] 24 #[kv,t]) w1 λt2 w2=>stW 1 (.pointer (some ⟨g,4,none⟩)) t2 w2 K:=by
 refine JK λt6 w6 o j=>?_;refine(G.more j).appk o hl λkv2 w7 G7 J=>?_;refine G7.set (sv1:=sv) (kv1:=kv2) G7.one.2 (by omega) rfl λw8 G8 I=>?_;exact U kv2 w8 G8 (Ab (wI (Chg.of_ext j) J) I)
theorem PL{w0:World}{g base:Nat}{sv kv:Value}{xs:List JV}{ks:List Str}{x:Str}{K:World->Prop}(G:mJ w0 w g base sv kv sv kv xs ks)(hl:ks.length<=1000000)
  (U:∀kv' w',mJ w0 w' g base sv kv' sv kv' xs (ks++[x])->Low g base w w'->K w'):
  dN ST 1 [.string (ofL [])] [(0,1,str x)] w λt w1=>(∃v,HL w1.heap[g]? 4=some v/\v=kv)/\dF P0 (Builtin.append_ #[24,24] 24 #[kv,t]) w1 λt2 w2=>stW 1 (.pointer (some ⟨g,4,none⟩)) t2 w2 K:=by
 refine JK λt6 w6 o j=>⟨⟨kv,by rw[(G.more j).hb];rfl,rfl⟩,?_⟩;refine(G.more j).appk o hl λkv2 w7 G7 J=>?_;refine G7.set (sv1:=sv) (kv1:=kv2) G7.one.2 (by omega) rfl λw8 G8 I=>?_;exact U kv2 w8 G8 (Ab (wI (Chg.of_ext j) J) I)
theorem Hq{w0:World}{g base:Nat}{sv kv:Value}{xs:List JV}{ks:List Str}{x:JV}{K:World->Prop}(G:mJ w0 w g base sv kv sv kv xs ks)(U:eX w0 x cs)(hl:xs.length<=1000000)
  (hK:∀sv' w',mJ w0 w' g base sv' kv sv' kv (xs++[x]) ks->Low g base w w'->K w'):
  dN VT 1 [(.int .i64 0),(.bool false),(.string (ofL [])),(.slice none 0 0),(.slice none 0 0)] [(0,5,.agg cs.toArray)] w λt w1=>dF P0 (Builtin.append_ #[23,23] 23 #[sv,t]) w1 λt2 w2=>stW 1 (.pointer (some ⟨g,3,none⟩)) t2 w2 K:=by
 refine AE U.len λt6 w6 o j=>?_;refine(G.more j).appx o U hl λsv2 w7 G7 J=>?_;refine G7.set (sv1:=sv2) (kv1:=kv) G7.one.1 (by omega) rfl λw8 G8 I=>?_;exact hK sv2 w8 G8 (Ab (wI (Chg.of_ext j) J) I)
theorem MJ{w0:World}{g base:Nat}{sv kv:Value}{xs:List JV}{ks:List Str}{x:JV}{K:World->Prop}(G:mJ w0 w g base sv kv sv kv xs ks)(U:eX w0 x cs)(hl:xs.length<=1000000)
  (hK:∀sv' w',mJ w0 w' g base sv' kv sv' kv (xs++[x]) ks->Low g base w w'->K w'):
  dN VT 1 [(.int .i64 0),(.bool false),(.string (ofL [])),(.slice none 0 0),(.slice none 0 0)] [(0,5,.agg cs.toArray)] w λt w1=>(∃v,HL w1.heap[g]? 3=some v/\v=sv)/\dF P0 (Builtin.append_ #[23,23] 23 #[sv,t]) w1 λt2 w2=>stW 1 (.pointer (some ⟨g,3,none⟩)) t2 w2 K:=by
 refine AE U.len λt6 w6 o j=>⟨⟨sv,by rw[(G.more j).hb];rfl,rfl⟩,?_⟩;refine(G.more j).appx o U hl λsv2 w7 G7 J=>?_;refine G7.set (sv1:=sv2) (kv1:=kv) G7.one.1 (by omega) rfl λw8 G8 I=>?_;exact hK sv2 w8 G8 (Ab (wI (Chg.of_ext j) J) I)
theorem zO.item_old{w0:World}{base:Nat}{v:JV}{sv kv:Value}{k:IntKind}{x:JV}{K:Value->Prop}(h:zO w0 w base v sv kv)(hi:v.xs[i]?=some x)(hK:∀cs,eX w0 x cs->K (.agg cs.toArray)):dP none 5 sv (.int k i) λp=>ldW true 5 p w K:=by
 obtain⟨L,h1,h2⟩:=h.items;obtain⟨cs,U,hg⟩:=h2.get hi;refine rR (size:=5) h1.sl h2.len (by omega) (List.getElem?_eq_some_iff.1 hi).1 λb o c fr hb I=>?_;exact pS hb U.len (λj J=>(I j J).trans (hg j J)) (hK cs U)
section
variable [HX]
theorem tZ.item_old{w0:World}{a:Nat}{v:JV}{sv kv:Value}{k:IntKind}{x:JV}{K:Value->Prop}(h:tZ w0 a v sv kv)(hx:Ext w0 w)(hi:v.xs[i]?=some x)(hK:∀cs,eX w0 x cs->K (.agg cs.toArray)):dP none 5 sv (.int k i) λp=>ldW true 5 p w K:=by
 obtain⟨T,L,h1,h2⟩:=h.items;obtain⟨cs,U,hg⟩:=h2.get hi;refine rR (size:=5) (h1.ext hx) h2.len (by omega) (List.getElem?_eq_some_iff.1 hi).1 λb o c fr hb I=>?_;exact pS hb U.len (λj J=>(I j J).trans (hg j J)) (hK cs U)
theorem xH{k:Int}{b:Bool}{t:Str}{sv kv:Value}(h1:fC sv=true)(j:fC kv=true):([i64 k,.bool b,str t,sv,kv]:List Value).all fC=true:=by
 simp only[eV,Ga,h1,j,iC];rfl
theorem MU{l:List (Str×JV)}{k:Str}{p:Str×JV}(hi:l[i]?=some p):oH (l.take (i+1)) k=if p.1=k then oH (l.take i) k else oH (l.take i) k++[p]:=by
 rw[dG,hi];simp only[oH,Option.toList_some,List.filter_append];by_cases h:p.1=k<;>simp[h]
theorem TJ{ks:List Str}{xs:List JV}{u:Str}{x:JV}(o:ks[i]?=some u)(j:xs[i]?=some x):(ks.zip xs)[i]?=some (u,x):=by
 rw[List.getElem?_zip_eq_some];exact⟨o,j⟩
theorem SR{v:JV}{k:Str}{w0:World}{K:Q0}(h:eX w0 v cs)(h0:Ext w0 w)(he:v.k=6)(hl:v.ks.length=v.xs.length)(xr:v.ks.length<=100000)
  (hK:∀sv kv base w',Ext w w'->w.heap.size<=base->zO w0 w' base (mkO (oH (v.ks.zip v.xs) k)) sv kv->K (.agg [i64 6,.bool false,str [],sv,kv].toArray) w'):aC P0 33 [.agg cs.toArray,str k] w K:=by
 refine aCX ?_;unfold W33;refine FU h λa w1 sv kv hs I hx ha xy=>?_;refine bI λb w2 hb xx U hc=>?_;have hB:=I.box (h0.trans (hx.trans hc)) (hc.at hs id);have yd:=I.box (h0.trans hx) hs;simp only[wsv,wsg,wsh,wsl,aM,aK,aD,fB,Nat.reduceAdd,Nat.reduceLT,aF,aA,aI,aH,bP,reduceCtorEq,wsh,hB.hb,aO];refine⟨λJ=>absurd he J,λ_=>?_⟩
 ·skip
  refine bI λg w3 hg xw xl hy=>?_;refine cK (l:=[i64 6,.bool false,str [],.slice none 0 0,.slice none 0 0]) xl rfl rfl rfl λw4 xv xm xe=>?_;have ho:Ext w w4:=(hx.trans (hc.trans hy)).new xe (by have:=hx.size;omega);have ya:=hx.size;have o:Ext w2 w4:=hy.new xe (by omega);have U:=o.at U id;have hB:=hB.ext o;have hq:=(hc.trans o).at hs id;have ye:=h0.size;have G0:mJ w0 w4 g (g+1) (.slice none 0 0) (.slice none 0 0) (.slice none 0 0) (.slice none 0 0) [] []:=⟨h0.trans ho,xm,by omega,by omega,by omega,⟨[],⟨rfl,.inl ⟨rfl,rfl⟩⟩,by simp[eK]⟩,⟨rfl,.inl ⟨rfl,rfl⟩⟩⟩;simp only[wsv,wsg,wsh,wsl,aM,aK,aD,fB,Nat.reduceAdd,Nat.reduceLT,aF,aA,aI,aH,bP,reduceCtorEq,wsh,hB.hb];rw[hB.lenk];refine mT v.ks.length (λi w'=>∃sv kv,mJ w0 w' g (g+1) sv kv sv kv ((oH ((v.ks.zip v.xs).take i) k).map (·.2)) ((oH ((v.ks.zip v.xs).take i) k).map (·.1))/\Low g (g+1) w4 w') ⟨_,_,G0,Chg.refl _ _⟩ ?_ ?_
  ·rintro i w5 gg L hi ⟨sv1,kv1,G,lo⟩ hL;have hB:=I.box G.ext (sG lo (by omega) (by omega) hq);obtain⟨u,hu⟩:∃u,v.ks[i]?=some u:=⟨_,List.getElem?_eq_getElem hi⟩;obtain⟨x,xa⟩:∃x,v.xs[i]?=some x:=⟨_,List.getElem?_eq_getElem (by omega)⟩;have hz:=TJ hu xa;have hh:=MU (k:=k) hz;have j:(oH ((v.ks.zip v.xs).take i) k).length<=1000000:=by
    have h1:(oH ((v.ks.zip v.xs).take i) k).length<=((v.ks.zip v.xs).take i).length:=List.length_filter_le _ _;rw[bS]at h1;omega
   have xk:((i:Int)<(v.ks.length:Int)):=by omega
   simp only[wsv,wsg,wsh,wsl,aM,aK,aD,fB,Nat.reduceAdd,Nat.reduceLT,aF,aA,aI,aH,bP,reduceCtorEq,wsh,hB.hb,xk];refine bU.cut (λs w'=>s=[]/\∃sv kv,mJ w0 w' g (g+1) sv kv sv kv ((oH ((v.ks.zip v.xs).take (i+1)) k).map (·.2)) ((oH ((v.ks.zip v.xs).take (i+1)) k).map (·.1))/\Low g (g+1) w4 w') ?_ ?_
   ·refine hB.key hu ?_;simp only[wsv,wsg,wsh,wsl,aM,aK,aD,fB,Nat.reduceAdd,Nat.reduceLT,aF,aA,aI,aH,bP,reduceCtorEq,aO];refine⟨λJ=>?_,λhe=>⟨sv1,kv1,?_,lo⟩⟩
    ·have J:u≠k:=by simpa using J
     rw[aE J]at hh;have hr:Ext w5 w5.drew:=Chg.drew (Chg.refl (λ_=>False) w5);have Gd:=G.more hr;have xp:=hB.ext hr
     (try simp only[wsv,wsg,wsh,wsl,aM,aK,aD,fB,Nat.reduceAdd,Nat.reduceLT,aF,aA,aI,aH,bP,reduceCtorEq,wsh,G.hb])
     refine tZ.key xp hu ?_;refine JK λt6 w6 xj hv=>?_;have lo:=uU (uU lo hr) hv;have G:=Gd.more hv
     (try simp only[wsv,wsg,wsh,wsl,aM,aK,aD,fB,Nat.reduceAdd,Nat.reduceLT,aF,aA,aI,aH,bP,reduceCtorEq,wsh,G.hb])
     refine G.appk xj (by rw[cD];exact j) λkv2 w7 G7 xo=>?_;have lo:=wI lo xo;refine G7.set (sv1:=sv1) (kv1:=kv2) G7.one.2 (by omega) rfl λw8 G8 xn=>?_;have lo:=Ab lo xn;have xq:=I.box G8.ext (sG lo (by omega) (by omega) hq)
     (try simp only[wsv,wsg,wsh,wsl,aM,aK,aD,fB,Nat.reduceAdd,Nat.reduceLT,aF,aA,aI,aH,bP,reduceCtorEq,wsh,G8.hb])
     have hj:Ext w8 w8.drew:=Chg.drew (Chg.refl (λ_=>False) w8);have G:=G8.more hj;have lo:=uU lo hj
     (try simp only[wsv,wsg,wsh,wsl,aM,aK,aD,fB,Nat.reduceAdd,Nat.reduceLT,aF,aA,aI,aH,bP,reduceCtorEq,wsh,xq.hb])
     refine I.item_old G.ext xa λcs2 h2=>?_;refine AE h2.len λt9 w9 xi ht=>?_;have lo:=uU lo ht;have G:=G.more ht
     (try simp only[wsv,wsg,wsh,wsl,aM,aK,aD,fB,Nat.reduceAdd,Nat.reduceLT,aF,aA,aI,aH,bP,reduceCtorEq,wsh,G.hb])
     refine G.appx xi h2 (by rw[cD];exact j) λsv2 w10 G10 xg=>?_;have lo:=wI lo xg;refine G10.set (sv1:=sv2) (kv1:=kv2) G10.one.1 (by omega) rfl λw11 G11 xf=>?_;have lo:=Ab lo xf;refine⟨sv2,kv2,?_,lo⟩;rw[hh,fE,fE];exact G11
    ·have he:u=k:=by simpa using he
     rw[aJ he]at hh;rw[hh];exact G
   ·rintro s g' w6 ⟨rfl,sv2,kv2,G2,lo⟩;rw[up1 (by omega)];exact hL w6 ⟨sv2,kv2,G2,lo⟩
  ·rintro w5 gg L ⟨sv1,kv1,G,lo⟩;rw[dW (by rw[rV];omega)]at G;simp only[wsv,wsg,wsh,wsl,aM,aK,aD,fB,Nat.reduceAdd,Nat.reduceLT,aF,aA,aI,aH,bP,reduceCtorEq,fJ];have j:(oH (v.ks.zip v.xs) k).length<=1000000:=by
    have h1:(oH (v.ks.zip v.xs) k).length<=(v.ks.zip v.xs).length:=List.length_filter_le _ _;rw[rV]at h1;omega
   have U:=sG lo (by omega) (by omega) U;have hO:=G.own j λp hp=>I.fits.2.2.2 _ (List.of_mem_zip (jQ.1 hp).1).1;refine bZ G.hb rfl ?_;have h1:=hO.one;refine iI U rfl rfl (xH h1.1 h1.2) λw6 xd=>?_;exact hK _ _ (g+1) w6 ((IG ho (by omega) (by omega) lo).new xd (by omega)) (by omega) (hO.chg xd λk hk _ e=>by omega)
theorem Hj{l:List (Str×JV)}{k:Str}{x:JV}:∀(i:Nat),(∀p∈l.take i,Op.bytesLess k p.1=false)->insP l k x=l.take i++insP (l.drop i) k x:=by
 induction l with
 |nil=>intro i _;simp[insP]
 |cons p l ih=>
  intro i hi;cases i with
  |zero=>rfl
  |succ i=>
   simp only[qC,cU,dD];obtain⟨a,y⟩:=p;have h0:=hi (a,y) (by simp);simp only[insP,h0,fF,kL];rw[ih i λq j=>hi q (by simp[j])]
def gH(l:List (Str×JV))(k:Str)(x:JV):Nat->List (Str×JV)×Bool
 |0=>([],false)
 |i+1=>match l[i]? with
  |none=>gH l k x i
  |some p=>if(!(gH l k x i).2&&Op.bytesLess k p.1)then((gH l k x i).1++[(k,x)]++[p],true)else((gH l k x i).1++[p],(gH l k x i).2)
theorem Eu{l:List (Str×JV)}{k:Str}{x:JV}:∀(i:Nat),i<=l.length->((gH l k x i).2=false->(gH l k x i).1=l.take i/\∀p∈l.take i,Op.bytesLess k p.1=false)/\((gH l k x i).2=true->(gH l k x i).1++l.drop i=insP l k x)
 |0,_=>by simp[gH]
 |i+1,h=>by
  obtain⟨h1,J⟩:=Eu (l:=l) (k:=k) (x:=x) i (by omega)
  obtain⟨p,hp⟩:∃p,l[i]?=some p:=⟨_,List.getElem?_eq_getElem (by omega)⟩
  have hd:l.drop i=p::l.drop (i+1):=by
   have hi:i<l.length:=h;rw[cL hi];congr 1;exact fN ((List.getElem?_eq_getElem hi).symm.trans hp)
  have o:l.take (i+1)=l.take i++[p]:=by rw[dG,hp];rfl
  simp only[gH,hp];cases I:(gH l k x i).2 with
  |true=>
   simp only[iW,Ay,fF,kL];refine⟨(λe=>by cases e),λ_=>?_⟩;rw[<-J I,hd];simp
  |false=>
   obtain⟨e1,e2⟩:=h1 I;cases hb:Op.bytesLess k p.1 with
   |true=>
    simp only[iS,Bool.and_self,gF];refine⟨(λe=>by cases e),λ_=>?_⟩;obtain⟨a,y⟩:=p;rw[e1,Hj i e2,hd];simp only[insP,hb,gF];simp
   |false=>
    simp only[iS,iB,fF,kL];refine⟨λ_=>⟨by rw[e1,o],λq j=>?_⟩,λe=>by cases e⟩;rw[o]at j;rcases dH.1 j with j|j
    ·exact e2 q j
    ·rw[bK.1 j];exact hb
theorem zX{l:List (Str×JV)}{k:Str}{x:JV}:insP l k x=if(gH l k x l.length).2 then(gH l k x l.length).1 else(gH l k x l.length).1++[(k,x)]:=by
 obtain⟨h1,o⟩:=Eu (k:=k) (x:=x) l.length (aV _);cases j:(gH l k x l.length).2 with
 |true=>
  rw[aJ rfl,<-o j];simp
 |false=>
  obtain⟨e1,e2⟩:=h1 j;rw[bR]at e1 e2;rw[aE (by simp),e1];have:=Hj (l:=l) (k:=k) (x:=x) l.length (by rw[bR];exact e2);rw[this];simp[insP]
theorem Ci(l:List (Str×JV))(k:Str)(x:JV):∀i,(gH l k x i).1.length<=2*i
 |0=>by simp[gH]
 |i+1=>by
  have:=Ci l k x i
  simp only[gH]
  split
  ·omega
  ·split<;>simp<;>omega
end
section
variable [HX]
theorem Rk{v x:JV}{ds:List Value}{k:Str}{w0:World}{K:Q0}(h:eX w0 v cs)(hd:eX w0 x ds)(h0:Ext w0 w)(hl:v.k=6->v.ks.length=v.xs.length)(xz:v.ks.length<=100000)(hk:k.length<=9223372036854775807)
  (hK:∀sv kv base w',Ext w w'->w.heap.size<=base->zO w0 w' base (xD v k x) sv kv->K (.agg [i64 6,.bool false,str [],sv,kv].toArray) w'):aC P0 12 [.agg cs.toArray,str k,.agg ds.toArray] w K:=by
 refine aDd ?_;unfold W12;refine FU h λa w1 sv kv ys I hx ha zh=>?_;refine FU hd λc w2 sv' kv' yc Ix xp hc zg=>?_;refine bI λb w3 hb zf yg xk=>?_;simp only[wsv,wsg,wsh,wsl,aM,aK,aD,fB,Nat.reduceAdd,Nat.reduceLT,aF,aA,aI,aH,bP,reduceCtorEq];refine bI λg w4 hg ze xy hv=>?_;refine cK (l:=[i64 6,.bool false,str [],.slice none 0 0,.slice none 0 0]) xy rfl rfl rfl λw5 zd yp hs=>?_;have ho:Ext w w5:=(((hx.trans xp).trans xk).trans hv).new hs (by omega);have xh:=hs.at (hv.at (xk.at (xp.at ys id) id) id) (by omega);have xc:=hs.at (hv.at (xk.at yc id) id) (by omega);have xe:=hs.at (hv.at yg id) (by omega);clear xy yg yc hs;have zt:=h0.size;have zi:=hx.size;have G0:mJ w0 w5 g (g+1) (.slice none 0 0) (.slice none 0 0) (.slice none 0 0) (.slice none 0 0) [] []:=⟨h0.trans ho,yp,by omega,by omega,by omega,⟨[],⟨rfl,.inl ⟨rfl,rfl⟩⟩,by simp[eK]⟩,⟨rfl,.inl ⟨rfl,rfl⟩⟩⟩;have hB:=I.box (h0.trans ho) xh;let P:List (Str×JV):=if v.k=6 then oH (v.ks.zip v.xs) k else [];have hP:xD v k x=mkO (insP P k x):=by
  show xD v k x=mkO (insP (if v.k=6 then oH (v.ks.zip v.xs) k else []) k x);unfold xD;split<;>rfl
 have zp:P.length<=100000:=by
  show(if v.k=6 then oH (v.ks.zip v.xs) k else []).length<=100000;split
  ·have h1:(oH (v.ks.zip v.xs) k).length<=(v.ks.zip v.xs).length:=List.length_filter_le _ _;rw[rV]at h1;omega
  ·simp
 have yu:∀p∈P,p.1.length<=9223372036854775807:=by
  intro p hp;have hp:p∈(if v.k=6 then oH (v.ks.zip v.xs) k else []):=hp;split at hp
  ·exact I.fits.2.2.2 _ (List.of_mem_zip (jQ.1 hp).1).1
  ·simp at hp
 rw[hP]at hK;refine bU.cut (λs w'=>∃sv kv base,s=[.bool (gH P k x P.length).2]/\b<base/\c<base/\mJ w0 w' g base sv kv sv kv ((gH P k x P.length).1.map (·.2)) ((gH P k x P.length).1.map (·.1))/\w'.heap[c]?=some (.cells [i64 x.k,.bool x.b,str x.t,sv',kv'].toArray VT (0,0))/\w'.heap[b]?=some (.cells zv.toArray VT (0,0))/\Ext w w') ?_ ?_
 ·simp only[wsv,wsg,wsh,wsl,aM,aK,aD,fB,Nat.reduceAdd,Nat.reduceLT,aF,aA,aI,aH,bP,reduceCtorEq,wsh,hB.hb,aO];refine⟨λhe=>?_,λym=>?_⟩
  ·have xm:P=oH (v.ks.zip v.xs) k:=aJ he;refine bZ hB.hb rfl ?_;refine SR (w0:=w0) (v:=v) (cs:=[i64 v.k,.bool v.b,str v.t,sv,kv]) ?_ (h0.trans ho) he (hl he) xz λsw kw base0 w6 hh hbase0 hO=>?_
   ·obtain⟨T,L,i1,i2⟩:=I.items;obtain⟨T',i3⟩:=I.keys;exact eX.mk i1 i2 i3 I.fits
   have zk:=hh.size;rw[<-xm]at hO;have yi:=hh.at xh id;refine cK (l:=[i64 6,.bool false,str [],sw,kw]) yi rfl rfl (xH hO.one.1 hO.one.2) λw7 zc xg hr=>?_;have hO:=hO.chg hr λj hj _ e=>by omega
   have xb:=hr.at (hh.at xc id) (by omega);have ye:=hr.at (hh.at xe id) (by omega);have xq:Ext w w7:=(ho.trans hh).new hr (by omega);have G7:=((G0.more hh).chg hr (by omega) (by omega) (by omega)).rebase (base':=w7.heap.size) (by omega) (aV _);have yt:(mkO P).xs=P.map (·.2):=rfl;have xi:(mkO P).ks=P.map (·.1):=rfl;simp only[wsv,wsg,wsh,wsl,aM,aK,aD,fB,Nat.reduceAdd,Nat.reduceLT,aF,aA,aI,aH,bP,reduceCtorEq,wsh,xg];rw[fL hO.keys.sl,xi,cD];refine⟨λs w'=>∃i sv kv,i<=P.length/\s=[.bool (gH P k x i).2,i64 (i:Nat)]/\mJ w0 w' g w7.heap.size sv kv sv kv ((gH P k x i).1.map (·.2)) ((gH P k x i).1.map (·.1))/\Low g w7.heap.size w7 w',λs _=>match s with|[_,.int _ i]=>P.length-i.toNat|_=>0,⟨0,_,_,fR _,rfl,G7,Chg.refl _ _⟩,?_⟩;rintro s gg w8 ⟨i,sv8,kv8,hi,rfl,G8,lo8⟩;rcases dR i P.length with xv|zo
   ·have xu:((i:Int)<(P.length:Int)):=by omega
    have yn:=Ci P k x i;obtain⟨p,hp⟩:∃p,P[i]?=some p:=⟨_,List.getElem?_eq_getElem xv⟩;have hstay:∀{w9:World},Low g w7.heap.size w7 w9->w9.heap[a]?=some (.cells [i64 6,.bool false,str [],sw,kw].toArray VT (0,0))/\w9.heap[c]?=some (.cells [i64 x.k,.bool x.b,str x.t,sv',kv'].toArray VT (0,0))/\zO w0 w9 base0 (mkO P) sw kw:=λlo=>
     ⟨sG lo (by omega) (by omega) xg,sG lo (by omega) (by omega) xb,hO.chg lo λk hk zn e=>by omega⟩
    obtain⟨yh,yz,yx⟩:=hstay lo8;have hz:∀{w9:World} {KK:Value->Prop},zO w0 w9 base0 (mkO P) sw kw->KK (str p.1)->dP none 1 kw (.int .i64 i) λq=>ldW false 1 q w9 KK:=λh hk=>nM h.keys.sl (by rw[xi];simp[hp]) hk;simp only[wsv,wsg,wsh,wsl,aM,aK,aD,fB,Nat.reduceAdd,Nat.reduceLT,aF,aA,aI,aH,bP,reduceCtorEq,wsh,xu,yh];refine bU.cut (λs w'=>∃sv kv,s=[.bool (gH P k x (i+1)).2]/\mJ w0 w' g w7.heap.size sv kv sv kv ((if(!(gH P k x i).2&&Op.bytesLess k p.1)then(gH P k x i).1++[(k,x)]else(gH P k x i).1).map (·.2)) ((if(!(gH P k x i).2&&Op.bytesLess k p.1)then(gH P k x i).1++[(k,x)]else(gH P k x i).1).map (·.1))/\Low g w7.heap.size w7 w') ?_ ?_
    ·refine GdW.look (Op.bytesLess k p.1) ?_ ?_
     ·intro _ J hJ;refine hz yx ?_;simp only[wsv,wsg,wsh,wsl,aM,aK,aD,fB,Nat.reduceAdd,Nat.reduceLT,aF,aA,aI,aH,bP,reduceCtorEq];exact hJ
     ·intro gd;simp only[wsv,wsg,wsh,wsl,aM,aK,aD,fB,Nat.reduceAdd,Nat.reduceLT,aF,aA,aI,aH,bP,reduceCtorEq,bY];refine⟨λhc=>?_,λhc=>?_⟩
      ·simp only[wsv,wsg,wsh,wsl,aM,aK,aD,fB,Nat.reduceAdd,Nat.reduceLT,aF,aA,aI,aH,bP,reduceCtorEq,wsh,G8.hb];rw[aJ hc];refine KA G8 (by rw[cD];omega) λkv9 w9 G9 lo9=>?_;obtain⟨xf,U,yw⟩:=hstay (lo8.trans lo9);simp only[wsv,wsg,wsh,wsl,aM,aK,aD,fB,Nat.reduceAdd,Nat.reduceLT,aF,aA,aI,aH,bP,reduceCtorEq,wsh,G9.hb];refine bZ U rfl ?_;refine Hq G9 (?_:eX w0 x _) (by rw[cD];omega) λsv10 w10 G10 lo10=>?_
       ·obtain⟨T,L,i1,i2⟩:=Ix.items;obtain⟨T',i3⟩:=Ix.keys;exact eX.mk i1 i2 i3 Ix.fits
       refine⟨sv10,kv9,?_,?_,(lo8.trans lo9).trans lo10⟩
       ·simp only[gH,hp,hc,gF]
       ·rw[fE,fE];exact G10
      ·rw[aE (by rw[hc];simp)];refine⟨sv8,kv8,?_,G8,lo8⟩;simp only[gH,hp,hc,fF,kL]
    ·rintro s gd w9 ⟨sv9,kv9,rfl,G9,lo9⟩;have xj:Ext w9 w9.drew:=Chg.drew (Chg.refl (λ_=>False) w9);obtain⟨xf,U,yw⟩:=hstay lo9;obtain⟨_,_,hO9d⟩:=hstay (uU lo9 xj);have zm:(if(!(gH P k x i).2&&Op.bytesLess k p.1)then(gH P k x i).1++[(k,x)]else(gH P k x i).1).length<=2*i+1:=by split<;>(first|omega|(simp;omega))
     simp only[wsv,wsg,wsh,wsl,aM,aK,aD,fB,Nat.reduceAdd,Nat.reduceLT,aF,aA,aI,aH,bP,reduceCtorEq,wsh,G9.hb,xf];refine hz hO9d ?_;refine PL (G9.more xj) (by rw[cD];omega) λkv10 w10 G10 lo10=>?_;have lo10:=(uU lo9 xj).trans lo10;obtain⟨xl,yr,za⟩:=hstay lo10;have o:Ext w10 w10.drew:=Chg.drew (Chg.refl (λ_=>False) w10);obtain⟨_,_,hO10d⟩:=hstay (uU lo10 o);simp only[wsv,wsg,wsh,wsl,aM,aK,aD,fB,Nat.reduceAdd,Nat.reduceLT,aF,aA,aI,aH,bP,reduceCtorEq,wsh,G10.hb,xl];refine hO10d.item_old (by rw[yt];simp only[List.getElem?_map,hp];rfl) λcs2 h2=>?_;refine MJ (G10.more o) h2 (by rw[cD];omega) λsv11 w11 G11 lo11=>?_;rw[up1 (by omega)];refine⟨⟨i+1,sv11,kv10,xv,rfl,?_,(uU lo10 o).trans lo11⟩,by simp only[aW];omega⟩;have e:(gH P k x (i+1)).1=(if(!(gH P k x i).2&&Op.bytesLess k p.1)then(gH P k x i).1++[(k,x)]else(gH P k x i).1)++[p]:=by
      simp only[gH,hp];split<;>rfl
     rw[e,fE,fE];exact G11
   ·obtain rfl:i=P.length:=by omega
    simp only[wsv,wsg,wsh,wsl,aM,aK,aD,fB,Nat.reduceAdd,Nat.reduceLT,aF,aA,aI,aH,bP,reduceCtorEq,fJ];exact⟨sv8,kv8,w7.heap.size,by omega,by omega,G8,sG lo8 (by omega) (by omega) xb,sG lo8 (by omega) (by omega) ye,IG xq (by omega) (by have:=xq.size;omega) lo8⟩
  ·have xm:P=[]:=aE ym;rw[xm];exact⟨_,_,g+1,rfl,by omega,by omega,G0,xc,xe,ho⟩
 ·rintro s g' w6 ⟨sv6,kv6,base,rfl,yf,ya,G6,yb,xd,xr⟩;have yy:=Ci P k x P.length;have xw:∀p∈insP P k x,p.1.length<=9223372036854775807:=by
   intro p hp;rw[zX]at hp;have xx:∀i,∀p∈(gH P k x i).1,p.1.length<=9223372036854775807:=by
    intro i;induction i with
    |zero=>intro p hp;simp[gH]at hp
    |succ i ih=>
     intro p hp;simp only[gH]at hp;split at hp
     ·exact ih p hp
     ·rename_i q hq;have xt:=yu q (bG hq);split at hp<;>simp only[dH,bM,eA,mO]at hp
      ·rcases hp with(hp|rfl)|rfl
       ·exact ih p hp
       ·exact hk
       ·exact xt
      ·rcases hp with hp|rfl
       ·exact ih p hp
       ·exact xt
   split at hp
   ·exact xx _ p hp
   ·rcases dH.1 hp with hp|hp
    ·exact xx _ p hp
    ·rw[bK.1 hp];exact hk
  have yo:(insP P k x).length<=1000000:=by rw[zX];split<;>(first|omega|(simp;omega))
  refine bU.cut (λs w'=>∃sv kv,s=[]/\mJ w0 w' g base sv kv sv kv ((insP P k x).map (·.2)) ((insP P k x).map (·.1))/\w'.heap[b]?=some (.cells zv.toArray VT (0,0))/\Ext w w') ?_ ?_
  ·simp only[wsv,wsg,wsh,wsl,aM,aK,aD,fB,Nat.reduceAdd,Nat.reduceLT,aF,aA,aI,aH,bP,reduceCtorEq,bY];refine⟨λhn=>?_,λhy=>?_⟩
   ·have hn:(gH P k x P.length).2=false:=by simpa using hn
    rw[zX,aE (by rw[hn];simp),fE,fE];simp only[wsv,wsg,wsh,wsl,aM,aK,aD,fB,Nat.reduceAdd,Nat.reduceLT,aF,aA,aI,aH,bP,reduceCtorEq,wsh,G6.hb];refine KA G6 (by rw[cD];omega) λkv9 w9 G9 lo9=>?_;have U:=sG lo9 ya (by omega) yb;simp only[wsv,wsg,wsh,wsl,aM,aK,aD,fB,Nat.reduceAdd,Nat.reduceLT,aF,aA,aI,aH,bP,reduceCtorEq,wsh,G9.hb];refine bZ U rfl ?_;refine Hq G9 (?_:eX w0 x _) (by rw[cD];omega) λsv10 w10 G10 lo10=>?_
    ·obtain⟨T,L,i1,i2⟩:=Ix.items;obtain⟨T',i3⟩:=Ix.keys;exact eX.mk i1 i2 i3 Ix.fits
    exact⟨sv10,kv9,G10,sG (lo9.trans lo10) yf (by omega) xd,IG xr (by omega) (by omega) (lo9.trans lo10)⟩
   ·have hy:(gH P k x P.length).2=true:=by simpa using hy
    rw[zX,aJ hy];exact⟨sv6,kv6,G6,xd,xr⟩
  ·rintro s gd w9 ⟨sv9,kv9,rfl,G9,yd,yl⟩;have hO:=G9.own yo xw;refine bZ G9.hb rfl ?_;refine iI yd rfl rfl (xH hO.one.1 hO.one.2) λw10 xa=>?_;have zj:=hx.size;exact hK _ _ base w10 (yl.new xa (by omega)) (by omega) (hO.chg xa λk hk _ e=>by omega)
theorem Ut{v x:JV}{ds:List Value}{k:Str}{K:Q0}(h:eX w v cs)(hd:eX w x ds)(hl:v.k=6->v.ks.length=v.xs.length)(j:v.ks.length<=100000)(o:k.length<=9223372036854775807)
 (I:∀sv kv base w',Ext w w'->w.heap.size<=base->zO w w' base (xD v k x) sv kv->K (.agg [i64 6,.bool false,str [],sv,kv].toArray) w'):aC P0 12 [.agg cs.toArray,str k,.agg ds.toArray] w K:=Rk h hd (Chg.refl _ _) hl j o I
end
section
variable [HX]
theorem wS{v:JV}{K:Q0}(h:eX w v cs)(hK:∀a w' sv kv,tZ w' a v sv kv->Ext w w'->K (ptr a) w'):
  bQ VT [(.int .i64 0),(.bool false),(.string (ofL [])),(.slice none 0 0),(.slice none 0 0)] w λt w1=>stW 5 t (.agg cs.toArray) w1 λw2=>K t w2:=by
 obtain⟨sv,kv,T1,T2,L,rfl,h1,h2,h3,h4⟩:=h.out;refine bI λa w1 ha hz hb U=>?_;refine cK hb rfl rfl h.all_one λw2 J I o=>?_;have j:=U.new o (by omega);exact hK a w2 sv kv ⟨I,⟨T1,L,h1.ext j,h2.ext j⟩,⟨T2,h3.ext j⟩,h4⟩ j
theorem LA{α:Type}{p:α->Bool}{xs:List α}{x:α}(hi:xs[i]?=some x):(xs.take (i+1)).any p=((xs.take i).any p||p x):=by
 rw[dG,hi];simp
end
end
end Go.Proofs.YtghhmpppnmoeoaaGreatDoor
namespace Go.Proofs
section
open Go.Shelf
variable{w:World}{K:Q0}{cs:List Value}{G:Nat->Prop}{T:TypeId}{i:Nat}{n:Nat}{v:Value}{w':World}{P:Program}{c:UInt8}{S:Nat->Prop}
def Tryz.lays170_ren:Go.Shelf.Ren:=⟨λ|170=>223|n=>n,λ|70=>114|3=>3|0=>0|72=>116|37=>89|5=>5|n=>n,λ|n=>n⟩
theorem Tryz.lays170:Go.Proofs.Lays.n170 P0 Tryz.lays170_ren:={
 mixed:=by kernel_rfl
 f170:=Tryz.func223.trans (congrArg some (by kernel_rfl))
 t0:=Tryz.underlying0
 a0:=Tryz.isAgg0
 z0:=Tryz.sizeOf0
 v0:=Tryz.zeroValue0
 t3:=Tryz.underlying3
 a3:=Tryz.isAgg3
 z3:=Tryz.sizeOf3
 v3:=Tryz.zeroValue3
 t37:=Tryz.underlying89
 a37:=Tryz.isAgg89
 z37:=Tryz.sizeOf89
 v37:=Tryz.zeroValue89
 t70:=Tryz.underlying114
 a70:=Tryz.isAgg114
 z70:=Tryz.sizeOf114
 v70:=Tryz.zeroValue114
 t72:=Tryz.underlying116
 a72:=Tryz.isAgg116
 z72:=Tryz.sizeOf116
 v72:=Tryz.zeroValue116}
def Tryz.lays169_ren:Go.Shelf.Ren:=⟨λ|169=>64|n=>n,λ|70=>114|9=>9|0=>0|72=>116|37=>89|127=>145|3=>3|5=>5|n=>n,λ|n=>n⟩
theorem Tryz.lays169:Go.Proofs.Lays.n169 P0 Tryz.lays169_ren:={
 mixed:=by kernel_rfl
 f169:=Tryz.func64.trans (congrArg some (by kernel_rfl))
 t0:=Tryz.underlying0
 a0:=Tryz.isAgg0
 z0:=Tryz.sizeOf0
 v0:=Tryz.zeroValue0
 t3:=Tryz.underlying3
 a3:=Tryz.isAgg3
 z3:=Tryz.sizeOf3
 v3:=Tryz.zeroValue3
 t9:=Tryz.underlying9
 a9:=Tryz.isAgg9
 z9:=Tryz.sizeOf9
 v9:=Tryz.zeroValue9
 t37:=Tryz.underlying89
 a37:=Tryz.isAgg89
 z37:=Tryz.sizeOf89
 v37:=Tryz.zeroValue89
 t70:=Tryz.underlying114
 a70:=Tryz.isAgg114
 z70:=Tryz.sizeOf114
 v70:=Tryz.zeroValue114
 t72:=Tryz.underlying116
 a72:=Tryz.isAgg116
 z72:=Tryz.sizeOf116
 v72:=Tryz.zeroValue116
 t127:=Tryz.underlying145
 a127:=Tryz.isAgg145
 z127:=Tryz.sizeOf145
 v127:=Tryz.zeroValue145}
theorem Tryz.Builder_Extra_169:Builder.Extra P0 Tryz.lays169_ren:={
 sizeBuilder:=by kernel_rfl
 liesBuilder:=by kernel_rfl
 t5:=Tryz.underlying5
 a5:=Tryz.isAgg5
 z5:=Tryz.sizeOf5
 v5:=Tryz.zeroValue5
 infoByte:=by kernel_rfl
 cellsByte:=by kernel_rfl
 sizeByte:=by kernel_rfl
 neB5:=by decide}
def Tryz.lays156_ren:Go.Shelf.Ren:=⟨λ|156=>40|165=>65|166=>66|169=>64|240=>102|241=>104|276=>137|277=>139|n=>n,λ|31=>24|9=>9|3=>3|4=>4|0=>0|20=>20|72=>116|76=>120|70=>114|37=>89|75=>118|127=>145|164=>172|5=>5|80=>122|n=>n,λ|n=>n⟩
theorem Tryz.lays156:Go.Proofs.Lays.n156 P0 Tryz.lays156_ren:={
 mixed:=by kernel_rfl
 f156:=Tryz.func40.trans (congrArg some (by kernel_rfl))
 f165:=Tryz.func65.trans (congrArg some (by kernel_rfl))
 f166:=Tryz.func66.trans (congrArg some (by kernel_rfl))
 f169:=Tryz.func64.trans (congrArg some (by kernel_rfl))
 f240:=Tryz.func102.trans (congrArg some (by kernel_rfl))
 f241:=Tryz.func104.trans (congrArg some (by kernel_rfl))
 f276:=Tryz.func137.trans (congrArg some (by kernel_rfl))
 f277:=Tryz.func139.trans (congrArg some (by kernel_rfl))
 t0:=Tryz.underlying0
 a0:=Tryz.isAgg0
 z0:=Tryz.sizeOf0
 v0:=Tryz.zeroValue0
 t3:=Tryz.underlying3
 a3:=Tryz.isAgg3
 z3:=Tryz.sizeOf3
 v3:=Tryz.zeroValue3
 t4:=Tryz.underlying4
 a4:=Tryz.isAgg4
 z4:=Tryz.sizeOf4
 v4:=Tryz.zeroValue4
 t9:=Tryz.underlying9
 a9:=Tryz.isAgg9
 z9:=Tryz.sizeOf9
 v9:=Tryz.zeroValue9
 t20:=Tryz.underlying20
 a20:=Tryz.isAgg20
 z20:=Tryz.sizeOf20
 v20:=Tryz.zeroValue20
 t31:=Tryz.underlying24
 a31:=Tryz.isAgg24
 z31:=Tryz.sizeOf24
 v31:=Tryz.zeroValue24
 t37:=Tryz.underlying89
 a37:=Tryz.isAgg89
 z37:=Tryz.sizeOf89
 v37:=Tryz.zeroValue89
 t70:=Tryz.underlying114
 a70:=Tryz.isAgg114
 z70:=Tryz.sizeOf114
 v70:=Tryz.zeroValue114
 t72:=Tryz.underlying116
 a72:=Tryz.isAgg116
 z72:=Tryz.sizeOf116
 v72:=Tryz.zeroValue116
 t75:=Tryz.underlying118
 a75:=Tryz.isAgg118
 z75:=Tryz.sizeOf118
 v75:=Tryz.zeroValue118
 t76:=Tryz.underlying120
 a76:=Tryz.isAgg120
 z76:=Tryz.sizeOf120
 v76:=Tryz.zeroValue120
 t127:=Tryz.underlying145
 a127:=Tryz.isAgg145
 z127:=Tryz.sizeOf145
 v127:=Tryz.zeroValue145
 t164:=Tryz.underlying172
 a164:=Tryz.isAgg172
 z164:=Tryz.sizeOf172
 v164:=Tryz.zeroValue172}
theorem Tryz.Builder_Extra_156:Builder.Extra P0 Tryz.lays156_ren:={
 sizeBuilder:=by kernel_rfl
 liesBuilder:=by kernel_rfl
 t5:=Tryz.underlying5
 a5:=Tryz.isAgg5
 z5:=Tryz.sizeOf5
 v5:=Tryz.zeroValue5
 infoByte:=by kernel_rfl
 cellsByte:=by kernel_rfl
 sizeByte:=by kernel_rfl
 neB5:=by decide}
open Go.RowKit in
theorem Tryz.strings_Join_none(a:Option Addr)(c:Nat)(sep:ByteArray)(w:World):
 Calls P0 40 #[.slice a 0 c,.string sep] w λe w'=>e=.returned (.string ⟨#[]⟩)/\w'=w:=Any.strings_Join_none Tryz.lays156 Tryz.Builder_Extra_156 a c sep w
open Go.RowKit in
theorem Tryz.strings_Join(bk o c:Nat)(xs:List ByteArray)(sep:ByteArray)(w:World)(hcells:∀(j:Nat) x,xs[j]?=some x->w.cell? ⟨bk,o+j,none⟩=some (.string x))(U:bk<w.heap.size)(hN:xs.length<=140737488355328)(J:xs.length<=c)(I:(Lib.join (xs.map (·.data.toList)) sep.data.toList).length<=140737488355328):
 Calls P0 40 #[.slice (some ⟨bk,o,none⟩) xs.length c,.string sep] w λe w'=>e=.returned (.string ⟨(Lib.join (xs.map (·.data.toList)) sep.data.toList).toArray⟩)/\Below w.heap.size w w':=Any.strings_Join Tryz.lays156 Tryz.Builder_Extra_156 bk o c xs sep w hcells U hN J I
def Tryz.lays161_ren:Go.Shelf.Ren:=⟨λ|161=>111|231=>146|227=>147|233=>148|235=>149|228=>201|197=>202|151=>203|260=>234|152=>235|137=>68|119=>257|224=>142|225=>141|217=>105|266=>140|n=>n,λ|9=>9|4=>4|3=>3|5=>5|117=>179|116=>178|0=>0|124=>182|105=>214|21=>21|119=>248|46=>54|139=>251|138=>250|n=>n,λ|3=>1|4=>2|n=>n⟩
theorem Tryz.lays161:Go.Proofs.Lays.n161 P0 Tryz.lays161_ren:={
 mixed:=by kernel_rfl
 f119:=Tryz.func257.trans (congrArg some (by kernel_rfl))
 f137:=Tryz.func68.trans (congrArg some (by kernel_rfl))
 f151:=Tryz.func203.trans (congrArg some (by kernel_rfl))
 f152:=Tryz.func235.trans (congrArg some (by kernel_rfl))
 f161:=Tryz.func111.trans (congrArg some (by kernel_rfl))
 f197:=Tryz.func202.trans (congrArg some (by kernel_rfl))
 f217:=Tryz.func105.trans (congrArg some (by kernel_rfl))
 f224:=Tryz.func142.trans (congrArg some (by kernel_rfl))
 f225:=Tryz.func141.trans (congrArg some (by kernel_rfl))
 f227:=Tryz.func147.trans (congrArg some (by kernel_rfl))
 f228:=Tryz.func201.trans (congrArg some (by kernel_rfl))
 f231:=Tryz.func146.trans (congrArg some (by kernel_rfl))
 f233:=Tryz.func148.trans (congrArg some (by kernel_rfl))
 f235:=Tryz.func149.trans (congrArg some (by kernel_rfl))
 f260:=Tryz.func234.trans (congrArg some (by kernel_rfl))
 f266:=Tryz.func140.trans (congrArg some (by kernel_rfl))
 t0:=Tryz.underlying0
 a0:=Tryz.isAgg0
 z0:=Tryz.sizeOf0
 v0:=Tryz.zeroValue0
 t3:=Tryz.underlying3
 a3:=Tryz.isAgg3
 z3:=Tryz.sizeOf3
 v3:=Tryz.zeroValue3
 t4:=Tryz.underlying4
 a4:=Tryz.isAgg4
 z4:=Tryz.sizeOf4
 v4:=Tryz.zeroValue4
 t5:=Tryz.underlying5
 a5:=Tryz.isAgg5
 z5:=Tryz.sizeOf5
 v5:=Tryz.zeroValue5
 t9:=Tryz.underlying9
 a9:=Tryz.isAgg9
 z9:=Tryz.sizeOf9
 v9:=Tryz.zeroValue9
 t21:=Tryz.underlying21
 a21:=Tryz.isAgg21
 z21:=Tryz.sizeOf21
 v21:=Tryz.zeroValue21
 t46:=Tryz.underlying54
 a46:=Tryz.isAgg54
 z46:=Tryz.sizeOf54
 v46:=Tryz.zeroValue54
 t105:=Tryz.underlying214
 a105:=Tryz.isAgg214
 z105:=Tryz.sizeOf214
 v105:=Tryz.zeroValue214
 t116:=Tryz.underlying178
 a116:=Tryz.isAgg178
 z116:=Tryz.sizeOf178
 t117:=Tryz.underlying179
 a117:=Tryz.isAgg179
 z117:=Tryz.sizeOf179
 v117:=Tryz.zeroValue179
 t119:=Tryz.underlying248
 a119:=Tryz.isAgg248
 z119:=Tryz.sizeOf248
 t124:=Tryz.underlying182
 a124:=Tryz.isAgg182
 z124:=Tryz.sizeOf182
 v124:=Tryz.zeroValue182
 t138:=Tryz.underlying250
 a138:=Tryz.isAgg250
 z138:=Tryz.sizeOf250
 v138:=Tryz.zeroValue250
 t139:=Tryz.underlying251
 a139:=Tryz.isAgg251
 z139:=Tryz.sizeOf251
 v139:=Tryz.zeroValue251
 g3:=by kernel_rfl
 g4:=by kernel_rfl}
def Tryz.lays106_ren:Go.Shelf.Ren:=⟨λ|106=>192|213=>231|265=>255|n=>n,λ|9=>9|3=>3|n=>n,λ|n=>n⟩
theorem Tryz.lays106:Go.Proofs.Lays.n106 P0 Tryz.lays106_ren:={
 mixed:=by kernel_rfl
 f106:=Tryz.func192.trans (congrArg some (by kernel_rfl))
 f213:=Tryz.func231.trans (congrArg some (by kernel_rfl))
 f265:=Tryz.func255.trans (congrArg some (by kernel_rfl))
 t3:=Tryz.underlying3
 a3:=Tryz.isAgg3
 z3:=Tryz.sizeOf3
 v3:=Tryz.zeroValue3
 t9:=Tryz.underlying9
 a9:=Tryz.isAgg9
 z9:=Tryz.sizeOf9
 v9:=Tryz.zeroValue9}
open Go.RowKit in
theorem Tryz.strings_Compare(a b:ByteArray)(w:World):
 Calls P0 192 #[.string a,.string b] w λe w'=>e=.returned (.int .i64 (Lib.compareBytes a.data.toList b.data.toList))/\w'=w:=Any.strings_Compare Tryz.lays106 a b w
def Tryz.lays137_ren:Go.Shelf.Ren:=⟨λ|137=>68|217=>105|266=>140|n=>n,λ|9=>9|5=>5|3=>3|n=>n,λ|n=>n⟩
theorem Tryz.lays137:Go.Proofs.Lays.n137 P0 Tryz.lays137_ren:={
 mixed:=by kernel_rfl
 f137:=Tryz.func68.trans (congrArg some (by kernel_rfl))
 f217:=Tryz.func105.trans (congrArg some (by kernel_rfl))
 f266:=Tryz.func140.trans (congrArg some (by kernel_rfl))
 t3:=Tryz.underlying3
 a3:=Tryz.isAgg3
 z3:=Tryz.sizeOf3
 v3:=Tryz.zeroValue3
 t5:=Tryz.underlying5
 a5:=Tryz.isAgg5
 z5:=Tryz.sizeOf5
 v5:=Tryz.zeroValue5
 t9:=Tryz.underlying9
 a9:=Tryz.isAgg9
 z9:=Tryz.sizeOf9
 v9:=Tryz.zeroValue9}
open Go.RowKit in
theorem Tryz.strings_IndexByte(s:ByteArray)(c:Int)(w:World):
 Calls P0 68 #[.string s,.int .u8 c] w λe w'=>e=.returned (.int .i64 (Lib.indexByte s.data.toList c.toNat.toUInt8))/\w'=w:=Any.strings_IndexByte Tryz.lays137 s c w
def Tryz.lays104_ren:Go.Shelf.Ren:=⟨λ|104=>182|211=>221|207=>248|n=>n,λ|9=>9|4=>4|24=>192|3=>3|n=>n,λ|n=>n⟩
theorem Tryz.lays104:Go.Proofs.Lays.n104 P0 Tryz.lays104_ren:={
 mixed:=by kernel_rfl
 f104:=Tryz.func182.trans (congrArg some (by kernel_rfl))
 f207:=Tryz.func248.trans (congrArg some (by kernel_rfl))
 f211:=Tryz.func221.trans (congrArg some (by kernel_rfl))
 t3:=Tryz.underlying3
 a3:=Tryz.isAgg3
 z3:=Tryz.sizeOf3
 v3:=Tryz.zeroValue3
 t4:=Tryz.underlying4
 a4:=Tryz.isAgg4
 z4:=Tryz.sizeOf4
 v4:=Tryz.zeroValue4
 t9:=Tryz.underlying9
 a9:=Tryz.isAgg9
 z9:=Tryz.sizeOf9
 v9:=Tryz.zeroValue9
 t24:=Tryz.underlying192
 a24:=Tryz.isAgg192
 z24:=Tryz.sizeOf192
 v24:=Tryz.zeroValue192}
open Go.RowKit in
theorem Tryz.strings_CutSuffix(s p:ByteArray)(w:World)(j:s.size<=9223372036854775807):
 Calls P0 182 #[.string s,.string p] w λe w'=>e=.returned (.tuple #[.string ⟨(Lib.trimSuffix s.data.toList p.data.toList).toArray⟩,.bool (Lib.hasSuffix s.data.toList p.data.toList)])/\w'=w:=Any.strings_CutSuffix Tryz.lays104 s p w j
open Go.RowKit in
theorem Tryz.Builder_Len_f(B b:Nat)(bs:List Value)(w:World)(h:Lib.IsBuilderF 116 5 B b bs w):
 Calls P0 223 #[.pointer (some ⟨b,0,none⟩)] w λe w'=>e=.returned (.int .i64 bs.length)/\w'=w:=Any.Builder_Len_f Tryz.lays170 B b bs w h
open Go.RowKit in
theorem Tryz.Builder_String_any_k(B b:Nat)(l:List UInt8)(w:World)(h:Lib.IsBuilderF 116 5 B b (Lib.byteCells l) w)(j:B<=w.heap.size):
 Calls P0 64 #[.pointer (some ⟨b,0,none⟩)] w λe w'=>e=.returned (.string ⟨l.toArray⟩)/\(Lib.IsBuilderF 116 5 B b (Lib.byteCells l) w'/\Below B w w'/\Lib.OthersKept 5 (some b) w w'):=Any.Builder_String_any_k Tryz.lays169 Tryz.Builder_Extra_169 B b l w h j
def Tryz.lays283_ren:Go.Shelf.Ren:=⟨λ|283=>274|n=>n,λ|3=>3|9=>9|4=>4|n=>n,λ|n=>n⟩
theorem Tryz.lays283:Go.Proofs.Lays.n283 P0 Tryz.lays283_ren:={
 mixed:=by kernel_rfl
 f283:=Tryz.func274.trans (congrArg some (by kernel_rfl))
 t3:=Tryz.underlying3
 a3:=Tryz.isAgg3
 z3:=Tryz.sizeOf3
 v3:=Tryz.zeroValue3
 t4:=Tryz.underlying4
 a4:=Tryz.isAgg4
 z4:=Tryz.sizeOf4
 v4:=Tryz.zeroValue4
 t9:=Tryz.underlying9
 a9:=Tryz.isAgg9
 z9:=Tryz.sizeOf9
 v9:=Tryz.zeroValue9}
open Go.Lib in
theorem Tryz.internal_strconv_small(i:Nat)(h:i<100)(w:World):
 Calls P0 274 #[.int .i64 i] w λe w'=>e=.returned (.string ⟨(Lib.decDigits i).toArray⟩)/\w'=w:=Any.internal_strconv_small Tryz.lays283 i h w
def Tryz.laysM284_ren:Go.Shelf.Ren:=⟨λ|284=>275|129=>284|317=>283|318=>285|n=>n,λ|53=>209|3=>3|212=>271|0=>0|4=>4|46=>54|5=>5|9=>9|n=>n,λ|17=>5|n=>n⟩
theorem Tryz.laysM284:Go.Proofs.LaysM.n284 P0 Tryz.laysM284_ren:={
 mixed:=by kernel_rfl
 f129:=Tryz.func284.trans (congrArg some (by kernel_rfl))
 f284:=Tryz.func275.trans (congrArg some (by kernel_rfl))
 f317:=Tryz.func283.trans (congrArg some (by kernel_rfl))
 f318:=Tryz.func285.trans (congrArg some (by kernel_rfl))
 t0:=Tryz.underlying0
 a0:=Tryz.isAgg0
 z0:=Tryz.sizeOf0
 v0:=Tryz.zeroValue0
 t3:=Tryz.underlying3
 a3:=Tryz.isAgg3
 z3:=Tryz.sizeOf3
 v3:=Tryz.zeroValue3
 t4:=Tryz.underlying4
 a4:=Tryz.isAgg4
 z4:=Tryz.sizeOf4
 v4:=Tryz.zeroValue4
 t5:=Tryz.underlying5
 a5:=Tryz.isAgg5
 z5:=Tryz.sizeOf5
 v5:=Tryz.zeroValue5
 t9:=Tryz.underlying9
 a9:=Tryz.isAgg9
 z9:=Tryz.sizeOf9
 v9:=Tryz.zeroValue9
 t46:=Tryz.underlying54
 a46:=Tryz.isAgg54
 z46:=Tryz.sizeOf54
 v46:=Tryz.zeroValue54
 t53:=Tryz.underlying209
 a53:=Tryz.isAgg209
 z53:=Tryz.sizeOf209
 v53:=Tryz.zeroValue209
 t212:=Tryz.underlying271
 a212:=Tryz.isAgg271
 z212:=Tryz.sizeOf271
 v212:=Tryz.zeroValue271
 g17:=by kernel_rfl
 i0:=by kernel_rfl
 i3:=by kernel_rfl
 i4:=by kernel_rfl
 i5:=by kernel_rfl
 i9:=by kernel_rfl
 i46:=by kernel_rfl
 i53:=by kernel_rfl
 i212:=by kernel_rfl
 m17:=by kernel_rfl}
open Go.Lib in
theorem Tryz.internal_strconv_numDigits(u:Nat)(h1:1<=u)(o:u<18446744073709551616)(w:World)(j:Lib.TabIs P0 w "internal/strconv.uint64pow10" .u64 Lib.pow10Tab):
 Calls P0 275 #[.int .u64 u] w λe w'=>e=.returned (.int .i64 (Lib.nDigits u))/\w'=w:=Any.internal_strconv_numDigits Tryz.laysM284 u h1 o w j
def Tryz.lays285_ren:Go.Shelf.Ren:=⟨λ|285=>276|n=>n,λ|37=>89|53=>209|3=>3|4=>4|51=>174|9=>9|5=>5|0=>0|n=>n,λ|n=>n⟩
theorem Tryz.lays285:Go.Proofs.Lays.n285 P0 Tryz.lays285_ren:={
 mixed:=by kernel_rfl
 f285:=Tryz.func276.trans (congrArg some (by kernel_rfl))
 t0:=Tryz.underlying0
 a0:=Tryz.isAgg0
 z0:=Tryz.sizeOf0
 v0:=Tryz.zeroValue0
 t3:=Tryz.underlying3
 a3:=Tryz.isAgg3
 z3:=Tryz.sizeOf3
 v3:=Tryz.zeroValue3
 t4:=Tryz.underlying4
 a4:=Tryz.isAgg4
 z4:=Tryz.sizeOf4
 v4:=Tryz.zeroValue4
 t5:=Tryz.underlying5
 a5:=Tryz.isAgg5
 z5:=Tryz.sizeOf5
 v5:=Tryz.zeroValue5
 t9:=Tryz.underlying9
 a9:=Tryz.isAgg9
 z9:=Tryz.sizeOf9
 v9:=Tryz.zeroValue9
 t37:=Tryz.underlying89
 a37:=Tryz.isAgg89
 z37:=Tryz.sizeOf89
 v37:=Tryz.zeroValue89
 t51:=Tryz.underlying174
 a51:=Tryz.isAgg174
 z51:=Tryz.sizeOf174
 v51:=Tryz.zeroValue174
 t53:=Tryz.underlying209
 a53:=Tryz.isAgg209
 z53:=Tryz.sizeOf209
 v53:=Tryz.zeroValue209}
open Go.RowKit Go.Sort Go.Lib in
theorem Tryz.internal_strconv_formatBase10(blk off cap:Nat)(u:Nat)(d:Array UInt8)(w:World)(J:Holds (λ(b:UInt8)=>Value.int .u8 (b.toNat:Int)) w blk off d)(I:u<10^d.size)(j:u<18446744073709551616)(o:d.size<4611686018427387904):
 Calls P0 276 #[.slice (some ⟨blk,off,none⟩) d.size cap,.int .u64 u] w λe w'=>
  e=.returned (.tuple #[])/\∃(n v':Nat) (dk:Array UInt8),w'=(putRow (λ(b:UInt8)=>Value.int .u8 (b.toNat:Int)) w blk off dk).drewN n/\FmtInv d.size u 0 v' dk:=Any.internal_strconv_formatBase10 Tryz.lays285 blk off cap u d w J I j o
def Tryz.laysM171_ren:Go.Shelf.Ren:=⟨λ|171=>269|243=>280|246=>288|283=>274|284=>275|285=>276|286=>277|129=>284|317=>283|318=>285|319=>286|320=>287|337=>289|338=>290|n=>n,λ|3=>3|9=>9|2=>2|4=>4|171=>262|0=>0|53=>209|37=>89|5=>5|173=>265|212=>271|51=>174|20=>20|213=>272|46=>54|232=>276|233=>277|n=>n,λ|17=>5|18=>6|19=>7|n=>n⟩
theorem Tryz.laysM171:Go.Proofs.LaysM.n171 P0 Tryz.laysM171_ren:={
 mixed:=by kernel_rfl
 f129:=Tryz.func284.trans (congrArg some (by kernel_rfl))
 f171:=Tryz.func269.trans (congrArg some (by kernel_rfl))
 f243:=Tryz.func280.trans (congrArg some (by kernel_rfl))
 f246:=Tryz.func288.trans (congrArg some (by kernel_rfl))
 f283:=Tryz.func274.trans (congrArg some (by kernel_rfl))
 f284:=Tryz.func275.trans (congrArg some (by kernel_rfl))
 f285:=Tryz.func276.trans (congrArg some (by kernel_rfl))
 f286:=Tryz.func277.trans (congrArg some (by kernel_rfl))
 f317:=Tryz.func283.trans (congrArg some (by kernel_rfl))
 f318:=Tryz.func285.trans (congrArg some (by kernel_rfl))
 f319:=Tryz.func286.trans (congrArg some (by kernel_rfl))
 f320:=Tryz.func287.trans (congrArg some (by kernel_rfl))
 f337:=Tryz.func289.trans (congrArg some (by kernel_rfl))
 f338:=Tryz.func290.trans (congrArg some (by kernel_rfl))
 t0:=Tryz.underlying0
 a0:=Tryz.isAgg0
 z0:=Tryz.sizeOf0
 v0:=Tryz.zeroValue0
 t2:=Tryz.underlying2
 a2:=Tryz.isAgg2
 z2:=Tryz.sizeOf2
 v2:=Tryz.zeroValue2
 t3:=Tryz.underlying3
 a3:=Tryz.isAgg3
 z3:=Tryz.sizeOf3
 v3:=Tryz.zeroValue3
 t4:=Tryz.underlying4
 a4:=Tryz.isAgg4
 z4:=Tryz.sizeOf4
 v4:=Tryz.zeroValue4
 t5:=Tryz.underlying5
 a5:=Tryz.isAgg5
 z5:=Tryz.sizeOf5
 v5:=Tryz.zeroValue5
 t9:=Tryz.underlying9
 a9:=Tryz.isAgg9
 z9:=Tryz.sizeOf9
 v9:=Tryz.zeroValue9
 t20:=Tryz.underlying20
 a20:=Tryz.isAgg20
 z20:=Tryz.sizeOf20
 v20:=Tryz.zeroValue20
 t37:=Tryz.underlying89
 a37:=Tryz.isAgg89
 z37:=Tryz.sizeOf89
 v37:=Tryz.zeroValue89
 t46:=Tryz.underlying54
 a46:=Tryz.isAgg54
 z46:=Tryz.sizeOf54
 v46:=Tryz.zeroValue54
 t51:=Tryz.underlying174
 a51:=Tryz.isAgg174
 z51:=Tryz.sizeOf174
 v51:=Tryz.zeroValue174
 t53:=Tryz.underlying209
 a53:=Tryz.isAgg209
 z53:=Tryz.sizeOf209
 v53:=Tryz.zeroValue209
 t171:=Tryz.underlying262
 a171:=Tryz.isAgg262
 z171:=Tryz.sizeOf262
 v171:=Tryz.zeroValue262
 t173:=Tryz.underlying265
 a173:=Tryz.isAgg265
 z173:=Tryz.sizeOf265
 v173:=Tryz.zeroValue265
 t212:=Tryz.underlying271
 a212:=Tryz.isAgg271
 z212:=Tryz.sizeOf271
 v212:=Tryz.zeroValue271
 t213:=Tryz.underlying272
 a213:=Tryz.isAgg272
 z213:=Tryz.sizeOf272
 t232:=Tryz.underlying276
 a232:=Tryz.isAgg276
 z232:=Tryz.sizeOf276
 v232:=Tryz.zeroValue276
 t233:=Tryz.underlying277
 a233:=Tryz.isAgg277
 z233:=Tryz.sizeOf277
 v233:=Tryz.zeroValue277
 g17:=by kernel_rfl
 g18:=by kernel_rfl
 g19:=by kernel_rfl
 i0:=by kernel_rfl
 i2:=by kernel_rfl
 i3:=by kernel_rfl
 i4:=by kernel_rfl
 i5:=by kernel_rfl
 i9:=by kernel_rfl
 i20:=by kernel_rfl
 i37:=by kernel_rfl
 i46:=by kernel_rfl
 i51:=by kernel_rfl
 i53:=by kernel_rfl
 i171:=by kernel_rfl
 i173:=by kernel_rfl
 i212:=by kernel_rfl
 i232:=by kernel_rfl
 i233:=by kernel_rfl
 m17:=by kernel_rfl
 m18:=by kernel_rfl
 m19:=by kernel_rfl}
open Go.RowKit Go.Sort Go.Lib in
theorem Tryz.strconv_Itoa(n:Int)(h0:-9223372036854775808<=n)(h1:n<=9223372036854775807)(w:World)(j:Lib.TabIs P0 w "internal/strconv.uint64pow10" .u64 Lib.pow10Tab):
 Calls P0 269 #[.int .i64 n] w λe w'=>e=.returned (.string ⟨(Lib.itoa n).toArray⟩)/\∃k os,w'=grow (w.drewN k) os:=Any.strconv_Itoa Tryz.laysM171 n h0 h1 w j
def Tryz.laysC245_ren:Go.Shelf.Ren:=⟨λ|245=>213|279=>242|280=>243|281=>244|282=>245|316=>267|171=>269|205=>268|243=>280|246=>288|283=>274|284=>275|285=>276|286=>277|129=>284|317=>283|318=>285|319=>286|320=>287|337=>289|338=>290|n=>n,λ|9=>9|3=>3|75=>118|167=>236|4=>4|168=>239|210=>258|37=>89|0=>0|127=>145|145=>270|143=>268|2=>2|171=>262|53=>209|5=>5|173=>265|212=>271|51=>174|20=>20|213=>272|46=>54|232=>276|233=>277|80=>122|n=>n,λ|15=>3|16=>4|17=>5|18=>6|19=>7|n=>n⟩
theorem Tryz.laysC245:Go.Proofs.LaysC.n245 P0 Tryz.laysC245_ren:={
 mixed:=by kernel_rfl
 f129:=Tryz.func284.trans (congrArg some (by kernel_rfl))
 f171:=Tryz.func269.trans (congrArg some (by kernel_rfl))
 f205:=Tryz.func268.trans (congrArg some (by kernel_rfl))
 f243:=Tryz.func280.trans (congrArg some (by kernel_rfl))
 f245:=Tryz.func213.trans (congrArg some (by kernel_rfl))
 f246:=Tryz.func288.trans (congrArg some (by kernel_rfl))
 f279:=Tryz.func242.trans (congrArg some (by kernel_rfl))
 f280:=Tryz.func243.trans (congrArg some (by kernel_rfl))
 f281:=Tryz.func244.trans (congrArg some (by kernel_rfl))
 f282:=Tryz.func245.trans (congrArg some (by kernel_rfl))
 f283:=Tryz.func274.trans (congrArg some (by kernel_rfl))
 f284:=Tryz.func275.trans (congrArg some (by kernel_rfl))
 f285:=Tryz.func276.trans (congrArg some (by kernel_rfl))
 f286:=Tryz.func277.trans (congrArg some (by kernel_rfl))
 f316:=Tryz.func267.trans (congrArg some (by kernel_rfl))
 f317:=Tryz.func283.trans (congrArg some (by kernel_rfl))
 f318:=Tryz.func285.trans (congrArg some (by kernel_rfl))
 f319:=Tryz.func286.trans (congrArg some (by kernel_rfl))
 f320:=Tryz.func287.trans (congrArg some (by kernel_rfl))
 f337:=Tryz.func289.trans (congrArg some (by kernel_rfl))
 f338:=Tryz.func290.trans (congrArg some (by kernel_rfl))
 t0:=Tryz.underlying0
 a0:=Tryz.isAgg0
 z0:=Tryz.sizeOf0
 v0:=Tryz.zeroValue0
 t2:=Tryz.underlying2
 a2:=Tryz.isAgg2
 z2:=Tryz.sizeOf2
 v2:=Tryz.zeroValue2
 t3:=Tryz.underlying3
 a3:=Tryz.isAgg3
 z3:=Tryz.sizeOf3
 v3:=Tryz.zeroValue3
 t4:=Tryz.underlying4
 a4:=Tryz.isAgg4
 z4:=Tryz.sizeOf4
 v4:=Tryz.zeroValue4
 t5:=Tryz.underlying5
 a5:=Tryz.isAgg5
 z5:=Tryz.sizeOf5
 v5:=Tryz.zeroValue5
 t9:=Tryz.underlying9
 a9:=Tryz.isAgg9
 z9:=Tryz.sizeOf9
 v9:=Tryz.zeroValue9
 t20:=Tryz.underlying20
 a20:=Tryz.isAgg20
 z20:=Tryz.sizeOf20
 v20:=Tryz.zeroValue20
 t37:=Tryz.underlying89
 a37:=Tryz.isAgg89
 z37:=Tryz.sizeOf89
 v37:=Tryz.zeroValue89
 t46:=Tryz.underlying54
 a46:=Tryz.isAgg54
 z46:=Tryz.sizeOf54
 v46:=Tryz.zeroValue54
 t51:=Tryz.underlying174
 a51:=Tryz.isAgg174
 z51:=Tryz.sizeOf174
 v51:=Tryz.zeroValue174
 t53:=Tryz.underlying209
 a53:=Tryz.isAgg209
 z53:=Tryz.sizeOf209
 v53:=Tryz.zeroValue209
 t75:=Tryz.underlying118
 a75:=Tryz.isAgg118
 z75:=Tryz.sizeOf118
 v75:=Tryz.zeroValue118
 t127:=Tryz.underlying145
 a127:=Tryz.isAgg145
 z127:=Tryz.sizeOf145
 v127:=Tryz.zeroValue145
 t143:=Tryz.underlying268
 a143:=Tryz.isAgg268
 z143:=Tryz.sizeOf268
 v143:=Tryz.zeroValue268
 t145:=Tryz.underlying270
 a145:=Tryz.isAgg270
 z145:=Tryz.sizeOf270
 v145:=Tryz.zeroValue270
 t167:=Tryz.underlying236
 a167:=Tryz.isAgg236
 z167:=Tryz.sizeOf236
 v167:=Tryz.zeroValue236
 t168:=Tryz.underlying239
 a168:=Tryz.isAgg239
 z168:=Tryz.sizeOf239
 v168:=Tryz.zeroValue239
 t171:=Tryz.underlying262
 a171:=Tryz.isAgg262
 z171:=Tryz.sizeOf262
 v171:=Tryz.zeroValue262
 t173:=Tryz.underlying265
 a173:=Tryz.isAgg265
 z173:=Tryz.sizeOf265
 v173:=Tryz.zeroValue265
 t210:=Tryz.underlying258
 a210:=Tryz.isAgg258
 z210:=Tryz.sizeOf258
 v210:=Tryz.zeroValue258
 t212:=Tryz.underlying271
 a212:=Tryz.isAgg271
 z212:=Tryz.sizeOf271
 v212:=Tryz.zeroValue271
 t213:=Tryz.underlying272
 a213:=Tryz.isAgg272
 z213:=Tryz.sizeOf272
 t232:=Tryz.underlying276
 a232:=Tryz.isAgg276
 z232:=Tryz.sizeOf276
 v232:=Tryz.zeroValue276
 t233:=Tryz.underlying277
 a233:=Tryz.isAgg277
 z233:=Tryz.sizeOf277
 v233:=Tryz.zeroValue277
 g15:=by kernel_rfl
 g16:=by kernel_rfl
 g17:=by kernel_rfl
 g18:=by kernel_rfl
 g19:=by kernel_rfl
 t80:=Tryz.underlying122
 a80:=Tryz.isAgg122
 z80:=Tryz.sizeOf122
 v80:=Tryz.zeroValue122
 i0:=by kernel_rfl
 i2:=by kernel_rfl
 i3:=by kernel_rfl
 i4:=by kernel_rfl
 i5:=by kernel_rfl
 i9:=by kernel_rfl
 i20:=by kernel_rfl
 i37:=by kernel_rfl
 i46:=by kernel_rfl
 i51:=by kernel_rfl
 i53:=by kernel_rfl
 i75:=by kernel_rfl
 i80:=by kernel_rfl
 i127:=by kernel_rfl
 i143:=by kernel_rfl
 i145:=by kernel_rfl
 i167:=by kernel_rfl
 i168:=by kernel_rfl
 i171:=by kernel_rfl
 i173:=by kernel_rfl
 i210:=by kernel_rfl
 i212:=by kernel_rfl
 i232:=by kernel_rfl
 i233:=by kernel_rfl
 m15:=by kernel_rfl
 m16:=by kernel_rfl
 m17:=by kernel_rfl
 m18:=by kernel_rfl
 m19:=by kernel_rfl
 c0:=by kernel_rfl
 c2:=by kernel_rfl
 c3:=by kernel_rfl
 c4:=by kernel_rfl
 c5:=by kernel_rfl
 c9:=by kernel_rfl
 c20:=by kernel_rfl
 c37:=by kernel_rfl
 c46:=by kernel_rfl
 c51:=by kernel_rfl
 c53:=by kernel_rfl
 c75:=by kernel_rfl
 c80:=by kernel_rfl
 c127:=by kernel_rfl
 c143:=by kernel_rfl
 c145:=by kernel_rfl
 c167:=by kernel_rfl
 c168:=by kernel_rfl
 c171:=by kernel_rfl
 c173:=by kernel_rfl
 c210:=by kernel_rfl
 c212:=by kernel_rfl
 c213:=by kernel_rfl
 c232:=by kernel_rfl
 c233:=by kernel_rfl}
open Go.RowKit in
theorem Tryz.strconv_toError_syntax(fn s:ByteArray)(base bits:Int)(ev:Value)(w:World)(j:s.size<=281474976710656)(I:w.cell? ⟨3,0,none⟩=some ev)(o:ev=.nilIface\/∃te pe,ev=.iface te pe):
 Calls P0 213 #[.string fn,.string s,.int .i64 base,.int .i64 bits,.iface 236 (.int .i64 2)] w λe w'=>∃N,e=.returned (.iface 239 (.pointer (some ⟨N,0,none⟩)))/\w.heap.size<=N/\w'.heap[N]?=some (.cells #[.string fn,.string s,ev] 258 (0,0))/\Below w.heap.size w w':=Any.strconv_toError_syntax Tryz.laysC245 fn s base bits ev w j I o
def Tryz.laysC244_ren:Go.Shelf.Ren:=⟨λ|244=>212|247=>241|287=>252|321=>272|322=>273|n=>n,λ|9=>9|3=>3|75=>118|4=>4|5=>5|167=>236|37=>89|0=>0|85=>237|2=>2|53=>209|175=>227|46=>54|21=>21|80=>122|n=>n,λ|n=>n⟩
theorem Tryz.laysC244:Go.Proofs.LaysC.n244 P0 Tryz.laysC244_ren:={
 mixed:=by kernel_rfl
 f244:=Tryz.func212.trans (congrArg some (by kernel_rfl))
 f247:=Tryz.func241.trans (congrArg some (by kernel_rfl))
 f287:=Tryz.func252.trans (congrArg some (by kernel_rfl))
 f321:=Tryz.func272.trans (congrArg some (by kernel_rfl))
 f322:=Tryz.func273.trans (congrArg some (by kernel_rfl))
 t0:=Tryz.underlying0
 a0:=Tryz.isAgg0
 z0:=Tryz.sizeOf0
 v0:=Tryz.zeroValue0
 t2:=Tryz.underlying2
 a2:=Tryz.isAgg2
 z2:=Tryz.sizeOf2
 v2:=Tryz.zeroValue2
 t3:=Tryz.underlying3
 a3:=Tryz.isAgg3
 z3:=Tryz.sizeOf3
 v3:=Tryz.zeroValue3
 t4:=Tryz.underlying4
 a4:=Tryz.isAgg4
 z4:=Tryz.sizeOf4
 v4:=Tryz.zeroValue4
 t5:=Tryz.underlying5
 a5:=Tryz.isAgg5
 z5:=Tryz.sizeOf5
 v5:=Tryz.zeroValue5
 t9:=Tryz.underlying9
 a9:=Tryz.isAgg9
 z9:=Tryz.sizeOf9
 v9:=Tryz.zeroValue9
 t21:=Tryz.underlying21
 a21:=Tryz.isAgg21
 z21:=Tryz.sizeOf21
 v21:=Tryz.zeroValue21
 t37:=Tryz.underlying89
 a37:=Tryz.isAgg89
 z37:=Tryz.sizeOf89
 v37:=Tryz.zeroValue89
 t46:=Tryz.underlying54
 a46:=Tryz.isAgg54
 z46:=Tryz.sizeOf54
 v46:=Tryz.zeroValue54
 t53:=Tryz.underlying209
 a53:=Tryz.isAgg209
 z53:=Tryz.sizeOf209
 v53:=Tryz.zeroValue209
 t75:=Tryz.underlying118
 a75:=Tryz.isAgg118
 z75:=Tryz.sizeOf118
 v75:=Tryz.zeroValue118
 t85:=Tryz.underlying237
 a85:=Tryz.isAgg237
 z85:=Tryz.sizeOf237
 v85:=Tryz.zeroValue237
 t167:=Tryz.underlying236
 a167:=Tryz.isAgg236
 z167:=Tryz.sizeOf236
 v167:=Tryz.zeroValue236
 t175:=Tryz.underlying227
 a175:=Tryz.isAgg227
 z175:=Tryz.sizeOf227
 v175:=Tryz.zeroValue227
 t80:=Tryz.underlying122
 a80:=Tryz.isAgg122
 z80:=Tryz.sizeOf122
 v80:=Tryz.zeroValue122
 i0:=by kernel_rfl
 i2:=by kernel_rfl
 i3:=by kernel_rfl
 i4:=by kernel_rfl
 i5:=by kernel_rfl
 i9:=by kernel_rfl
 i21:=by kernel_rfl
 i37:=by kernel_rfl
 i46:=by kernel_rfl
 i53:=by kernel_rfl
 i75:=by kernel_rfl
 i80:=by kernel_rfl
 i85:=by kernel_rfl
 i167:=by kernel_rfl
 i175:=by kernel_rfl
 c0:=by kernel_rfl
 c2:=by kernel_rfl
 c3:=by kernel_rfl
 c4:=by kernel_rfl
 c5:=by kernel_rfl
 c9:=by kernel_rfl
 c21:=by kernel_rfl
 c37:=by kernel_rfl
 c46:=by kernel_rfl
 c53:=by kernel_rfl
 c75:=by kernel_rfl
 c80:=by kernel_rfl
 c85:=by kernel_rfl
 c167:=by kernel_rfl
 c175:=by kernel_rfl}
open Go.RowKit in
theorem Tryz.internal_strconv_Atoi_all(s:ByteArray)(j:s.size<=9223372036854775806)(w:World):
 Calls P0 212 #[.string s] w λe w'=>e=.returned (Lib.intTuple 236 (Lib.atoiSat s.data.toList) (Lib.atoiAll s.data.toList))/\(w'=w\/∃t,w'=Lib.bytesWorld w 5 t):=Any.internal_strconv_Atoi_all Tryz.laysC244 s j w
open Go.RowKit in
theorem Tryz.strconv_toError_range(fn s:ByteArray)(base bits:Int)(ev:Value)(w:World)(j:s.size<=281474976710656)(I:w.cell? ⟨4,0,none⟩=some ev)(o:ev=.nilIface\/∃te pe,ev=.iface te pe):
 Calls P0 213 #[.string fn,.string s,.int .i64 base,.int .i64 bits,.iface 236 (.int .i64 1)] w λe w'=>∃N,e=.returned (.iface 239 (.pointer (some ⟨N,0,none⟩)))/\w.heap.size<=N/\w'.heap[N]?=some (.cells #[.string fn,.string s,ev] 258 (0,0))/\Below w.heap.size w w':=Any.strconv_toError_range Tryz.laysC245 fn s base bits ev w j I o
def Tryz.laysPu14_ren:Go.Shelf.Ren:=⟨λ|14=>226|16=>252|17=>213|19=>272|20=>273|21=>242|22=>243|23=>244|24=>245|25=>267|27=>269|26=>268|28=>280|29=>288|30=>274|31=>275|32=>276|33=>277|35=>284|34=>283|36=>285|37=>286|38=>287|39=>289|40=>290|n=>n,λ|9=>9|3=>3|22=>209|24=>118|25=>227|4=>4|34=>236|5=>5|36=>54|37=>89|0=>0|39=>239|21=>21|44=>258|47=>145|50=>270|48=>268|2=>2|52=>262|55=>265|59=>271|60=>174|20=>20|61=>272|65=>276|66=>277|67=>122|n=>n,λ|0=>3|1=>4|2=>5|3=>6|4=>7|n=>n⟩
theorem Tryz.laysPu14:Go.Proofs.LaysPu.n14 P0 Tryz.laysPu14_ren:={
 mixed:=by kernel_rfl
 f14:=Tryz.func226.trans (congrArg some (by kernel_rfl))
 f16:=Tryz.func252.trans (congrArg some (by kernel_rfl))
 f17:=Tryz.func213.trans (congrArg some (by kernel_rfl))
 f19:=Tryz.func272.trans (congrArg some (by kernel_rfl))
 f20:=Tryz.func273.trans (congrArg some (by kernel_rfl))
 f21:=Tryz.func242.trans (congrArg some (by kernel_rfl))
 f22:=Tryz.func243.trans (congrArg some (by kernel_rfl))
 f23:=Tryz.func244.trans (congrArg some (by kernel_rfl))
 f24:=Tryz.func245.trans (congrArg some (by kernel_rfl))
 f25:=Tryz.func267.trans (congrArg some (by kernel_rfl))
 f26:=Tryz.func268.trans (congrArg some (by kernel_rfl))
 f27:=Tryz.func269.trans (congrArg some (by kernel_rfl))
 f28:=Tryz.func280.trans (congrArg some (by kernel_rfl))
 f29:=Tryz.func288.trans (congrArg some (by kernel_rfl))
 f30:=Tryz.func274.trans (congrArg some (by kernel_rfl))
 f31:=Tryz.func275.trans (congrArg some (by kernel_rfl))
 f32:=Tryz.func276.trans (congrArg some (by kernel_rfl))
 f33:=Tryz.func277.trans (congrArg some (by kernel_rfl))
 f34:=Tryz.func283.trans (congrArg some (by kernel_rfl))
 f35:=Tryz.func284.trans (congrArg some (by kernel_rfl))
 f36:=Tryz.func285.trans (congrArg some (by kernel_rfl))
 f37:=Tryz.func286.trans (congrArg some (by kernel_rfl))
 f38:=Tryz.func287.trans (congrArg some (by kernel_rfl))
 f39:=Tryz.func289.trans (congrArg some (by kernel_rfl))
 f40:=Tryz.func290.trans (congrArg some (by kernel_rfl))
 t0:=Tryz.underlying0
 a0:=Tryz.isAgg0
 z0:=Tryz.sizeOf0
 v0:=Tryz.zeroValue0
 i0:=by kernel_rfl
 t2:=Tryz.underlying2
 a2:=Tryz.isAgg2
 z2:=Tryz.sizeOf2
 v2:=Tryz.zeroValue2
 i2:=by kernel_rfl
 t3:=Tryz.underlying3
 a3:=Tryz.isAgg3
 z3:=Tryz.sizeOf3
 v3:=Tryz.zeroValue3
 i3:=by kernel_rfl
 t4:=Tryz.underlying4
 a4:=Tryz.isAgg4
 z4:=Tryz.sizeOf4
 v4:=Tryz.zeroValue4
 i4:=by kernel_rfl
 t5:=Tryz.underlying5
 a5:=Tryz.isAgg5
 z5:=Tryz.sizeOf5
 v5:=Tryz.zeroValue5
 i5:=by kernel_rfl
 t9:=Tryz.underlying9
 a9:=Tryz.isAgg9
 z9:=Tryz.sizeOf9
 v9:=Tryz.zeroValue9
 i9:=by kernel_rfl
 t20:=Tryz.underlying20
 a20:=Tryz.isAgg20
 z20:=Tryz.sizeOf20
 v20:=Tryz.zeroValue20
 i20:=by kernel_rfl
 t21:=Tryz.underlying21
 a21:=Tryz.isAgg21
 z21:=Tryz.sizeOf21
 v21:=Tryz.zeroValue21
 i21:=by kernel_rfl
 t22:=Tryz.underlying209
 a22:=Tryz.isAgg209
 z22:=Tryz.sizeOf209
 v22:=Tryz.zeroValue209
 i22:=by kernel_rfl
 t24:=Tryz.underlying118
 a24:=Tryz.isAgg118
 z24:=Tryz.sizeOf118
 v24:=Tryz.zeroValue118
 i24:=by kernel_rfl
 t25:=Tryz.underlying227
 a25:=Tryz.isAgg227
 z25:=Tryz.sizeOf227
 v25:=Tryz.zeroValue227
 i25:=by kernel_rfl
 t34:=Tryz.underlying236
 a34:=Tryz.isAgg236
 z34:=Tryz.sizeOf236
 v34:=Tryz.zeroValue236
 i34:=by kernel_rfl
 c34:=by kernel_rfl
 t36:=Tryz.underlying54
 a36:=Tryz.isAgg54
 z36:=Tryz.sizeOf54
 v36:=Tryz.zeroValue54
 i36:=by kernel_rfl
 t37:=Tryz.underlying89
 a37:=Tryz.isAgg89
 z37:=Tryz.sizeOf89
 v37:=Tryz.zeroValue89
 i37:=by kernel_rfl
 t39:=Tryz.underlying239
 a39:=Tryz.isAgg239
 z39:=Tryz.sizeOf239
 v39:=Tryz.zeroValue239
 i39:=by kernel_rfl
 t44:=Tryz.underlying258
 a44:=Tryz.isAgg258
 z44:=Tryz.sizeOf258
 v44:=Tryz.zeroValue258
 i44:=by kernel_rfl
 t47:=Tryz.underlying145
 a47:=Tryz.isAgg145
 z47:=Tryz.sizeOf145
 v47:=Tryz.zeroValue145
 i47:=by kernel_rfl
 t48:=Tryz.underlying268
 a48:=Tryz.isAgg268
 z48:=Tryz.sizeOf268
 v48:=Tryz.zeroValue268
 i48:=by kernel_rfl
 t50:=Tryz.underlying270
 a50:=Tryz.isAgg270
 z50:=Tryz.sizeOf270
 v50:=Tryz.zeroValue270
 i50:=by kernel_rfl
 t52:=Tryz.underlying262
 a52:=Tryz.isAgg262
 z52:=Tryz.sizeOf262
 v52:=Tryz.zeroValue262
 i52:=by kernel_rfl
 t55:=Tryz.underlying265
 a55:=Tryz.isAgg265
 z55:=Tryz.sizeOf265
 v55:=Tryz.zeroValue265
 i55:=by kernel_rfl
 t59:=Tryz.underlying271
 a59:=Tryz.isAgg271
 z59:=Tryz.sizeOf271
 v59:=Tryz.zeroValue271
 i59:=by kernel_rfl
 t60:=Tryz.underlying174
 a60:=Tryz.isAgg174
 z60:=Tryz.sizeOf174
 v60:=Tryz.zeroValue174
 i60:=by kernel_rfl
 t61:=Tryz.underlying272
 a61:=Tryz.isAgg272
 z61:=Tryz.sizeOf272
 t65:=Tryz.underlying276
 a65:=Tryz.isAgg276
 z65:=Tryz.sizeOf276
 v65:=Tryz.zeroValue276
 i65:=by kernel_rfl
 t66:=Tryz.underlying277
 a66:=Tryz.isAgg277
 z66:=Tryz.sizeOf277
 v66:=Tryz.zeroValue277
 i66:=by kernel_rfl
 t67:=Tryz.underlying122
 a67:=Tryz.isAgg122
 z67:=Tryz.sizeOf122
 v67:=Tryz.zeroValue122
 i67:=by kernel_rfl
 g0:=by kernel_rfl
 m0:=by kernel_rfl
 g1:=by kernel_rfl
 m1:=by kernel_rfl
 g2:=by kernel_rfl
 m2:=by kernel_rfl
 g3:=by kernel_rfl
 m3:=by kernel_rfl
 g4:=by kernel_rfl
 m4:=by kernel_rfl}
open Go.RowKit in
theorem Tryz.strconv_ParseUint_10_at64_ok(s:ByteArray)(j:s.size<=9223372036854775806)(u:Nat)(h:Lib.parseUintB 64 s.data.toList=.ok u)(w:World):
 Calls P0 226 #[.string s,.int .i64 10,.int .i64 64] w λe w'=>e=.returned (.tuple #[.int .u64 u,.nilIface])/\(w'=w\/w'=Lib.bytesWorld w 5 s):=Any.strconv_ParseUint_10_at64_ok Tryz.laysPu14 s j u h w
def Tryz.lays143_ren:Go.Shelf.Ren:=⟨λ|143=>71|219=>106|217=>105|225=>141|224=>142|267=>143|266=>140|314=>200|n=>n,λ|9=>9|3=>3|4=>4|5=>5|46=>54|146=>212|51=>174|n=>n,λ|1=>0|n=>n⟩
theorem Tryz.lays143:Go.Proofs.Lays.n143 P0 Tryz.lays143_ren:={
 mixed:=by kernel_rfl
 f143:=Tryz.func71.trans (congrArg some (by kernel_rfl))
 f217:=Tryz.func105.trans (congrArg some (by kernel_rfl))
 f219:=Tryz.func106.trans (congrArg some (by kernel_rfl))
 f224:=Tryz.func142.trans (congrArg some (by kernel_rfl))
 f225:=Tryz.func141.trans (congrArg some (by kernel_rfl))
 f266:=Tryz.func140.trans (congrArg some (by kernel_rfl))
 f267:=Tryz.func143.trans (congrArg some (by kernel_rfl))
 f314:=Tryz.func200.trans (congrArg some (by kernel_rfl))
 t3:=Tryz.underlying3
 a3:=Tryz.isAgg3
 z3:=Tryz.sizeOf3
 v3:=Tryz.zeroValue3
 t4:=Tryz.underlying4
 a4:=Tryz.isAgg4
 z4:=Tryz.sizeOf4
 v4:=Tryz.zeroValue4
 t5:=Tryz.underlying5
 a5:=Tryz.isAgg5
 z5:=Tryz.sizeOf5
 v5:=Tryz.zeroValue5
 t9:=Tryz.underlying9
 a9:=Tryz.isAgg9
 z9:=Tryz.sizeOf9
 v9:=Tryz.zeroValue9
 t46:=Tryz.underlying54
 a46:=Tryz.isAgg54
 z46:=Tryz.sizeOf54
 v46:=Tryz.zeroValue54
 t51:=Tryz.underlying174
 a51:=Tryz.isAgg174
 z51:=Tryz.sizeOf174
 v51:=Tryz.zeroValue174
 t146:=Tryz.underlying212
 a146:=Tryz.isAgg212
 z146:=Tryz.sizeOf212
 v146:=Tryz.zeroValue212
 g1:=by kernel_rfl}
open Go.RowKit Go.Lib in
theorem Tryz.strings_Index(s sub:ByteArray)(m:Int)(w:World)(j:s.size<4294967281)(hm:w.cell? ⟨0,0,none⟩=some (.int .i64 m)):
 Calls P0 71 #[.string s,.string sub] w λe w'=>e=.returned (.int .i64 (Lib.index s.data.toList sub.data.toList))/\w'=w:=Any.strings_Index Tryz.lays143 s sub m w j hm
def Tryz.lays145_ren:Go.Shelf.Ren:=⟨λ|145=>110|220=>145|219=>106|217=>105|225=>141|224=>142|267=>143|266=>140|314=>200|n=>n,λ|9=>9|4=>4|59=>147|3=>3|5=>5|46=>54|146=>212|51=>174|n=>n,λ|1=>0|n=>n⟩
theorem Tryz.lays145:Go.Proofs.Lays.n145 P0 Tryz.lays145_ren:={
 mixed:=by kernel_rfl
 f145:=Tryz.func110.trans (congrArg some (by kernel_rfl))
 f217:=Tryz.func105.trans (congrArg some (by kernel_rfl))
 f219:=Tryz.func106.trans (congrArg some (by kernel_rfl))
 f220:=Tryz.func145.trans (congrArg some (by kernel_rfl))
 f224:=Tryz.func142.trans (congrArg some (by kernel_rfl))
 f225:=Tryz.func141.trans (congrArg some (by kernel_rfl))
 f266:=Tryz.func140.trans (congrArg some (by kernel_rfl))
 f267:=Tryz.func143.trans (congrArg some (by kernel_rfl))
 f314:=Tryz.func200.trans (congrArg some (by kernel_rfl))
 t3:=Tryz.underlying3
 a3:=Tryz.isAgg3
 z3:=Tryz.sizeOf3
 v3:=Tryz.zeroValue3
 t4:=Tryz.underlying4
 a4:=Tryz.isAgg4
 z4:=Tryz.sizeOf4
 v4:=Tryz.zeroValue4
 t5:=Tryz.underlying5
 a5:=Tryz.isAgg5
 z5:=Tryz.sizeOf5
 v5:=Tryz.zeroValue5
 t9:=Tryz.underlying9
 a9:=Tryz.isAgg9
 z9:=Tryz.sizeOf9
 v9:=Tryz.zeroValue9
 t46:=Tryz.underlying54
 a46:=Tryz.isAgg54
 z46:=Tryz.sizeOf54
 v46:=Tryz.zeroValue54
 t51:=Tryz.underlying174
 a51:=Tryz.isAgg174
 z51:=Tryz.sizeOf174
 v51:=Tryz.zeroValue174
 t59:=Tryz.underlying147
 a59:=Tryz.isAgg147
 z59:=Tryz.sizeOf147
 v59:=Tryz.zeroValue147
 t146:=Tryz.underlying212
 a146:=Tryz.isAgg212
 z146:=Tryz.sizeOf212
 v146:=Tryz.zeroValue212
 g1:=by kernel_rfl}
open Go.RowKit Go.Lib in
theorem Tryz.strings_Cut(s sep:ByteArray)(m:Int)(w:World)(j:s.size<4294967281)(hm:w.cell? ⟨0,0,none⟩=some (.int .i64 m)):
 Calls P0 110 #[.string s,.string sep] w λe w'=>e=.returned (.tuple #[.string ⟨(Lib.cut s.data.toList sep.data.toList).1.toArray⟩,.string ⟨(Lib.cut s.data.toList sep.data.toList).2.1.toArray⟩,.bool (Lib.cut s.data.toList sep.data.toList).2.2])/\∃n,w'=w.drewN n:=Any.strings_Cut Tryz.lays145 s sep m w j hm
def Tryz.lays206_ren:Go.Shelf.Ren:=⟨λ|206=>67|n=>n,λ|9=>9|4=>4|3=>3|n=>n,λ|n=>n⟩
theorem Tryz.lays206:Go.Proofs.Lays.n206 P0 Tryz.lays206_ren:={
 mixed:=by kernel_rfl
 f206:=Tryz.func67.trans (congrArg some (by kernel_rfl))
 t3:=Tryz.underlying3
 a3:=Tryz.isAgg3
 z3:=Tryz.sizeOf3
 v3:=Tryz.zeroValue3
 t4:=Tryz.underlying4
 a4:=Tryz.isAgg4
 z4:=Tryz.sizeOf4
 v4:=Tryz.zeroValue4
 t9:=Tryz.underlying9
 a9:=Tryz.isAgg9
 z9:=Tryz.sizeOf9
 v9:=Tryz.zeroValue9}
open Go.RowKit Go.Lib in
theorem Tryz.stringslite_HasPrefix(s p:ByteArray)(w:World):
 Calls P0 67 #[.string s,.string p] w λe w'=>e=.returned (.bool (Lib.hasPrefix s.data.toList p.data.toList))/\w'=w:=Any.stringslite_HasPrefix Tryz.lays206 s p w
def Tryz.lays99_ren:Go.Shelf.Ren:=⟨λ|99=>43|206=>67|n=>n,λ|9=>9|4=>4|3=>3|n=>n,λ|n=>n⟩
theorem Tryz.lays99:Go.Proofs.Lays.n99 P0 Tryz.lays99_ren:={
 mixed:=by kernel_rfl
 f99:=Tryz.func43.trans (congrArg some (by kernel_rfl))
 f206:=Tryz.func67.trans (congrArg some (by kernel_rfl))
 t3:=Tryz.underlying3
 a3:=Tryz.isAgg3
 z3:=Tryz.sizeOf3
 v3:=Tryz.zeroValue3
 t4:=Tryz.underlying4
 a4:=Tryz.isAgg4
 z4:=Tryz.sizeOf4
 v4:=Tryz.zeroValue4
 t9:=Tryz.underlying9
 a9:=Tryz.isAgg9
 z9:=Tryz.sizeOf9
 v9:=Tryz.zeroValue9}
open Go.RowKit Go.Lib in
theorem Tryz.strings_HasPrefix(s p:ByteArray)(w:World):
 Calls P0 43 #[.string s,.string p] w λe w'=>e=.returned (.bool (Lib.hasPrefix s.data.toList p.data.toList))/\w'=w:=Any.strings_HasPrefix Tryz.lays99 s p w
def Tryz.lays105_ren:Go.Shelf.Ren:=⟨λ|105=>183|212=>222|99=>43|165=>65|166=>66|170=>223|169=>64|263=>249|264=>250|206=>67|240=>102|241=>104|276=>137|277=>139|n=>n,λ|9=>9|3=>3|4=>4|20=>20|0=>0|46=>54|109=>225|5=>5|72=>116|76=>120|51=>174|146=>212|53=>209|148=>244|70=>114|37=>89|75=>118|127=>145|164=>172|80=>122|n=>n,λ|n=>n⟩
theorem Tryz.lays105:Go.Proofs.Lays.n105 P0 Tryz.lays105_ren:={
 mixed:=by kernel_rfl
 f99:=Tryz.func43.trans (congrArg some (by kernel_rfl))
 f105:=Tryz.func183.trans (congrArg some (by kernel_rfl))
 f165:=Tryz.func65.trans (congrArg some (by kernel_rfl))
 f166:=Tryz.func66.trans (congrArg some (by kernel_rfl))
 f169:=Tryz.func64.trans (congrArg some (by kernel_rfl))
 f170:=Tryz.func223.trans (congrArg some (by kernel_rfl))
 f206:=Tryz.func67.trans (congrArg some (by kernel_rfl))
 f212:=Tryz.func222.trans (congrArg some (by kernel_rfl))
 f240:=Tryz.func102.trans (congrArg some (by kernel_rfl))
 f241:=Tryz.func104.trans (congrArg some (by kernel_rfl))
 f263:=Tryz.func249.trans (congrArg some (by kernel_rfl))
 f264:=Tryz.func250.trans (congrArg some (by kernel_rfl))
 f276:=Tryz.func137.trans (congrArg some (by kernel_rfl))
 f277:=Tryz.func139.trans (congrArg some (by kernel_rfl))
 t0:=Tryz.underlying0
 a0:=Tryz.isAgg0
 z0:=Tryz.sizeOf0
 v0:=Tryz.zeroValue0
 t3:=Tryz.underlying3
 a3:=Tryz.isAgg3
 z3:=Tryz.sizeOf3
 v3:=Tryz.zeroValue3
 t4:=Tryz.underlying4
 a4:=Tryz.isAgg4
 z4:=Tryz.sizeOf4
 v4:=Tryz.zeroValue4
 t5:=Tryz.underlying5
 a5:=Tryz.isAgg5
 z5:=Tryz.sizeOf5
 v5:=Tryz.zeroValue5
 t9:=Tryz.underlying9
 a9:=Tryz.isAgg9
 z9:=Tryz.sizeOf9
 v9:=Tryz.zeroValue9
 t20:=Tryz.underlying20
 a20:=Tryz.isAgg20
 z20:=Tryz.sizeOf20
 v20:=Tryz.zeroValue20
 t37:=Tryz.underlying89
 a37:=Tryz.isAgg89
 z37:=Tryz.sizeOf89
 v37:=Tryz.zeroValue89
 t46:=Tryz.underlying54
 a46:=Tryz.isAgg54
 z46:=Tryz.sizeOf54
 v46:=Tryz.zeroValue54
 t51:=Tryz.underlying174
 a51:=Tryz.isAgg174
 z51:=Tryz.sizeOf174
 v51:=Tryz.zeroValue174
 t53:=Tryz.underlying209
 a53:=Tryz.isAgg209
 z53:=Tryz.sizeOf209
 v53:=Tryz.zeroValue209
 t70:=Tryz.underlying114
 a70:=Tryz.isAgg114
 z70:=Tryz.sizeOf114
 v70:=Tryz.zeroValue114
 t72:=Tryz.underlying116
 a72:=Tryz.isAgg116
 z72:=Tryz.sizeOf116
 v72:=Tryz.zeroValue116
 t75:=Tryz.underlying118
 a75:=Tryz.isAgg118
 z75:=Tryz.sizeOf118
 v75:=Tryz.zeroValue118
 t76:=Tryz.underlying120
 a76:=Tryz.isAgg120
 z76:=Tryz.sizeOf120
 v76:=Tryz.zeroValue120
 t109:=Tryz.underlying225
 a109:=Tryz.isAgg225
 z109:=Tryz.sizeOf225
 v109:=Tryz.zeroValue225
 t127:=Tryz.underlying145
 a127:=Tryz.isAgg145
 z127:=Tryz.sizeOf145
 v127:=Tryz.zeroValue145
 t146:=Tryz.underlying212
 a146:=Tryz.isAgg212
 z146:=Tryz.sizeOf212
 v146:=Tryz.zeroValue212
 t148:=Tryz.underlying244
 a148:=Tryz.isAgg244
 z148:=Tryz.sizeOf244
 v148:=Tryz.zeroValue244
 t164:=Tryz.underlying172
 a164:=Tryz.isAgg172
 z164:=Tryz.sizeOf172
 v164:=Tryz.zeroValue172}
theorem Tryz.Builder_Extra_105:Builder.Extra P0 Tryz.lays105_ren:={
 sizeBuilder:=by kernel_rfl
 liesBuilder:=by kernel_rfl
 t5:=Tryz.underlying5
 a5:=Tryz.isAgg5
 z5:=Tryz.sizeOf5
 v5:=Tryz.zeroValue5
 infoByte:=by kernel_rfl
 cellsByte:=by kernel_rfl
 sizeByte:=by kernel_rfl
 neB5:=by decide}
open Go.RowKit Go.Lib in
theorem Tryz.strings_Repeat(s:ByteArray)(c:Nat)(w:World)(o:c<=9223372036854775807)(j:s.size*c<=140737488355328):
 Calls P0 183 #[.string s,.int .i64 c] w λe w'=>e=.returned (.string ⟨(Lib.repeatL s.data.toList c).toArray⟩)/\Below w.heap.size w w':=Any.strings_Repeat Tryz.lays105 Tryz.Builder_Extra_105 s c w o j
def Tryz.laysNm217_ren:Go.Shelf.Ren:=⟨λ|17=>218|n=>n,λ|24=>24|9=>9|3=>3|4=>4|0=>0|n=>n,λ|n=>n⟩
theorem Tryz.laysNm217:Go.Proofs.Lays2.n17 P0 Tryz.laysNm217_ren:={
 mixed:=by kernel_rfl
 f17:=Tryz.func218.trans (congrArg some (by kernel_rfl))
 t0:=Tryz.underlying0
 a0:=Tryz.isAgg0
 z0:=Tryz.sizeOf0
 v0:=Tryz.zeroValue0
 t3:=Tryz.underlying3
 a3:=Tryz.isAgg3
 z3:=Tryz.sizeOf3
 v3:=Tryz.zeroValue3
 t4:=Tryz.underlying4
 a4:=Tryz.isAgg4
 z4:=Tryz.sizeOf4
 v4:=Tryz.zeroValue4
 t9:=Tryz.underlying9
 a9:=Tryz.isAgg9
 z9:=Tryz.sizeOf9
 v9:=Tryz.zeroValue9
 t24:=Tryz.underlying24
 a24:=Tryz.isAgg24
 z24:=Tryz.sizeOf24
 v24:=Tryz.zeroValue24}
open Go.RowKit Go.Lib Go.Sort in
theorem Tryz.slices_Reverse_string(blk off cap:Nat)(zs:List (List UInt8))(w:World)(o:Holds encStr w blk off zs.toArray)(j:zs.length<=9223372036854775807):
 Calls P0 218 #[.slice (some ⟨blk,off,none⟩) zs.length cap] w λe w'=>e=.returned (.tuple #[])/\∃n,w'=putRow encStr (Sort.ahead w n) blk off zs.reverse.toArray:=Any.slices_Reverse_string Tryz.laysNm217 blk off cap zs w o j
open Go.RowKit Go.Lib Go.Sort in
theorem Tryz.slices_Reverse_string_empty(a:Option Addr)(cap:Nat)(w:World):
 Calls P0 218 #[.slice a 0 cap] w λe w'=>e=.returned (.tuple #[])/\w'=w:=Any.slices_Reverse_string_empty Tryz.laysNm217 a cap w
open Go.RowKit Go.Lib in
theorem Tryz.strings_TrimLeft_laid(s cutset:ByteArray)(w:World)(o:cutset.size<4294967281)(hascii:∀(j:Nat) b,cutset.data.toList[j]?=some b->b.toNat<128):
 Calls P0 111 #[.string s,.string cutset] w λe w'=>e=.returned (.string ⟨(Lib.trimLeftS s.data.toList cutset.data.toList).toArray⟩)/\Below w.heap.size w w':=Any.strings_TrimLeft_laid Tryz.lays161 (by kernel_rfl) s cutset w o hascii
end
end Go.Proofs
namespace Go.Proofs.YtghhmpppnmoeoaaGreatDoor
section
open Go Go.Eng Go.Num
variable{w:World}{K:Q0}{cs:List Value}{G:Nat->Prop}{T:TypeId}{i:Nat}{n:Nat}{v:Value}{w':World}{P:Program}{c:UInt8}{S:Nat->Prop}
abbrev u64(n:Nat):Value:=.int .u64 (n:Int)
abbrev U8:TypeId:=5
theorem CM(w:World)(e:TypeId)(s:ByteArray):Ext w (Lib.bytesWorld w e s):=
 ⟨rfl,rfl,rfl,by rw[Lib.bytesWorld_size];omega,λk j _=>Lib.bytesWorld_at_old w e s k j⟩
theorem Jp{l:Str}{src dst:TypeId}{K:Q0}(I:Tryz.prog.underlying src=some .string)(hd:Tryz.prog.underlying dst=some (.slice U8))(J:Tryz.prog.underlying U8=some (.int .u8))
  (U:∀v w',Byt w' U8 v l->Ext w w'->K v w'):dF P0 (convert src dst (str l)) w K:=by
 unfold dF;rw[Lib.run_convert_string_bytes w src dst U8 (ofL l) I hd J];refine U _ _ ?_ (CM _ _ _);have j:(ofL l).size<=grownCap w (ofL l).size 0 U8:=by
  exact grownCap_ge w (ofL l).size 0 U8
 refine⟨some ⟨w.heap.size,0,none⟩,grownCap w (ofL l).size 0 U8,by rw[fT],by rw[<-fT];exact j,(λe=>by cases e),λ_=>⟨w.heap.size,0,_,_,rfl,Lib.bytesWorld_at_new w U8 (ofL l),λi hi=>?_⟩⟩;have hi:i<(ofL l).size:=by rw[fT];simpa[qJ]using hi
 have:=Lib.bytesWorld_cell w U8 (ofL l) i hi;rw[cG,Lib.bytesWorld_at_new,cJ]at this;rw[aX,this,DD,eM];have o:i<l.length:=by rw[fT]at hi;exact hi
 simp[List.getD_eq_getElem?_getD,List.getElem?_eq_getElem o]
theorem fX[HX]{g:FuncId}{args:Array Value}{K:Q0}(j:∀(ar:Array Value) (w:World),(callFunc g ar).run P0 w=.ok (.enter g ar) w)
  (h:Calls P0 g args w λe w'=>∃v,e=.returned v/\K v w'):aC P0 g args.toList w K:=by
 unfold aC;rw[show args.toList.toArray=args from by simp,j];refine h.mono ?_;rintro e w' ⟨v,rfl,o⟩;exact o
section
variable [HX]
theorem ZP(n:Int)(KK:Value->Prop)(h:KK (.bool false)):aQ .neq (i64 n) (i64 n) KK:=by rw[gD];simpa using h
theorem aDW(n:Nat)(KK:Value->Prop)(h:KK (.bool false)):aQ .neq (u64 n) (u64 n) KK:=by rw[gD];simpa using h
theorem ZO(s:Str)(KK:Value->Prop)(h:KK (.bool false)):aQ .neq (str s) (str s) KK:=by rw[vG];simpa using h
theorem NJ{n:Int}{K:Q0}(j:K (.bool false) w):aC P0 229 [i64 n] w K:=by
 refine Yd ?_;exact ZP n _ j
theorem NK{n:Int}{K:Q0}(j:K (.bool false) w):aC P0 230 [i64 n] w K:=by
 refine Yc ?_;exact ZP n _ j
theorem NI{K:Q0}(j:K (.bool false) w):aC P0 256 [u64 n] w K:=by
 refine XT ?_;exact aDW n _ j
theorem IL{s:Str}{K:Q0}(j:K (.bool false) w):aC P0 238 [str s] w K:=by
 refine XX ?_;exact ZO s _ j
theorem Sl{s:Str}{K:Q0}(j:K (.bool false) w):aC P0 207 [str s] w K:=by
 refine Yk ?_;exact ZO s _ j
theorem Nb{a b:Int}{K:Q0}(j:K (i64 (BQ a b)) w):(a<b->K (i64 (-1)) w)/\(¬a<b->(b<a->K (i64 1) w)/\(¬b<a->K (i64 0) w)):=by
 unfold BQ at j;refine⟨λh=>?_,λh=>⟨λo=>?_,λo=>?_⟩⟩
 ·rw[aJ h]at j;exact j
 ·rw[aE h,aJ o]at j;exact j
 ·rw[aE h,aE o]at j;exact j
theorem aEa{a b:Int}{K:Q0}(j:K (i64 (BQ a b)) w):aC P0 189 [i64 a,i64 b] w K:=by
 refine Yx ?_;unfold aEU;refine NJ (NJ ?_);simp only[wsv,wsg,wsh,wsl,aM,aK,aD,fB,Nat.reduceAdd,Nat.reduceLT,aF,aA,aI,aH,bP,reduceCtorEq,aO];exact Nb j
theorem ZZ{a b:Int}{K:Q0}(j:K (i64 (BQ a b)) w):aC P0 190 [i64 a,i64 b] w K:=by
 refine Yw ?_;unfold aET;refine NK (NK ?_);simp only[wsv,wsg,wsh,wsl,aM,aK,aD,fB,Nat.reduceAdd,Nat.reduceLT,aF,aA,aI,aH,bP,reduceCtorEq,aO];exact Nb j
theorem aD7{a b:Nat}{K:Q0}(j:K (i64 (uC a b)) w):aC P0 233 [u64 a,u64 b] w K:=by
 refine Ya ?_;unfold aEA;refine NI (NI ?_);simp only[wsv,wsg,wsh,wsl,aM,aK,aD,fB,Nat.reduceAdd,Nat.reduceLT,aF,aA,aI,aH,bP,reduceCtorEq,aO];have e:uC a b=BQ a b:=by unfold uC BQ;simp only[Int.ofNat_lt]
 rw[e]at j;exact Nb j
theorem MB{a b:Str}(h1:Op.bytesLess a b=false)(j:(!(Op.bytesLess a b||decide (a=b)))=false):a=b:=by
 rw[h1]at j;simpa using j
theorem aD8{a b:Str}{K:Q0}(j:K (i64 (Dv a b)) w):aC P0 232 [str a,str b] w K:=by
 refine Yb ?_;unfold aEB;refine IL (IL ?_);simp only[wsv,wsg,wsh,wsl,aM,aK,aD,fB,Nat.reduceAdd,Nat.reduceLT,aF,aA,aI,aH,bP,reduceCtorEq];simp only[bY];unfold Dv at j;refine⟨λh=>?_,λh=>⟨λI=>?_,λI=>?_⟩⟩
 ·rw[aJ h]at j;exact j
 ·have o:a≠b:=by rintro rfl;simp at I
  rw[aE (by rw[h];simp),aE o]at j;exact j
 ·rw[aE (by rw[h];simp),aJ (MB h I)]at j;exact j
theorem Tf{a b:Str}{K:Q0}(j:K (.bool (Op.bytesLess a b)) w):aC P0 206 [str a,str b] w K:=by
 refine Yl ?_;unfold aEI;refine IL ?_;simp only[wsv,wsg,wsh,wsl,aM,aK,aD,fB,Nat.reduceAdd,Nat.reduceLT,aF,aA,aI,aH,bP,reduceCtorEq];intros;exact j
theorem Du(a b:Str):Lib.compareBytes a b=Dv a b:=by
 induction a generalizing b with
 |nil=>cases b<;>simp[Lib.compareBytes,Dv,Op.bytesLess]
 |cons x a ih=>
  cases b with
  |nil=>simp[Lib.compareBytes,Dv,Op.bytesLess]
  |cons y b=>
   simp only[Lib.compareBytes,ih,Dv,Op.bytesLess];by_cases h1:x<y
   ·simp[h1]
   ·by_cases j:y<x
    ·have:x≠y:=by rintro rfl;exact h1 j
     simp[h1,j,this]
    ·have:x=y:=UInt8.le_antisymm (UInt8.not_lt.1 j) (UInt8.not_lt.1 h1);subst this;simp
theorem aAo{a b:Str}{K:Q0}(j:K (i64 (Dv a b)) w):aC P0 192 [str a,str b] w K:=by
 refine fX (args:=#[str a,str b]) Tryz.call192 ((Tryz.strings_Compare (ofL a) (ofL b) w).mono ?_);rintro e w' ⟨rfl,rfl⟩;refine⟨_,rfl,?_⟩;rw[eM,eM];rw[Du];exact j
theorem Ny{s p:Str}{K:Q0}(o:s.length<=9223372036854775807)(j:K (.bool (p.isPrefixOf s)) w):aC P0 67 [str s,str p] w K:=by
 refine fX (args:=#[str s,str p]) Tryz.call67 ((Tryz.stringslite_HasPrefix (ofL s) (ofL p) w).mono ?_);rintro e w' ⟨rfl,rfl⟩;refine⟨_,rfl,?_⟩;rw[eM,eM];exact j
theorem CW{a:Str}{K:Q0}(I:a.length<=9223372036854775807)(j:K (str (dig a)) w):aC P0 107 [str a,str [45]] w K:=by
 refine Zr ?_;unfold aFx;refine YP ?_;unfold aE8;refine Ny I ?_;cases a with
 |nil=>
  rw[show([45]:Str).isPrefixOf []=false from rfl];simp only[wsv,wsg,wsh,wsl,aM,aK,aD,fB,Nat.reduceAdd,Nat.reduceLT,aF,aA,aI,aH,bP,reduceCtorEq];exact j
 |cons c r=>
  by_cases o:c=45
  ·subst o;have e:([45]:Str).isPrefixOf (45::r)=true:=by simp[List.isPrefixOf]
   have ed:dig (45::r)=r:=by simp[dig]
   rw[ed]at j;rw[e];have e1:((0+1:Nat):Int).toNat=1:=rfl;simp only[wsv,wsg,wsh,wsl,aM,aK,aD,fB,Nat.reduceAdd,Nat.reduceLT,aF,aA,aI,aH,bP,reduceCtorEq,e1];refine⟨by omega,by omega,?_⟩;rw[<-aB (a:=(45:UInt8)),bR];exact j
  ·have e:([45]:Str).isPrefixOf (c::r)=false:=by simp[List.isPrefixOf,tA o]
   have ed:dig (c::r)=c::r:=by simp[dig,o]
   rw[ed]at j;rw[e];simp only[wsv,wsg,wsh,wsl,aM,aK,aD,fB,Nat.reduceAdd,Nat.reduceLT,aF,aA,aI,aH,bP,reduceCtorEq];exact j
theorem MZ{a:Str}{K:Q0}(I:a.length<=9223372036854775807)(j:K (.tuple #[str (dig a),.bool (neg a)]) w):aC P0 225 [str a,str [45]] w K:=by
 refine Yf ?_;unfold aED;refine XV ?_;unfold aEw;refine Ny I ?_;cases a with
 |nil=>
  rw[show([45]:Str).isPrefixOf []=false from rfl];simp only[wsv,wsg,wsh,wsl,aM,aK,aD,fB,Nat.reduceAdd,Nat.reduceLT,aF,aA,aI,aH,bP,reduceCtorEq];exact j
 |cons c r=>
  by_cases o:c=45
  ·subst o;have e:([45]:Str).isPrefixOf (45::r)=true:=by simp[List.isPrefixOf]
   have ed:dig (45::r)=r:=by simp[dig]
   have en:neg (45::r)=true:=by simp[neg]
   rw[ed,en]at j;rw[e];have e1:((0+1:Nat):Int).toNat=1:=rfl;simp only[wsv,wsg,wsh,wsl,aM,aK,aD,fB,Nat.reduceAdd,Nat.reduceLT,aF,aA,aI,aH,bP,reduceCtorEq,e1];refine⟨by omega,by omega,?_⟩;rw[<-aB (a:=(45:UInt8)),bR];exact j
  ·have e:([45]:Str).isPrefixOf (c::r)=false:=by simp[List.isPrefixOf,tA o]
   have ed:dig (c::r)=c::r:=by simp[dig,o]
   have en:neg (c::r)=false:=by simp[neg,o]
   rw[ed,en]at j;rw[e];simp only[wsv,wsg,wsh,wsl,aM,aK,aD,fB,Nat.reduceAdd,Nat.reduceLT,aF,aA,aI,aH,bP,reduceCtorEq];exact j
theorem nD{a:Str}{K:Q0}(ha:a.length<=9223372036854775807)(I:∀w',Ext w w'->K (.bool (goodN a)) w'):aC P0 75 [str a] w K:=by
 refine aCx ?_;unfold W75;refine CW ha ?_;have hg:goodN a=(!decide ((dig a).length<1)&&!decide (100<(dig a).length)&&!((dig a).head?==some 48&&!decide (a=[48]))&&(dig a).all Num.isDig):=by
  unfold goodN;have e1:decide (1<=(dig a).length)=!decide ((dig a).length<1):=by rw[<-yD];exact decide_eq_decide.2 (by omega)
  have e2:decide ((dig a).length<=100)=!decide (100<(dig a).length):=by rw[<-yD];exact decide_eq_decide.2 (by omega)
  rw[e1,e2];cases((dig a).head?==some 48)<;>cases decide (a=[48])<;>simp
 rw[hg]at I;have hk:(dig a).length<=a.length:=by
  cases a with
  |nil=>simp[dig]
  |cons c r=>simp only[dig];split<;>simp
 cases hd:dig a with
 |nil=>
  rw[hd]at I;have U:decide (((0:Nat):Int)<1)=true:=by decide
  simp only[wsv,wsg,wsh,wsl,aM,aK,aD,fB,Nat.reduceAdd,Nat.reduceLT,aF,aA,aI,aH,bP,reduceCtorEq,U];intros;exact I _ (Chg.refl _ _)
 |cons c r=>
  rw[hd]at I hk;have U:decide (((r.length+1:Nat):Int)<1)=false:=cH (by omega);simp only[wsv,wsg,wsh,wsl,aM,aK,aD,fB,Nat.reduceAdd,Nat.reduceLT,aF,aA,aI,aH,bP,reduceCtorEq,oV,Int.toNat_zero,aDv c 48 48 rfl,U];intros;rw[bY];have e1:decide ((100:Int)<((r.length+1:Nat):Int))=decide (100<(c::r).length):=decide_eq_decide.2 (by simp only[aB];omega);have e4:decide ((c::r).length<1)=false:=cH (by simp);have e5:((c::r).head?==some 48)=(c==48):=by simp
  rw[e1];rw[e4,e5]at I;simp only[yD];generalize decide (100<(c::r).length)=b1 at*
  generalize ((c==48)&&!decide (a=[48]))=b2 at*
  refine⟨λh=>?_,λh=>?_⟩
  ·have:=I _ (Chg.refl _ _);have e:(!false&&!b1&&!b2&&(c::r).all Num.isDig)=false:=by
    cases b1<;>cases b2<;>simp at h⊢
   rw[e]at this;exact this
  ·have hb:b1=false/\b2=false:=by simpa using h
   rw[hb.1,hb.2]at I;refine Jp (l:=c::r) (by kernel_rfl) (by kernel_rfl) (by kernel_rfl) λv w1 hv J=>?_;rw[fL hv];generalize c::r=D at*
   refine mT D.length (λi w2=>Ext w1 w2/\(D.take i).all Num.isDig=true) ⟨Chg.refl _ _,rfl⟩ ?_ ?_
   ·rintro i w2 g L hi ⟨o,j⟩ hL;obtain⟨e,he⟩:∃e,D[i]?=some e:=⟨_,List.getElem?_eq_getElem hi⟩;have hh:((i:Int)<((D.length:Nat):Int)):=by omega
    simp only[wsv,wsg,wsh,wsl,aM,aK,aD,fB,Nat.reduceAdd,Nat.reduceLT,aF,aA,aI,aH,bP,reduceCtorEq,hh];refine rQ (hv.ext o) (by rw[qJ]) (by rw[DD,he];rfl) ?_;simp only[wsv,wsg,wsh,wsl,aM,aK,aD,fB,Nat.reduceAdd,Nat.reduceLT,aF,aA,aI,aH,bP,reduceCtorEq,Py];intros;rw[bY];refine⟨λhf=>?_,λht=>?_⟩
    ·have hf:Num.isDig e=false:=by simpa using hf
     have:=I _ (J.trans o);rw[aCa he hf]at this;exact this
    ·have ht:Num.isDig e=true:=by simpa using ht
     rw[up1 (by omega)];exact hL _ ⟨o,by rw[wU he,j,ht];rfl⟩
   ·rintro w2 g L ⟨o,j⟩;simp only[wsv,wsg,wsh,wsl,aM,aK,aD,fB,Nat.reduceAdd,Nat.reduceLT,aF,aA,aI,aH,bP,reduceCtorEq,fJ];rw[bR]at j;have:=I w2 (J.trans o);rw[j]at this;exact this
end
abbrev BT:TypeId:=198
abbrev U64:TypeId:=209
theorem SP:rI P0 196 U64 1 8:=⟨by kernel_rfl,by kernel_rfl,by decide⟩
def jI(w:World)(x:Big)(cs:List Value):Prop:=∃(sv:Value) (_:TypeId),cs=[.bool x.below,sv]/\SlAt w U64 sv x.l.length (x.l.map u64)/\x.l.length<=1000/\Lim x.l
theorem jI.ext{x:Big}(h:jI w x cs)(j:Ext w w'):jI w' x cs:=by
 obtain⟨sv,T,rfl,h1,I,o⟩:=h;exact⟨sv,T,rfl,h1.ext j,I,o⟩
theorem jI.one{x:Big}(h:jI w x cs):cs.all fC=true:=by
 obtain⟨sv,T,rfl,h1,_⟩:=h;obtain⟨p,c,rfl,_⟩:=h1.shape;rfl
theorem jI.len{x:Big}(h:jI w x cs):cs.length=2:=by obtain⟨sv,T,rfl,_⟩:=h;rfl
structure Dz(w:World)(a:Nat)(x:Big)(sv:Value):Prop where
 hb:w.heap[a]?=some (.cells [.bool x.below,sv].toArray BT (0,0))
 l:∃_:TypeId,SlAt w U64 sv x.l.length (x.l.map u64)
 few:x.l.length<=1000
 lim:Lim x.l
theorem Dz.ext{a:Nat}{x:Big}{sv:Value}(h:Dz w a x sv)(j:Ext w w'):Dz w' a x sv:=⟨j.at h.hb id,let⟨T,h1⟩:=h.l;⟨T,h1.ext j⟩,h.few,h.lim⟩
theorem Dz.rep{a:Nat}{x:Big}{sv:Value}(h:Dz w a x sv):jI w x [.bool x.below,sv]:=by obtain⟨T,h1⟩:=h.l;exact⟨sv,T,rfl,h1,h.few,h.lim⟩
theorem Dz.ld{a:Nat}{x:Big}{sv:Value}{K:Value->Prop}(h:Dz w a x sv)(j:∀cs,jI w x cs->K (.agg cs.toArray)):ldW true 2 (ptr a) w K:=bZ h.hb rfl (j _ h.rep)
theorem Dz.len{a:Nat}{x:Big}{sv:Value}(h:Dz w a x sv)(K:Value->Prop):dA sv K↔K (i64 x.l.length):=by obtain⟨T,h1⟩:=h.l;exact fL h1 K
theorem Dz.at{a:Nat}{x:Big}{sv:Value}{k:IntKind}{K:Value->Prop}(h:Dz w a x sv)(hi:x.l[i]?=some n)(j:K (u64 n)):dP none 1 sv (.int k i) λp=>ldW false 1 p w K:=by
 obtain⟨T,h1⟩:=h.l;exact rQ h1 (by simp) (by simp[hi]) j
theorem pZ{x:Big}{K:Q0}(h:jI w x cs)(I:∀a w' sv,Dz w' a x sv->Ext w w'->a=w.heap.size->w'.heap.size=a+1->K (ptr a) w'):eW BT (.agg cs.toArray) w K:=by
 obtain⟨sv,T,rfl,h1,U,J⟩:=h;refine fY λa w' o hz hb j=>I a w' sv ⟨hb,⟨T,h1.ext j⟩,U,J⟩ j o (by omega)
theorem Nw{w0:World}{b:Nat}{ds:List Value}{K:Q0}(hb:w.heap[b]?=some (.cells ds.toArray BT (0,0)))(hd:ds.length=2)(hl:w0.heap.size<=b)(o:Ext w0 w)(h1:cs.all fC=true)(J:cs.length=2)
  (I:∀w',Ext w0 w'->Chg (λk=>k=b) w w'->K (.agg cs.toArray) w'):stW 2 (ptr b) (.agg cs.toArray) w λw5=>ldW true 2 (ptr b) w5 λr6=>K r6 w5:=
 iI hb J hd h1 λw' j=>I w' (o.new j hl) j
theorem jI.keep{b:Nat}{x:Big}{p:Bool}{q:Value}{T0:TypeId}(h:jI w x cs)(hb:w.heap[b]?=some (.cells [.bool p,q].toArray T0 (0,0)))(hq:∀n,q≠u64 n)(hc:Chg (λk=>k=b) w w'):jI w' x cs:=by
 obtain⟨sv,T,rfl,⟨p',cap,hv,h1,h2,h3⟩,h4,h5⟩:=h;refine⟨sv,T,rfl,⟨p',cap,hv,h1,h2,λj=>?_⟩,h4,h5⟩;obtain⟨k,off,c,fr,hp,J,o⟩:=h3 j;have I:k≠b:=by
  rintro rfl;rw[hb]at J;cases J;obtain⟨n,r,e⟩:∃n r,x.l=n::r:=by
   cases U:x.l with
   |nil=>rw[U]at j;simp at j
   |cons n r=>exact⟨n,r,rfl⟩
  have:=o 0 (by rw[e];simp);rw[e]at this;simp only[eU,dC,List.getElem?_cons_zero,List.getElem?_toArray]at this;rcases off with _|_|off
  ·simp at this
  ·simp only[aX,List.getElem?_cons_succ,List.getElem?_cons_zero,bF]at this;exact hq n this
  ·simp at this
 exact⟨k,off,c,fr,hp,hc.at J I,o⟩
theorem pM{n:Int}(h1:0<=n)(j:n<18446744073709551616):IntKind.u64.wrap n=n:=by
 simp only[IntKind.wrap,IntKind.signed,IntKind.bits,IntKind.max,IntKind.min];simp;omega
theorem ZL{K:Q0}(j:∀t w',SlAt w' U64 t 1 [u64 n]->Ext w w'->K t w'):dN U64 1 [(.int .u64 0)] [(0,1,u64 n)] w K:=by
 unfold dN;simp only[wsv,wsg,wsh,wsl,aM,aK,aD,fB,Nat.reduceAdd,Nat.reduceLT,aF,aA,aI,aH,bP,reduceCtorEq];exact j _ _ (xF (w:=w) (base:=w.heap.size) (e:=U64) (size:=1) (n:=1) (cs:=[u64 n]) (aV _) rfl (by omega)).sl (by repeat (first|assumption|exact Chg.refl _ _|refine Chg.drew ?_|refine Chg.alloc ?_ _|refine Chg.set ?_ (by first|exact .inl rfl|exact .inr (by omega)|exact .inr (by simp only[pO,size_alloc,size_drew];omega)|(left;simp;done)) _|exact Chg.of_ext (by assumption)))
theorem Ou{base:Nat}{l:List Nat}{K:Q0}(h:Own w base U64 1 v l.length (l.map u64))(hb:base<=w.heap.size)(hl:l.length<=100000)
  (U:∀v' w',Own w' base U64 1 v' (l++[n]).length ((l++[n]).map u64)->Chg (λk=>base<=k) w w'->K v' w'):
  dN U64 1 [(.int .u64 0)] [(0,1,u64 n)] w λt w1=>dF P0 (Builtin.append_ #[196,196] 196 #[v,t]) w1 K:=by
 refine ZL λt w1 I j=>?_;refine jY SP (h.ext j) I (m:=1) rfl (λu o=>by simp only[bK]at o;subst o;rfl) (by omega) (by omega) (cC hb j.size) λv' w' h' J _=>?_;refine U v' w' (by simpa using h') ((Chg.of_ext j).trans ?_);refine J.mono λk _ e=>(nU (h.ext j) e).1
 done
section
variable [HX]
theorem QO{k:Nat}{K:Value->Prop}(h:SlAt w T v n cs)(hl:cs.length=n)(hk:k<=n)(I:∀v',SlAt w T v' k (cs.take k)->K v'):kR 1 v none (some (i64 (k:Nat))) none K:=by
 obtain⟨p,cap,rfl,h1,U,J⟩:=h;rw[Ii];simp only[fM,eR];refine⟨by omega,by omega,?_⟩;have e:(if cap=0 then p else p.map (·.add (0*1)))=p:=by
  split
  ·rfl
  ·cases p with
   |none=>rfl
   |some a=>simp[Addr.add]
 rw[e];refine I _ ⟨p,cap-0,by simp,by omega,λe=>?_,λj=>?_⟩
 ·have:=U e;omega
 ·obtain⟨b,off,c,fr,hp,hb,o⟩:=J λe=>j (by rw[e];simp);refine⟨b,off,c,fr,hp,hb,λi hi=>?_⟩;rw[bS]at hi;rw[o i (by omega),List.getElem?_take,aJ (by omega)]
def Kr(w:World)(a:Nat):Nat:=match HL w.heap[a]? 1 with|some (Value.slice _ n _)=>n|_=>0
theorem qY{x:Big}{K:Q0}(h:jI w x cs)(hK:∀cs' w',Ext w w'->jI w' x.trim cs'->K (.agg cs'.toArray) w'):aC P0 197 [.agg cs.toArray] w K:=by
 refine Yq ?_;unfold aEN;obtain⟨sv,T,rfl,h1,h2,h3⟩:=h;refine fY λa w1 ha hz hj hx=>?_;refine bI λb w2 hb xn xk hr=>?_;have hj:=hr.at hj id;have ht:=hx.trans hr;refine⟨λs w'=>s=[]/\∃m sv',m<=x.l.length/\w'.heap[a]?=some (.cells [.bool x.below,sv'].toArray BT (0,0))/\SlAt w U64 sv' m ((x.l.take m).map u64)/\iN (x.l.take m)=iN x.l/\Chg (λk=>k=a) w2 w',
  λ_ w'=>Kr w' a,⟨rfl,x.l.length,sv,aV _,hj,by rw[bR];exact h1,by rw[bR],Chg.refl _ _⟩,?_⟩
 rintro s g w3 ⟨rfl,m,sv',hm,j,hs,xa,hh⟩;have hq:Ext w w3:=ht.new hh (by omega);have xj:=hs.ext hq;obtain⟨p,cap,rfl,xm⟩:=hs.shape;simp only[wsv,wsg,wsh,wsl,aM,aK,aD,fB,Nat.reduceAdd,Nat.reduceLT,aF,aA,aI,aH,bP,reduceCtorEq,wsh,j];have U:Kr w3 a=m:=by unfold Kr;rw[j];rfl
 rw[U];clear U;refine GdW.look (decide (x.l[m-1]?=some 0)) ?_ ?_
 ·intro hc J hJ;obtain⟨k,rfl⟩:∃k,m=k+1:=⟨m-1,by simp only[bD]at hc;omega⟩;have hw:IntKind.i64.wrap (((k+1:Nat):Int)-1)=((k:Nat):Int):=by rw[cN (by omega) (by omega)];omega
  obtain⟨y,hy⟩:∃y,x.l[k]?=some y:=⟨_,List.getElem?_eq_getElem (by omega)⟩;simp only[wsv,wsg,wsh,wsl,aM,aK,aD,fB,Nat.reduceAdd,Nat.reduceLT,aF,aA,aI,aH,bP,reduceCtorEq,hw];refine rQ xj (by simp;omega) (by simp[hy];rfl) ?_;simp only[wsv,wsg,wsh,wsl,aM,aK,aD,fB,Nat.reduceAdd,Nat.reduceLT,aF,aA,aI,aH,bP,reduceCtorEq];have e:decide ((y:Int)=0)=decide (x.l[k+1-1]?=some 0):=decide_eq_decide.2 (by rw[Gn,hy,bF];omega);rw[e];exact hJ
 ·intro gd;simp only[wsv,wsg,wsh,wsl,aM,aK,aD,fB,Nat.reduceAdd,Nat.reduceLT,aF,aA,aI,aH,bP,reduceCtorEq,wsh,j];rw[bY];refine⟨λhc=>?_,λhc=>?_⟩
  ·simp only[aL,bD]at hc;obtain⟨k,rfl⟩:∃k,m=k+1:=⟨m-1,by omega⟩;have hw:IntKind.i64.wrap (((k+1:Nat):Int)-1)=((k:Nat):Int):=by rw[cN (by omega) (by omega)];omega
   rw[hw];refine QO (k:=k) hs (by simp;omega) (by omega) λv' hv=>?_;obtain⟨p',cap',rfl,_⟩:=hv.shape;refine iO j rfl (by simp) λw4 xf o hg=>?_;have o:w4.heap[a]?=some (.cells [.bool x.below,.slice p' k cap'].toArray BT (0,0)):=by rw[o];simp
   refine⟨⟨k,_,by omega,o,?_,?_,hh.trans hg⟩,?_⟩
   ·have e:(x.l.take k).map u64=((x.l.take (k+1)).map u64).take k:=by rw[<-List.map_take,Aw,kP (by omega)]
    rw[e];exact hv
   ·have e:x.l.take (k+1)=x.l.take k++[0]:=by
     rw[dG];have:=hc.2;rw[Gn]at this;rw[this];rfl
    rw[<-xa,e,qK]
   ·have:Kr w4 a=k:=by unfold Kr;rw[o];rfl
    rw[this];omega
  ·have hT:iN x.l=x.l.take m:=by
    rw[<-xa];rcases nP m with h0|h0
    ·subst h0;rw[Av,sP]
    ·obtain⟨k,rfl⟩:∃k,m=k+1:=⟨m-1,by omega⟩;obtain⟨y,hy⟩:∃y,x.l[k]?=some y:=⟨_,List.getElem?_eq_getElem (by omega)⟩;have xg:y≠0:=by
      rintro rfl;rw[bH (show((0:Int)<((k+1:Nat):Int))by omega),Gn,hy]at hc;simp at hc
     have e:x.l.take (k+1)=x.l.take k++[y]:=by rw[dG,hy];rfl
     rw[e,vR xg]
   have I:(iN x.l).length=m:=by rw[hT,bS];omega
   have xb:(x.below&&decide ((0:Int)<(m:Int)))=x.trim.below:=by
    show _=(x.below&&!(iN x.l).isEmpty);congr 1;cases xd:iN x.l with
    |nil=>rw[xd]at I;simp at I;subst I;simp
    |cons y r=>rw[xd]at I;simp at I;simp;omega
   (try simp only[wsv,wsg,wsh,wsl,aM,aK,aD,fB,Nat.reduceAdd,Nat.reduceLT,aF,aA,aI,aH,bP,reduceCtorEq,wsh,j])
   intros;rw[xb];refine iO j rfl (by simp) λw4 xf o hg=>?_;have o:w4.heap[a]?=some (.cells [.bool x.trim.below,.slice p m cap].toArray BT (0,0)):=by rw[o];simp
   refine bZ o rfl ?_;have xc:=hg.at (hh.at xk (by omega)) (by omega);have xh:Ext w w4:=hq.new hg (by omega);refine Nw (w0:=w) xc rfl (by have:=hx.size;omega) xh rfl rfl λw5 ho _=>?_;refine hK _ w5 ho ⟨_,T,rfl,?_,?_,?_⟩
   ·show SlAt w5 U64 _ (iN x.l).length ((iN x.l).map u64);rw[I,hT];exact hs.ext ho
   ·show(iN x.l).length<=1000;rw[I];omega
   ·exact(nB x.l).2.2 h3
theorem AU(l:List Nat)(i:Nat):(l.drop i).headD 0=l.getD i 0:=by
 induction l generalizing i with
 |nil=>simp
 |cons x l ih=>cases i<;>simp_all
theorem Ml{x y:List Nat}{c:Nat}(h:x≠[]\/y≠[]):iY x y c=(c+x.headD 0+y.headD 0)%1000000000::iY x.tail y.tail ((c+x.headD 0+y.headD 0)/1000000000):=by
 cases x with
 |nil=>cases y with
  |nil=>simp at h
  |cons b y=>simp[iY]
 |cons a x=>cases y with
  |nil=>simp[iY]
  |cons b y=>simp[iY]
theorem EU{l:List Nat}(h:Lim l)(i:Nat):l.getD i 0<1000000000:=by
 rw[List.getD_eq_getElem?_getD];cases hi:l[i]? with
 |none=>simp
 |some x=>exact h x (bG hi)
theorem Rp{x y:Big}{ds:List Value}{K:Q0}(h:jI w x cs)(h':jI w y ds)(hK:∀v w',Ext w w'->SlAt w' U64 v (iY x.l y.l 0).length ((iY x.l y.l 0).map u64)->K v w'):aC P0 224 [.agg cs.toArray,.agg ds.toArray] w K:=by
 refine Yg ?_;unfold aEE;refine pZ h λa w1 sv hB hx ha xe=>?_;refine pZ (h'.ext hx) λb w2 sv' hC U hb xd=>?_;have hB:=hB.ext U;have hx:=hx.trans U;clear U;simp only[wsv,wsg,wsh,wsl,aM,aK,aD,fB,Nat.reduceAdd,Nat.reduceLT,aF,aA,aI,aH,bP,reduceCtorEq,wsh,hB.hb,hC.hb,hB.len,hC.len];have ho:(if(x.l.length:Int)<(y.l.length:Int)then(y.l.length:Int)else(x.l.length:Int))=((max x.l.length y.l.length:Nat):Int):=by split<;>omega
 rw[ho];generalize hM:max x.l.length y.l.length=M;have xh:M<=1000:=by have:=hB.few;have:=hC.few;omega
 refine⟨λs w'=>∃i c v l,i<=M/\c<=1/\s=[v,u64 c,i64 (i:Nat)]/\Ext w2 w'/\Own w' w2.heap.size U64 1 v l.length (l.map u64)/\l.length=i/\l++iY (x.l.drop i) (y.l.drop i) c=iY x.l y.l 0,
  λs _=>match s with|[_,_,.int _ i]=>M-i.toNat|_=>0,⟨0,0,_,[],by omega,by omega,rfl,Chg.refl _ _,⟨rfl,.inl ⟨rfl,rfl⟩⟩,rfl,by simp⟩,?_⟩
 rintro s g w3 ⟨i,c,v,l,hi,hc,rfl,o,hO,hl,he⟩;have J:=hB.ext o;have I:=hC.ext o;rcases dR i M with xb|xg
 ·have hq:(i:Int)<(M:Int):=by omega
  have hz:=EU hB.lim i;have hy:=EU hC.lim i;simp only[wsv,wsg,wsh,wsl,aM,aK,aD,fB,Nat.reduceAdd,Nat.reduceLT,aF,aA,aI,aH,bP,reduceCtorEq,hq];refine bU.cut (λs w'=>s=[u64 (c+x.l.getD i 0)]/\w'=w3) ?_ ?_
  ·(try simp only[wsv,wsg,wsh,wsl,aM,aK,aD,fB,Nat.reduceAdd,Nat.reduceLT,aF,aA,aI,aH,bP,reduceCtorEq,wsh,J.hb,J.len])
   rw[aO];refine⟨λhg=>?_,λhg=>?_⟩
   ·obtain⟨n,hn⟩:∃n,x.l[i]?=some n:=⟨_,List.getElem?_eq_getElem (by omega)⟩;have j:x.l.getD i 0=n:=by rw[List.getD_eq_getElem?_getD,hn];rfl
    (try simp only[wsv,wsg,wsh,wsl,aM,aK,aD,fB,Nat.reduceAdd,Nat.reduceLT,aF,aA,aI,aH,bP,reduceCtorEq,wsh,J.hb])
    refine J.at hn ?_;simp only[wsv,wsg,wsh,wsl,aM,aK,aD,fB,Nat.reduceAdd,Nat.reduceLT,aF,aA,aI,aH,bP,reduceCtorEq];rw[j]at hz⊢;rw[pM (by omega) (by omega)];simp only[u64,Int.natCast_add]
   ·have j:x.l.getD i 0=0:=by rw[List.getD_eq_getElem?_getD,List.getElem?_eq_none (by omega)];rfl
    rw[j];first|exact⟨rfl,rfl⟩|rfl
  ·rintro s gg w4 ⟨rfl,rfl⟩;refine bU.cut (λs w'=>s=[u64 (c+x.l.getD i 0+y.l.getD i 0)]/\w'=w4) ?_ ?_
   ·(try simp only[wsv,wsg,wsh,wsl,aM,aK,aD,fB,Nat.reduceAdd,Nat.reduceLT,aF,aA,aI,aH,bP,reduceCtorEq,wsh,I.hb,I.len])
    rw[aO];refine⟨λhg=>?_,λhg=>?_⟩
    ·obtain⟨n,hn⟩:∃n,y.l[i]?=some n:=⟨_,List.getElem?_eq_getElem (by omega)⟩;have j:y.l.getD i 0=n:=by rw[List.getD_eq_getElem?_getD,hn];rfl
     (try simp only[wsv,wsg,wsh,wsl,aM,aK,aD,fB,Nat.reduceAdd,Nat.reduceLT,aF,aA,aI,aH,bP,reduceCtorEq,wsh,I.hb])
     refine I.at hn ?_;simp only[wsv,wsg,wsh,wsl,aM,aK,aD,fB,Nat.reduceAdd,Nat.reduceLT,aF,aA,aI,aH,bP,reduceCtorEq];rw[j]at hy⊢;rw[pM (by omega) (by omega)];simp only[u64,Int.natCast_add]
    ·have j:y.l.getD i 0=0:=by rw[List.getD_eq_getElem?_getD,List.getElem?_eq_none (by omega)];rfl
     rw[j];first|exact⟨rfl,rfl⟩|rfl
   ·rintro s gg w5 ⟨rfl,rfl⟩;have hj:=Ml (x:=x.l.drop i) (y:=y.l.drop i) (c:=c) (by
     rcases dR i x.l.length with h1|h1
     ·left;intro e;have:=eC.1 e;omega
     ·right;intro e;have:=eC.1 e;omega)
    rw[AU,AU,List.tail_drop,List.tail_drop]at hj;have hn:c+x.l.getD i 0+y.l.getD i 0<2000000000:=by omega
    generalize c+x.l.getD i 0+y.l.getD i 0=n at*
    have e1:((n:Int).tmod 1000000000)=((n%1000000000:Nat):Int):=by simp[Int.natCast_emod,uG]
    have e2:IntKind.u64.wrap ((n:Int).tdiv 1000000000)=((n/1000000000:Nat):Int):=by
     rw[Int.tdiv_eq_ediv_of_nonneg (by omega),pM (by omega) (by omega)];omega
    have xa:¬(1000000000:Int)=0:=by decide
    simp only[wsv,wsg,wsh,wsl,aM,aK,aD,fB,Nat.reduceAdd,Nat.reduceLT,aF,aA,aI,aH,bP,reduceCtorEq,e1,e2,xa,not_false_eq_true];refine Ou hO o.size (by omega) λv' w' h' hh=>?_;rw[up1 (by omega)];refine⟨⟨i+1,n/1000000000,v',l++[n%1000000000],xb,by omega,rfl,o.then hh λk hk e=>by omega,h',by simp[hl],?_⟩,by simp only[aW];omega⟩;rw[<-he,hj];simp
 ·obtain rfl:i=M:=by omega
  simp only[wsv,wsg,wsh,wsl,aM,aK,aD,fB,Nat.reduceAdd,Nat.reduceLT,aF,aA,aI,aH,bP,reduceCtorEq,fJ];refine Ou hO o.size (by omega) λv' w' h' hh=>?_;have e1:x.l.drop i=[]:=eC.2 (by omega);have e2:y.l.drop i=[]:=eC.2 (by omega);rw[e1,e2]at he;simp only[iY]at he;have:=hK v' w' (hx.trans (o.then hh λk hk e=>by omega));rw[<-he]at this;exact this h'.sl
theorem uT{a:Nat}{x y:List Nat}{c:Nat}:gX (a::x) y c=(if a<c+y.headD 0 then a+1000000000-(c+y.headD 0)else a-(c+y.headD 0))::gX x y.tail (if a<c+y.headD 0 then 1 else 0):=by
 simp only[gX];split<;>rfl
theorem Cp{x y:Big}{ds:List Value}{K:Q0}(h:jI w x cs)(h':jI w y ds)(hK:∀v w',Ext w w'->SlAt w' U64 v (gX x.l y.l 0).length ((gX x.l y.l 0).map u64)->K v w'):aC P0 199 [.agg cs.toArray,.agg ds.toArray] w K:=by
 refine Yo ?_;unfold aEL;refine pZ h λa w1 sv hB hx ha xc=>?_;refine pZ (h'.ext hx) λb w2 sv' hC J hb xb=>?_;have hB:=hB.ext J;have hx:=hx.trans J;clear J;simp only[wsv,wsg,wsh,wsl,aM,aK,aD,fB,Nat.reduceAdd,Nat.reduceLT,aF,aA,aI,aH,bP,reduceCtorEq,wsh,hB.hb,hC.hb,hB.len,hC.len];have xf:x.l.length<=1000:=hB.few;refine⟨λs w'=>∃i c v l,i<=x.l.length/\c<=1/\s=[v,u64 c,i64 (i:Nat)]/\Ext w2 w'/\Own w' w2.heap.size U64 1 v l.length (l.map u64)/\l.length=i/\l++gX (x.l.drop i) (y.l.drop i) c=gX x.l y.l 0,
  λs _=>match s with|[_,_,.int _ i]=>x.l.length-i.toNat|_=>0,⟨0,0,_,[],by omega,by omega,rfl,Chg.refl _ _,⟨rfl,.inl ⟨rfl,rfl⟩⟩,rfl,by simp⟩,?_⟩
 rintro s g w3 ⟨i,c,v,l,hi,hc,rfl,j,hO,hl,he⟩;have hy:=hB.ext j;have I:=hC.ext j;rcases dR i x.l.length with o|xe
 ·have hg:(i:Int)<(x.l.length:Int):=by omega
  have hq:=EU hC.lim i;obtain⟨n,hn⟩:∃n,x.l[i]?=some n:=⟨_,List.getElem?_eq_getElem o⟩;have xd:=hB.lim n (bG hn);simp only[wsv,wsg,wsh,wsl,aM,aK,aD,fB,Nat.reduceAdd,Nat.reduceLT,aF,aA,aI,aH,bP,reduceCtorEq,hg];refine hy.at hn ?_;refine bU.cut (λs w'=>s=[u64 (c+y.l.getD i 0)]/\w'=w3) ?_ ?_
  ·(try simp only[wsv,wsg,wsh,wsl,aM,aK,aD,fB,Nat.reduceAdd,Nat.reduceLT,aF,aA,aI,aH,bP,reduceCtorEq,wsh,I.hb,I.len])
   rw[aO];refine⟨λhr=>?_,λhr=>?_⟩
   ·obtain⟨m,hm⟩:∃n,y.l[i]?=some n:=⟨_,List.getElem?_eq_getElem (by omega)⟩;have U:y.l.getD i 0=m:=by rw[List.getD_eq_getElem?_getD,hm];rfl
    (try simp only[wsv,wsg,wsh,wsl,aM,aK,aD,fB,Nat.reduceAdd,Nat.reduceLT,aF,aA,aI,aH,bP,reduceCtorEq,wsh,I.hb])
    refine I.at hm ?_;simp only[wsv,wsg,wsh,wsl,aM,aK,aD,fB,Nat.reduceAdd,Nat.reduceLT,aF,aA,aI,aH,bP,reduceCtorEq];rw[U]at hq⊢;rw[pM (by omega) (by omega)];simp only[u64,Int.natCast_add]
   ·have U:y.l.getD i 0=0:=by rw[List.getD_eq_getElem?_getD,List.getElem?_eq_none (by omega)];rfl
    rw[U];first|exact⟨rfl,rfl⟩|rfl
  ·rintro s gg w4 ⟨rfl,rfl⟩;have hs:x.l.drop i=n::x.l.drop (i+1):=by
    rw[cL o];congr 1;exact fN ((List.getElem?_eq_getElem o).symm.trans hn)
   rw[hs,uT,AU,List.tail_drop]at he;have ht:c+y.l.getD i 0<=1000000000:=by omega
   generalize c+y.l.getD i 0=t at*
   refine bU.cut (λs w'=>s=[u64 (if n<t then 1 else 0),u64 (if n<t then n+1000000000 else n)]/\w'=w4) ?_ ?_
   ·simp only[wsv,wsg,wsh,wsl,aM,aK,aD,fB,Nat.reduceAdd,Nat.reduceLT,aF,aA,aI,aH,bP,reduceCtorEq,aO];refine⟨λh1=>?_,λh1=>?_⟩
    ·rw[aJ (by omega),aJ (by omega),pM (by omega) (by omega)];simp only[u64,Int.natCast_add];rfl
    ·rw[aE (by omega),aE (by omega)];rfl
   ·rintro s gg w5 ⟨rfl,rfl⟩;have e1:IntKind.u64.wrap (((if n<t then n+1000000000 else n:Nat):Int)-(t:Int))=(((if n<t then n+1000000000-t else n-t:Nat)):Int):=by
     split
     ·rw[pM (by omega) (by omega)];omega
     ·rw[pM (by omega) (by omega)];omega
    simp only[wsv,wsg,wsh,wsl,aM,aK,aD,fB,Nat.reduceAdd,Nat.reduceLT,aF,aA,aI,aH,bP,reduceCtorEq,e1];refine Ou hO j.size (by omega) λv' w' h' hv=>?_;rw[up1 (by omega)];refine⟨⟨i+1,if n<t then 1 else 0,v',l++[if n<t then n+1000000000-t else n-t],o,by split<;>omega,rfl,j.then hv λk hk e=>by omega,h',by simp[hl],?_⟩,by simp only[aW];omega⟩;rw[<-he];simp
 ·obtain rfl:i=x.l.length:=by omega
  simp only[wsv,wsg,wsh,wsl,aM,aK,aD,fB,Nat.reduceAdd,Nat.reduceLT,aF,aA,aI,aH,bP,reduceCtorEq,fJ];rw[eJ]at he;simp only[gX,eG]at he;have:=hK v w3 (hx.trans j);rw[<-he]at this;exact this hO.sl
theorem aB3(a b:Nat):BQ (a:Int) (b:Int)=uC a b:=by unfold uC BQ;simp only[Int.ofNat_lt]
theorem Jt{x y:Big}{ds:List Value}{K:Q0}(h:jI w x cs)(h':jI w y ds)(hK:∀w',Ext w w'->K (i64 (Ju x.l y.l)) w'):aC P0 198 [.agg cs.toArray,.agg ds.toArray] w K:=by
 refine Yp ?_;unfold aEM;refine pZ h λa w1 sv hB U ha hv=>?_;refine pZ (h'.ext U) λb w2 sv' hC I hb ht=>?_;have hB:=hB.ext I;have U:=U.trans I;clear I;simp only[wsv,wsg,wsh,wsl,aM,aK,aD,fB,Nat.reduceAdd,Nat.reduceLT,aF,aA,aI,aH,bP,reduceCtorEq,wsh,hB.hb,hC.hb,hB.len,hC.len];refine ZZ ?_;rw[aB3];unfold Ju at hK;simp only[wsv,wsg,wsh,wsl,aM,aK,aD,fB,Nat.reduceAdd,Nat.reduceLT,aF,aA,aI,aH,bP,reduceCtorEq,aO];refine⟨λh0=>?_,λh0=>?_⟩
 ·have:=hK w2 U;rw[aJ h0]at this;exact this
 ·have h0:uC x.l.length y.l.length=0:=oW.1 h0;rw[aE (by rw[h0];simp)]at hK;have hl:x.l.length=y.l.length:=by
   rcases jC x.l.length y.l.length with⟨_,e⟩|⟨e,_⟩|⟨_,e⟩
   ·rw[h0]at e;cases e
   ·exact e
   ·rw[h0]at e;cases e
  have hf:=hB.few;simp only[wsv,wsg,wsh,wsl,aM,aK,aD,fB,Nat.reduceAdd,Nat.reduceLT,aF,aA,aI,aH,bP,reduceCtorEq,wsh,hB.hb,hB.len];refine⟨λs w'=>∃m:Nat,m<=x.l.length/\s=[i64 ((m:Int)-1)]/\Ext w2 w'/\uM ((x.l.zip y.l).take m).reverse=uM (x.l.zip y.l).reverse,
   λs _=>match s with|[.int _ i]=>(i+1).toNat|_=>0,⟨x.l.length,aV _,by rw[cN (by omega) (by omega)],Chg.refl _ _,by rw[dW (by rw[rV];omega)]⟩,?_⟩
  rintro s g w3 ⟨m,hm,rfl,o,J⟩;have j:=o.trans (Chg.drew (Chg.refl (λ_=>False) w3));have ho:=hB.ext o;have hi:=hC.ext o;have hj:=hB.ext j;have hh:=hC.ext j;rcases nP m with h1|h1
  ·subst h1;have e0:¬(0:Int)<=((0:Nat):Int)-1:=by omega
   simp only[wsv,wsg,wsh,wsl,aM,aK,aD,fB,Nat.reduceAdd,Nat.reduceLT,aF,aA,aI,aH,bP,reduceCtorEq,e0];have:=hK w3 (U.trans o);rw[<-J]at this;exact this
  ·obtain⟨k,rfl⟩:∃k,m=k+1:=⟨m-1,by omega⟩;obtain⟨p,hp⟩:∃p,x.l[k]?=some p:=⟨_,List.getElem?_eq_getElem (by omega)⟩;obtain⟨q,hq⟩:∃q,y.l[k]?=some q:=⟨_,List.getElem?_eq_getElem (by omega)⟩;have hk:((k+1:Nat):Int)-1=((k:Nat):Int):=by omega
   have e0:(0:Int)<=((k:Nat):Int):=by omega
   rw[hk];simp only[wsv,wsg,wsh,wsl,aM,aK,aD,fB,Nat.reduceAdd,Nat.reduceLT,aF,aA,aI,aH,bP,reduceCtorEq,e0,wsh,ho.hb,hi.hb];refine hj.at hp ?_;refine hh.at hq ?_;refine aD7 ?_;have hz:(x.l.zip y.l).take (k+1)=(x.l.zip y.l).take k++[(p,q)]:=by
    rw[dG,(List.getElem?_zip_eq_some (z:=(p,q))).2 ⟨hp,hq⟩];rfl
   rw[hz,List.reverse_append]at J;simp only[List.reverse_cons,List.reverse_nil,fO,List.singleton_append,uM]at J;simp only[wsv,wsg,wsh,wsl,aM,aK,aD,fB,Nat.reduceAdd,Nat.reduceLT,aF,aA,aI,aH,bP,reduceCtorEq,aO];refine⟨λh2=>?_,λh2=>?_⟩
   ·rw[aJ h2]at J;have:=hK w3.drew (U.trans j);rw[<-J]at this;exact this
   ·rw[aE h2]at J;rw[cN (by omega) (by omega)];exact⟨⟨k,by omega,rfl,j,J⟩,by omega⟩
theorem Ec{x:Big}{K:Q0}(h:jI w x cs)(hK:∀cs' w',Ext w w'->jI w' (AB x) cs'->K (.agg cs'.toArray) w'):aC P0 187 [.agg cs.toArray] w K:=by
 refine Yy ?_;unfold aEV;refine pZ h λa w1 sv hB U ha hi=>?_;refine bI λb w2 hb hh j o=>?_;have hB:=hB.ext o;have U:=U.trans o;obtain⟨T,hs⟩:=hB.l;obtain⟨p,cap,rfl,_⟩:=hs.shape;simp only[wsv,wsg,wsh,wsl,aM,aK,aD,fB,Nat.reduceAdd,Nat.reduceLT,aF,aA,aI,aH,bP,reduceCtorEq,wsh,hB.hb];refine qY (x:=⟨!x.below,x.l⟩) ⟨_,T,rfl,hs,hB.few,hB.lim⟩ λcs' w3 I hr=>?_;have j:=I.at j id;refine iI j hr.len rfl hr.one λw4 J=>?_;exact hK _ w4 ((U.trans I).new J (by have:=U.size;have:=o.size;omega)) (hr.keep j (by intro n e;cases e) J)
theorem Nr{x y:Big}{ds:List Value}{K:Q0}(h:jI w x cs)(h':jI w y ds)(xn:x.l.length+y.l.length<900)(hK:∀cs' w',Ext w w'->jI w' (Ej x y) cs'->K (.agg cs'.toArray) w'):aC P0 185 [.agg cs.toArray,.agg ds.toArray] w K:=by
 refine YA ?_;unfold aEX;refine pZ h λa w1 sv hB hx ha xr=>?_;refine pZ (h'.ext hx) λb w2 sv' hC hq hb xq=>?_;have hB:=hB.ext hq;have hx:=hx.trans hq;refine bI λg w3 hg xp hh ho=>?_;have hB:=hB.ext ho;have hC:=hC.ext ho;have xt:=hq.size;have hs:=hx.size;have hx:=hx.trans ho;have mP:∀(z:Big) (w4:World) (v:Value),Ext w3 w4->SlAt w4 U64 v z.l.length (z.l.map u64)->z.l.length<=1000->Lim z.l->Ej x y=z.trim->
   aC P0 197 [.agg [.bool z.below,v].toArray] w4 λt w6=>stW 2 (ptr g) t w6 λw7=>ldW true 2 (ptr g) w7 λr=>K r w7:=by
  intro z w4 v j hv hf hl he;refine qY (x:=z) ⟨v,U64,rfl,hv,hf,hl⟩ λcs' w5 o hr=>?_;have hh:=o.at (j.at hh id) id;refine iI hh hr.len rfl hr.one λw6 xe=>?_;rw[he]at hK;exact hK _ w6 ((hx.trans (j.trans o)).new xe (by omega)) (hr.keep hh (by intro n e;cases e) xe)
 have hk:Ext w3 w3.drew:=Chg.drew (Chg.refl (λ_=>False) w3);have J:=hB.ext hk;have U:=hC.ext hk;have xj:∀(x y:List Nat) (c:Nat),(iY x y c).length<=x.length+y.length+1:=by
  intro x;induction x with
  |nil=>intro y;induction y with
   |nil=>intro c;simp[iY]
   |cons b y ih=>intro c;simp only[iY,aB];have:=ih ((c+b)/1000000000);simp only[aN]at this⊢;omega
  |cons a x ih=>
   intro y c;cases y with
   |nil=>simp only[iY,aB,aN];have:=ih [] ((c+a)/1000000000);simp only[aN]at this;omega
   |cons b y=>simp only[iY,aB];have:=ih y ((c+a+b)/1000000000);omega
 have xc:∀(x y:List Nat) (c:Nat),(gX x y c).length=x.length:=by
  intro x;induction x with
  |nil=>intro y c;simp[gX]
  |cons a x ih=>intro y c;rw[uT,aB,ih,aB]
 have hmlim:∀(x y:List Nat) (c:Nat),Lim x->Lim y->c<=1->Lim (gX x y c):=by
  intro x;induction x with
  |nil=>intro y c _ _ _;simp[gX,Lim]
  |cons a x ih=>
   intro y c h1 h2 h3;rw[uT];have ha:=h1 a bA;have hy:y.headD 0<1000000000:=by
    cases y with
    |nil=>simp
    |cons b y=>exact h2 b bA
   have:=ih y.tail (if a<c+y.headD 0 then 1 else 0) (λu hu=>h1 u (aR _ hu)) (λu hu=>h2 u (List.mem_of_mem_tail hu)) (by split<;>omega);intro u hu;rcases bM.1 hu with rfl|hu
   ·split<;>omega
   ·exact this u hu
 simp only[wsv,wsg,wsh,wsl,aM,aK,aD,fB,Nat.reduceAdd,Nat.reduceLT,aF,aA,aI,aH,bP,reduceCtorEq,wsh,hB.hb,hC.hb,ZV];rw[bY];unfold Ej at mP;refine⟨λhe=>?_,λxa=>?_⟩
 ·have he:x.below=y.below:=by simpa using he
  refine J.ld λcs1 h1=>?_;refine U.ld λcs2 h2=>?_;refine Rp h1 h2 λv w4 j hv=>?_;have hj:=J.ext j;obtain⟨p,c,rfl,_⟩:=hv.shape;simp only[wsv,wsg,wsh,wsl,aM,aK,aD,fB,Nat.reduceAdd,Nat.reduceLT,aF,aA,aI,aH,bP,reduceCtorEq,wsh,hj.hb];rw[aJ he]at mP;refine mP ⟨x.below,iY x.l y.l 0⟩ w4 _ (hk.trans j) hv ?_ (wD _ _ _ hB.lim hC.lim (by omega)) rfl;have:=xj x.l y.l 0;show(iY x.l y.l 0).length<=1000;omega
 ·have xa:x.below≠y.below:=by simpa using xa
  rw[aE xa]at mP;refine hB.ld λcs1 h1=>?_;refine hC.ld λcs2 h2=>?_;refine Jt h1 h2 λw4 j=>?_;have hj:=hB.ext j;have xf:=hC.ext j;have I:Ext w4 w4.drew:=Chg.drew (Chg.refl (λ_=>False) w4);have J:=hj.ext I;have U:=xf.ext I;simp only[wsv,wsg,wsh,wsl,aM,aK,aD,fB,Nat.reduceAdd,Nat.reduceLT,aF,aA,aI,aH,bP,reduceCtorEq,aO];refine⟨λhs=>?_,λhs=>?_⟩
  ·rw[aJ hs]at mP
   (try simp only[wsv,wsg,wsh,wsl,aM,aK,aD,fB,Nat.reduceAdd,Nat.reduceLT,aF,aA,aI,aH,bP,reduceCtorEq,wsh,hj.hb])
   refine J.ld λcs3 h3=>?_;refine U.ld λcs4 h4=>?_;refine Cp h3 h4 λv w5 o hv=>?_;have xl:=J.ext o;obtain⟨p,c,rfl,_⟩:=hv.shape;simp only[wsv,wsg,wsh,wsl,aM,aK,aD,fB,Nat.reduceAdd,Nat.reduceLT,aF,aA,aI,aH,bP,reduceCtorEq,wsh,xl.hb];refine mP ⟨x.below,gX x.l y.l 0⟩ w5 _ (j.trans (I.trans o)) hv ?_ (hmlim _ _ _ hB.lim hC.lim (by omega)) rfl;show(gX x.l y.l 0).length<=1000;rw[xc];omega
  ·rw[aE hs]at mP
   (try simp only[wsv,wsg,wsh,wsl,aM,aK,aD,fB,Nat.reduceAdd,Nat.reduceLT,aF,aA,aI,aH,bP,reduceCtorEq,wsh,xf.hb])
   refine U.ld λcs3 h3=>?_;refine J.ld λcs4 h4=>?_;refine Cp h3 h4 λv w5 o hv=>?_;have xk:=U.ext o;obtain⟨p,c,rfl,_⟩:=hv.shape;simp only[wsv,wsg,wsh,wsl,aM,aK,aD,fB,Nat.reduceAdd,Nat.reduceLT,aF,aA,aI,aH,bP,reduceCtorEq,wsh,xk.hb];refine mP ⟨y.below,gX y.l x.l 0⟩ w5 _ (j.trans (I.trans o)) hv ?_ (hmlim _ _ _ hC.lim hB.lim (by omega)) rfl;show(gX y.l x.l 0).length<=1000;rw[xc];omega
end
theorem GZ:∀(l:Str) (acc:Nat),l.all Num.isDig=true->acc*10^l.length+dec l<1000000000000000000->Lib.parseUintM (2^64-1) acc l=.ok (acc*10^l.length+dec l)
 |[],acc,_,_=>by simp[Lib.parseUintM,dec]
 |c::r,acc,h,hb=>by
  simp only[eV,aL]at h
  have j:=h.1
  simp only[Num.isDig,aL,bD]at j
  have e:acc*10^(c::r).length+dec (c::r)=(acc*10+(c.toNat-48))*10^r.length+dec r:=by
   rw[wR,aB,oQ,fG,<-Nat.add_assoc];congr 2;rw[lM (10^r.length) 10,Nat.mul_assoc]
  rw[e]at hb⊢;have hp:1<=10^r.length:=Nat.pow_pos (by omega);have h1:acc*10+(c.toNat-48)<=(acc*10+(c.toNat-48))*10^r.length:=Nat.le_mul_of_pos_right _ hp;simp only[Lib.parseUintM];rw[aJ j,aE (by omega),aE (by omega)];exact GZ r _ h.2 hb
section
variable [HX]
theorem Pb{l:Str}{K:Q0}(h0:l≠[])(hl:l.length<=9)(hd:l.all Num.isDig=true)(j:∀w',Ext w w'->K (.tuple #[u64 (dec l),.nilIface]) w'):aC P0 226 [str l,i64 10,i64 64] w K:=by
 have o:=aD5 hd hl;have hp:Lib.parseUintB 64 l=.ok (dec l):=by
  unfold Lib.parseUintB;rw[aE h0];have:=GZ l 0 hd (by rw[mZ,aX];omega);rw[mZ,aX]at this;exact this
 refine fX (args:=#[str l,i64 10,i64 64]) Tryz.call226 ((Tryz.strconv_ParseUint_10_at64_ok (ofL l) (by rw[fT];omega) (dec l) (by rw[eM];exact hp) w).mono ?_);rintro e w' ⟨rfl,rfl|rfl⟩
 ·exact⟨_,rfl,j _ (Chg.refl _ _)⟩
 ·exact⟨_,rfl,j _ (CM _ _ _)⟩
theorem Ad:∀(n:Nat) (d:Str),d.length<=n->(mF d).length<=d.length
 |n,[],_=>by rw[Cq];simp
 |0,_::_,h=>by simp at h
 |n+1,c::d,hn=>by
  rw[ES (by simp)]
  generalize o:c::d=D at*
  have j:0<D.length:=by rw[<-o];simp
  have:=Ad n (D.take (D.length-9)) (by rw[bS];omega)
  rw[bS]at this
  simp only[aB];omega
theorem JQ{a:Str}{K:Q0}(g2:(dig a).length<=100)(g4:(dig a).all Num.isDig=true)(ha:a.length<=9223372036854775807)(hK:∀cs' w',Ext w w'->jI w' (iE a) cs'->K (.agg cs'.toArray) w'):aC P0 186 [str a] w K:=by
 refine Yz ?_;unfold aEW;refine bI λb w1 hb xy hi ho=>?_;refine MZ ha ?_;simp only[wsv,wsg,wsh,wsl,aM,aK,aD,fB,Nat.reduceAdd,Nat.reduceLT,aF,aA,aI,aH,bP,reduceCtorEq];generalize hd:dig a=d at*
 refine bI λg w2 yb xx xj hj=>?_;refine cK (l:=[.bool (neg a),.slice none 0 0]) xj rfl rfl rfl λw3 xw hy hz=>?_;have xe:Ext w w3:=(ho.trans hj).new hz (by omega);have hi:=hz.at (hj.at hi id) (by omega);refine⟨λs w'=>∃(z:Int) (v:Value) (l:List Nat),s=[i64 z]/\z<=d.length/\-9<=z/\l++mF (d.take z.toNat)=mF d/\Own w' (g+1) U64 1 v l.length (l.map u64)/\w'.heap[g]?=some (.cells [.bool (neg a),v].toArray BT (0,0))/\w'.heap[b]?=some (.cells [.bool false,.slice none 0 0].toArray BT (0,0))/\Chg (λk=>k=g\/g+1<=k) w3 w'/\l.length+z.toNat<=100,
  λs _=>match s with|[.int _ z]=>z.toNat|_=>0,⟨d.length,_,[],rfl,by omega,by omega,by rw[aW,bR];rfl,⟨rfl,.inl ⟨rfl,rfl⟩⟩,hy,hi,Chg.refl _ _,by simp;omega⟩,?_⟩
 rintro s gg w4 ⟨z,v,l,rfl,xt,xu,J,hO,hx,xb,hh,U⟩;have xz:=hh.size;rcases Int.lt_or_le 0 z with hq|xn
 ·obtain⟨e,rfl⟩:∃e:Nat,z=(e:Int):=⟨z.toNat,by omega⟩;rw[aW]at J U;have xi:(if(0:Int)<IntKind.i64.wrap ((e:Int)-9)then IntKind.i64.wrap ((e:Int)-9)else 0)=((e-9:Nat):Int):=by
   rw[cN (by omega) (by omega)];split<;>omega
  have o:(d.take e).length=e:=by rw[bS];omega
  simp only[wsv,wsg,wsh,wsl,aM,aK,aD,fB,Nat.reduceAdd,Nat.reduceLT,aF,aA,aI,aH,bP,reduceCtorEq,hq,xi,aW];refine⟨by omega,by omega,by omega,by omega,?_⟩;have xh:d.take e≠[]:=λh=>by rw[h]at o;simp at o;omega
  have hchunk:=ES xh;rw[o,Aw,kP (by omega)]at hchunk;have xm:((d.take e).drop (e-9)).length<=9:=by rw[aP,o];omega
  have xl:(d.take e).drop (e-9)≠[]:=λh=>by have:=eC.1 h;omega
  refine Pb xl xm (LB _ (wU _ g4)) λw5 j=>?_;have hv:=j.at hx id;have ya:=j.size;simp only[wsv,wsg,wsh,wsl,aM,aK,aD,fB,Nat.reduceAdd,Nat.reduceLT,aF,aA,aI,aH,bP,reduceCtorEq,wsh,hv];refine Ou (hO.ext j) (by have:=fA hy;omega) (by omega) λv' w6 h6 I=>?_;have xk:=I.at hv (by omega);have h1v:fC v'=true:=by obtain⟨p,c,rfl,_⟩:=h6.sl.shape;rfl
  refine iO xk h1v (by simp) λw7 xv hc hg=>?_;rw[cN (by omega) (by omega)];have hc:w7.heap[g]?=some (.cells [.bool (neg a),v'].toArray BT (0,0)):=by rw[hc];simp
  have ht:((e:Int)-9).toNat=e-9:=by omega
  refine⟨⟨_,v',l++[dec ((d.take e).drop (e-9))],rfl,by omega,by omega,?_,h6.chg hg λk hk e=>by have:=hk.1;omega,hc,hg.at (I.at (j.at xb id) (by omega)) (by omega),?_,?_⟩,?_⟩
  ·rw[ht,<-J,hchunk,fP];rfl
  ·exact((hh.trans (Chg.of_ext j)).trans (I.mono λk _ e=>.inr e)).trans (hg.mono λk _ e=>.inl e)
  ·rw[ht];simp;omega
  ·simp only[ht];omega
 ·have h0:¬(0:Int)<z:=by omega
  have xc:z.toNat=0:=by omega
  rw[xc,Av,Cq,eG]at J;subst J;simp only[wsv,wsg,wsh,wsl,aM,aK,aD,fB,Nat.reduceAdd,Nat.reduceLT,aF,aA,aI,aH,bP,reduceCtorEq,h0];refine bZ hx rfl ?_;have hs:=(sW _ d (aV _) g4).2;refine qY (x:=⟨neg a,mF d⟩) ⟨v,U64,rfl,hO.sl,by simp at U⊢;omega,hs⟩ λcs' w5 j hr=>?_;have xa:=j.at xb id;refine iI xa hr.len rfl hr.one λw6 I=>?_;have e:iE a=(⟨neg a,mF d⟩:Big).trim:=by unfold iE;rw[hd]
  rw[e]at hK;have xd:Ext w w4:=xe.then hh λk hk h=>by have:=ho.size;omega
  exact hK _ w6 ((xd.trans j).new I (by omega)) (hr.keep xa (by intro n e;cases e) I)
theorem oA{a:Str}{K:Q0}(j:goodN a=true)(o:a.length<=9223372036854775807)(I:∀cs' w',Ext w w'->jI w' (iE a) cs'->K (.agg cs'.toArray) w'):aC P0 186 [str a] w K:=
 JQ (jN j).2.1 (jN j).2.2.2 o I
theorem EF{a b:Str}{K:Q0}(ha:a.length<=9223372036854775807)(hb:b.length<=9223372036854775807)(hK:∀w',Ext w w'->K (i64 (wT a b)) w'):aC P0 132 [str a,str b] w K:=by
 refine YV ?_;unfold aFe;unfold wT at hK;refine nD ha λw1 hq=>?_;simp only[wsv,wsg,wsh,wsl,aM,aK,aD,fB,Nat.reduceAdd,Nat.reduceLT,aF,aA,aI,aH,bP,reduceCtorEq];refine GdW.act (!goodN b) (λw'=>Ext w1 w') (λ_=>Chg.refl _ _) ?_ ?_
 ·intro hc J hJ;refine nD hb λw2 I=>?_;simp only[wsv,wsg,wsh,wsl,aM,aK,aD,fB,Nat.reduceAdd,Nat.reduceLT,aF,aA,aI,aH,bP,reduceCtorEq];exact hJ w2 I
 intro g w2 I;have hx:=hq.trans I;simp only[wsv,wsg,wsh,wsl,aM,aK,aD,fB,Nat.reduceAdd,Nat.reduceLT,aF,aA,aI,aH,bP,reduceCtorEq];rw[bY];refine⟨λhn=>?_,λhy=>?_⟩
 ·have:=hK w2 hx;have e:(goodN a&&goodN b)=false:=by revert hn;cases goodN a<;>cases goodN b<;>simp
  rw[e]at this;exact this
 ·have hg:goodN a=true:=by revert hy;cases goodN a<;>simp
  have U:goodN b=true:=by revert hy;cases goodN b<;>simp
  rw[hg,U]at hK;simp only[Bool.and_self,gF]at hK;have lenR:∀{a:Str},goodN a=true->(iE a).l.length<=100:=by
   intro a h;obtain⟨_,h2,_,_⟩:=jN h;have h3:=Ad _ (dig a) (aV _);show(iN (mF (dig a))).length<=100;have:∀l:List Nat,(iN l).length<=l.length:=λl=>by
    induction l using yP with
    |h0=>rw[sP];simp
    |h1 l x ih=>
     by_cases h:x=0
     ·subst h;rw[qK];simp;omega
     ·rw[vR h];simp
   have:=this (mF (dig a));omega
  refine oA hg ha λcs1 w3 hi h1=>?_;refine oA U hb λcs2 w4 o h2=>?_;refine Ec h2 λcs3 w5 j h3=>?_;have xi:(AB (iE b)).l.length<=100:=by
   have:=lenR U;have:∀l:List Nat,(iN l).length<=l.length:=λl=>by
    induction l using yP with
    |h0=>rw[sP];simp
    |h1 l x ih=>
     by_cases h:x=0
     ·subst h;rw[qK];simp;omega
     ·rw[vR h];simp
   have:=this (iE b).l;show(iN (iE b).l).length<=100;omega
  refine Nr (h1.ext (o.trans j)) h3 (by have:=lenR hg;omega) λcs4 w6 hh h4=>?_;generalize Ej (iE a) (AB (iE b))=D at*
  obtain⟨sv,T,rfl,hs,hf,xb⟩:=h4;refine bI λc w7 hc xg ht ho=>?_;obtain⟨p,cap,rfl,_⟩:=hs.shape;refine cK (l:=[.bool D.below,.slice p D.l.length cap]) ht rfl rfl rfl λw8 xf hz hv=>?_;have hk:Ext w w8:=(hx.trans (hi.trans (o.trans (j.trans (hh.trans ho))))).new hv (by
   have:=(hx.trans (hi.trans (o.trans (j.trans hh)))).size;omega)
  have:=hK w8 hk;simp only[wsv,wsg,wsh,wsl,aM,aK,aD,fB,Nat.reduceAdd,Nat.reduceLT,aF,aA,aI,aH,bP,reduceCtorEq,wsh,hz];simp only[aO];refine⟨λh0=>?_,λh0=>?_⟩
  ·have hl:D.l=[]:=bC (by omega);rw[aJ hl]at this;exact this
  ·have hl:D.l≠[]:=λe=>by rw[e]at h0;simp at h0
   rw[aE hl]at this;rw[bY];refine⟨λhb=>?_,λhb=>?_⟩
   ·rw[aJ hb]at this;exact this
   ·rw[aE (by rw[hb];simp)]at this;exact this
end
section
variable [HX]
theorem zK{g:FuncId}{args:List Value}{K:Q0}(h:aC P g args w K):pG P (.func (.func g) #[] #[]) args w K:=by
 unfold pG QV;unfold aC at h;have:(do let d<-(Deferred.ofValue (.func (.func g) #[] #[]) args.toArray);invoke d.target d.args:Sem Next)=callFunc g args.toArray:=by
  show callFunc g (#[]++args.toArray++#[])=_;simp
 rw[this];exact h
structure eH(w:World)(sv:Value)(xs:List JV):Prop where
 it:∃T L,SlAt w T sv xs.length L/\eK w xs L
 few:xs.length<=9223372036854775807
theorem eH.ext{sv:Value}{xs:List JV}(h:eH w sv xs)(j:Ext w w'):eH w' sv xs:=⟨let⟨T,L,h1,o⟩:=h.it;⟨T,L,h1.ext j,o.ext j⟩,h.few⟩
theorem tZ.itemsAt{a:Nat}{v:JV}{sv kv:Value}(h:tZ w a v sv kv):eH w sv v.xs:=⟨h.items,h.fits.1⟩
theorem eH.len{sv:Value}{xs:List JV}(h:eH w sv xs)(K:Value->Prop):dA sv K↔K (i64 xs.length):=by obtain⟨T,L,h1,_⟩:=h.it;exact fL h1 K
theorem eH.at{sv:Value}{xs:List JV}{k:IntKind}{x:JV}{K:Value->Prop}(h:eH w sv xs)(hi:xs[i]?=some x)(j:∀cs,eX w x cs->K (.agg cs.toArray)):dP none 5 sv (.int k i) λp=>ldW true 5 p w K:=by
 obtain⟨T,L,h1,o⟩:=h.it;exact IK h1 o hi j
def Dm{α:Type}(p:α->Bool)(xs:List α):Int:=match xs.findIdx? p with|some i=>i|none=>-1
theorem KM{α:Type}(p:α->Bool)(xs:List α):decide ((0:Int)<=Dm p xs)=xs.any p:=by
 unfold Dm;cases h:xs.findIdx? p with
 |none=>
  have:=List.findIdx?_eq_none_iff.1 h;have:xs.any p=false:=oU.2 λx j=>by simp[this x j]
  rw[this];decide
 |some i=>
  obtain⟨hi,hp,_⟩:=List.findIdx?_eq_some_iff_getElem.1 h;rw[List.any_eq_true.2 ⟨_,BZ hi,hp⟩];exact bH (by simp)
theorem Dl{α:Type}{p:α->Bool}{xs:List α}{x:α}(h:(xs.take i).any p=false)(hi:xs[i]?=some x)(o:p x=true):xs.findIdx? p=some i:=by
 obtain⟨hl,e⟩:=List.getElem?_eq_some_iff.1 hi;rw[List.findIdx?_eq_some_iff_getElem];refine⟨hl,by rw[e];exact o,λj I=>?_⟩;have:=oU.1 h xs[j] (bG (i:=j) (by rw[List.getElem?_take,aJ I];exact List.getElem?_eq_getElem _));simpa using this
theorem Xa{sv f:Value}{xs:List JV}{p:JV->Bool}{K:Q0}(h:eH w sv xs)
  (hf:∀x∈xs,∀{cs:List Value} {w:World} {K:Q0},eX w x cs->(∀w',Ext w w'->K (.bool (p x)) w')->pG P0 f [.agg cs.toArray] w K)
  (hK:∀w',Ext w w'->K (i64 (Dm p xs)) w'):aC P0 158 [sv,f] w K:=by
 refine Jg ?_;unfold YF;rw[h.len];refine mT xs.length (λi w'=>Ext w w'/\(xs.take i).any p=false) ⟨Chg.refl _ _,by simp⟩ ?_ ?_
 ·rintro i w2 g L hi ⟨j,o⟩ hL;obtain⟨x,I⟩:∃x,xs[i]?=some x:=⟨_,List.getElem?_eq_getElem hi⟩;have U:((i:Int)<(xs.length:Int)):=by omega
  simp only[wsv,wsg,wsh,wsl,aM,aK,aD,fB,Nat.reduceAdd,Nat.reduceLT,aF,aA,aI,aH,bP,reduceCtorEq,U];refine(h.ext j).at I λcs hc=>?_;refine hf x (bG I) hc λw3 J=>?_;rw[bY];refine⟨λht=>?_,λhn=>?_⟩
  ·have:=hK w3 (j.trans J);unfold Dm at this;rw[Dl o I ht]at this;exact this
  ·have:=h.few;rw[up1 (by omega)];exact hL w3 ⟨j.trans J,by rw[LA I,o,hn];rfl⟩
 ·rintro w2 g L ⟨j,o⟩;simp only[wsv,wsg,wsh,wsl,aM,aK,aD,fB,Nat.reduceAdd,Nat.reduceLT,aF,aA,aI,aH,bP,reduceCtorEq,fJ];rw[bR]at o;have:=hK w2 j;unfold Dm at this;rw[List.findIdx?_eq_none_iff.2 λx hx=>by simpa using oU.1 o x hx]at this;exact this
theorem Na{sv f:Value}{xs:List JV}{p:JV->Bool}{K:Q0}(h:eH w sv xs)
  (hf:∀x∈xs,∀{cs:List Value} {w:World} {K:Q0},eX w x cs->(∀w',Ext w w'->K (.bool (p x)) w')->pG P0 f [.agg cs.toArray] w K)
  (o:∀w',Ext w w'->K (.bool (xs.any p)) w'):aC P0 124 [sv,f] w K:=by
 refine Jh ?_;unfold Ze;refine Xa h hf λw1 j=>?_;simp only[wsv,wsg,wsh,wsl,aM,aK,aD,fB,Nat.reduceAdd,Nat.reduceLT,aF,aA,aI,aH,bP,reduceCtorEq,KM];exact o w1 j
theorem WZ{sv f:Value}{xs:List JV}{p:JV->Bool}{K:Q0}(h:eH w sv xs)
  (hf:∀x∈xs,∀{cs:List Value} {w1:World} {K:Q0},Ext w w1->eX w1 x cs->(∀w',Ext w1 w'->K (.bool (p x)) w')->pG P0 f [.agg cs.toArray] w1 K)
  (hK:∀w',Ext w w'->K (i64 (Dm p xs)) w'):aC P0 158 [sv,f] w K:=by
 refine Jg ?_;unfold YF;rw[h.len];refine mT xs.length (λi w'=>Ext w w'/\(xs.take i).any p=false) ⟨Chg.refl _ _,by simp⟩ ?_ ?_
 ·rintro i w2 g L hi ⟨j,o⟩ hL;obtain⟨x,I⟩:∃x,xs[i]?=some x:=⟨_,List.getElem?_eq_getElem hi⟩;have U:((i:Int)<(xs.length:Int)):=by omega
  simp only[wsv,wsg,wsh,wsl,aM,aK,aD,fB,Nat.reduceAdd,Nat.reduceLT,aF,aA,aI,aH,bP,reduceCtorEq,U];refine(h.ext j).at I λcs hc=>?_;refine hf x (bG I) j hc λw3 J=>?_;rw[bY];refine⟨λht=>?_,λhn=>?_⟩
  ·have:=hK w3 (j.trans J);unfold Dm at this;rw[Dl o I ht]at this;exact this
  ·have:=h.few;rw[up1 (by omega)];exact hL w3 ⟨j.trans J,by rw[LA I,o,hn];rfl⟩
 ·rintro w2 g L ⟨j,o⟩;simp only[wsv,wsg,wsh,wsl,aM,aK,aD,fB,Nat.reduceAdd,Nat.reduceLT,aF,aA,aI,aH,bP,reduceCtorEq,fJ];rw[bR]at o;have:=hK w2 j;unfold Dm at this;rw[List.findIdx?_eq_none_iff.2 λx hx=>by simpa using oU.1 o x hx]at this;exact this
theorem AY{sv f:Value}{xs:List JV}{p:JV->Bool}{K:Q0}(h:eH w sv xs)
  (hf:∀x∈xs,∀{cs:List Value} {w1:World} {K:Q0},Ext w w1->eX w1 x cs->(∀w',Ext w1 w'->K (.bool (p x)) w')->pG P0 f [.agg cs.toArray] w1 K)
  (o:∀w',Ext w w'->K (.bool (xs.any p)) w'):aC P0 124 [sv,f] w K:=by
 refine Jh ?_;unfold Ze;refine WZ h hf λw1 j=>?_;simp only[wsv,wsg,wsh,wsl,aM,aK,aD,fB,Nat.reduceAdd,Nat.reduceLT,aF,aA,aI,aH,bP,reduceCtorEq,KM];exact o w1 j
theorem Gj(xs:List JV):(!xs.any λx=> !gJ x)=yY xs:=by
 rw[AS];induction xs with
 |nil=>rfl
 |cons x xs ih=>simp only[List.any_cons,eV,Bool.not_or,Bool.not_not,ih]
theorem IH(v:JV):∀{cs:List Value} {w:World} {K:Q0},eX w v cs->(∀w',Ext w w'->K (.bool (gJ v)) w')->aC P0 96 [.agg cs.toArray] w K:=by
 induction v using JV.ind' with
 |h v ih=>
  intro cs w K h o;refine aCe ?_;unfold W96;refine kJ h λa w1 sv kv hB U _=>?_;rw[Af]at o;simp only[wsv,wsg,wsh,wsl,aM,aK,aD,fB,Nat.reduceAdd,Nat.reduceLT,aF,aA,aI,aH,bP,reduceCtorEq,wsh,hB.hb];refine GdW.act (yY v.xs) (λw'=>Ext w1 w') (λ_=>Chg.refl _ _) ?_ ?_
  ·intro hc J hJ;refine Na (p:=λx=> !gJ x) hB.itemsAt ?_ λw2 j=>?_
   ·intro x U cs w K hr o;refine zK ?_;refine YX ?_;unfold aFg;refine kJ hr λb w1 sv kv hB I _=>?_;refine hB.ld λcs2 h2=>?_;refine ih x U h2 λw2 j=>?_;simp only[wsv,wsg,wsh,wsl,aM,aK,aD,fB,Nat.reduceAdd,Nat.reduceLT,aF,aA,aI,aH,bP,reduceCtorEq];exact o w2 (I.trans j)
   ·simp only[wsv,wsg,wsh,wsl,aM,aK,aD,fB,Nat.reduceAdd,Nat.reduceLT,aF,aA,aI,aH,bP,reduceCtorEq,Gj];exact hJ w2 j
  ·intro g w2 j;have:=o w2 (U.trans j);simp only[wsv,wsg,wsh,wsl,aM,aK,aD,fB,Nat.reduceAdd,Nat.reduceLT,aF,aA,aI,aH,bP,reduceCtorEq];simpa only[yD]using this
theorem Np{b:Bool}{K:Q0}(j:K (i64 (wY b)) w):aC P0 191 [.bool b] w K:=by
 refine Yv ?_;unfold aES;rw[bY];unfold wY at j;exact⟨λh=>by rw[aJ h]at j;exact j,λh=>by rw[aE (by rw[h];simp)]at j;exact j⟩
theorem Xv{a b:List Str}{x y:Value}{T1 T2:TypeId}{K:Q0}(h1:SlAt w T1 x a.length (a.map str))(h2:SlAt w T2 y b.length (b.map str))(ha:a.length<=9223372036854775807)
  (hK:∀w',Ext w w'->K (i64 (tU a b)) w'):aC P0 194 [x,y] w K:=by
 refine Yt ?_;unfold aEQ;rw[fL h1];refine mT a.length (λi w'=>Ext w w'/\i<=b.length/\tU (a.drop i) (b.drop i)=tU a b) ⟨Chg.refl _ _,by omega,rfl⟩ ?_ ?_
 ·rintro i w2 g L hi ⟨j,hh,I⟩ hL;obtain⟨u,hu⟩:∃u,a[i]?=some u:=⟨_,List.getElem?_eq_getElem hi⟩;have U:((i:Int)<(a.length:Int)):=by omega
  have hc:a.drop i=u::a.drop (i+1):=by
   rw[cL hi];congr 1;exact fN ((List.getElem?_eq_getElem hi).symm.trans hu)
  simp only[wsv,wsg,wsh,wsl,aM,aK,aD,fB,Nat.reduceAdd,Nat.reduceLT,aF,aA,aI,aH,bP,reduceCtorEq,U];refine nM (h1.ext j) hu ?_;rw[fL h2];simp only[wsv,wsg,wsh,wsl,aM,aK,aD,fB,Nat.reduceAdd,Nat.reduceLT,aF,aA,aI,aH,bP,reduceCtorEq,aO];refine⟨λhj=>?_,λhs=>?_⟩
  ·have J:b.drop i=[]:=eC.2 (by omega);rw[hc,J]at I;have:=hK w2 j;rw[<-I]at this;exact this
  ·have o:i<b.length:=by omega
   obtain⟨v,hv⟩:∃v,b[i]?=some v:=⟨_,List.getElem?_eq_getElem o⟩;have J:b.drop i=v::b.drop (i+1):=by
    rw[cL o];congr 1;exact fN ((List.getElem?_eq_getElem o).symm.trans hv)
   rw[hc,J]at I;simp only[tU,orI]at I;refine nM (h2.ext j) hv ?_;refine aD8 ?_;simp only[wsv,wsg,wsh,wsl,aM,aK,aD,fB,Nat.reduceAdd,Nat.reduceLT,aF,aA,aI,aH,bP,reduceCtorEq,aO];refine⟨λhg=>?_,λh0=>?_⟩
   ·rw[aE hg]at I;have:=hK w2 j;rw[<-I]at this;exact this
   ·rw[aJ (oW.1 h0)]at I;rw[up1 (by omega)];exact hL w2 ⟨j,o,I⟩
 ·rintro w2 g L ⟨j,hh,I⟩;simp only[wsv,wsg,wsh,wsl,aM,aK,aD,fB,Nat.reduceAdd,Nat.reduceLT,aF,aA,aI,aH,bP,reduceCtorEq,fJ];rw[fL h1,fL h2];rw[eJ]at I;simp only[wsv,wsg,wsh,wsl,aM,aK,aD,fB,Nat.reduceAdd,Nat.reduceLT,aF,aA,aI,aH,bP,reduceCtorEq,aO];have:=hK w2 j;rw[<-I]at this;refine⟨λU=>?_,λhj=>?_⟩
  ·obtain⟨v,r,e⟩:∃v r,b.drop a.length=v::r:=by
    cases hd:b.drop a.length with
    |nil=>have:=eC.1 hd;omega
    |cons v r=>exact⟨v,r,rfl⟩
   rw[e]at this;exact this
  ·rw[eC.2 (show b.length<=a.length by omega)]at this;exact this
theorem aDP{a b:Int}{K:Q0}(J:SlAt w 3 v 2 [i64 a,i64 b])(I:∀w',Ext w w'->K (i64 (orI a b)) w'):aC P0 193 [v] w K:=by
 refine Yu ?_;unfold aER;rw[fL J];unfold orI at I;refine mT 2 (λi w'=>Ext w w'/\(1<=i->a=0)/\(2<=i->b=0)) ⟨Chg.refl _ _,by omega,by omega⟩ ?_ ?_
 ·rintro i w2 g L hi ⟨j,h1,h2⟩ hL;have U:((i:Int)<((2:Nat):Int)):=by omega
  simp only[wsv,wsg,wsh,wsl,aM,aK,aD,fB,Nat.reduceAdd,Nat.reduceLT,aF,aA,aI,aH,bP,reduceCtorEq,U];have hc:i=0\/i=1:=by omega
  rcases hc with rfl|rfl
  ·refine rQ (J.ext j) rfl (show [i64 a,i64 b][0]?=some (i64 a)from rfl) ?_;simp only[wsv,wsg,wsh,wsl,aM,aK,aD,fB,Nat.reduceAdd,Nat.reduceLT,aF,aA,aI,aH,bP,reduceCtorEq,aO];refine⟨λo=>?_,λh0=>?_⟩
   ·have:=I w2 j;rw[aE o]at this;exact this
   ·rw[up1 (by omega)];exact hL w2 ⟨j,λ_=>oW.1 h0,λh=>by omega⟩
  ·have ha:=h1 (aV _);refine rQ (J.ext j) rfl (show [i64 a,i64 b][1]?=some (i64 b)from rfl) ?_;simp only[wsv,wsg,wsh,wsl,aM,aK,aD,fB,Nat.reduceAdd,Nat.reduceLT,aF,aA,aI,aH,bP,reduceCtorEq,aO];refine⟨λo=>?_,λh0=>?_⟩
   ·have:=I w2 j;rw[aJ ha]at this;exact this
   ·rw[up1 (by omega)];exact hL w2 ⟨j,λ_=>ha,λ_=>oW.1 h0⟩
 ·rintro w2 g L ⟨j,h1,h2⟩;simp only[wsv,wsg,wsh,wsl,aM,aK,aD,fB,Nat.reduceAdd,Nat.reduceLT,aF,aA,aI,aH,bP,reduceCtorEq,fJ];have:=I w2 j;rw[aJ (h1 (by omega)),h2 (aV _)]at this;exact this
theorem Qf{sv tv f:Value}{xs ys:List JV}{K:Q0}(h:eH w sv xs)(h':eH w tv ys)
  (hf:∀x∈xs,∀y∈ys,∀{cs ds:List Value} {w:World} {K:Q0},eX w x cs->eX w y ds->(∀w',Ext w w'->K (i64 (FL x y)) w')->pG P0 f [.agg cs.toArray,.agg ds.toArray] w K)
  (hK:∀w',Ext w w'->K (i64 (cmpL xs ys)) w'):aC P0 195 [sv,tv,f] w K:=by
 refine Ys ?_;unfold aEP;rw[h.len];refine mT xs.length (λi w'=>Ext w w'/\i<=ys.length/\cmpL (xs.drop i) (ys.drop i)=cmpL xs ys) ⟨Chg.refl _ _,by omega,rfl⟩ ?_ ?_
 ·rintro i w2 g L hi ⟨o,hr,I⟩ hL;obtain⟨u,hu⟩:∃u,xs[i]?=some u:=⟨_,List.getElem?_eq_getElem hi⟩;have hg:((i:Int)<(xs.length:Int)):=by omega
  have hh:xs.drop i=u::xs.drop (i+1):=by
   rw[cL hi];congr 1;exact fN ((List.getElem?_eq_getElem hi).symm.trans hu)
  simp only[wsv,wsg,wsh,wsl,aM,aK,aD,fB,Nat.reduceAdd,Nat.reduceLT,aF,aA,aI,aH,bP,reduceCtorEq,hg];refine(h.ext o).at hu λcs hz=>?_;refine wS hz λp w3 sp kp hP J=>?_;rw[h'.len];simp only[wsv,wsg,wsh,wsl,aM,aK,aD,fB,Nat.reduceAdd,Nat.reduceLT,aF,aA,aI,aH,bP,reduceCtorEq,aO];refine⟨λhs=>?_,λxe=>?_⟩
  ·have U:ys.drop i=[]:=eC.2 (by omega);rw[hh,U]at I;have:=hK w3 (o.trans J);rw[<-I]at this;exact this
  ·have j:i<ys.length:=by omega
   obtain⟨v,hv⟩:∃v,ys[i]?=some v:=⟨_,List.getElem?_eq_getElem j⟩;have U:ys.drop i=v::ys.drop (i+1):=by
    rw[cL j];congr 1;exact fN ((List.getElem?_eq_getElem j).symm.trans hv)
   rw[hh,U]at I;simp only[cmpL,orI]at I;refine(h'.ext (o.trans J)).at hv λds ht=>?_;refine wS ht λq w4 sq kq hQ hc=>?_;refine(hP.ext hc).ld λcs2 xa=>?_;refine hQ.ld λds2 hy=>?_;refine hf u (bG hu) v (bG hv) xa hy λw5 hj=>?_;have hx:=o.trans (J.trans (hc.trans hj));simp only[wsv,wsg,wsh,wsl,aM,aK,aD,fB,Nat.reduceAdd,Nat.reduceLT,aF,aA,aI,aH,bP,reduceCtorEq,aO];refine⟨λhq=>?_,λh0=>?_⟩
   ·rw[aE hq]at I;have:=hK w5 hx;rw[<-I]at this;exact this
   ·rw[aJ (oW.1 h0)]at I;have:=h.few;rw[up1 (by omega)];exact hL w5 ⟨hx,j,I⟩
 ·rintro w2 g L ⟨o,hr,I⟩;simp only[wsv,wsg,wsh,wsl,aM,aK,aD,fB,Nat.reduceAdd,Nat.reduceLT,aF,aA,aI,aH,bP,reduceCtorEq,fJ];rw[h.len,h'.len];rw[eJ]at I;simp only[wsv,wsg,wsh,wsl,aM,aK,aD,fB,Nat.reduceAdd,Nat.reduceLT,aF,aA,aI,aH,bP,reduceCtorEq,aO];have:=hK w2 o;rw[<-I]at this;refine⟨λhg=>?_,λhs=>?_⟩
  ·obtain⟨v,r,e⟩:∃v r,ys.drop xs.length=v::r:=by
    cases hd:ys.drop xs.length with
    |nil=>have:=eC.1 hd;omega
    |cons v r=>exact⟨v,r,rfl⟩
   rw[e]at this;exact this
  ·rw[eC.2 (show ys.length<=xs.length by omega)]at this;exact this
theorem aD9(v:JV):∀{b:JV} {cs ds:List Value} {w:World} {K:Q0},eX w v cs->eX w b ds->(∀w',Ext w w'->K (i64 (FL v b)) w')->aC P0 131 [.agg cs.toArray,.agg ds.toArray] w K:=by
 induction v using JV.ind' with
 |h v ih=>
  intro b cs ds w K h h' j;refine YW ?_;unfold aFf;refine kJ h λx w1 sv kv hB U _=>?_;refine kJ (h'.ext U) λy w2 sv' kv' J hg _=>?_;have hB:=hB.ext hg;have U:=U.trans hg;clear hg;rw[Xw]at j;unfold orI at j;simp only[wsv,wsg,wsh,wsl,aM,aK,aD,fB,Nat.reduceAdd,Nat.reduceLT,aF,aA,aI,aH,bP,reduceCtorEq,wsh,hB.hb,J.hb];refine aEa ?_;simp only[wsv,wsg,wsh,wsl,aM,aK,aD,fB,Nat.reduceAdd,Nat.reduceLT,aF,aA,aI,aH,bP,reduceCtorEq,aO];refine⟨λhv=>?_,λh0=>?_⟩
  ·have:=j w2 U;rw[aE hv]at this;exact this
  ·rw[aJ (oW.1 h0)]at j;have I:Ext w2 w2.drew:=Chg.drew (Chg.refl (λ_=>False) w2);have hj:=hB.ext I;have hh:=J.ext I
   (try simp only[wsv,wsg,wsh,wsl,aM,aK,aD,fB,Nat.reduceAdd,Nat.reduceLT,aF,aA,aI,aH,bP,reduceCtorEq,wsh,hB.hb,J.hb])
   refine⟨λh2=>?_,λh2=>?_⟩
   ·rw[aJ (show v.k=2 by simpa using h2)]at j
    (try simp only[wsv,wsg,wsh,wsl,aM,aK,aD,fB,Nat.reduceAdd,Nat.reduceLT,aF,aA,aI,aH,bP,reduceCtorEq,wsh,hB.hb,J.hb])
    refine Np ?_
    (try simp only[wsv,wsg,wsh,wsl,aM,aK,aD,fB,Nat.reduceAdd,Nat.reduceLT,aF,aA,aI,aH,bP,reduceCtorEq,wsh,J.hb])
    refine Np (ZZ ?_);exact j _ (U.trans I)
   ·rw[aE (show¬v.k=2 by simpa using h2)]at j
    (try simp only[wsv,wsg,wsh,wsl,aM,aK,aD,fB,Nat.reduceAdd,Nat.reduceLT,aF,aA,aI,aH,bP,reduceCtorEq,aO])
    refine⟨λh3=>?_,λh3=>?_⟩
    ·rw[aJ (show v.k=3 by simpa using h3)]at j
     (try simp only[wsv,wsg,wsh,wsl,aM,aK,aD,fB,Nat.reduceAdd,Nat.reduceLT,aF,aA,aI,aH,bP,reduceCtorEq,wsh,hB.hb,J.hb])
     exact EF hB.fits.2.2.1 J.fits.2.2.1 λw3 o=>j w3 (U.trans o)
    ·rw[aE (show¬v.k=3 by simpa using h3)]at j
     (try simp only[wsv,wsg,wsh,wsl,aM,aK,aD,fB,Nat.reduceAdd,Nat.reduceLT,aF,aA,aI,aH,bP,reduceCtorEq,aO])
     refine⟨λh4=>?_,λh4=>?_⟩
     ·rw[aJ (show v.k=4 by simpa using h4)]at j
      (try simp only[wsv,wsg,wsh,wsl,aM,aK,aD,fB,Nat.reduceAdd,Nat.reduceLT,aF,aA,aI,aH,bP,reduceCtorEq,wsh,hB.hb,J.hb])
      exact aAo (j w2 U)
     ·rw[aE (show¬v.k=4 by simpa using h4)]at j
      (try simp only[wsv,wsg,wsh,wsl,aM,aK,aD,fB,Nat.reduceAdd,Nat.reduceLT,aF,aA,aI,aH,bP,reduceCtorEq,wsh,hB.hb,J.hb])
      obtain⟨T1,k1⟩:=hj.keys;obtain⟨T2,k2⟩:=hh.keys;refine Xv k1 k2 hB.fits.2.1 λw3 o=>?_;have hk:=hj.ext o;have hi:=hh.ext o;simp only[wsv,wsg,wsh,wsl,aM,aK,aD,fB,Nat.reduceAdd,Nat.reduceLT,aF,aA,aI,aH,bP,reduceCtorEq,wsh,hk.hb,hi.hb];refine Qf hk.itemsAt hi.itemsAt ?_ λw4 hr=>?_
      ·intro p hp q hq cs ds w K hc hd j;exact zK (ih p hp hc hd j)
      unfold dN;simp only[wsv,wsg,wsh,wsl,aM,aK,aD,fB,Nat.reduceAdd,Nat.reduceLT,aF,aA,aI,aH,bP,reduceCtorEq];have hs:SlAt (w4.alloc (.cells [i64 (tU v.ks b.ks),i64 (cmpL v.xs b.xs)].toArray 3)) 3 (.slice (some ⟨w4.heap.size,0,none⟩) 2 2) 2 [i64 (tU v.ks b.ks),i64 (cmpL v.xs b.xs)]:=
       (xF (w:=w4) (base:=w4.heap.size) (e:=3) (size:=1) (n:=2) (cs:=[i64 (tU v.ks b.ks),i64 (cmpL v.xs b.xs)]) (aV _) rfl (by omega)).sl
      refine aDP hs λw5 ho=>?_;have ht:=U.trans (I.trans (o.trans (hr.trans ((Chg.alloc (Chg.refl _ _) _:Ext w4 _).trans ho))));exact j w5 ht
theorem Xn{a b:JV}{ds:List Value}{K:Q0}(h:eX w a cs)(h':eX w b ds)(J:∀w',Ext w w'->K (.bool (decide (FL a b=0))) w'):aC P0 98 [.agg cs.toArray,.agg ds.toArray] w K:=by
 refine aCc ?_;unfold W98;refine kJ h λx w1 sv kv hB I _=>?_;refine kJ (h'.ext I) λy w2 sv' kv' U j _=>?_;have hB:=hB.ext j;refine hB.ld λcs1 h1=>?_;refine U.ld λcs2 h2=>?_;refine aD9 a h1 h2 λw3 o=>?_;simp only[wsv,wsg,wsh,wsl,aM,aK,aD,fB,Nat.reduceAdd,Nat.reduceLT,aF,aA,aI,aH,bP,reduceCtorEq];exact J w3 (I.trans (j.trans o))
end
def inG(G:Nat->Prop)(v:Value):Prop:=∀k,v.ownBlock=some k->G k
mutual
def cM(G:Nat->Prop)(w:World):JV->List Value->Prop
 |.mk k b t xs ks,cs=>∃sv kv T1 T2 L,cs=[i64 k,.bool b,str t,sv,kv]/\SlAt w T1 sv xs.length L/\cA G w xs L/\SlAt w T2 kv ks.length (ks.map str)/\Fits xs.length ks t/\(L≠[]->inG G sv)/\(ks.map str≠[]->inG G kv)
def cA(G:Nat->Prop)(w:World):List JV->List Value->Prop
 |[],L=>L=[]
 |x::xs,L=>∃c r,L=c++r/\cM G w x c/\cA G w xs r
end
theorem vV(h:SlAt w T v n cs)(I:cs≠[]->inG G v)(J:Chg S w w')(U:∀k,G k->k<w.heap.size->¬S k):SlAt w' T v n cs:=by
 obtain⟨p,cap,rfl,h1,h2,h3⟩:=h;refine⟨p,cap,rfl,h1,h2,λj=>?_⟩;obtain⟨b,off,c,fr,rfl,hb,o⟩:=h3 j;exact⟨b,off,c,fr,rfl,J.at hb (U b (I j b rfl) (fA hb)),o⟩
theorem Ij(h:SlAt w T v n cs)(j:cs≠[]):inG (λk=>k<w.heap.size) v:=by
 obtain⟨p,cap,rfl,h1,U,J⟩:=h;obtain⟨b,off,c,fr,rfl,hb,I⟩:=J j;intro k o;cases o;exact fA hb
mutual
theorem cM.chg{S G:Nat->Prop}{w w':World}(hc:Chg S w w')(hS:∀k,G k->k<w.heap.size->¬S k):∀{v:JV} {cs:List Value},cM G w v cs->cM G w' v cs
 |.mk k b t xs ks,cs,h=>by
  simp only[cM]at h⊢
  obtain⟨sv,kv,T1,T2,L,rfl,h1,h2,h3,h4,h5,h6⟩:=h
  exact⟨sv,kv,T1,T2,L,rfl,vV h1 h5 hc hS,cA.chg hc hS h2,vV h3 h6 hc hS,h4,h5,h6⟩
theorem cA.chg{S G:Nat->Prop}{w w':World}(hc:Chg S w w')(hS:∀k,G k->k<w.heap.size->¬S k):∀{xs:List JV} {L:List Value},cA G w xs L->cA G w' xs L
 |[],L,h=>by simp only[cA]at h⊢;exact h
 |x::xs,L,h=>by
  simp only[cA]at h⊢
  obtain⟨c,r,rfl,h1,h2⟩:=h
  exact⟨c,r,rfl,cM.chg hc hS h1,cA.chg hc hS h2⟩
end
mutual
theorem cM.mono{G G':Nat->Prop}{w:World}(hG:∀k,k<w.heap.size->G k->G' k):∀{v:JV} {cs:List Value},cM G w v cs->cM G' w v cs
 |.mk k b t xs ks,cs,h=>by
  simp only[cM]at h⊢
  obtain⟨sv,kv,T1,T2,L,rfl,h1,h2,h3,h4,h5,h6⟩:=h
  exact⟨sv,kv,T1,T2,L,rfl,h1,cA.mono hG h2,h3,h4,λhne k hk=>hG k (Ij h1 hne k hk) (h5 hne k hk),λhne k hk=>hG k (Ij h3 hne k hk) (h6 hne k hk)⟩
theorem cA.mono{G G':Nat->Prop}{w:World}(hG:∀k,k<w.heap.size->G k->G' k):∀{xs:List JV} {L:List Value},cA G w xs L->cA G' w xs L
 |[],L,h=>by simp only[cA]at h⊢;exact h
 |x::xs,L,h=>by
  simp only[cA]at h⊢
  obtain⟨c,r,rfl,h1,h2⟩:=h
  exact⟨c,r,rfl,cM.mono hG h1,cA.mono hG h2⟩
end
mutual
theorem cM.rep{G:Nat->Prop}{w:World}:∀{v:JV} {cs:List Value},cM G w v cs->eX w v cs
 |.mk k b t xs ks,cs,h=>by
  simp only[cM]at h
  simp only[eX]
  obtain⟨sv,kv,T1,T2,L,rfl,h1,h2,h3,h4,h5,h6⟩:=h
  exact⟨sv,kv,T1,T2,L,rfl,h1,cA.rep h2,h3,h4⟩
theorem cA.rep{G:Nat->Prop}{w:World}:∀{xs:List JV} {L:List Value},cA G w xs L->eK w xs L
 |[],L,h=>by simp only[cA]at h;simp only[eK];exact h
 |x::xs,L,h=>by
  simp only[cA]at h
  simp only[eK]
  obtain⟨c,r,rfl,h1,h2⟩:=h
  exact⟨c,r,rfl,cM.rep h1,cA.rep h2⟩
end
theorem cA.snoc{G:Nat->Prop}{w:World}:∀{xs:List JV} {x:JV} {L cs:List Value},cA G w xs L->cM G w x cs->cA G w (xs++[x]) (L++cs)
 |[],x,L,cs,h,j=>by
  simp only[cA]at h
  subst h
  simp only[fO,cA]
  exact⟨cs,[],by simp,j,rfl⟩
 |y::xs,x,L,cs,h,j=>by
  simp only[cA]at h
  obtain⟨c,r,rfl,h1,o⟩:=h
  simp only[dD,cA]
  exact⟨c,r++cs,by simp,h1,cA.snoc o j⟩
theorem cM.mk{v:JV}{sv kv:Value}{T1 T2:TypeId}{L:List Value}(h1:SlAt w T1 sv v.xs.length L)(U:cA G w v.xs L)(J:SlAt w T2 kv v.ks.length (v.ks.map str))(I:Fits v.xs.length v.ks v.t)(o:L≠[]->inG G sv)(j:v.ks.map str≠[]->inG G kv):cM G w v [i64 v.k,.bool v.b,str v.t,sv,kv]:=by
 cases v with
 |mk k b t xs ks=>simp only[cM];exact⟨sv,kv,T1,T2,L,rfl,h1,U,J,I,o,j⟩
abbrev yE(n:Nat):Nat->Prop:=λk=>n<=k
section
variable [HX]
theorem Xx{l:List Str}{K:Q0}(h:SlAt w T v l.length (l.map str))(hl:l.length<=1000000)
  (U:∀v' w',Ext w w'->SlAt w' ST v' l.length (l.map str)->inG (yE w.heap.size) v'->K v' w'):aC P0 118 [v] w K:=by
 refine Oz ?_;unfold aDf;obtain⟨p,cap,rfl,j,hp,hc⟩:=h;cases p with
 |none=>
  obtain⟨h0,rfl⟩:=hp rfl;have:l=[]:=bC h0;subst this;have e:∀K:Value->Prop,eqW .slice false (.slice none ([]:List Str).length 0) (.slice none 0 0) K↔K (.bool true):=λK=>gO;rw[e];simp only[wsv,wsg,wsh,wsl,aM,aK,aD,fB,Nat.reduceAdd,Nat.reduceLT,aF,aA,aI,aH,bP,reduceCtorEq];exact U _ w (Chg.refl _ _) (SlAt.nil _ _) (by intro k o;cases o)
 |some a=>
  have e:∀K:Value->Prop,eqW .slice false (.slice (some a) l.length cap) (.slice none 0 0) K↔K (.bool false):=λK=>gO;rw[e];unfold dN;simp only[wsv,wsg,wsh,wsl,aM,aK,aD,fB,Nat.reduceAdd,Nat.reduceLT,aF,aA,aI,aH,bP,reduceCtorEq];refine iF Cz (base:=w.heap.size) (xF (w:=w) (base:=w.heap.size) (e:=ST) (size:=1) (n:=0) (cs:=[]) (aV _) rfl (by omega)) (x:=.slice (some a) l.length cap) (T:=T) (m:=l.length) (news:=l.map str) ?_ (by simp) ?_ (by omega) (by omega) (by rw[size_alloc];omega) λv' w' h' J hj=>?_
  ·have I:Ext w (w.alloc (.cells ([]:List Value).toArray ST)):=(by repeat (first|assumption|exact Chg.refl _ _|refine Chg.drew ?_|refine Chg.alloc ?_ _|refine Chg.set ?_ (by first|exact .inl rfl|exact .inr (by omega)|exact .inr (by simp only[pO,size_alloc,size_drew];omega)|(left;simp;done)) _|exact Chg.of_ext (by assumption)));exact SlAt.ext ⟨some a,cap,rfl,j,hp,hc⟩ I
  ·intro u hu;obtain⟨s,_,rfl⟩:=dL.1 hu;rfl
  ·have I:Ext w (w.alloc (.cells ([]:List Value).toArray ST)):=(by repeat (first|assumption|exact Chg.refl _ _|refine Chg.drew ?_|refine Chg.alloc ?_ _|refine Chg.set ?_ (by first|exact .inl rfl|exact .inr (by omega)|exact .inr (by simp only[pO,size_alloc,size_drew];omega)|(left;simp;done)) _|exact Chg.of_ext (by assumption)));refine U v' w' (I.then J λk o e=>?_) (by simpa using h'.sl) λk o=>(h'.block k o).1;simp only[Value.ownBlock,bF]at e;omega
theorem Tj{xs:List JV}(xf:∀x∈xs,∀{cs:List Value} {w:World} {K:Q0},eX w x cs->(∀cs' w',Ext w w'->cM (yE w.heap.size) w' x cs'->K (.agg cs'.toArray) w')->aC P0 88 [.agg cs.toArray] w K)
  {sv:Value}{K:Q0}(h:eH w sv xs)(hl:xs.length<=1000000)
  (hK:∀sv' w',Ext w w'->(∃L,SlAt w' VT sv' xs.length L/\cA (yE w.heap.size) w' xs L)->inG (yE w.heap.size) sv'->K sv' w'):aC P0 119 [sv] w K:=by
 refine Oy ?_;unfold aDe;rw[h.len];refine⟨λs w'=>∃i v L,i<=xs.length/\s=[v,i64 (i:Nat)]/\Ext w w'/\Own w' w.heap.size VT 5 v i L/\cA (λk=>w.heap.size<=k/\v.ownBlock≠some k) w' (xs.take i) L,
  λs _=>match s with|[_,.int _ i]=>xs.length-i.toNat|_=>0,⟨0,_,[],by omega,rfl,Chg.refl _ _,⟨by simp,.inl ⟨rfl,rfl⟩⟩,by simp[cA]⟩,?_⟩
 rintro s g w2 ⟨i,v,L,hi,rfl,I,hO,hr⟩;rcases dR i xs.length with J|xj
 ·obtain⟨x,U⟩:∃x,xs[i]?=some x:=⟨_,List.getElem?_eq_getElem J⟩;have ho:(i:Int)<(xs.length:Int):=by omega
  simp only[wsv,wsg,wsh,wsl,aM,aK,aD,fB,Nat.reduceAdd,Nat.reduceLT,aF,aA,aI,aH,bP,reduceCtorEq,ho];refine(h.ext I).at U λcs xe=>?_;refine wS xe λp w3 sp kp hP hj=>?_;refine hP.ld λcs2 h2=>?_;refine xf x (bG U) h2 λcs3 w4 xb h3=>?_;refine AE h3.rep.len λt w5 ht hh=>?_;have o:=hj.trans (xb.trans hh);have hx:=hO.ext o;have s0:=I.size;have s3:=hj.size;have s25:=o.size;have hq:∀k,v.ownBlock=some k->k<w2.heap.size:=λk j=>(World.ownsRow.lt hO k j).2;refine iF Cy hx ht (m:=1) (by rw[h3.rep.len]) h3.rep.one (by omega) (by omega) (by omega) λv' w6 h6 hs xg=>?_;have xa:Ext w w6:=(I.trans o).then hs λk j e=>by
   have:=(nU hx e).1;omega
  rw[up1 (by omega)];refine⟨⟨i+1,v',L++cs3,J,rfl,xa,h6,?_⟩,by simp only[aW];omega⟩;have e:xs.take (i+1)=xs.take i++[x]:=by rw[dG,U];rfl
  rw[e];have xc:=cA.chg o (λ_ _ _ e=>e) hr;have xh:=cM.chg hh (λ_ _ _ e=>e) h3;have hv:cA (λk=>w.heap.size<=k/\v.ownBlock≠some k) w5 (xs.take i++[x]) (L++cs3):=
   xc.snoc (xh.mono λk _ j=>⟨by have:w3.heap.size<=k:=j;omega,λe=>by have:=hq k e;have:w3.heap.size<=k:=j;omega⟩)
  have hg:cA (λk=>(w.heap.size<=k/\v.ownBlock≠some k)/\k<w5.heap.size) w5 (xs.take i++[x]) (L++cs3):=hv.mono λk J j=>⟨j,J⟩;have hc:=cA.chg hs (λk j _ e=>j.1.2 e) hg;exact hc.mono λk _ j=>⟨j.1.1,λe=>by
   rcases xg k e with h|h
   ·exact j.1.2 h
   ·omega⟩
 ·obtain rfl:i=xs.length:=by omega
  simp only[wsv,wsg,wsh,wsl,aM,aK,aD,fB,Nat.reduceAdd,Nat.reduceLT,aF,aA,aI,aH,bP,reduceCtorEq,fJ];rw[bR]at hr;exact hK v w2 I ⟨L,hO.sl,hr.mono λk _ j=>j.1⟩ λk j=>(hO.block k j).1
end
end
end Go.Proofs.YtghhmpppnmoeoaaGreatDoor
namespace Go.Eng
section
open Go Go.Num
variable{w:World}{K:Q0}{cs:List Value}{G:Nat->Prop}{T:TypeId}{i:Nat}{n:Nat}{v:Value}{w':World}{P:Program}{c:UInt8}{S:Nat->Prop}
mutual
def tR:JV->Bool
 |.mk _ _ _ xs ks=>decide (xs.length<=100000)&&decide (ks.length<=100000)&&SK xs
def SK:List JV->Bool
 |[]=>true
 |x::xs=>tR x&&SK xs
end
theorem xL(v:JV):tR v=(decide (v.xs.length<=100000)&&decide (v.ks.length<=100000)&&SK v.xs):=by cases v;rfl
theorem wO(xs:List JV):SK xs=xs.all tR:=by
 induction xs with
 |nil=>rfl
 |cons x xs ih=>simp[SK,ih]
theorem AN:∀(m:Nat),m<=24->∀(v:JV),kC v m=true->1<=qZ v/\qZ v<=2000*m+1
 |0,_,v,h=>by rw[oO]at h;cases h
 |m+1,hm,v,h=>by
  rw[iA,jB]at h
  rw[vW]
  have key:∀(xs:List JV) (n:Int),xs.all (kC · m)=true->1<=n->n<=2000*(m+1)+1->1<=lW xs n/\lW xs n<=2000*(m+1)+1:=by
   intro xs;induction xs with
   |nil=>intro n _ h1 o;exact⟨h1,o⟩
   |cons x xs ih=>
    intro n j h1 o;simp only[eV,aL]at j;obtain⟨a1,a2⟩:=AN m (by omega) x j.1;simp only[lW];split
    ·rw[cN (by omega) (by omega)];exact ih _ j.2 (by omega) (by omega)
    ·exact⟨h1,o⟩
  have:=key v.xs 1 h (by omega) (by omega);exact⟨this.1,by have:=this.2;omega⟩
theorem xA{m:Nat}(hm:m<=24):∀(xs:List JV) (n:Int),xs.all (kC · m)=true->1<=n->lW xs n<=2000->n+xs.length<=2000/\∀x∈xs,qZ x<=2000
 |[],n,_,_,h=>by simp only[lW]at h;exact⟨by simp;exact h,by simp⟩
 |x::xs,n,o,h1,h=>by
  simp only[eV,aL]at o
  obtain⟨a1,a2⟩:=AN m hm x o.1
  simp only[lW]at h
  split at h
  ·rw[cN (by omega) (by omega)]at h
   obtain⟨i1,i2⟩:=xA hm xs _ o.2 (by omega) h
   refine⟨by simp only[aB];omega,λy j=>?_⟩
   rcases bM.1 j with rfl|j
   ·omega
   ·exact i2 y j
  ·omega
theorem SB(v:JV):∀(m:Nat),m<=24->qZ v<=2000->kC v m=true->kA v=true->tR v=true:=by
 induction v using JV.ind' with
 |h v ih=>
  intro m hm o hd hp;cases m with
  |zero=>rw[oO]at hd;cases hd
  |succ m=>
   rw[iA,jB]at hd;rw[vW]at o;obtain⟨h1,J⟩:=xA (m:=m) (by omega) v.xs 1 hd (by omega) o;rw[jJ,aL,nC]at hp;obtain⟨_,_,_,_,_,k6,_,_,k9,_⟩:=kB hp.1;rw[xL,wO];have e1:v.xs.length<=100000:=by omega
   have e2:v.ks.length<=100000:=by
    by_cases I:v.ks=[]
    ·rw[I];simp
    ·have:=k9 (k6 I);omega
   rw[bH e1,bH e2];simp only[Bool.and_self,iB,bN];intro x j;exact ih x j m (by omega) (J x j) (bN.1 hd x j) (bN.1 hp.2 x j)
structure Gb(v:JV):Prop where
 plain:kA v=true
 few:tR v=true
theorem pW{v:JV}(h:dK v=true):Gb v:=by
 simp only[dK,aL,bD]at h;exact⟨h.2,SB v 24 (aV _) h.1.1 h.1.2 h.2⟩
theorem Gb.item{v x:JV}(h:Gb v)(o:x∈v.xs):Gb x:=by
 have h1:=h.plain;have j:=h.few;rw[jJ,aL,nC,bN]at h1;rw[xL,wO]at j;simp only[aL,bN]at j;exact⟨h1.2 x o,j.2 x o⟩
theorem Gb.lens{v:JV}(h:Gb v):v.xs.length<=100000/\v.ks.length<=100000/\(v.k=6->v.ks.length=v.xs.length)/\iX v.ks=true/\(v.ks≠[]->v.k=6):=by
 have h1:=h.plain;have j:=h.few;rw[jJ,aL]at h1;rw[xL]at j;simp only[aL,bD]at j;obtain⟨_,_,_,_,_,k6,_,_,k9,k10⟩:=kB h1.1;exact⟨j.1.1,j.1.2,k9,k10,k6⟩
theorem qR:∀{a b c:Str},Op.bytesLess a b=true->Op.bytesLess b c=true->Op.bytesLess a c=true
 |[],[],_,h,_=>by simp[Op.bytesLess]at h
 |_::_,[],_,h,_=>by simp[Op.bytesLess]at h
 |_,_::_,[],_,h=>by simp[Op.bytesLess]at h
 |[],_::_,_::_,_,_=>by simp[Op.bytesLess]
 |x::a,y::b,z::c,h1,j=>by
  simp only[Op.bytesLess,cQ,aL,bD,fV]at h1 j⊢
  rcases h1 with h1|⟨rfl,h1⟩
  ·rcases j with j|⟨rfl,j⟩
   ·exact .inl (UInt8.lt_trans h1 j)
   ·exact .inl h1
  ·rcases j with j|⟨rfl,j⟩
   ·exact .inl j
   ·exact .inr ⟨rfl,qR h1 j⟩
theorem EV:∀(a b:Str),Op.bytesLess a b=true\/a=b\/Op.bytesLess b a=true
 |[],[]=>.inr (.inl rfl)
 |[],_::_=>.inl rfl
 |_::_,[]=>.inr (.inr rfl)
 |x::a,y::b=>by
  simp only[Op.bytesLess,cQ,aL,bD,fV,dX]
  by_cases h1:x<y
  ·exact .inl (.inl h1)
  ·by_cases j:y<x
   ·exact .inr (.inr (.inl j))
   ·have:x=y:=UInt8.le_antisymm (UInt8.not_lt.1 j) (UInt8.not_lt.1 h1)
    subst this
    rcases EV a b with h|h|h
    ·exact .inl (.inr ⟨rfl,h⟩)
    ·exact .inr (.inl ⟨rfl,h⟩)
    ·exact .inr (.inr (.inr ⟨rfl,h⟩))
theorem Pt{a b:Str}(h:Op.bytesLess a b=true):Op.bytesLess b a=false:=by
 cases hb:Op.bytesLess b a with
 |false=>rfl
 |true=>have:=qR h hb;rw[EW]at this;cases this
def LF(ks:List Str):Prop:=ks.Pairwise λa b=>Op.bytesLess a b=true
theorem De:∀{ks:List Str},iX ks=true->LF ks
 |[],_=>List.Pairwise.nil
 |[a],_=>List.pairwise_singleton _ _
 |a::b::r,h=>by
  simp only[iX,aL]at h
  have ih:=De (ks:=b::r) h.2
  refine List.Pairwise.cons (λc j=>?_) ih
  rcases bM.1 j with rfl|j
  ·exact h.1.2
  ·exact qR h.1.2 ((List.pairwise_cons.1 ih).1 c j)
theorem Iq{ks:List Str}(h:LF ks){j:Nat}{a b:Str}(I:ks[i]?=some a)(hb:ks[j]?=some b)(o:i<j):Op.bytesLess a b=true:=by
 obtain⟨h1,e1⟩:=List.getElem?_eq_some_iff.1 I;obtain⟨J,e2⟩:=List.getElem?_eq_some_iff.1 hb;have:=List.pairwise_iff_getElem.1 h i j h1 J o;rw[e1,e2]at this;exact this
end
end Go.Eng
